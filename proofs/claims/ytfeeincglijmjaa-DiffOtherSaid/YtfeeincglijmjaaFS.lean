/- The walk of DiffOther. -/
import Derived.Test.YtfeeincglijmjaaFR
namespace Go.Proofs.Ytfeeincglijmjaa
open Go.RowKit
set_option linter.unusedVariables false
set_option linter.unusedSimpArgs false
attribute [local go_sem ↓] Go.wp_at_zero Go.wp_at_succ

set_option maxHeartbeats 16000000 in
set_option maxRecDepth 100000 in
theorem other_any {lo up lo2 up2 lo3 up3 : Nat} {s t u : Scr} {C M C2 M2 C3 M3 : Option Addr} {cc cm cc2 cm2 cc3 cm3 : Nat} {w : World} (hat : ScrAt w lo up s C cc M cm) (hup : up ≤ w.heap.size) (hat2 : ScrAt w lo2 up2 t C2 cc2 M2 cm2) (hup2 : up2 ≤ w.heap.size) (hat3 : ScrAt w lo3 up3 u C3 cc3 M3 cm3) (hup3 : up3 ≤ w.heap.size) (hl : s.Len) (hl2 : t.Len) (hl3 : u.Len) :
    Calls Try.prog 8 #[.agg (s.v C cc M cm), .agg (t.v C2 cc2 M2 cm2), .agg (u.v C3 cc3 M3 cm3)] w fun e w' => e = .returned (.bool true) ∧ Below w.heap.size w w' := by
  have HA := Lib.hid (fun W => awake19_any W)
  have HK0 := Lib.hid (fun W (b : Below w.heap.size w W) => check_any (hat.below b hup) (Nat.le_trans hup b.size) hl)
  have HK1 := Lib.hid (fun W (b : Below w.heap.size w W) => check_any (hat2.below b hup2) (Nat.le_trans hup2 b.size) hl2)
  have HK2 := Lib.hid (fun W (b : Below w.heap.size w W) => check_any (hat3.below b hup3) (Nat.le_trans hup3 b.size) hl3)
  have HF0 := Lib.hid (fun W => few_any (s := s) (C := C) (M := M) (cc := cc) (cm := cm) (w := W))
  have HF1 := Lib.hid (fun W => few_any (s := t) (C := C2) (M := M2) (cc := cc2) (cm := cm2) (w := W))
  have HF2 := Lib.hid (fun W => few_any (s := u) (C := C3) (M := M3) (cc := cc3) (cm := cm3) (w := W))
  have HL := Lib.hid (And.intro hl (And.intro hl2 hl3))
  have bb := (((Below.refl w.heap.size w).alloc (Nat.le_refl _) (.cells (s.v C cc M cm) 35)).alloc (by simp) (.cells (t.v C2 cc2 M2 cm2) 35)).alloc (by simp; omega) (.cells (u.v C3 cc3 M3 cm3) 35)
  have kA := ((Blk.new w 35 (s.v C cc M cm) rfl).alloc (.cells (t.v C2 cc2 M2 cm2) 35)).alloc (.cells (u.v C3 cc3 M3 cm3) 35)
  have kB := (Blk.new (w.alloc (.cells (s.v C cc M cm) 35)) 35 (t.v C2 cc2 M2 cm2) (g := w.heap.size + 1) (by simp)).alloc (.cells (u.v C3 cc3 M3 cm3) 35)
  have kC := Blk.new ((w.alloc (.cells (s.v C cc M cm) 35)).alloc (.cells (t.v C2 cc2 M2 cm2) 35)) 35 (u.v C3 cc3 M3 cm3) (g := w.heap.size + 1 + 1) (by simp)
  have HAT := Lib.hid (fun W (b : Below w.heap.size w W) => And.intro (hat.below b hup) (And.intro (hat2.below b hup2) (hat3.below b hup3)))
  clear hat hat2 hat3 hl hl2 hl3
  go_enter Try.func8, Try.ntmps8
  go_wp2_with fail
  refine (HA.out _).mono ?_
  rintro e v0 ⟨rfl, b1⟩
  have kA0 := kA.later b1
  have kB0 := kB.later b1
  have kC0 := kC.later b1
  have bb0 := bb.trans (b1.mono bb.size)
  clear b1 kA kB kC bb HA
  go_upto_region 2 with fail
  go_cut [42] (fun s0 wx => ∃ q : Bool, s0 = .bool q ∧ Hid (q = false → gOk s = true ∧ gOk t = true ∧ gOk u = true ∧ s.cs.length ≤ 500 ∧ s.ms.length ≤ 500 ∧ t.cs.length ≤ 500 ∧ t.ms.length ≤ 500 ∧ u.cs.length ≤ 500 ∧ u.ms.length ≤ 500) ∧ Below w.heap.size w wx ∧ Blk wx w.heap.size 35 (s.v C cc M cm) ∧ Blk wx (w.heap.size + 1) 35 (t.v C2 cc2 M2 cm2) ∧ Blk wx (w.heap.size + 1 + 1) 35 (u.v C3 cc3 M3 cm3))
  case first => as_aux_lemma =>
    have qA := bs16 kA0 rfl
    go_wp2_with (first | ((with_reducible refine wpList_ld2 qA ?_ ?_); rfl))
    refine (HF0.out _).mono ?_
    rintro e v1 ⟨rfl, b⟩
    have kA1 := kA0.later b
    have kB1 := kB0.later b
    have kC1 := kC0.later b
    have bb1 := bb0.trans (b.mono bb0.size)
    clear b kA0 kB0 kC0 bb0 qA
    cases hh0 : (decide (s.cs.length ≤ 500) && decide (s.ms.length ≤ 500))
    · go_wp2_with fail
      go_meet
      exact ⟨true, rfl, Lib.hid (fun h => by cases h), bb1, kA1, kB1, kC1⟩
    · skip
      skip
      have Hh0 := Lib.hid hh0
      clear hh0
      have ⟨kc, kf⟩ := (show (∀ i, v1.cell? ⟨(w.heap.size + 1), i, none⟩ = (#[.int .i64 t.W, .int .i64 t.H, .slice C2 t.cs.length cc2, .int .i64 t.X, .int .i64 t.Y, .int .i64 t.At, .int .i64 t.Tp, .int .i64 t.Bt, .bool t.wr, .bool t.au, .bool t.hi, .bool t.al, .int .i64 t.s0, .int .i64 t.s1, .int .i64 t.s2, .slice M2 t.ms.length cm2] : Array Value)[i]?) ∧ (∀ i, v1.frozen? ⟨(w.heap.size + 1), i, none⟩ = false) from kB1.rules)
      have ab := addr_add (w.heap.size + 1) 0
      go_wp2_with fail
      refine (HF1.out _).mono ?_
      rintro e v2 ⟨rfl, b⟩
      have kA2 := kA1.later b
      have kB2 := kB1.later b
      have kC2 := kC1.later b
      have bb2 := bb1.trans (b.mono bb1.size)
      clear b kA1 kB1 kC1 bb1 kc kf ab
      cases hh1 : (decide (t.cs.length ≤ 500) && decide (t.ms.length ≤ 500))
      · go_wp2_with fail
        go_meet
        exact ⟨true, rfl, Lib.hid (fun h => by cases h), bb2, kA2, kB2, kC2⟩
      · as_aux_lemma =>
        skip
        have Hh1 := Lib.hid hh1
        clear hh1
        have ⟨kc, kf⟩ := (show (∀ i, v2.cell? ⟨(w.heap.size + 1 + 1), i, none⟩ = (#[.int .i64 u.W, .int .i64 u.H, .slice C3 u.cs.length cc3, .int .i64 u.X, .int .i64 u.Y, .int .i64 u.At, .int .i64 u.Tp, .int .i64 u.Bt, .bool u.wr, .bool u.au, .bool u.hi, .bool u.al, .int .i64 u.s0, .int .i64 u.s1, .int .i64 u.s2, .slice M3 u.ms.length cm3] : Array Value)[i]?) ∧ (∀ i, v2.frozen? ⟨(w.heap.size + 1 + 1), i, none⟩ = false) from kC2.rules)
        have ab := addr_add (w.heap.size + 1 + 1) 0
        go_wp2_with fail
        refine (HF2.out _).mono ?_
        rintro e v3 ⟨rfl, b⟩
        have kA3 := kA2.later b
        have kB3 := kB2.later b
        have kC3 := kC2.later b
        have bb3 := bb2.trans (b.mono bb2.size)
        clear b kA2 kB2 kC2 bb2 kc kf ab
        cases hh2 : (decide (u.cs.length ≤ 500) && decide (u.ms.length ≤ 500))
        · go_wp2_with fail
          go_meet
          exact ⟨true, rfl, Lib.hid (fun h => by cases h), bb3, kA3, kB3, kC3⟩
        · skip
          skip
          have Hh2 := Lib.hid hh2
          clear hh2
          have ⟨kc, kf⟩ := (show (∀ i, v3.cell? ⟨w.heap.size, i, none⟩ = (#[.int .i64 s.W, .int .i64 s.H, .slice C s.cs.length cc, .int .i64 s.X, .int .i64 s.Y, .int .i64 s.At, .int .i64 s.Tp, .int .i64 s.Bt, .bool s.wr, .bool s.au, .bool s.hi, .bool s.al, .int .i64 s.s0, .int .i64 s.s1, .int .i64 s.s2, .slice M s.ms.length cm] : Array Value)[i]?) ∧ (∀ i, v3.frozen? ⟨w.heap.size, i, none⟩ = false) from kA3.rules)
          have ab := addr_add w.heap.size 0
          go_wp2_with fail
          refine (HK0.out _ bb3).mono ?_
          rintro e v4 ⟨rfl, b⟩
          have kA4 := kA3.later b
          have kB4 := kB3.later b
          have kC4 := kC3.later b
          have bb4 := bb3.trans (b.mono bb3.size)
          clear b kA3 kB3 kC3 bb3 kc kf ab
          cases hh3 : gOk s
          · simp only [Bool.false_eq_true, if_false]
            go_wp2_with fail
            go_meet
            exact ⟨true, rfl, Lib.hid (fun h => by cases h), bb4, kA4, kB4, kC4⟩
          · as_aux_lemma =>
            simp only [if_true]
            have Hh3 := Lib.hid hh3
            clear hh3
            have ⟨kc, kf⟩ := (show (∀ i, v4.cell? ⟨(w.heap.size + 1), i, none⟩ = (#[.int .i64 t.W, .int .i64 t.H, .slice C2 t.cs.length cc2, .int .i64 t.X, .int .i64 t.Y, .int .i64 t.At, .int .i64 t.Tp, .int .i64 t.Bt, .bool t.wr, .bool t.au, .bool t.hi, .bool t.al, .int .i64 t.s0, .int .i64 t.s1, .int .i64 t.s2, .slice M2 t.ms.length cm2] : Array Value)[i]?) ∧ (∀ i, v4.frozen? ⟨(w.heap.size + 1), i, none⟩ = false) from kB4.rules)
            have ab := addr_add (w.heap.size + 1) 0
            go_wp2_with fail
            refine (HK1.out _ bb4).mono ?_
            rintro e v5 ⟨rfl, b⟩
            have kA5 := kA4.later b
            have kB5 := kB4.later b
            have kC5 := kC4.later b
            have bb5 := bb4.trans (b.mono bb4.size)
            clear b kA4 kB4 kC4 bb4 kc kf ab
            cases hh4 : gOk t
            · simp only [Bool.false_eq_true, if_false]
              go_wp2_with fail
              go_meet
              exact ⟨true, rfl, Lib.hid (fun h => by cases h), bb5, kA5, kB5, kC5⟩
            · skip
              simp only [if_true]
              have Hh4 := Lib.hid hh4
              clear hh4
              have ⟨kc, kf⟩ := (show (∀ i, v5.cell? ⟨(w.heap.size + 1 + 1), i, none⟩ = (#[.int .i64 u.W, .int .i64 u.H, .slice C3 u.cs.length cc3, .int .i64 u.X, .int .i64 u.Y, .int .i64 u.At, .int .i64 u.Tp, .int .i64 u.Bt, .bool u.wr, .bool u.au, .bool u.hi, .bool u.al, .int .i64 u.s0, .int .i64 u.s1, .int .i64 u.s2, .slice M3 u.ms.length cm3] : Array Value)[i]?) ∧ (∀ i, v5.frozen? ⟨(w.heap.size + 1 + 1), i, none⟩ = false) from kC5.rules)
              have ab := addr_add (w.heap.size + 1 + 1) 0
              go_wp2_with fail
              refine (HK2.out _ bb5).mono ?_
              rintro e v6 ⟨rfl, b⟩
              have kA6 := kA5.later b
              have kB6 := kB5.later b
              have kC6 := kC5.later b
              have bb6 := bb5.trans (b.mono bb5.size)
              clear b kA5 kB5 kC5 bb5 kc kf ab
              cases hh5 : gOk u
              · simp only [Bool.false_eq_true, if_false]
                go_wp2_with fail
                go_meet
                exact ⟨true, rfl, Lib.hid (fun h => by cases h), bb6, kA6, kB6, kC6⟩
              · skip
                simp only [if_true]
                have Hh5 := Lib.hid hh5
                clear hh5
                go_wp2_with fail
                go_meet
                exact ⟨false, rfl, Lib.hid (fun _ => by
                  have e0 := Hh0.out
                  have e1 := Hh1.out
                  have e2 := Hh2.out
                  have e3 := Hh3.out
                  have e4 := Hh4.out
                  have e5 := Hh5.out
                  simp only [Bool.and_eq_true, decide_eq_true_eq] at e0 e1 e2
                  exact ⟨e3, e4, e5, e0.1, e0.2, e1.1, e1.2, e2.1, e2.2⟩), bb6, kA6, kB6, kC6⟩
  case rest => as_aux_lemma =>
    obtain ⟨q, rfl, hq, bb5, kA5, kB5, kC5⟩ := hcut
    clear kA0 kB0 kC0 bb0 HF0 HF1 HF2 HK0 HK1
    cases q
    rotate_left
    · go_wp2_with fail
      go_ret
      exact ⟨rfl, bb5⟩
    · have hqq := hq.out rfl
      clear hq
      obtain ⟨hg1, hg2, hg3, n1, n2, n3, n4, n5, n6⟩ := hqq
      obtain ⟨dd, hdd⟩ : ∃ dd, dd = vCat (dNums s t) := ⟨_, rfl⟩
      have hddl : dd.length ≤ 1000000 := by rw [hdd]; have := vCat_le (dNums s t); have := nums_len (s := s) n3 n4; omega
      have e1 : dDiff' s t = (dd, 0) := by rw [hdd]; exact diff_ok hg1 hg2
      have E1 := Lib.hid e1
      obtain ⟨l1, l2, l3⟩ := HL.out
      have L1 := Lib.hid l1
      have L2 := Lib.hid l2
      have L3 := Lib.hid l3
      have Hg1 := Lib.hid hg1
      have Hg2 := Lib.hid hg2
      have Hg3 := Lib.hid hg3
      clear e1 l1 l2 l3 HL hdd hg1 hg2 hg3
      obtain ⟨hA, hB, hC⟩ := HAT.out wc bb5
      have qA5 := bs16 kA5 rfl
      have qB5 := bs16 kB5 rfl
      have z5 := kC5.lt
      have HD := diff_any hA (by omega) hB (by omega) L1.out L2.out
      rw [E1.out] at HD
      have HD := Lib.hid HD
      go_wp2_with (first | ((with_reducible refine wpList_ld2 qA5 ?_ ?_); rfl) | ((with_reducible refine wpList_ld2 qB5 ?_ ?_); rfl))
      refine HD.out.mono ?_
      rintro e w8 ⟨A8, c8, rfl, o8, b8⟩
      have z8 := b8.size
      have bb8 := bb5.trans (b8.mono (by omega))
      have kA8 := kA5.later b8
      have kB8 := kB5.later b8
      have kC8 := kC5.later b8
      have sd8 := Sl.of_own o8
      clear b8 bb5 kA5 kB5 kC5 hA hB hC qA5 qB5 HD o8
      obtain ⟨hA, hB, hC⟩ := HAT.out w8 bb8
      have HP := Lib.hid (apply_any hC (by omega) sd8 (Nat.le_refl _) L3.out hddl)
      have qC8 := bs16 kC8 rfl
      by_cases hx : ∃ x, dDiff' u x = (dd, 0)
      rotate_left
      · rw [apply_not Hg3.out hx] at HP
        simp only at HP
        clear hx
        go_wp2_with (first | ((with_reducible refine wpList_ld2 qC8 ?_ ?_); rfl))
        refine HP.out.mono ?_
        rintro e w9 ⟨C9, cc9, M9, cm9, rfl, oC9, oM9, b9⟩
        obtain ⟨w10, hst10, kX10, b10, z10⟩ := scr_new w9 noScr C9 cc9 M9 cm9
        have z9 := b9.size
        have bb10 := (bb8.trans (b9.mono (by omega))).trans (b10.mono (by omega))
        have kx : w10.cell? ⟨w9.heap.size, 2, none⟩ = some (.slice C9 0 cc9) := kX10.rules.1 2
        have ab := addr_add w9.heap.size 0 2
        clear b9 b10 bb8 kA8 kB8 kC8 hA hB hC qC8 HP oC9 oM9 sd8 kX10
        go_wp2_with (first | ((with_reducible refine wpList_st2 hst10 ?_ ?_); exact ⟨rfl, rfl⟩))
        go_ret
        exact ⟨rfl, bb10⟩
      · obtain ⟨x, hx⟩ := hx
        rw [apply_yes hx] at HP
        simp only at HP
        have g2 := (diff_back hx).2.1
        have g3 := (diff_back hx).2.2.1
        have g4 := (diff_back E1.out).2.2.1
        rw [g3] at g4
        simp only [Prod.mk.injEq, List.cons.injEq, and_true] at g4
        obtain ⟨r0, r1, r2, r3, r4, r5, r6, r7, r8, r9, r10, r11⟩ := g4
        have lx : x.Len := by
          obtain ⟨b1, b2, b3, _⟩ := gOk_parts g2
          have ar := area b1
          exact ⟨by have := b2.1; omega, by have := gOk_ms g2; omega⟩
        have LX := Lib.hid lx
        have Hx := Lib.hid hx
        have Hg := Lib.hid g2
        have HR := Lib.hid (And.intro r0 (And.intro r1 (And.intro r2 (And.intro r8 (And.intro r9 r10)))))
        clear r0 r1 r2 r3 r4 r5 r6 r7 r8 r9 r10 r11 g2 g3 lx hx
        go_wp2_with (first | ((with_reducible refine wpList_ld2 qC8 ?_ ?_); rfl))
        refine HP.out.mono ?_
        rintro e w9 ⟨C9, cc9, M9, cm9, rfl, oC9, oM9, b9⟩
        obtain ⟨w10, hst10, kX10, b10, z10⟩ := scr_new w9 x C9 cc9 M9 cm9
        have z9 := b9.size
        have bb10 := (bb8.trans (b9.mono (by omega))).trans (b10.mono (by omega))
        have kB10 := (kB8.later b9).later b10
        have kC10 := (kC8.later b9).later b10
        have hX10 := (ScrAt.own oC9 oM9).below b10 (Nat.le_refl _)
        have sd10 := (sd8.below b9 (Nat.le_refl _)).below b10 (by omega)
        clear b9 b10 bb8 kA8 kB8 kC8 hA hB hC qC8 HP oC9 oM9 sd8
        obtain ⟨hA, hB, hC⟩ := HAT.out w10 bb10
        have qC10 := bs16 kC10 rfl
        have qX10 := bs16 kX10 rfl
        have HD := diff_any hC (by omega) hX10 (by omega) L3.out LX.out
        rw [Hx.out] at HD
        have HD := Lib.hid HD
        go_wp2_with (first | ((with_reducible refine wpList_ld2 qC10 ?_ ?_); rfl) | ((with_reducible refine wpList_ld2 qX10 ?_ ?_); rfl) | ((with_reducible refine wpList_st2 hst10 ?_ ?_); exact ⟨rfl, rfl⟩))
        refine HD.out.mono ?_
        rintro e w11 ⟨A11, c11, rfl, o11, b11⟩
        have z11 := b11.size
        have bb11 := bb10.trans (b11.mono (by omega))
        have kB11 := kB10.later b11
        have kX11 := kX10.later b11
        have hX11 := hX10.below b11 (by omega)
        have sd11 := sd10.below b11 (by omega)
        have sa11 := Sl.of_own o11
        clear b11 bb10 kB10 kC10 kX10 hX10 hA hB hC qC10 qX10 hst10 HD o11 sd10
        have HK := check_any hX11 (by omega) LX.out
        rw [Hg.out] at HK
        simp only [if_true] at HK
        have HK := Lib.hid HK
        have ⟨kc, kf⟩ := (show (∀ i, w11.cell? ⟨w9.heap.size, i, none⟩ = (#[.int .i64 x.W, .int .i64 x.H, .slice C9 x.cs.length cc9, .int .i64 x.X, .int .i64 x.Y, .int .i64 x.At, .int .i64 x.Tp, .int .i64 x.Bt, .bool x.wr, .bool x.au, .bool x.hi, .bool x.al, .int .i64 x.s0, .int .i64 x.s1, .int .i64 x.s2, .slice M9 x.ms.length cm9] : Array Value)[i]?) ∧ (∀ i, w11.frozen? ⟨w9.heap.size, i, none⟩ = false) from kX11.rules)
        have ab := addr_add w9.heap.size 0
        go_wp2_with fail
        refine HK.out.mono ?_
        rintro e w12 ⟨rfl, b12⟩
        have bb12 := bb11.trans (b12.mono (by omega))
        have kB12 := kB11.later b12
        have kX12 := kX11.later b12
        have q1 := run_string_of (sd11.below b12 (by omega)) Try.underlying23 Try.underlying5 Try.underlying9
        have q2 := run_string_of (sa11.below b12 (Nat.le_refl _)) Try.underlying23 Try.underlying5 Try.underlying9
        clear b12 bb11 kB11 kX11 hX11 sd11 sa11 HK kc kf
        obtain ⟨r0, r1, r2, r8, r9, r10⟩ := HR.out
        have ⟨kc, kf⟩ := (show (∀ i, w12.cell? ⟨w9.heap.size, i, none⟩ = (#[.int .i64 x.W, .int .i64 x.H, .slice C9 x.cs.length cc9, .int .i64 x.X, .int .i64 x.Y, .int .i64 x.At, .int .i64 x.Tp, .int .i64 x.Bt, .bool x.wr, .bool x.au, .bool x.hi, .bool x.al, .int .i64 x.s0, .int .i64 x.s1, .int .i64 x.s2, .slice M9 x.ms.length cm9] : Array Value)[i]?) ∧ (∀ i, w12.frozen? ⟨w9.heap.size, i, none⟩ = false) from kX12.rules)
        have ⟨kd, ke⟩ := (show (∀ i, w12.cell? ⟨(w.heap.size + 1), i, none⟩ = (#[.int .i64 t.W, .int .i64 t.H, .slice C2 t.cs.length cc2, .int .i64 t.X, .int .i64 t.Y, .int .i64 t.At, .int .i64 t.Tp, .int .i64 t.Bt, .bool t.wr, .bool t.au, .bool t.hi, .bool t.al, .int .i64 t.s0, .int .i64 t.s1, .int .i64 t.s2, .slice M2 t.ms.length cm2] : Array Value)[i]?) ∧ (∀ i, w12.frozen? ⟨(w.heap.size + 1), i, none⟩ = false) from kB12.rules)
        rw [r0, r1, r2, r8, r9, r10] at kc
        have ab2 := addr_add (w.heap.size + 1) 0
        have ab3 := addr_add w9.heap.size 12
        have ab4 := addr_add (w.heap.size + 1) 12
        clear r0 r1 r2 r8 r9 r10 kB12 kX12
        have hq3 := fun (W : World) => eq_in33 t.s0 t.s1 t.s2 t.s0 t.s1 t.s2 W
        go_wp2_with fail
        go_ret
        exact ⟨rfl, bb12⟩
end Go.Proofs.Ytfeeincglijmjaa
