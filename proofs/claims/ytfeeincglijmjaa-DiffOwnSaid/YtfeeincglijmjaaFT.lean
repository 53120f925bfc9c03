/- The walk of DiffOwn. -/
import Derived.Test.YtfeeincglijmjaaFR
namespace Go.Proofs.Ytfeeincglijmjaa
open Go.RowKit
set_option linter.unusedVariables false
set_option linter.unusedSimpArgs false
attribute [local go_sem ↓] Go.wp_at_zero Go.wp_at_succ

set_option maxHeartbeats 16000000 in
set_option maxRecDepth 100000 in
theorem own_any {lo up lo2 up2 lo3 up3 : Nat} {s t u : Scr} {C M C2 M2 C3 M3 : Option Addr} {cc cm cc2 cm2 cc3 cm3 : Nat} {w : World} (hat : ScrAt w lo up s C cc M cm) (hup : up ≤ w.heap.size) (hat2 : ScrAt w lo2 up2 t C2 cc2 M2 cm2) (hup2 : up2 ≤ w.heap.size) (hat3 : ScrAt w lo3 up3 u C3 cc3 M3 cm3) (hup3 : up3 ≤ w.heap.size) (hl : s.Len) (hl2 : t.Len) (hl3 : u.Len) :
    Calls Try.prog 9 #[.agg (s.v C cc M cm), .agg (t.v C2 cc2 M2 cm2), .agg (u.v C3 cc3 M3 cm3)] w fun e w' => e = .returned (.bool true) ∧ Below w.heap.size w w' := by
  have HA := Lib.hid (fun W => awake19_any W)
  have HK0 := Lib.hid (fun W (b : Below w.heap.size w W) => check_any (hat.below b hup) (Nat.le_trans hup b.size) hl)
  have HK1 := Lib.hid (fun W (b : Below w.heap.size w W) => check_any (hat2.below b hup2) (Nat.le_trans hup2 b.size) hl2)
  have HK2 := Lib.hid (fun W (b : Below w.heap.size w W) => check_any (hat3.below b hup3) (Nat.le_trans hup3 b.size) hl3)
  have HF0 := Lib.hid (fun W => few_any (s := s) (C := C) (M := M) (cc := cc) (cm := cm) (w := W))
  have HF1 := Lib.hid (fun W => few_any (s := t) (C := C2) (M := M2) (cc := cc2) (cm := cm2) (w := W))
  have HF2 := Lib.hid (fun W => few_any (s := u) (C := C3) (M := M3) (cc := cc3) (cm := cm3) (w := W))
  have HL := Lib.hid (And.intro hl (And.intro hl2 hl3))
  have bb := (((Below.refl w.heap.size w).alloc (Nat.le_refl _) (.cells (s.v C cc M cm) 35)).alloc (by simp) (.cells (t.v C2 cc2 M2 cm2) 35)).alloc (by simp; omega) (.cells (u.v C3 cc3 M3 cm3) 35)
  have kA := ((Blk.new w 35 (s.v C cc M cm) rfl).alloc (.cells (t.v C2 cc2 M2 cm2) 35)).alloc (.cells (u.v C3 cc3 M3 cm3) 35)
  have kB := (Blk.new (w.alloc (.cells (s.v C cc M cm) 35)) 35 (t.v C2 cc2 M2 cm2) (g := w.heap.size + 1) (by simp)).alloc (.cells (u.v C3 cc3 M3 cm3) 35)
  have kC := Blk.new ((w.alloc (.cells (s.v C cc M cm) 35)).alloc (.cells (t.v C2 cc2 M2 cm2) 35)) 35 (u.v C3 cc3 M3 cm3) (g := w.heap.size + 1 + 1) (by simp)
  have HAT := Lib.hid (fun W (b : Below w.heap.size w W) => And.intro (hat.below b hup) (And.intro (hat2.below b hup2) (hat3.below b hup3)))
  clear hat hat2 hat3 hl hl2 hl3
  go_enter Try.func9, Try.ntmps9
  go_wp2_with fail
  refine (HA.out _).mono ?_
  rintro e v0 ⟨rfl, b1⟩
  have kA0 := kA.later b1
  have kB0 := kB.later b1
  have kC0 := kC.later b1
  have bb0 := bb.trans (b1.mono bb.size)
  clear b1 kA kB kC bb HA
  go_upto_region 2 with fail
  go_cut [48] (fun s0 wx => ∃ q : Bool, s0 = .bool q ∧ Hid (q = false → gOk s = true ∧ gOk t = true ∧ gOk u = true ∧ s.cs.length ≤ 500 ∧ s.ms.length ≤ 500 ∧ t.cs.length ≤ 500 ∧ t.ms.length ≤ 500 ∧ u.cs.length ≤ 500 ∧ u.ms.length ≤ 500) ∧ Below w.heap.size w wx ∧ Blk wx w.heap.size 35 (s.v C cc M cm) ∧ Blk wx (w.heap.size + 1) 35 (t.v C2 cc2 M2 cm2) ∧ Blk wx (w.heap.size + 1 + 1) 35 (u.v C3 cc3 M3 cm3))
  case first => as_aux_lemma =>
    have qA := bs16 kA0 rfl
    go_wp2_with (first | ((with_reducible refine wpList_ld2 qA ?_ ?_); rfl))
    refine (HF0.out _).mono ?_
    rintro e v1 ⟨rfl, b⟩
    have kA1 := kA0.later b
    have kB1 := kB0.later b
    have kC1 := kC0.later b
    have bb1 := bb0.trans (b.mono bb0.size)
    clear b kA0 kB0 kC0 bb0 qA
    cases hh0 : (decide (s.cs.length ≤ 500) && decide (s.ms.length ≤ 500))
    · go_wp2_with fail
      go_meet
      exact ⟨true, rfl, Lib.hid (fun h => by cases h), bb1, kA1, kB1, kC1⟩
    · skip
      skip
      have Hh0 := Lib.hid hh0
      clear hh0
      have ⟨kc, kf⟩ := (show (∀ i, v1.cell? ⟨(w.heap.size + 1), i, none⟩ = (#[.int .i64 t.W, .int .i64 t.H, .slice C2 t.cs.length cc2, .int .i64 t.X, .int .i64 t.Y, .int .i64 t.At, .int .i64 t.Tp, .int .i64 t.Bt, .bool t.wr, .bool t.au, .bool t.hi, .bool t.al, .int .i64 t.s0, .int .i64 t.s1, .int .i64 t.s2, .slice M2 t.ms.length cm2] : Array Value)[i]?) ∧ (∀ i, v1.frozen? ⟨(w.heap.size + 1), i, none⟩ = false) from kB1.rules)
      have ab := addr_add (w.heap.size + 1) 0
      go_wp2_with fail
      refine (HF1.out _).mono ?_
      rintro e v2 ⟨rfl, b⟩
      have kA2 := kA1.later b
      have kB2 := kB1.later b
      have kC2 := kC1.later b
      have bb2 := bb1.trans (b.mono bb1.size)
      clear b kA1 kB1 kC1 bb1 kc kf ab
      cases hh1 : (decide (t.cs.length ≤ 500) && decide (t.ms.length ≤ 500))
      · go_wp2_with fail
        go_meet
        exact ⟨true, rfl, Lib.hid (fun h => by cases h), bb2, kA2, kB2, kC2⟩
      · as_aux_lemma =>
        skip
        have Hh1 := Lib.hid hh1
        clear hh1
        have ⟨kc, kf⟩ := (show (∀ i, v2.cell? ⟨(w.heap.size + 1 + 1), i, none⟩ = (#[.int .i64 u.W, .int .i64 u.H, .slice C3 u.cs.length cc3, .int .i64 u.X, .int .i64 u.Y, .int .i64 u.At, .int .i64 u.Tp, .int .i64 u.Bt, .bool u.wr, .bool u.au, .bool u.hi, .bool u.al, .int .i64 u.s0, .int .i64 u.s1, .int .i64 u.s2, .slice M3 u.ms.length cm3] : Array Value)[i]?) ∧ (∀ i, v2.frozen? ⟨(w.heap.size + 1 + 1), i, none⟩ = false) from kC2.rules)
        have ab := addr_add (w.heap.size + 1 + 1) 0
        go_wp2_with fail
        refine (HF2.out _).mono ?_
        rintro e v3 ⟨rfl, b⟩
        have kA3 := kA2.later b
        have kB3 := kB2.later b
        have kC3 := kC2.later b
        have bb3 := bb2.trans (b.mono bb2.size)
        clear b kA2 kB2 kC2 bb2 kc kf ab
        cases hh2 : (decide (u.cs.length ≤ 500) && decide (u.ms.length ≤ 500))
        · go_wp2_with fail
          go_meet
          exact ⟨true, rfl, Lib.hid (fun h => by cases h), bb3, kA3, kB3, kC3⟩
        · skip
          skip
          have Hh2 := Lib.hid hh2
          clear hh2
          have ⟨kc, kf⟩ := (show (∀ i, v3.cell? ⟨w.heap.size, i, none⟩ = (#[.int .i64 s.W, .int .i64 s.H, .slice C s.cs.length cc, .int .i64 s.X, .int .i64 s.Y, .int .i64 s.At, .int .i64 s.Tp, .int .i64 s.Bt, .bool s.wr, .bool s.au, .bool s.hi, .bool s.al, .int .i64 s.s0, .int .i64 s.s1, .int .i64 s.s2, .slice M s.ms.length cm] : Array Value)[i]?) ∧ (∀ i, v3.frozen? ⟨w.heap.size, i, none⟩ = false) from kA3.rules)
          have ab := addr_add w.heap.size 0
          go_wp2_with fail
          refine (HK0.out _ bb3).mono ?_
          rintro e v4 ⟨rfl, b⟩
          have kA4 := kA3.later b
          have kB4 := kB3.later b
          have kC4 := kC3.later b
          have bb4 := bb3.trans (b.mono bb3.size)
          clear b kA3 kB3 kC3 bb3 kc kf ab
          cases hh3 : gOk s
          · simp only [Bool.false_eq_true, if_false]
            go_wp2_with fail
            go_meet
            exact ⟨true, rfl, Lib.hid (fun h => by cases h), bb4, kA4, kB4, kC4⟩
          · as_aux_lemma =>
            simp only [if_true]
            have Hh3 := Lib.hid hh3
            clear hh3
            have ⟨kc, kf⟩ := (show (∀ i, v4.cell? ⟨(w.heap.size + 1), i, none⟩ = (#[.int .i64 t.W, .int .i64 t.H, .slice C2 t.cs.length cc2, .int .i64 t.X, .int .i64 t.Y, .int .i64 t.At, .int .i64 t.Tp, .int .i64 t.Bt, .bool t.wr, .bool t.au, .bool t.hi, .bool t.al, .int .i64 t.s0, .int .i64 t.s1, .int .i64 t.s2, .slice M2 t.ms.length cm2] : Array Value)[i]?) ∧ (∀ i, v4.frozen? ⟨(w.heap.size + 1), i, none⟩ = false) from kB4.rules)
            have ab := addr_add (w.heap.size + 1) 0
            go_wp2_with fail
            refine (HK1.out _ bb4).mono ?_
            rintro e v5 ⟨rfl, b⟩
            have kA5 := kA4.later b
            have kB5 := kB4.later b
            have kC5 := kC4.later b
            have bb5 := bb4.trans (b.mono bb4.size)
            clear b kA4 kB4 kC4 bb4 kc kf ab
            cases hh4 : gOk t
            · simp only [Bool.false_eq_true, if_false]
              go_wp2_with fail
              go_meet
              exact ⟨true, rfl, Lib.hid (fun h => by cases h), bb5, kA5, kB5, kC5⟩
            · skip
              simp only [if_true]
              have Hh4 := Lib.hid hh4
              clear hh4
              have ⟨kc, kf⟩ := (show (∀ i, v5.cell? ⟨(w.heap.size + 1 + 1), i, none⟩ = (#[.int .i64 u.W, .int .i64 u.H, .slice C3 u.cs.length cc3, .int .i64 u.X, .int .i64 u.Y, .int .i64 u.At, .int .i64 u.Tp, .int .i64 u.Bt, .bool u.wr, .bool u.au, .bool u.hi, .bool u.al, .int .i64 u.s0, .int .i64 u.s1, .int .i64 u.s2, .slice M3 u.ms.length cm3] : Array Value)[i]?) ∧ (∀ i, v5.frozen? ⟨(w.heap.size + 1 + 1), i, none⟩ = false) from kC5.rules)
              have ab := addr_add (w.heap.size + 1 + 1) 0
              go_wp2_with fail
              refine (HK2.out _ bb5).mono ?_
              rintro e v6 ⟨rfl, b⟩
              have kA6 := kA5.later b
              have kB6 := kB5.later b
              have kC6 := kC5.later b
              have bb6 := bb5.trans (b.mono bb5.size)
              clear b kA5 kB5 kC5 bb5 kc kf ab
              cases hh5 : gOk u
              · simp only [Bool.false_eq_true, if_false]
                go_wp2_with fail
                go_meet
                exact ⟨true, rfl, Lib.hid (fun h => by cases h), bb6, kA6, kB6, kC6⟩
              · skip
                simp only [if_true]
                have Hh5 := Lib.hid hh5
                clear hh5
                go_wp2_with fail
                go_meet
                exact ⟨false, rfl, Lib.hid (fun _ => by
                  have e0 := Hh0.out
                  have e1 := Hh1.out
                  have e2 := Hh2.out
                  have e3 := Hh3.out
                  have e4 := Hh4.out
                  have e5 := Hh5.out
                  simp only [Bool.and_eq_true, decide_eq_true_eq] at e0 e1 e2
                  exact ⟨e3, e4, e5, e0.1, e0.2, e1.1, e1.2, e2.1, e2.2⟩), bb6, kA6, kB6, kC6⟩
  case rest => as_aux_lemma =>
    obtain ⟨q, rfl, hq, bb5, kA5, kB5, kC5⟩ := hcut
    clear kA0 kB0 kC0 bb0 HF0 HF1 HF2 HK0 HK1
    cases q
    rotate_left
    · go_wp2_with fail
      go_ret
      exact ⟨rfl, bb5⟩
    · have hqq := hq.out rfl
      clear hq
      obtain ⟨hg1, hg2, hg3, n1, n2, n3, n4, n5, n6⟩ := hqq
      obtain ⟨dd, hdd⟩ : ∃ dd, dd = vCat (dNums s t) := ⟨_, rfl⟩
      have hddl : dd.length ≤ 1000000 := by rw [hdd]; have := vCat_le (dNums s t); have := nums_len (s := s) n3 n4; omega
      have e1 : dDiff' s t = (dd, 0) := by rw [hdd]; exact diff_ok hg1 hg2
      have E1 := Lib.hid e1
      obtain ⟨l1, l2, l3⟩ := HL.out
      have L1 := Lib.hid l1
      have L2 := Lib.hid l2
      have L3 := Lib.hid l3
      have Hg1 := Lib.hid hg1
      have Hg2 := Lib.hid hg2
      have Hg3 := Lib.hid hg3
      clear e1 l1 l2 l3 HL hdd hg1 hg2 hg3
      obtain ⟨hA, hB, hC⟩ := HAT.out wc bb5
      have qA5 := bs16 kA5 rfl
      have qB5 := bs16 kB5 rfl
      have z5 := kC5.lt
      have HD := diff_any hA (by omega) hB (by omega) L1.out L2.out
      rw [E1.out] at HD
      have HD := Lib.hid HD
      go_wp2_with (first | ((with_reducible refine wpList_ld2 qA5 ?_ ?_); rfl) | ((with_reducible refine wpList_ld2 qB5 ?_ ?_); rfl))
      refine HD.out.mono ?_
      rintro e w8 ⟨A8, c8, rfl, o8, b8⟩
      have z8 := b8.size
      have bb8 := bb5.trans (b8.mono (by omega))
      have kA8 := kA5.later b8
      have kB8 := kB5.later b8
      have kC8 := kC5.later b8
      have sd8 := Sl.of_own o8
      clear b8 bb5 kA5 kB5 kC5 hA hB hC qA5 qB5 HD o8
      obtain ⟨hA, hB, hC⟩ := HAT.out w8 bb8
      have HD := diff_any hA (by omega) hB (by omega) L1.out L2.out
      rw [E1.out] at HD
      have HD := Lib.hid HD
      have qA8 := bs16 kA8 rfl
      have qB8 := bs16 kB8 rfl
      go_wp2_with (first | ((with_reducible refine wpList_ld2 qA8 ?_ ?_); rfl) | ((with_reducible refine wpList_ld2 qB8 ?_ ?_); rfl))
      refine HD.out.mono ?_
      rintro e w9 ⟨A9, c9, rfl, o9, b9⟩
      have z9 := b9.size
      have bb9 := bb8.trans (b9.mono (by omega))
      have kA9 := kA8.later b9
      have kB9 := kB8.later b9
      have kC9 := kC8.later b9
      have sd9 := sd8.below b9 (Nat.le_refl _)
      have se9 := Sl.of_own o9
      clear b9 bb8 kA8 kB8 kC8 hA hB hC qA8 qB8 HD o9 sd8
      obtain ⟨hA, hB, hC⟩ := HAT.out w9 bb9
      have HP := apply_any hA (by omega) sd9 (by omega) L1.out hddl
      rw [apply_yes E1.out] at HP
      have HP := Lib.hid HP
      have qA9 := bs16 kA9 rfl
      go_wp2_with (first | ((with_reducible refine wpList_ld2 qA9 ?_ ?_); rfl))
      refine HP.out.mono ?_
      rintro e w10 ⟨C10, cc10, M10, cm10, rfl, oC10, oM10, b10⟩
      obtain ⟨w11, hst11, kX11, b11, z11⟩ := scr_new w10 t C10 cc10 M10 cm10
      have z10 := b10.size
      have bb11 := (bb9.trans (b10.mono (by omega))).trans (b11.mono (by omega))
      have kA11 := (kA9.later b10).later b11
      have kB11 := (kB9.later b10).later b11
      have kC11 := (kC9.later b10).later b11
      have sd11 := (sd9.below b10 (by omega)).below b11 (by omega)
      have se11 := (se9.below b10 (Nat.le_refl _)).below b11 (by omega)
      have oC11 := own_below oC10 b11 (Nat.le_refl _)
      clear b10 b11 bb9 kA9 kB9 kC9 hA hB hC qA9 HP oC10 oM10 sd9 se9
      have hcl : 1 ≤ t.cs.length := by
        obtain ⟨b1, b2, _⟩ := gOk_parts Hg2.out
        have := area b1
        have := b2.1
        omega
      obtain ⟨y, ys, hys⟩ : ∃ y ys, t.cs = y :: ys := by
        cases hq : t.cs with
        | nil => rw [hq] at hcl; simp at hcl
        | cons y ys => exact ⟨y, ys, rfl⟩
      have hyb : y.1 ≤ 1114111 ∧ 0 ≤ y.1 := by
        obtain ⟨b1, b2, _⟩ := gOk_parts Hg2.out
        have := b2.2 y (by rw [hys]; exact List.mem_cons_self ..)
        simp only [cOk, Bool.and_eq_true, inB_true] at this
        omega
      obtain ⟨g, rfl, hgb, hgl, -, -, kf, -⟩ := own_setc (p := 0) oC11 (by omega) 0 0
      obtain ⟨b0, o0, e0, _, hc0⟩ := slc_cell (Sl.of_own oC11) (by omega)
      have ky : w11.cell? ⟨g, 0, none⟩ = some (.int .i64 y.1) := by
        have h1 := (hc0 0 (by omega)).1
        injection e0 with e0
        injection e0 with e1 e2
        subst e1 e2
        have : t.cs[0]'(by omega) = y := by simp only [hys]; rfl
        rw [this] at h1
        simpa using h1
      have kx : w11.cell? ⟨w10.heap.size, 2, none⟩ = some (.slice (some ⟨g, 0, none⟩) t.cs.length cc10) := kX11.rules.1 2
      have ab := addr_add w10.heap.size 0 2
      have d1 : ((t.cs.length : Int) == 0) = false := by rw [beq_eq_false_iff_ne]; omega
      have d2 : ¬ ((t.cs.length : Int) = 0) := by omega
      have d3 : (0 : Int) < (t.cs.length : Int) := by omega
      have d4 : 0 < t.cs.length := by omega
      have q1 : IntKind.i64.wrap (y.1 + 1) = y.1 + 1 := IntWalk.i64_in _ (by omega)
      obtain ⟨hyb1, hyb2⟩ := hyb
      have hgx : ¬ (g = w10.heap.size) := by have := (oC11.lt g rfl).2; have := kX11; intro e; subst e; obtain ⟨g', cur, e', _, hh, _⟩ := own_split oC11 (by omega); injection e' with e'; injection e' with e'; subst e'; unfold Blk at this; rw [this] at hh; injection hh with hh; injection hh with _ hh; exact absurd hh (by decide)
      clear hys hcl e0 hc0 oC11 kX11
      generalize y.1 = yv at *
      go_upto_region 9 with ((with_reducible refine wpList_st2 hst11 ?_ ?_); exact ⟨rfl, rfl⟩)
      go_cut [12] (fun s12 wx => s12 = .pointer (some ⟨w10.heap.size, 0, none⟩) ∧ w11.grownBy wx (some g))
      case first =>
        clear hst11 kA11 kB11 kC11 sd11 se11 HAT E1 L1 L2 L3 Hg1 Hg2 Hg3 bb11
        go_region
        all_goals (go_wp2_with fail; go_meet)
        all_goals exact ⟨rfl, by first | exact grownBy_setCells g [.int .i64 (yv + 1)] 0 w11 | exact grownBy_drew (grownBy_setCells g [.int .i64 (yv + 1)] 0 w11) | exact grownBy_trans (grownBy_drew (grownBy_refl w11 _)) (grownBy_setCells g [.int .i64 (yv + 1)] 0 w11.drew)⟩
      case rest =>
      obtain ⟨rfl, G12⟩ := hcut
      clear ky kx ab d1 d2 d3 d4 q1 kf hyb1 hyb2 hgx hst11
      have z12 := G12.size
      have bb12 := bb11.grown G12 (by omega) (fun k e => by cases e; omega)
      have kA12 := kA11.grown G12 (fun e => by injection e with e; omega)
      have kB12 := kB11.grown G12 (fun e => by injection e with e; omega)
      have kC12 := kC11.grown G12 (fun e => by injection e with e; omega)
      have sd12 := sd11.grown G12 (by omega) (fun k e => by cases e; exact .inr (by omega))
      have se12 := se11.grown G12 (by omega) (fun k e => by cases e; exact .inr (by omega))
      clear G12 bb11 kA11 kB11 kC11 sd11 se11

      obtain ⟨hA, hB, hC⟩ := HAT.out wc bb12
      have HP := apply_any hA (by omega) sd12 (by omega) L1.out hddl
      rw [apply_yes E1.out] at HP
      have HP := Lib.hid HP
      have qA12 := bs16 kA12 rfl
      go_wp2_with (first | ((with_reducible refine wpList_ld2 qA12 ?_ ?_); rfl))
      refine HP.out.mono ?_
      rintro e w13 ⟨C13, cc13, M13, cm13, rfl, oC13, oM13, b13⟩
      obtain ⟨w14, hst14, kY14, b14, z14⟩ := scr_new w13 t C13 cc13 M13 cm13
      have z13 := b13.size
      have bb14 := (bb12.trans (b13.mono (by omega))).trans (b14.mono (by omega))
      have kA14 := (kA12.later b13).later b14
      have kB14 := (kB12.later b13).later b14
      have kC14 := (kC12.later b13).later b14
      have sd14 := (sd12.below b13 (by omega)).below b14 (by omega)
      have se14 := (se12.below b13 (by omega)).below b14 (by omega)
      have hY14 := (ScrAt.own oC13 oM13).below b14 (Nat.le_refl _)
      clear b13 b14 bb12 kA12 kB12 kC12 sd12 se12 hA hB hC qA12 HP oC13 oM13
      obtain ⟨hA, hB, hC⟩ := HAT.out w14 bb14
      have HS := same_any hY14 (by omega) hB (by omega) L2.out L2.out
      rw [gSame_iff.2 rfl] at HS
      have HS := Lib.hid HS
      have qY14 := bs16 kY14 rfl
      have qB14 := bs16 kB14 rfl
      go_wp2_with (first | ((with_reducible refine wpList_ld2 qY14 ?_ ?_); rfl) | ((with_reducible refine wpList_ld2 qB14 ?_ ?_); rfl) | ((with_reducible refine wpList_st2 hst14 ?_ ?_); exact ⟨rfl, rfl⟩))
      refine HS.out.mono ?_
      rintro e w15 ⟨rfl, b15⟩
      have z15 := b15.size
      have bb15 := bb14.trans (b15.mono (by omega))
      have kA15 := kA14.later b15
      have kB15 := kB14.later b15
      have kC15 := kC14.later b15
      have sd15 := sd14.below b15 (by omega)
      have se15 := se14.below b15 (by omega)
      clear b15 bb14 kA14 kB14 kC14 kY14 sd14 se14 hY14 hA hB hC qY14 qB14 HS hst14
      obtain ⟨hA, hB, hC⟩ := HAT.out w15 bb15
      obtain ⟨d2, hd2⟩ : ∃ dd, dd = vCat (dNums u t) := ⟨_, rfl⟩
      have e2 : dDiff' u t = (d2, 0) := by rw [hd2]; exact diff_ok Hg3.out Hg2.out
      have HFAR : Hid (((s.W ≠ t.W ∨ s.H ≠ t.H) ∧ (u.W ≠ t.W ∨ u.H ≠ t.H)) → d2 = dd) := Lib.hid (fun ⟨f1, f2⟩ => by
        have e3 := diff_back E1.out
        rw [hd2, e3.2.2.2.1]
        unfold dNums
        have g1 : dGround u t.W t.H = dGround s t.W t.H := by
          unfold dGround
          rw [if_neg (fun ⟨a, b⟩ => by rcases f2 with h | h <;> contradiction), if_neg (fun ⟨a, b⟩ => by rcases f1 with h | h <;> contradiction)]
        rw [g1])
      have HD := diff_any hC (by omega) hB (by omega) L3.out L2.out
      rw [e2] at HD
      have HD := Lib.hid HD
      have qC15 := bs16 kC15 rfl
      have qB15 := bs16 kB15 rfl
      clear hd2 e2
      go_wp2_with (first | ((with_reducible refine wpList_ld2 qC15 ?_ ?_); rfl) | ((with_reducible refine wpList_ld2 qB15 ?_ ?_); rfl))
      refine HD.out.mono ?_
      rintro e w17 ⟨A17, c17, rfl, o17, b17⟩
      have z17 := b17.size
      have bb17 := bb15.trans (b17.mono (by omega))
      have kA17 := kA15.later b17
      have kB17 := kB15.later b17
      have kC17 := kC15.later b17
      have s1 := run_string_of (sd15.below b17 (by omega)) Try.underlying23 Try.underlying5 Try.underlying9
      have s2 := run_string_of (se15.below b17 (by omega)) Try.underlying23 Try.underlying5 Try.underlying9
      have s3 := run_string_of (Sl.of_own o17) Try.underlying23 Try.underlying5 Try.underlying9
      have S1 := Lib.hid s1
      have S2 := Lib.hid s2
      have S3 := Lib.hid s3
      clear b17 bb15 kA15 kB15 kC15 sd15 se15 hA hB hC qC15 qB15 HD o17 s1 s2 s3
      go_upto_region 13 with fail
      go_cut [19] (fun s19 wx => ∃ q : Bool, s19 = .bool q ∧ Hid (q = true → ((s.W ≠ t.W ∨ s.H ≠ t.H) ∧ (u.W ≠ t.W ∨ u.H ≠ t.H))) ∧ w17 = wx)
      case first =>
        have ⟨kc, kf⟩ := (show (∀ i, w17.cell? ⟨w.heap.size, i, none⟩ = (#[.int .i64 s.W, .int .i64 s.H, .slice C s.cs.length cc, .int .i64 s.X, .int .i64 s.Y, .int .i64 s.At, .int .i64 s.Tp, .int .i64 s.Bt, .bool s.wr, .bool s.au, .bool s.hi, .bool s.al, .int .i64 s.s0, .int .i64 s.s1, .int .i64 s.s2, .slice M s.ms.length cm] : Array Value)[i]?) ∧ (∀ i, w17.frozen? ⟨w.heap.size, i, none⟩ = false) from kA17.rules)
        have ⟨kd, ke⟩ := (show (∀ i, w17.cell? ⟨(w.heap.size + 1), i, none⟩ = (#[.int .i64 t.W, .int .i64 t.H, .slice C2 t.cs.length cc2, .int .i64 t.X, .int .i64 t.Y, .int .i64 t.At, .int .i64 t.Tp, .int .i64 t.Bt, .bool t.wr, .bool t.au, .bool t.hi, .bool t.al, .int .i64 t.s0, .int .i64 t.s1, .int .i64 t.s2, .slice M2 t.ms.length cm2] : Array Value)[i]?) ∧ (∀ i, w17.frozen? ⟨(w.heap.size + 1), i, none⟩ = false) from kB17.rules)
        have ⟨kg, kh⟩ := (show (∀ i, w17.cell? ⟨(w.heap.size + 1 + 1), i, none⟩ = (#[.int .i64 u.W, .int .i64 u.H, .slice C3 u.cs.length cc3, .int .i64 u.X, .int .i64 u.Y, .int .i64 u.At, .int .i64 u.Tp, .int .i64 u.Bt, .bool u.wr, .bool u.au, .bool u.hi, .bool u.al, .int .i64 u.s0, .int .i64 u.s1, .int .i64 u.s2, .slice M3 u.ms.length cm3] : Array Value)[i]?) ∧ (∀ i, w17.frozen? ⟨(w.heap.size + 1 + 1), i, none⟩ = false) from kC17.rules)
        have ab := addr_add w.heap.size 0
        have ab2 := addr_add (w.heap.size + 1) 0
        have ab3 := addr_add (w.heap.size + 1 + 1) 0
        clear kA17 kB17 kC17
        generalize s.W = x0 at *
        generalize s.H = x1 at *
        generalize t.W = y0 at *
        generalize t.H = y1 at *
        generalize u.W = z0 at *
        generalize u.H = z1 at *
        by_cases ha0 : x0 = y0
        · have d1 : (x0 != y0) = false := by simp [ha0]
          by_cases ha1 : x1 = y1
          · have d2 : (x1 != y1) = false := by simp [ha1]
            clear ha0 ha1
            go_wp2_with fail
            go_meet
            exact ⟨false, rfl, Lib.hid (fun h => by cases h), rfl⟩
          · have d2 : (x1 != y1) = true := by simp [ha1]
            have Ha := Lib.hid ha1
            clear ha0 ha1
            by_cases hc0 : z0 = y0
            · have d3 : (z0 != y0) = false := by simp [hc0]
              by_cases hc1 : z1 = y1
              · have d4 : (z1 != y1) = false := by simp [hc1]
                clear hc0 hc1
                go_wp2_with fail
                go_meet
                exact ⟨false, rfl, Lib.hid (fun h => by cases h), rfl⟩
              · have d4 : (z1 != y1) = true := by simp [hc1]
                have Hc := Lib.hid hc1
                clear hc0 hc1
                go_wp2_with fail
                go_meet
                exact ⟨true, rfl, Lib.hid (fun _ => ⟨.inr Ha.out, .inr Hc.out⟩), rfl⟩
            · have d3 : (z0 != y0) = true := by simp [hc0]
              have Hc := Lib.hid hc0
              clear hc0
              go_wp2_with fail
              go_meet
              exact ⟨true, rfl, Lib.hid (fun _ => ⟨.inr Ha.out, .inl Hc.out⟩), rfl⟩
        · have d1 : (x0 != y0) = true := by simp [ha0]
          have Ha := Lib.hid ha0
          clear ha0
          by_cases hc0 : z0 = y0
          · have d3 : (z0 != y0) = false := by simp [hc0]
            by_cases hc1 : z1 = y1
            · have d4 : (z1 != y1) = false := by simp [hc1]
              clear hc0 hc1
              go_wp2_with fail
              go_meet
              exact ⟨false, rfl, Lib.hid (fun h => by cases h), rfl⟩
            · have d4 : (z1 != y1) = true := by simp [hc1]
              have Hc := Lib.hid hc1
              clear hc0 hc1
              go_wp2_with fail
              go_meet
              exact ⟨true, rfl, Lib.hid (fun _ => ⟨.inl Ha.out, .inr Hc.out⟩), rfl⟩
          · have d3 : (z0 != y0) = true := by simp [hc0]
            have Hc := Lib.hid hc0
            clear hc0
            go_wp2_with fail
            go_meet
            exact ⟨true, rfl, Lib.hid (fun _ => ⟨.inl Ha.out, .inl Hc.out⟩), rfl⟩
      case rest =>
      obtain ⟨q, rfl, hq, rfl⟩ := hcut
      have s1 := S1.out
      have s2 := S2.out
      have s3 := S3.out
      clear kA17 kB17 kC17
      cases q
      · go_wp2_with fail
        go_ret
        exact ⟨rfl, bb17⟩
      · obtain rfl : d2 = dd := HFAR.out (hq.out rfl)
        go_wp2_with fail
        go_ret
        exact ⟨rfl, bb17⟩
end Go.Proofs.Ytfeeincglijmjaa
