/- Texts of this seat, one behind the other. -/
import Derived.Test.YtfeeincglijmjaaZB15
namespace Go.Proofs.Ytfeeincglijmjaa
open Go.RowKit
set_option linter.unusedVariables false
set_option linter.unusedSimpArgs false
attribute [local go_sem ↓] Go.wp_at_zero Go.wp_at_succ

theorem scr_lc {w : World} {g : Nat} {cs : Array Value} (h : Blk w g 35 cs) (hs : cs.size = 16) : (loadCellsFrom ⟨g, 0, none⟩ 0 16 #[]).run Try.prog w = .ok cs w := by
  have := run_loadCells_list (P := Try.prog) w ⟨g, 0, none⟩ cs.toList (fun j v hv => by
    rw [addr_add, Nat.zero_add, h.rules.1 j]
    simpa using hv)
  rw [Array.length_toList, hs] at this
  simpa [loadCells] using this
theorem chg_self (l : List (Int × Int)) : dChg l l = [0] := by
  have h : ∀ l : List (Int × Int), dSame l l = l.length := by
    intro l
    induction l with
    | nil => rfl
    | cons a l ih => simp [dSame, ih]
  unfold dChg
  rw [dRows_none (by rw [h, List.drop_length]; rfl)]
  rfl
theorem diff_ok {s t : Scr} (h1 : gOk s = true) (h2 : gOk t = true) : dDiff' s t = (vCat (dNums s t), 0) := by
  unfold dDiff'
  rw [h1, h2]
  exact vJoin_ok (fun x hx => by have := nums_bnd (s := s) h2 x hx; omega)
theorem nums_len {s t : Scr} (h : t.cs.length ≤ 500) (h2 : t.ms.length ≤ 500) : (dNums s t).length ≤ 4013 := by
  have e1 := chg_size (dGround s t.W t.H).1 t.cs
  have e2 := chg_size (dGround s t.W t.H).2 t.ms
  unfold dNums dHead
  simp only [List.length_append, List.length_cons, List.length_nil]
  split <;> (try simp only [List.length_nil]) <;> omega
theorem one_byte {x : Int} (h0 : 0 ≤ x) (h1 : x < 64) : (vBytes x).length = 1 := by
  rw [vBytes_length]
  unfold vSize
  rw [if_neg (by omega), if_pos (by omega)]
theorem two_bytes {x : Int} (h0 : 0 ≤ x) (h1 : x < 16384) : (vBytes x).length ≤ 2 := by
  rw [vBytes_length]
  unfold vSize
  rw [if_neg (by omega)]
  (repeat' split) <;> omega
theorem own_short {t : Scr} (h : gOk t = true) (hc : t.cs.length ≤ 500) : (vCat (dNums t t)).length ≤ 16 := by
  obtain ⟨b1, b2, b3, b4, b5, b6⟩ := gOk_parts h
  have hg : (dGround t t.W t.H).1 = t.cs ∧ (t.al = true → (dGround t t.W t.H).2 = t.ms) := by
    unfold dGround
    rw [if_pos ⟨rfl, rfl⟩]
    exact ⟨rfl, fun h => by simp [h]⟩
  have hbb := bits_bnd t
  have hz : (vBytes 0).length = 1 := by kernel_rfl
  have e1 := b2.1
  have hWH : (vBytes t.W).length + (vBytes t.H).length ≤ 3 := by
    have w2 := two_bytes (x := t.W) (by omega) (by omega)
    have h2 := two_bytes (x := t.H) (by omega) (by omega)
    by_cases hw : t.W < 64
    · have := one_byte (x := t.W) (by omega) hw
      omega
    · by_cases hh : t.H < 64
      · have := one_byte (x := t.H) (by omega) hh
        omega
      · exfalso
        have : (64 : Int) * 64 ≤ t.W * t.H := Int.mul_le_mul (by omega) (by omega) (by omega) (by omega)
        omega
  have q3 := one_byte (x := t.X) (by omega) (by omega)
  have q4 := one_byte (x := t.Y) (by omega) (by omega)
  have q5 := two_bytes (x := t.At) (by omega) (by omega)
  have q6 := one_byte (x := t.Tp) (by omega) (by omega)
  have q7 := one_byte (x := t.Bt) (by omega) (by omega)
  have q8 := one_byte (x := dBits t) (by omega) (by omega)
  have q9 := one_byte (x := t.s0) (by omega) (by omega)
  have q10 := one_byte (x := t.s1) (by omega) (by omega)
  have q11 := two_bytes (x := t.s2) (by omega) (by omega)
  unfold dNums dHead
  rw [hg.1, chg_self]
  cases hal : t.al
  · simp only [vCat, List.flatMap_append, List.flatMap_cons, List.flatMap_nil, List.length_append, List.append_nil, List.length_nil, hz, Bool.false_eq_true, if_false]
    omega
  · rw [if_pos rfl, hg.2 hal, chg_self]
    simp only [vCat, List.flatMap_append, List.flatMap_cons, List.flatMap_nil, List.length_append, List.append_nil, List.length_nil, hz]
    omega
set_option maxHeartbeats 16000000 in
set_option maxRecDepth 100000 in
theorem makes_any {lo up lo2 up2 : Nat} {s t : Scr} {C M C2 M2 : Option Addr} {cc cm cc2 cm2 : Nat} {w : World} (hat : ScrAt w lo up s C cc M cm) (hup : up ≤ w.heap.size) (hat2 : ScrAt w lo2 up2 t C2 cc2 M2 cm2) (hup2 : up2 ≤ w.heap.size) (hl : s.Len) (hl2 : t.Len) :
    Calls Try.prog 6 #[.agg (s.v C cc M cm), .agg (t.v C2 cc2 M2 cm2)] w fun e w' => e = .returned (.bool true) ∧ Below w.heap.size w w' := by
  have HA := Lib.hid (fun W => awake19_any W)
  have HK1 := Lib.hid (fun W (b : Below w.heap.size w W) => check_any (hat.below b hup) (Nat.le_trans hup b.size) hl)
  have HK2 := Lib.hid (fun W (b : Below w.heap.size w W) => check_any (hat2.below b hup2) (Nat.le_trans hup2 b.size) hl2)
  have HF1 := Lib.hid (fun W => few_any (s := s) (C := C) (M := M) (cc := cc) (cm := cm) (w := W))
  have HF2 := Lib.hid (fun W => few_any (s := t) (C := C2) (M := M2) (cc := cc2) (cm := cm2) (w := W))
  have HL := Lib.hid (And.intro hl hl2)
  have bb := ((Below.refl w.heap.size w).alloc (Nat.le_refl _) (.cells (s.v C cc M cm) 35)).alloc (by simp) (.cells (t.v C2 cc2 M2 cm2) 35)
  have kA := (Blk.new w 35 (s.v C cc M cm) rfl).alloc (.cells (t.v C2 cc2 M2 cm2) 35)
  have kB := Blk.new (w.alloc (.cells (s.v C cc M cm) 35)) 35 (t.v C2 cc2 M2 cm2) (g := w.heap.size + 1) (by simp)
  have HAT := Lib.hid (fun W (b : Below w.heap.size w W) => And.intro (hat.below b hup) (hat2.below b hup2))
  clear hat hat2 hl hl2
  go_enter Try.func6, Try.ntmps6
  go_wp2_with fail
  refine (HA.out _).mono ?_
  rintro e w1 ⟨rfl, b1⟩
  have kA1 := kA.later b1
  have kB1 := kB.later b1
  have bb1 := bb.trans (b1.mono bb.size)
  clear b1 kA kB bb HA
  go_upto_region 2 with fail
  go_cut [34] (fun s34 wx => ∃ q : Bool, s34 = .bool q ∧ Hid (q = false → gOk s = true ∧ gOk t = true ∧ s.cs.length ≤ 500 ∧ s.ms.length ≤ 500 ∧ t.cs.length ≤ 500 ∧ t.ms.length ≤ 500) ∧ Below w.heap.size w wx ∧ Blk wx w.heap.size 35 (s.v C cc M cm) ∧ Blk wx (w.heap.size + 1) 35 (t.v C2 cc2 M2 cm2))
  case first => as_aux_lemma =>
    have qA1 := bs16 kA1 rfl
    go_wp2_with (first | ((with_reducible refine wpList_ld2 qA1 ?_ ?_); rfl))
    refine (HF1.out _).mono ?_
    rintro e w2 ⟨rfl, b2⟩
    have kA2 := kA1.later b2
    have kB2 := kB1.later b2
    have bb2 := bb1.trans (b2.mono bb1.size)
    clear b2 kA1 kB1 bb1 qA1
    cases hf1 : (decide (s.cs.length ≤ 500) && decide (s.ms.length ≤ 500))
    · go_wp2_with fail
      go_meet
      exact ⟨true, rfl, Lib.hid (fun h => by cases h), bb2, kA2, kB2⟩
    · have Hf1 := Lib.hid hf1
      clear hf1
      have ⟨kcB, kfB⟩ := (show (∀ i, w2.cell? ⟨(w.heap.size + 1), i, none⟩ = (#[.int .i64 t.W, .int .i64 t.H, .slice C2 t.cs.length cc2, .int .i64 t.X, .int .i64 t.Y, .int .i64 t.At, .int .i64 t.Tp, .int .i64 t.Bt, .bool t.wr, .bool t.au, .bool t.hi, .bool t.al, .int .i64 t.s0, .int .i64 t.s1, .int .i64 t.s2, .slice M2 t.ms.length cm2] : Array Value)[i]?) ∧ (∀ i, w2.frozen? ⟨(w.heap.size + 1), i, none⟩ = false) from kB2.rules)
      have ab := addr_add (w.heap.size + 1) 0
      go_wp2_with fail
      refine (HF2.out _).mono ?_
      rintro e w3 ⟨rfl, b3⟩
      have kA3 := kA2.later b3
      have kB3 := kB2.later b3
      have bb3 := bb2.trans (b3.mono bb2.size)
      clear b3 kA2 kB2 bb2 kcB kfB ab
      cases hf2 : (decide (t.cs.length ≤ 500) && decide (t.ms.length ≤ 500))
      · go_wp2_with fail
        go_meet
        exact ⟨true, rfl, Lib.hid (fun h => by cases h), bb3, kA3, kB3⟩
      · have Hf2 := Lib.hid hf2
        clear hf2
        have ⟨kcA, kfA⟩ := (show (∀ i, w3.cell? ⟨w.heap.size, i, none⟩ = (#[.int .i64 s.W, .int .i64 s.H, .slice C s.cs.length cc, .int .i64 s.X, .int .i64 s.Y, .int .i64 s.At, .int .i64 s.Tp, .int .i64 s.Bt, .bool s.wr, .bool s.au, .bool s.hi, .bool s.al, .int .i64 s.s0, .int .i64 s.s1, .int .i64 s.s2, .slice M s.ms.length cm] : Array Value)[i]?) ∧ (∀ i, w3.frozen? ⟨w.heap.size, i, none⟩ = false) from kA3.rules)
        have ab := addr_add w.heap.size 0
        go_wp2_with fail
        refine (HK1.out _ bb3).mono ?_
        rintro e w4 ⟨rfl, b4⟩
        have kA4 := kA3.later b4
        have kB4 := kB3.later b4
        have bb4 := bb3.trans (b4.mono bb3.size)
        clear b4 kA3 kB3 bb3 kcA kfA ab
        cases hg1 : gOk s
        · simp only [Bool.false_eq_true, if_false]
          go_wp2_with fail
          go_meet
          exact ⟨true, rfl, Lib.hid (fun h => by cases h), bb4, kA4, kB4⟩
        · simp only [if_true]
          have Hg1 := Lib.hid hg1
          clear hg1
          have ⟨kcB, kfB⟩ := (show (∀ i, w4.cell? ⟨(w.heap.size + 1), i, none⟩ = (#[.int .i64 t.W, .int .i64 t.H, .slice C2 t.cs.length cc2, .int .i64 t.X, .int .i64 t.Y, .int .i64 t.At, .int .i64 t.Tp, .int .i64 t.Bt, .bool t.wr, .bool t.au, .bool t.hi, .bool t.al, .int .i64 t.s0, .int .i64 t.s1, .int .i64 t.s2, .slice M2 t.ms.length cm2] : Array Value)[i]?) ∧ (∀ i, w4.frozen? ⟨(w.heap.size + 1), i, none⟩ = false) from kB4.rules)
          have ab := addr_add (w.heap.size + 1) 0
          go_wp2_with fail
          refine (HK2.out _ bb4).mono ?_
          rintro e w5 ⟨rfl, b5⟩
          have kA5 := kA4.later b5
          have kB5 := kB4.later b5
          have bb5 := bb4.trans (b5.mono bb4.size)
          clear b5 kA4 kB4 bb4 kcB kfB ab
          cases hg2 : gOk t
          · simp only [Bool.false_eq_true, if_false]
            go_wp2_with fail
            go_meet
            exact ⟨true, rfl, Lib.hid (fun h => by cases h), bb5, kA5, kB5⟩
          · simp only [if_true]
            have Hg2 := Lib.hid hg2
            clear hg2
            go_wp2_with fail
            go_meet
            exact ⟨false, rfl, Lib.hid (fun _ => by
              have e1 := Hf1.out
              have e2 := Hf2.out
              simp only [Bool.and_eq_true, decide_eq_true_eq] at e1 e2
              exact ⟨Hg1.out, Hg2.out, e1.1, e1.2, e2.1, e2.2⟩), bb5, kA5, kB5⟩
  case rest => as_aux_lemma =>
    obtain ⟨q, rfl, hq, bb5, kA5, kB5⟩ := hcut
    clear kA1 kB1 bb1 HF1 HF2 HK1 HK2
    cases q
    rotate_left
    · go_wp2_with fail
      go_ret
      exact ⟨rfl, bb5⟩
    · have hqq := hq.out rfl
      clear hq
      obtain ⟨hg1, hg2, n1, n2, n3, n4⟩ := hqq
      obtain ⟨dd, hdd⟩ : ∃ dd, dd = vCat (dNums s t) := ⟨_, rfl⟩
      have hddl : dd.length ≤ 1000000 := by rw [hdd]; have := vCat_le (dNums s t); have := nums_len (s := s) n3 n4; omega
      have e1 : dDiff' s t = (dd, 0) := by rw [hdd]; exact diff_ok hg1 hg2
      have e2 := apply_yes e1
      obtain ⟨oo, hoo⟩ : ∃ dd, dd = vCat (dNums t t) := ⟨_, rfl⟩
      have hol : oo.length ≤ 16 := by rw [hoo]; exact own_short hg2 n3
      have e3 : dDiff' t t = (oo, 0) := by rw [hoo]; exact diff_ok hg2 hg2
      have e4 := apply_yes e3
      obtain ⟨l1, l2⟩ := HL.out
      have E1 := Lib.hid e1
      have E2 := Lib.hid e2
      have E3 := Lib.hid e3
      have E4 := Lib.hid e4
      have L1 := Lib.hid l1
      have L2 := Lib.hid l2
      have Hg1 := Lib.hid hg1
      clear e1 e2 e3 e4 hdd hoo l1 l2 hg1 hg2 HL
      obtain ⟨hA, hB⟩ := HAT.out wc bb5
      have qA5 := bs16 kA5 rfl
      have z5 := kB5.lt
      go_wp2_with (first | ((with_reducible refine wpList_ld2 qA5 ?_ ?_); rfl))
      refine (copy_own hA (by omega) ⟨by omega, by omega⟩ Hg1.out).mono ?_
      rintro e w6 ⟨C6, cc6, M6, cm6, rfl, oC6, oM6, b6⟩
      obtain ⟨w7, hst7, kW7, b7, z7⟩ := scr_new w6 s C6 cc6 M6 cm6
      have z6 := b6.size
      have bb7 := (bb5.trans (b6.mono bb5.size)).trans (b7.mono (by omega))
      have kA7 := (kA5.later b6).later b7
      have kB7 := (kB5.later b6).later b7
      have hW7 := (ScrAt.own oC6 oM6).below b7 (Nat.le_refl _)
      clear b6 b7 bb5 kA5 kB5 oC6 oM6 hA hB qA5
      obtain ⟨hA, hB⟩ := HAT.out w7 bb7
      have qA7 := bs16 kA7 rfl
      have qB7 := bs16 kB7 rfl
      have HD := diff_any hA (by omega) hB (by omega) L1.out L2.out
      rw [E1.out] at HD
      have HD := Lib.hid HD
      go_wp2_with (first | ((with_reducible refine wpList_ld2 qA7 ?_ ?_); rfl) | ((with_reducible refine wpList_ld2 qB7 ?_ ?_); rfl) | ((with_reducible refine wpList_st2 hst7 ?_ ?_); exact ⟨rfl, rfl⟩))
      refine HD.out.mono ?_
      rintro e w8 ⟨A8, c8, rfl, o8, b8⟩
      have z8 := b8.size
      have bb8 := bb7.trans (b8.mono (by omega))
      have kA8 := kA7.later b8
      have kB8 := kB7.later b8
      have kW8 := kW7.later b8
      have hW8 := hW7.below b8 (by omega)
      have sd8 := Sl.of_own o8
      clear b8 bb7 kA7 kB7 kW7 hW7 hA hB qA7 qB7 hst7 HD o8
      obtain ⟨hA, hB⟩ := HAT.out w8 bb8
      have qA8 := bs16 kA8 rfl
      have HP := apply_any hA (by omega) sd8 (Nat.le_refl _) L1.out hddl
      rw [E2.out] at HP
      have HP := Lib.hid HP
      go_wp2_with (first | ((with_reducible refine wpList_ld2 qA8 ?_ ?_); rfl))
      refine HP.out.mono ?_
      rintro e w9 ⟨C9, cc9, M9, cm9, rfl, oC9, oM9, b9⟩
      obtain ⟨w10, hst10, kC10, b10, z10⟩ := scr_new w9 t C9 cc9 M9 cm9
      have z9 := b9.size
      have bb10 := (bb8.trans (b9.mono (by omega))).trans (b10.mono (by omega))
      have kA10 := (kA8.later b9).later b10
      have kB10 := (kB8.later b9).later b10
      have kW10 := (kW8.later b9).later b10
      have hW10 := (hW8.below b9 (by omega)).below b10 (by omega)
      have hC10 := (ScrAt.own oC9 oM9).below b10 (Nat.le_refl _)
      clear b9 b10 bb8 kA8 kB8 kW8 hW8 hA hB qA8 HP oC9 oM9 sd8
      obtain ⟨hA, hB⟩ := HAT.out w10 bb10
      have qB10 := bs16 kB10 rfl
      have HD := diff_any hB (by omega) hB (by omega) L2.out L2.out
      rw [E3.out] at HD
      have HD := Lib.hid HD
      go_wp2_with (first | ((with_reducible refine wpList_ld2 qB10 ?_ ?_); rfl) | ((with_reducible refine wpList_st2 hst10 ?_ ?_); exact ⟨rfl, rfl⟩))
      refine HD.out.mono ?_
      rintro e w11 ⟨A11, c11, rfl, o11, b11⟩
      have z11 := b11.size
      have bb11 := bb10.trans (b11.mono (by omega))
      have kA11 := kA10.later b11
      have kB11 := kB10.later b11
      have kW11 := kW10.later b11
      have kC11 := kC10.later b11
      have hW11 := hW10.below b11 (by omega)
      have hC11 := hC10.below b11 (by omega)
      have sd11 := Sl.of_own o11
      clear b11 bb10 kA10 kB10 kW10 kC10 hW10 hC10 hA hB qB10 hst10 HD o11
      obtain ⟨hA, hB⟩ := HAT.out w11 bb11
      have qB11 := bs16 kB11 rfl
      have HP := apply_any hB (by omega) sd11 (Nat.le_refl _) L2.out (by omega)
      rw [E4.out] at HP
      have HP := Lib.hid HP
      go_wp2_with (first | ((with_reducible refine wpList_ld2 qB11 ?_ ?_); rfl))
      refine HP.out.mono ?_
      rintro e w12 ⟨C12, cc12, M12, cm12, rfl, oC12, oM12, b12⟩
      obtain ⟨w13, hst13, kD13, b13, z13⟩ := scr_new w12 t C12 cc12 M12 cm12
      have z12 := b12.size
      have bb13 := (bb11.trans (b12.mono (by omega))).trans (b13.mono (by omega))
      have kA13 := (kA11.later b12).later b13
      have kB13 := (kB11.later b12).later b13
      have kW13 := (kW11.later b12).later b13
      have kC13 := (kC11.later b12).later b13
      have hW13 := (hW11.below b12 (by omega)).below b13 (by omega)
      have hC13 := (hC11.below b12 (by omega)).below b13 (by omega)
      have hD13 := (ScrAt.own oC12 oM12).below b13 (Nat.le_refl _)
      clear b12 b13 bb11 kA11 kB11 kW11 kC11 hW11 hC11 hA hB qB11 HP oC12 oM12 sd11
      obtain ⟨hA, hB⟩ := HAT.out w13 bb13
      have qB13 := bs16 kB13 rfl
      have qC13 := bs16 kC13 rfl
      have HS := same_any hB (by omega) hC13 (by omega) L2.out L2.out
      rw [gSame_iff.2 rfl] at HS
      have HS := Lib.hid HS
      go_wp2_with (first | ((with_reducible refine wpList_ld2 qB13 ?_ ?_); rfl) | ((with_reducible refine wpList_ld2 qC13 ?_ ?_); rfl) | ((with_reducible refine wpList_st2 hst13 ?_ ?_); exact ⟨rfl, rfl⟩))
      refine HS.out.mono ?_
      rintro e w14 ⟨rfl, b14⟩
      have z14 := b14.size
      have bb14 := bb13.trans (b14.mono (by omega))
      have kA14 := kA13.later b14
      have kB14 := kB13.later b14
      have kW14 := kW13.later b14
      have kD14 := kD13.later b14
      have hW14 := hW13.below b14 (by omega)
      have hD14 := hD13.below b14 (by omega)
      clear b14 bb13 kA13 kB13 kW13 kC13 kD13 hW13 hC13 hD13 hA hB qB13 qC13 hst13 HS
      obtain ⟨hA, hB⟩ := HAT.out w14 bb14
      have ⟨kcA, kfA⟩ := (show (∀ i, w14.cell? ⟨w.heap.size, i, none⟩ = (#[.int .i64 s.W, .int .i64 s.H, .slice C s.cs.length cc, .int .i64 s.X, .int .i64 s.Y, .int .i64 s.At, .int .i64 s.Tp, .int .i64 s.Bt, .bool s.wr, .bool s.au, .bool s.hi, .bool s.al, .int .i64 s.s0, .int .i64 s.s1, .int .i64 s.s2, .slice M s.ms.length cm] : Array Value)[i]?) ∧ (∀ i, w14.frozen? ⟨w.heap.size, i, none⟩ = false) from kA14.rules)
      have ⟨kcW, kfW⟩ := (show (∀ i, w14.cell? ⟨w6.heap.size, i, none⟩ = (#[.int .i64 s.W, .int .i64 s.H, .slice C6 s.cs.length cc6, .int .i64 s.X, .int .i64 s.Y, .int .i64 s.At, .int .i64 s.Tp, .int .i64 s.Bt, .bool s.wr, .bool s.au, .bool s.hi, .bool s.al, .int .i64 s.s0, .int .i64 s.s1, .int .i64 s.s2, .slice M6 s.ms.length cm6] : Array Value)[i]?) ∧ (∀ i, w14.frozen? ⟨w6.heap.size, i, none⟩ = false) from kW14.rules)
      have abA := addr_add w.heap.size 0
      have abW := addr_add w6.heap.size 0
      have HS := same_any hA (by omega) hW14 (by omega) L1.out L1.out
      rw [gSame_iff.2 rfl] at HS
      have HS := Lib.hid HS
      go_wp2_with fail
      refine HS.out.mono ?_
      rintro e w15 ⟨rfl, b15⟩
      have z15 := b15.size
      have bb15 := bb14.trans (b15.mono (by omega))
      have kB15 := kB14.later b15
      have kD15 := kD14.later b15
      have hD15 := hD14.below b15 (by omega)
      clear b15 bb14 kA14 kB14 kW14 kD14 hW14 hD14 hA hB kcA kfA kcW kfW abA abW HS
      obtain ⟨hA, hB⟩ := HAT.out w15 bb15
      have ⟨kcD, kfD⟩ := (show (∀ i, w15.cell? ⟨w12.heap.size, i, none⟩ = (#[.int .i64 t.W, .int .i64 t.H, .slice C12 t.cs.length cc12, .int .i64 t.X, .int .i64 t.Y, .int .i64 t.At, .int .i64 t.Tp, .int .i64 t.Bt, .bool t.wr, .bool t.au, .bool t.hi, .bool t.al, .int .i64 t.s0, .int .i64 t.s1, .int .i64 t.s2, .slice M12 t.ms.length cm12] : Array Value)[i]?) ∧ (∀ i, w15.frozen? ⟨w12.heap.size, i, none⟩ = false) from kD15.rules)
      have ⟨kcB, kfB⟩ := (show (∀ i, w15.cell? ⟨(w.heap.size + 1), i, none⟩ = (#[.int .i64 t.W, .int .i64 t.H, .slice C2 t.cs.length cc2, .int .i64 t.X, .int .i64 t.Y, .int .i64 t.At, .int .i64 t.Tp, .int .i64 t.Bt, .bool t.wr, .bool t.au, .bool t.hi, .bool t.al, .int .i64 t.s0, .int .i64 t.s1, .int .i64 t.s2, .slice M2 t.ms.length cm2] : Array Value)[i]?) ∧ (∀ i, w15.frozen? ⟨(w.heap.size + 1), i, none⟩ = false) from kB15.rules)
      have abD := addr_add w12.heap.size 0
      have abB := addr_add (w.heap.size + 1) 0
      have HS := same_any hD15 (by omega) hB (by omega) L2.out L2.out
      rw [gSame_iff.2 rfl] at HS
      have HS := Lib.hid HS
      have holI : (oo.length : Int) ≤ 16 := by omega
      go_wp2_with fail
      refine HS.out.mono ?_
      rintro e w16 ⟨rfl, b16⟩
      have bb16 := bb15.trans (b16.mono (by omega))
      clear b16 bb15 kB15 kD15 hD15 hA hB kcD kfD kcB kfB abD abB HS
      go_wp2_with fail
      go_ret
      exact ⟨rfl, bb16⟩
end Go.Proofs.Ytfeeincglijmjaa
