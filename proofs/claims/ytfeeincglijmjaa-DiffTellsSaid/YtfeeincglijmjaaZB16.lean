/- Texts of this seat, one behind the other. -/
import Derived.Test.YtfeeincglijmjaaHE
import Derived.Test.YtfeeincglijmjaaZB11
import Derived.Test.YtfeeincglijmjaaFR
namespace Go.Proofs.Ytfeeincglijmjaa
/- The document's Apply, whole: its contract. -/
section
open Go.RowKit
set_option linter.unusedVariables false
set_option linter.unusedSimpArgs false

theorem rtry_back {s b : Scr} {d : List UInt8} (h : dDiff' s b = (d, 0)) : rTry s b.W b.H b.X b.Y b.At b.Tp b.Bt (dBits b) b.s0 b.s1 b.s2 (dBody s b) = b := by
  obtain ⟨h1, h2, h3, h4, h5, h6, h7⟩ := diff_back h
  obtain ⟨q0, q1, q2, q3⟩ := oBit_dBits b
  have hg := ground_len h1 h2
  unfold rTry dBody
  rw [q0, q1, q2, q3, rChg_chg hg.1]
  cases hal : b.al
  · simp only [Bool.false_eq_true, if_false]
    conv => rhs; rw [scr_eta b, hal, h7 hal]
  · simp only [if_true]
    have := rChg_chg (hg.2 hal) []
    rw [List.append_nil] at this
    rw [this]
    conv => rhs; rw [scr_eta b, hal]
theorem rapply_any {lo up lo2 up2 : Nat} {s : Scr} {C M D : Option Addr} {cc cm dc : Nat} {d : List UInt8} {w : World} (hat : ScrAt w lo up s C cc M cm) (hup : up ≤ w.heap.size) (hd : Sl w lo2 up2 1 D d.length dc (byteCells d)) (hup2 : up2 ≤ w.heap.size) (hl : s.Len) (hdl : d.length ≤ 1000000) :
    Calls Try.prog 28 #[.agg (s.v C cc M cm), .slice D d.length dc] w (RetAp w (dApply s d).1 (dApply s d).2) := by
  cases hg : gOk s
  · have e : dApply s d = (noScr, 170) := by unfold dApply; rw [if_neg (by rw [hg]; decide)]
    rw [e]
    exact rapply_bad hat hup hd hup2 hl hg
  · by_cases hsh : (vAll d).2 ≠ 0 ∨ (vAll d).1.length < 12 ∨ (vAll d).1.getD 0 0 < 1 ∨ 64 < (vAll d).1.getD 0 0 ∨ (vAll d).1.getD 1 0 < 1 ∨ 64 < (vAll d).1.getD 1 0
    · have e : dApply s d = (noScr, 190) := by
        refine apply_not hg (fun ⟨b, hb⟩ => ?_)
        obtain ⟨h1, h2, h3, _⟩ := diff_back hb
        obtain ⟨b1, _⟩ := gOk_parts h2
        rw [h3] at hsh
        simp [dBody, dChg] at hsh
        omega
      rw [e]
      exact rapply_short hat hup hd hup2 hl hg hdl hsh
    · rcases vAll_back d with ⟨hv0, hvj⟩ | hv0
      rotate_left
      · rw [hv0] at hsh
        simp at hsh
      · obtain ⟨⟨L, en⟩, hq⟩ : ∃ q, q = vAll d := ⟨_, rfl⟩
        rw [← hq] at hsh hv0 hvj
        simp only at hsh hv0 hvj
        subst hv0
        have hall : ∀ x ∈ L, vSize x ≠ 0 := by
          unfold vJoin at hvj
          split at hvj
          · assumption
          · injection hvj with _ h
            exact absurd h (by decide)
        have hlen : L.length ≤ d.length := by
          unfold vJoin at hvj
          rw [if_pos hall] at hvj
          injection hvj with h _
          rw [← h]
          exact vCat_ge L hall
        have hL12 : 12 ≤ L.length := by
          apply Classical.byContradiction
          intro h
          exact hsh (.inr (.inl (by omega)))
        match L, hL12, hsh, hlen, hall, hq with
        | x0 :: x1 :: x2 :: x3 :: x4 :: x5 :: x6 :: x7 :: x8 :: x9 :: x10 :: r, hL12, hsh, hlen, hall, hq =>
          have hb : ∀ x ∈ x0 :: x1 :: x2 :: x3 :: x4 :: x5 :: x6 :: x7 :: x8 :: x9 :: x10 :: r, 0 ≤ x ∧ x < 4611686018427387904 := fun x hx => vSize_range (hall x hx)
          have hx7 := hb x7 (by simp)
          have hr : ∀ x ∈ r, 0 ≤ x ∧ x ≤ 4611686018427387903 := fun x hx => by have := hb x (by simp [hx]); omega
          simp only [List.length_cons] at hlen hL12
          have hx01 : (1 ≤ x0 ∧ x0 ≤ 64) ∧ (1 ≤ x1 ∧ x1 ≤ 64) := by
            simp at hsh
            omega
          obtain ⟨b1, b2, b3, _⟩ := gOk_parts hg
          have ar := area b1
          have hcl : s.cs.length ≤ 4096 ∧ s.ms.length ≤ 4096 := ⟨by have := b2.1; omega, gOk_ms hg⟩
          obtain ⟨T, hT⟩ : ∃ T, T = rTry s x0 x1 x2 x3 x4 x5 x6 x7 x8 x9 x10 r := ⟨_, rfl⟩
          have hfin : (dApply s d).1 = (bif (!decide ((dDiff' s T).2 = 0) || !decide ((dDiff' s T).1 = d)) then noScr else T) ∧ (dApply s d).2 = (bif (!decide ((dDiff' s T).2 = 0) || !decide ((dDiff' s T).1 = d)) then (190 : Int) else 0) := by
            cases hB : (!decide ((dDiff' s T).2 = 0) || !decide ((dDiff' s T).1 = d))
            · simp only [Bool.or_eq_false_iff, Bool.not_eq_false', decide_eq_true_eq] at hB
              have e := apply_yes (s := s) (b := T) (d := d) (Prod.ext hB.2 hB.1)
              rw [e]
              exact ⟨rfl, rfl⟩
            · have e : dApply s d = (noScr, 190) := by
                refine apply_not hg (fun ⟨b, hb⟩ => ?_)
                have h3 := (diff_back hb).2.2.1
                rw [← hq] at h3
                simp only [Prod.mk.injEq, List.cons.injEq, and_true] at h3
                obtain ⟨r0, r1, r2, r3, r4, r5, r6, r7, r8, r9, r10, r11⟩ := h3
                have t := rtry_back hb
                rw [← r0, ← r1, ← r2, ← r3, ← r4, ← r5, ← r6, ← r7, ← r8, ← r9, ← r10, ← r11, ← hT] at t
                subst t
                rw [hb] at hB
                simp at hB
              rw [e]
              exact ⟨rfl, rfl⟩
          exact rapply_go hat hup hd hup2 hl hg hcl hdl hq.symm hx01.1 hx01.2 hr (by omega) (by omega) ⟨hx7.1, by omega⟩ hT rfl hfin.1 hfin.2
        | [], h, _, _, _, _ => exact absurd h (by simp)
        | [_], h, _, _, _, _ => exact absurd h (by simp)
        | [_, _], h, _, _, _, _ => exact absurd h (by simp)
        | [_, _, _], h, _, _, _, _ => exact absurd h (by simp)
        | [_, _, _, _], h, _, _, _, _ => exact absurd h (by simp)
        | [_, _, _, _, _], h, _, _, _, _ => exact absurd h (by simp)
        | [_, _, _, _, _, _], h, _, _, _, _ => exact absurd h (by simp)
        | [_, _, _, _, _, _, _], h, _, _, _, _ => exact absurd h (by simp)
        | [_, _, _, _, _, _, _, _], h, _, _, _, _ => exact absurd h (by simp)
        | [_, _, _, _, _, _, _, _, _], h, _, _, _, _ => exact absurd h (by simp)
        | [_, _, _, _, _, _, _, _, _, _], h, _, _, _, _ => exact absurd h (by simp)
end

/- The walk of DiffTells. -/
section
open Go.RowKit
set_option linter.unusedVariables false
set_option linter.unusedSimpArgs false
attribute [local go_sem ↓] Go.wp_at_zero Go.wp_at_succ

theorem dApply_len (s : Scr) (d : List UInt8) : (dApply s d).1.Len := by
  by_cases hg : gOk s = true
  · by_cases hx : ∃ b, dDiff' s b = (d, 0)
    · obtain ⟨b, hb⟩ := hx
      rw [apply_yes hb]
      have h2 := (diff_back hb).2.1
      obtain ⟨b1, b2, _⟩ := gOk_parts h2
      have ar := area b1
      have hm := gOk_ms h2
      have hc := b2.1
      exact ⟨by show b.cs.length ≤ _; omega, by show b.ms.length ≤ _; omega⟩
    · rw [apply_not hg hx]
      exact ⟨by simp [noScr], by simp [noScr]⟩
  · unfold dApply
    rw [if_neg hg]
    exact ⟨by simp [noScr], by simp [noScr]⟩
set_option maxHeartbeats 16000000 in
set_option maxRecDepth 100000 in
theorem tells_any {lo up lo2 up2 lo3 up3 : Nat} {s t : Scr} {C M C2 M2 D : Option Addr} {cc cm cc2 cm2 dn dc : Nat} {d : List UInt8} {w : World} (hat : ScrAt w lo up s C cc M cm) (hup : up ≤ w.heap.size) (hat2 : ScrAt w lo2 up2 t C2 cc2 M2 cm2) (hup2 : up2 ≤ w.heap.size) (hd : Sl w lo3 up3 1 D dn dc (byteCells d)) (hup3 : up3 ≤ w.heap.size) (hdm : dn ≤ 9223372036854775807) (hl : s.Len) (hl2 : t.Len) :
    Calls Try.prog 5 #[.agg (s.v C cc M cm), .agg (t.v C2 cc2 M2 cm2), .slice D dn dc] w fun e w' => e = .returned (.bool true) ∧ Below w.heap.size w w' := by
  obtain rfl : dn = d.length := by have := hd.len; rw [byteCells_length] at this; omega
  have HA := Lib.hid (fun W => awake19_any W)
  have HF1 := Lib.hid (fun W => few_any (s := s) (C := C) (M := M) (cc := cc) (cm := cm) (w := W))
  have HF2 := Lib.hid (fun W => few_any (s := t) (C := C2) (M := M2) (cc := cc2) (cm := cm2) (w := W))
  have HL := Lib.hid (And.intro hl hl2)
  have bb := ((Below.refl w.heap.size w).alloc (Nat.le_refl _) (.cells (s.v C cc M cm) 35)).alloc (by simp) (.cells (t.v C2 cc2 M2 cm2) 35)
  have kA := (Blk.new w 35 (s.v C cc M cm) rfl).alloc (.cells (t.v C2 cc2 M2 cm2) 35)
  have kB := Blk.new (w.alloc (.cells (s.v C cc M cm) 35)) 35 (t.v C2 cc2 M2 cm2) (g := w.heap.size + 1) (by simp)
  have HAT := Lib.hid (fun W (b : Below w.heap.size w W) => And.intro (hat.below b hup) (And.intro (hat2.below b hup2) (hd.below b hup3)))
  have hd2000 : (d.length : Int) ≤ 9223372036854775807 := by omega
  clear hat hat2 hl hl2 hd
  go_enter Try.func5, Try.ntmps5
  go_wp2_with fail
  refine (HA.out _).mono ?_
  rintro e w1 ⟨rfl, b1⟩
  have kA1 := kA.later b1
  have kB1 := kB.later b1
  have bb1 := bb.trans (b1.mono bb.size)
  clear b1 kA kB bb HA
  go_upto_region 2 with fail
  go_cut [30] (fun s30 wx => ∃ q : Bool, s30 = .bool q ∧ Hid (q = false → d.length ≤ 2000) ∧ Below w.heap.size w wx ∧ Blk wx w.heap.size 35 (s.v C cc M cm) ∧ Blk wx (w.heap.size + 1) 35 (t.v C2 cc2 M2 cm2))
  case first => as_aux_lemma =>
    have qA1 := bs16 kA1 rfl
    go_wp2_with (first | ((with_reducible refine wpList_ld2 qA1 ?_ ?_); rfl))
    refine (HF1.out _).mono ?_
    rintro e w2 ⟨rfl, b2⟩
    have kA2 := kA1.later b2
    have kB2 := kB1.later b2
    have bb2 := bb1.trans (b2.mono bb1.size)
    clear b2 kA1 kB1 bb1 qA1
    cases hf1 : (decide (s.cs.length ≤ 500) && decide (s.ms.length ≤ 500))
    · clear hf1
      go_wp2_with fail
      go_meet
      exact ⟨true, rfl, Lib.hid (fun h => by cases h), bb2, kA2, kB2⟩
    · clear hf1
      have ⟨kcB, kfB⟩ := (show (∀ i, w2.cell? ⟨(w.heap.size + 1), i, none⟩ = (#[.int .i64 t.W, .int .i64 t.H, .slice C2 t.cs.length cc2, .int .i64 t.X, .int .i64 t.Y, .int .i64 t.At, .int .i64 t.Tp, .int .i64 t.Bt, .bool t.wr, .bool t.au, .bool t.hi, .bool t.al, .int .i64 t.s0, .int .i64 t.s1, .int .i64 t.s2, .slice M2 t.ms.length cm2] : Array Value)[i]?) ∧ (∀ i, w2.frozen? ⟨(w.heap.size + 1), i, none⟩ = false) from kB2.rules)
      have ab := addr_add (w.heap.size + 1) 0
      go_wp2_with fail
      refine (HF2.out _).mono ?_
      rintro e w3 ⟨rfl, b3⟩
      have kA3 := kA2.later b3
      have kB3 := kB2.later b3
      have bb3 := bb2.trans (b3.mono bb2.size)
      clear b3 kA2 kB2 bb2 kcB kfB ab
      cases hf2 : (decide (t.cs.length ≤ 500) && decide (t.ms.length ≤ 500))
      · clear hf2
        go_wp2_with fail
        go_meet
        exact ⟨true, rfl, Lib.hid (fun h => by cases h), bb3, kA3, kB3⟩
      · clear hf2
        by_cases h2 : d.length ≤ 2000
        · have h3 : ¬ (2000 < (d.length : Int)) := by omega
          have h4 : decide (2000 < (d.length : Int)) = false := by simp; omega
          go_wp2_with fail
          go_meet
          exact ⟨false, rfl, Lib.hid (fun _ => h2), bb3, kA3, kB3⟩
        · have h3 : 2000 < (d.length : Int) := by omega
          have h4 : decide (2000 < (d.length : Int)) = true := by simp; omega
          go_wp2_with fail
          go_meet
          exact ⟨true, rfl, Lib.hid (fun h => by cases h), bb3, kA3, kB3⟩
  case rest => as_aux_lemma =>
    obtain ⟨q, rfl, hq, bb5, kA5, kB5⟩ := hcut
    clear kA1 kB1 bb1 HF1 HF2
    cases q
    rotate_left
    · go_wp2_with fail
      go_ret
      exact ⟨rfl, bb5⟩
    · have hdl := hq.out rfl
      clear hq
      obtain ⟨l1, l2⟩ := HL.out
      obtain ⟨⟨P1, P2⟩, hP⟩ : ∃ P, P = dDiff' s t := ⟨_, rfl⟩
      obtain ⟨⟨T, n⟩, hT⟩ : ∃ P, P = dApply s d := ⟨_, rfl⟩
      have HTl := Lib.hid (show T.Len by have := dApply_len s d; rw [← hT] at this; exact this)
      have HP := Lib.hid hP.symm
      have HT := Lib.hid hT.symm
      have L1 := Lib.hid l1
      have L2 := Lib.hid l2
      clear hP hT l1 l2 HL
      obtain ⟨hA, hB, hD⟩ := HAT.out wc bb5
      have qA5 := bs16 kA5 rfl
      have qB5 := bs16 kB5 rfl
      have z5 := kB5.lt
      have HD := diff_any hA (by omega) hB (by omega) L1.out L2.out
      rw [HP.out] at HD
      have HD := Lib.hid HD
      go_wp2_with (first | ((with_reducible refine wpList_ld2 qA5 ?_ ?_); rfl) | ((with_reducible refine wpList_ld2 qB5 ?_ ?_); rfl))
      refine HD.out.mono ?_
      rintro e w6 ⟨A6, c6, rfl, o6, b6⟩
      have z6 := b6.size
      have bb6 := bb5.trans (b6.mono bb5.size)
      have kA6 := kA5.later b6
      have kB6 := kB5.later b6
      have sx6 := Sl.of_own o6
      clear b6 bb5 kA5 kB5 hA hB hD qA5 qB5 HD o6
      obtain ⟨hA, hB, hD⟩ := HAT.out w6 bb6
      have qA6 := bs16 kA6 rfl
      have qB6 := bs16 kB6 rfl
      have HD := rdiff_any hA (by omega) hB (by omega) L1.out L2.out
      rw [HP.out] at HD
      have HD := Lib.hid HD
      go_wp2_with (first | ((with_reducible refine wpList_ld2 qA6 ?_ ?_); rfl) | ((with_reducible refine wpList_ld2 qB6 ?_ ?_); rfl))
      refine HD.out.mono ?_
      rintro e w7 ⟨A7, c7, rfl, o7, b7⟩
      have z7 := b7.size
      have bb7 := bb6.trans (b7.mono (by omega))
      have kA7 := kA6.later b7
      have sx7 := sx6.below b7 (Nat.le_refl _)
      have sy7 := Sl.of_own o7
      clear b7 bb6 kA6 kB6 sx6 hA hB hD qA6 qB6 HD o7
      obtain ⟨hA, hB, hD⟩ := HAT.out w7 bb7
      have qA7 := bs16 kA7 rfl
      have HPP := apply_any hA (by omega) hD (by omega) L1.out (by omega)
      rw [HT.out] at HPP
      have HPP := Lib.hid HPP
      go_wp2_with (first | ((with_reducible refine wpList_ld2 qA7 ?_ ?_); rfl))
      refine HPP.out.mono ?_
      rintro e w8 ⟨C8, cc8, M8, cm8, rfl, oC8, oM8, b8⟩
      obtain ⟨w9, hst9, kC9, b9, z9⟩ := scr_new w8 T C8 cc8 M8 cm8
      have z8 := b8.size
      have bb9 := (bb7.trans (b8.mono (by omega))).trans (b9.mono (by omega))
      have kA9 := (kA7.later b8).later b9
      have sx9 := (sx7.below b8 (by omega)).below b9 (by omega)
      have sy9 := (sy7.below b8 (by omega)).below b9 (by omega)
      have hC9 := (ScrAt.own oC8 oM8).below b9 (Nat.le_refl _)
      clear b8 b9 bb7 kA7 sx7 sy7 hA hB hD qA7 HPP oC8 oM8
      obtain ⟨hA, hB, hD⟩ := HAT.out w9 bb9
      have qA9 := bs16 kA9 rfl
      have HPP := rapply_any hA (by omega) hD (by omega) L1.out (by omega)
      rw [HT.out] at HPP
      have HPP := Lib.hid HPP
      go_wp2_with (first | ((with_reducible refine wpList_ld2 qA9 ?_ ?_); rfl) | ((with_reducible refine wpList_st2 hst9 ?_ ?_); exact ⟨rfl, rfl⟩))
      refine HPP.out.mono ?_
      rintro e w10 ⟨C10, cc10, M10, cm10, rfl, oC10, oM10, b10⟩
      obtain ⟨w11, hst11, kD11, b11, z11⟩ := scr_new w10 T C10 cc10 M10 cm10
      have z10 := b10.size
      have bb11 := (bb9.trans (b10.mono (by omega))).trans (b11.mono (by omega))
      have kC11 := (kC9.later b10).later b11
      have hC11 := (hC9.below b10 (by omega)).below b11 (by omega)
      have sx11 := (sx9.below b10 (by omega)).below b11 (by omega)
      have sy11 := (sy9.below b10 (by omega)).below b11 (by omega)
      have hD11 := (ScrAt.own oC10 oM10).below b11 (Nat.le_refl _)
      clear b10 b11 bb9 kA9 kC9 hC9 sx9 sy9 hA hB hD qA9 HPP oC10 oM10 hst9
      have qC11 := bs16 kC11 rfl
      have qD11 := bs16 kD11 rfl
      have HS := same_any hC11 (by omega) hD11 (by omega) HTl.out HTl.out
      rw [gSame_iff.2 rfl] at HS
      have HS := Lib.hid HS
      go_wp2_with (first | ((with_reducible refine wpList_ld2 qC11 ?_ ?_); rfl) | ((with_reducible refine wpList_ld2 qD11 ?_ ?_); rfl) | ((with_reducible refine wpList_st2 hst11 ?_ ?_); exact ⟨rfl, rfl⟩))
      refine HS.out.mono ?_
      rintro e w12 ⟨rfl, b12⟩
      have z12 := b12.size
      have bb12 := bb11.trans (b12.mono (by omega))
      have q1 := run_string_of (sx11.below b12 (by omega)) Try.underlying23 Try.underlying5 Try.underlying9
      have q2 := run_string_of (sy11.below b12 (by omega)) Try.underlying23 Try.underlying5 Try.underlying9
      clear b12 bb11 kC11 kD11 hC11 hD11 sx11 sy11 qC11 qD11 HS hst11
      go_wp2_with fail
      go_ret
      exact ⟨rfl, bb12⟩
end
end Go.Proofs.Ytfeeincglijmjaa
