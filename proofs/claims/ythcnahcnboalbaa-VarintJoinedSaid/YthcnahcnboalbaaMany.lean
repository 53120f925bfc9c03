/- The walk of VarintMany. -/
import Derived.Test.YthcnahcnboalbaaBack
namespace Go.Proofs.Ythcnahcnboalbaa
open Go.RowKit
set_option linter.unusedVariables false
set_option linter.unusedSimpArgs false
attribute [local go_sem ↓] Go.wp_at_zero Go.wp_at_succ

theorem many_long {A : Option Addr} {k c : Nat} {w : World} (hn : 50 < k) : Calls Try.prog 10 #[.slice A k c] w fun e w' => e = .returned (.bool true) ∧ Below w.heap.size w w' := by
  go_enter Try.func10, Try.ntmps10
  go_wp2_with fail
  refine (awake_any _).mono ?_
  rintro e w1 ⟨rfl, bb⟩
  go_wp2
  go_ret
  exact ⟨rfl, bb⟩

theorem vCat_append (a b : List Int) : vCat (a ++ b) = vCat a ++ vCat b := by simp [vCat]
theorem vCat_drop {l : List Int} {i : Nat} (h : i < l.length) : (vCat l).drop (vCat (l.take i)).length = vBytes l[i] ++ vCat (l.drop (i + 1)) := by
  have e : vCat l = vCat (l.take i) ++ vCat (l.drop i) := by rw [← vCat_append, List.take_append_drop]
  rw [e, List.drop_left, List.drop_eq_getElem_cons h, vCat, List.flatMap_cons]
  rfl
theorem vCat_take_le (l : List Int) (i : Nat) : (vCat (l.take i)).length ≤ (vCat l).length := by
  have e : vCat l = vCat (l.take i) ++ vCat (l.drop i) := by rw [← vCat_append, List.take_append_drop]
  rw [e, List.length_append]
  omega

set_option maxHeartbeats 1000000 in
/-- One of them is too great. -/
theorem many_no {A : Option Addr} {k c : Nat} {l : List Int} {w : World} (hr : Sl w 0 w.heap.size 1 A k c (intCells l)) (hk : k ≤ 50) (hl : ∀ x ∈ l, -9223372036854775808 ≤ x ∧ x ≤ 9223372036854775807)
    (hno : ¬ ∀ x ∈ l, vSize x ≠ 0) : Calls Try.prog 10 #[.slice A k c] w fun e w' => e = .returned (.bool true) ∧ Below w.heap.size w w' := by
  have hlen : k = l.length := by have := hr.len; rw [intCells_length] at this; omega
  subst hlen
  have J := fun W lo up h1 h2 => join_any (lo := lo) (up := up) (A := A) (n := l.length) (c := c) (l := l) (w := W) h1 h2 (by omega) hl
  have hj : vJoin l = ([], 10) := by unfold vJoin; rw [if_neg hno]
  rw [hj] at J
  have HJ := Lib.hid J
  have HR := Lib.hid hr
  have HL := Lib.hid hl
  have HNO := Lib.hid hno
  clear J hr hl hno hj
  go_enter Try.func10, Try.ntmps10
  go_wp2_with fail
  refine (awake_any _).mono ?_
  rintro e w1 ⟨rfl, bb⟩
  go_wp2_with fail
  refine (HJ.out _ _ _ (HR.out.below bb (Nat.le_refl _)) bb.size).mono ?_
  rintro e w2 ⟨A2, c2, rfl, own2, hb2⟩
  have bb2 := bb.trans (hb2.mono bb.size)
  have HR2 := Lib.hid (HR.out.below bb2 (Nat.le_refl _))
  clear own2 hb2 HR HJ
  go_wp2_with fail
  go_loopg [6] l.length (fun gh s6 wr => ∃ i : Nat, gh = l.length - i ∧ i ≤ l.length ∧ s6 = .int .i64 i ∧ Hid (Sl wr 0 w.heap.size 1 A l.length c (intCells l)) ∧ Below w.heap.size w wr ∧ Hid (∀ x ∈ l.take i, vSize x ≠ 0))
  case atStart => exact ⟨0, by omega, by omega, rfl, HR2, bb2, Lib.hid (by simp)⟩
  case round =>
    clear HR2 bb2
    obtain ⟨i, hg, hi, rfl, HR2, bb2, hall⟩ := hrel
    by_cases h : i < l.length
    · obtain ⟨g, o, rfl, hc⟩ := sli_cell HR2.out (by omega)
      have k1 := hc i h
      have a1 := addr_add g o i
      have HS := Lib.hid (fun W => size_any (w := W) (HL.out l[i] (List.getElem_mem h)))
      clear hc
      by_cases hz : vSize l[i] = 0
      · rw [hz] at HS
        generalize l[i] = x at *
        clear hall HL HNO
        go_wp2_with fail
        refine (HS.out _).mono ?_
        rintro e w3 ⟨rfl, rfl⟩
        go_wp2
        go_ret
        exact ⟨rfl, bb2⟩
      · have hall2 : ∀ x ∈ l.take (i + 1), vSize x ≠ 0 := by
          rw [List.take_succ_eq_append_getElem h]
          intro x hx
          rcases List.mem_append.1 hx with h1 | h1
          · exact hall.out x h1
          · simp at h1
            rw [h1]
            exact hz
        have Hall2 := Lib.hid hall2
        clear hall hall2
        generalize vSize l[i] = s at *
        generalize l[i] = x at *
        go_wp2_with fail
        refine (HS.out _).mono ?_
        rintro e w3 ⟨rfl, rfl⟩
        go_wp2
        go_roundg (l.length - (i + 1))
        case measure => omega
        case rel => exact ⟨i + 1, rfl, by omega, by simp, HR2, bb2, Hall2⟩
    · obtain rfl : i = l.length := by omega
      have := hall.out
      rw [List.take_length] at this
      exact absurd this HNO.out

set_option maxHeartbeats 1000000 in
/-- Each is got. -/
theorem many_yes {A : Option Addr} {k c : Nat} {l : List Int} {w : World} (hr : Sl w 0 w.heap.size 1 A k c (intCells l)) (hk : k ≤ 50) (hl : ∀ x ∈ l, -9223372036854775808 ≤ x ∧ x ≤ 9223372036854775807)
    (hno : ∀ x ∈ l, vSize x ≠ 0) : Calls Try.prog 10 #[.slice A k c] w fun e w' => e = .returned (.bool true) ∧ Below w.heap.size w w' := by
  obtain ⟨j0, hj0, jz0, jz1, jz2⟩ := info_parts info5
  have hlen : k = l.length := by have := hr.len; rw [intCells_length] at this; omega
  subst hlen
  have J := fun W lo up h1 h2 => join_any (lo := lo) (up := up) (A := A) (n := l.length) (c := c) (l := l) (w := W) h1 h2 (by omega) hl
  have hj : vJoin l = (vCat l, 0) := by unfold vJoin; rw [if_pos hno]
  rw [hj] at J
  have HJ := Lib.hid J
  have HR := Lib.hid hr
  have HL := Lib.hid hl
  have HNO := Lib.hid hno
  have hcl : (vCat l).length ≤ 400 := by have := vCat_le l; omega
  clear J hr hl hno hj
  go_enter Try.func10, Try.ntmps10
  go_wp2_with fail
  refine (awake_any _).mono ?_
  rintro e w1 ⟨rfl, bb⟩
  go_wp2_with fail
  refine (HJ.out _ _ _ (HR.out.below bb (Nat.le_refl _)) bb.size).mono ?_
  rintro e w2 ⟨A2, c2, rfl, own2, hb2⟩
  have bb2 := bb.trans (hb2.mono bb.size)
  have HR2 := Lib.hid (HR.out.below bb2 (Nat.le_refl _))
  have HC2 := Lib.hid (Sl.of_own own2)
  clear own2 hb2 HR HJ
  go_wp2_with fail
  go_loopg [6] l.length (fun gh s6 wr => ∃ i : Nat, gh = l.length - i ∧ i ≤ l.length ∧ s6 = .int .i64 i ∧ Hid (Sl wr 0 w.heap.size 1 A l.length c (intCells l)) ∧ Hid (Sl wr w1.heap.size w2.heap.size 1 A2 (vCat l).length c2 (byteCells (vCat l))) ∧ Below w.heap.size w wr)
  case atStart => exact ⟨0, by omega, by omega, rfl, HR2, HC2, bb2⟩
  case round =>
    clear HR2 HC2 bb2
    obtain ⟨i, hg, hi, rfl, HR2, HC2, bb2⟩ := hrel
    by_cases h : i < l.length
    · obtain ⟨g, o, rfl, hc⟩ := sli_cell HR2.out (by omega)
      have k1 := hc i h
      have a1 := addr_add g o i
      have HS := Lib.hid (fun W => size_any (w := W) (HL.out l[i] (List.getElem_mem h)))
      have hz := HNO.out l[i] (List.getElem_mem h)
      clear hc
      generalize vSize l[i] = s at *
      generalize l[i] = x at *
      go_wp2_with fail
      refine (HS.out _).mono ?_
      rintro e w3 ⟨rfl, rfl⟩
      go_wp2
      go_roundg (l.length - (i + 1))
      case measure => omega
      case rel => exact ⟨i + 1, rfl, by omega, by simp, HR2, HC2, bb2⟩
    · obtain rfl : i = l.length := by omega
      go_wp2_with fail
      go_loopg [7, 8] l.length (fun gh s7 s8 wr => ∃ i : Nat, gh = l.length - i ∧ i ≤ l.length ∧ s7 = .int .i64 (vCat (l.take i)).length ∧ s8 = .int .i64 i ∧ Hid (Sl wr 0 w.heap.size 1 A l.length c (intCells l)) ∧ Hid (Sl wr w1.heap.size w2.heap.size 1 A2 (vCat l).length c2 (byteCells (vCat l))) ∧ Below w.heap.size w wr)
      case atStart => exact ⟨0, by omega, by omega, rfl, rfl, HR2, HC2, bb2⟩
      case round =>
        clear HR2 HC2 bb2
        obtain ⟨i, hg, hi, rfl, rfl, HR2, HC2, bb2⟩ := hrel
        by_cases h : i < l.length
        · obtain ⟨g, o, rfl, hc⟩ := sli_cell HR2.out (by omega)
          have k1 := hc i h
          have a1 := addr_add g o i
          have HS := Lib.hid (fun W => size_any (w := W) (HL.out l[i] (List.getElem_mem h)))
          have hz := HNO.out l[i] (List.getElem_mem h)
          have hle := vCat_take_le l i
          obtain ⟨A3, hcut, hs3⟩ := cut_l Try.underlying23 hj0 jz1 HC2.out (vCat (l.take i)).length ((vCat l).length - (vCat (l.take i)).length) _ rfl (by omega)
          rw [Nat.mul_one, byteCells_drop, vCat_drop h] at hs3
          have G := fun W lo up A n c (hh : Sl W lo up 1 A n c (byteCells (vBytes (l[i]'h) ++ vCat (l.drop (i + 1))))) => get_any (lo := lo) (up := up) (A := A) (n := n) (c := c) (w := W) hh
          rw [vGet_vBytes hz] at G
          have HG := Lib.hid G
          have Hst := Lib.hid (show (vCat (l.take (i + 1))).length = (vCat (l.take i)).length + vSize l[i] from by rw [vCat_take h, List.length_append, vBytes_length])
          have hs8 : vSize l[i] ≤ 8 := by have := vSize_cases l[i]; omega
          have Hs3 := Lib.hid hs3
          clear hc G hs3
          generalize vSize l[i] = s at *
          generalize l[i] = x at *
          generalize (vCat (l.take i)).length = at_ at *
          generalize hcat : (vCat l).length = cat at *
          clear hcat
          go_wp2_with fail
          refine (HG.out _ _ _ _ _ _ Hs3.out).mono ?_
          rintro e w4 ⟨rfl, rfl⟩
          go_wp2_with fail
          refine (HS.out _).mono ?_
          rintro e w5 ⟨rfl, rfl⟩
          go_wp2
          go_roundg (l.length - (i + 1))
          case measure => omega
          case rel => exact ⟨i + 1, rfl, by omega, by rw [Hst.out]; simp, by simp, HR2, HC2, bb2⟩
        · obtain rfl : i = l.length := by omega
          rw [List.take_length]
          go_wp2
          go_ret
          exact ⟨rfl, bb2⟩

theorem many_any {A : Option Addr} {k c : Nat} {l : List Int} {w : World} (hr : Sl w 0 w.heap.size 1 A k c (intCells l)) (hk : k ≤ 50) (hl : ∀ x ∈ l, -9223372036854775808 ≤ x ∧ x ≤ 9223372036854775807) :
    Calls Try.prog 10 #[.slice A k c] w fun e w' => e = .returned (.bool true) ∧ Below w.heap.size w w' := by
  by_cases h : ∀ x ∈ l, vSize x ≠ 0
  · exact many_yes hr hk hl h
  · exact many_no hr hk hl h
end Go.Proofs.Ythcnahcnboalbaa
