/- The walks of varint.Join and the document's Join. -/
import Derived.Test.YtfeeincglijmjaaVE
import Derived.Test.YtfeeincglijmjaaVG
namespace Go.Proofs.Ytfeeincglijmjaa
open Go.RowKit
set_option linter.unusedVariables false
set_option linter.unusedSimpArgs false
attribute [local go_sem ↓] Go.wp_at_zero Go.wp_at_succ

/-- The bytes of numbers, one behind the other. -/
def vCat (l : List Int) : List UInt8 := l.flatMap vBytes
/-- Join. -/
def vJoin (l : List Int) : List UInt8 × Int := if ∀ x ∈ l, vSize x ≠ 0 then (vCat l, 0) else ([], 10)

theorem vCat_le (l : List Int) : (vCat l).length ≤ 8 * l.length := by
  induction l with
  | nil => simp [vCat]
  | cons x l ih =>
    have := vBytes_le x
    simp only [vCat, List.flatMap_cons, List.length_append, List.length_cons] at ih ⊢
    omega
theorem vCat_take {l : List Int} {i : Nat} (h : i < l.length) : vCat (l.take (i + 1)) = vCat (l.take i) ++ vBytes l[i] := by
  rw [List.take_succ_eq_append_getElem h, vCat, List.flatMap_append]
  simp [vCat]

set_option maxRecDepth 100000 in
theorem join_any {lo up : Nat} {A : Option Addr} {n c : Nat} {l : List Int} {w : World} (hr : Sl w lo up 1 A n c (intCells l)) (hup : up ≤ w.heap.size) (hn : n ≤ 1000000)
    (hl : ∀ x ∈ l, -9223372036854775808 ≤ x ∧ x ≤ 9223372036854775807) : Calls Try.prog 55 #[.slice A n c] w (RetBE w (vJoin l).1 (vJoin l).2) := by
  have hl0 : n = l.length := by have := hr.len; rw [intCells_length] at this; omega
  subst hl0
  have HR := Lib.hid hr
  have HL := Lib.hid hl
  clear hr hl
  go_enter Try.func55, Try.ntmps55
  go_wp2_with fail
  go_loopg [2, 3, 8] l.length (fun gh s2 s3 s8 wr => ∃ (i c : Nat) (A : Option Addr), gh = l.length - i ∧ i ≤ l.length ∧ s2 = .slice A (vCat (l.take i)).length c ∧ s3 = .int .i64 0 ∧ s8 = .int .i64 i ∧ Hid (∀ x ∈ l.take i, vSize x ≠ 0) ∧
    wr.ownsRow w.heap.size 5 1 (.slice A (vCat (l.take i)).length c) (vCat (l.take i)).length (byteCells (vCat (l.take i))) ∧ Below w.heap.size w wr)
  case atStart => exact ⟨0, 0, none, by omega, by omega, rfl, rfl, rfl, Lib.hid (by simp), World.ownsRow_nil _ _ _ _, Below.refl _ _⟩
  case round =>
    obtain ⟨i, c2, A2, hg, hi, rfl, rfl, rfl, hall, hown, bb⟩ := hrel
    have bs1 := bb.size
    by_cases h : i < l.length
    · obtain ⟨g, o, rfl, hc⟩ := sli_cell (HR.out.below bb hup) (by omega)
      have k1 := hc i h
      have a1 := addr_add g o i
      have hx := HL.out l[i] (List.getElem_mem h)
      have hle := vCat_le (l.take i)
      have hlt : (l.take i).length = i := by rw [List.length_take]; omega
      have hP := fun W lo up h1 h2 => put_any (lo := lo) (up := up) (A := A2) (n := (vCat (l.take i)).length) (c := c2) (l := vCat (l.take i)) (x := l[i]) (w := W) h1 h2 (by omega) hx
      have HP := Lib.hid hP
      clear hP hc
      have hlen2 : (vCat (l.take i)).length ≤ 8000000 := by omega
      clear hle hlt
      by_cases hz : vSize l[i] = 0
      · have hj : vJoin l = ([], 10) := by
          unfold vJoin
          rw [if_neg]
          intro hh
          exact hh _ (List.getElem_mem h) hz
        have hp : vPut (vCat (l.take i)) l[i] = ([], 10) := by unfold vPut; rw [if_pos hz]
        rw [hp] at HP
        rw [hj]
        generalize l[i] = x at *
        clear hall HL
        go_wp2_with fail
        refine (HP.out _ _ _ (Sl.of_own hown) (Nat.le_refl _)).mono ?_
        rintro e w2 ⟨A3, c3, rfl, hown3, hb3⟩
        go_wp2
        go_ret2
        exact ⟨none, 0, rfl, World.ownsRow_nil _ _ _ _, bb.trans (hb3.mono bs1)⟩
      · have hp : vPut (vCat (l.take i)) l[i] = (vCat (l.take (i + 1)), 0) := by unfold vPut; rw [if_neg hz, vCat_take h]
        rw [hp] at HP
        have hall2 : ∀ x ∈ l.take (i + 1), vSize x ≠ 0 := by
          rw [List.take_succ_eq_append_getElem h]
          intro x hx
          rcases List.mem_append.1 hx with h1 | h1
          · exact hall.out x h1
          · simp at h1
            rw [h1]
            exact hz
        have Hall2 := Lib.hid hall2
        clear hall2 hall hp hz
        generalize l[i] = x at *
        go_wp2_with fail
        refine (HP.out _ _ _ (Sl.of_own hown) (Nat.le_refl _)).mono ?_
        rintro e w2 ⟨A3, c3, rfl, hown3, hb3⟩
        go_wp2
        go_roundg (l.length - (i + 1))
        case measure => omega
        case rel => exact ⟨i + 1, c3, A3, rfl, by omega, rfl, rfl, by simp, Hall2, own_more hown3 bs1, bb.trans (hb3.mono bs1)⟩
    · obtain rfl : i = l.length := by omega
      have hj : vJoin l = (vCat l, 0) := by
        unfold vJoin
        rw [if_pos]
        have := hall.out
        rwa [List.take_length] at this
      rw [hj]
      rw [List.take_length] at *
      clear hall HL
      go_wp2
      go_ret2
      exact ⟨A2, c2, rfl, hown, bb⟩

set_option maxRecDepth 100000 in
theorem rjoin_any {lo up : Nat} {A : Option Addr} {n c : Nat} {l : List Int} {w : World} (hr : Sl w lo up 1 A n c (intCells l)) (hup : up ≤ w.heap.size) (hn : n ≤ 1000000) :
    Calls Try.prog 63 #[.slice A n c] w (RetBE w (vJoin l).1 (vJoin l).2) := by
  obtain ⟨i0, hi0, hz0, hz1, hz2⟩ := info_parts info5
  have hl0 : n = l.length := by have := hr.len; rw [intCells_length] at this; omega
  subst hl0
  have HR := Lib.hid hr
  clear hr
  go_enter Try.func63, Try.ntmps63
  go_wp2_with fail
  go_loopg [4, 5] l.length (fun gh s4 s5 wr => ∃ (i c : Nat) (A : Option Addr), gh = l.length - i ∧ i ≤ l.length ∧ s4 = .slice A (vCat (l.take i)).length c ∧ s5 = .int .i64 i ∧ Hid (∀ x ∈ l.take i, vSize x ≠ 0) ∧
    wr.ownsRow w.heap.size 5 1 (.slice A (vCat (l.take i)).length c) (vCat (l.take i)).length (byteCells (vCat (l.take i))) ∧ Below w.heap.size w wr)
  case atStart => exact ⟨0, 0, none, by omega, by omega, rfl, rfl, Lib.hid (by simp), World.ownsRow_nil _ _ _ _, Below.refl _ _⟩
  case round =>
    obtain ⟨i, c2, A2, hg, hi, rfl, rfl, hall, hown, bb⟩ := hrel
    have bs1 := bb.size
    by_cases h : i < l.length
    · obtain ⟨g, o, rfl, hc⟩ := sli_cell (HR.out.below bb hup) (by omega)
      have k1 := hc i h
      have a1 := addr_add g o i
      have hle := vCat_le (l.take i)
      have hlt : (l.take i).length = i := by rw [List.length_take]; omega
      have hS := fun W => rsize_any (x := l[i]) (w := W)
      have HS := Lib.hid hS
      clear hS hc
      have hlen2 : (vCat (l.take i)).length ≤ 8000000 := by omega
      clear hle hlt
      by_cases hz : vSize l[i] = 0
      · have hj : vJoin l = ([], 10) := by
          unfold vJoin
          rw [if_neg]
          intro hh
          exact hh _ (List.getElem_mem h) hz
        rw [hj]
        rw [hz] at HS
        generalize l[i] = x at *
        clear hall
        go_wp2_with fail
        refine (HS.out _).mono ?_
        rintro e w2 ⟨rfl, rfl⟩
        go_wp2
        go_ret2
        exact ⟨none, 0, rfl, World.ownsRow_nil _ _ _ _, bb⟩
      · have hall2 : ∀ x ∈ l.take (i + 1), vSize x ≠ 0 := by
          rw [List.take_succ_eq_append_getElem h]
          intro x hx
          rcases List.mem_append.1 hx with h1 | h1
          · exact hall.out x h1
          · simp at h1
            rw [h1]
            exact hz
        have Hall2 := Lib.hid hall2
        have HB := Lib.hid (fun W => rbytes_any (x := l[i]) (w := W) hz)
        have Hcat := Lib.hid (vCat_take h)
        have hbl := vBytes_le l[i]
        clear hall2 hall
        generalize vBytes l[i] = bs at *
        generalize vSize l[i] = s at *
        generalize l[i] = x at *
        generalize vCat (l.take i) = cat at *
        go_wp2_with fail
        refine (HS.out _).mono ?_
        rintro e w2 ⟨rfl, rfl⟩
        go_wp2_with fail
        refine (HB.out _).mono ?_
        rintro e w3 ⟨A3, c3, rfl, hown3, hb3⟩
        have z3 := hb3.size
        go_wp2_with (at_builtin; refine wpList_append_sl _ rfl (.tmp 18) (.tmp 23) _ rfl w.heap.size 5 i0 _ 1 1 Try.underlying23 hi0 hz0 hz1 hz2 rfl (by omega) _ cat.length _ rfl (own_below hown hb3 (Nat.le_refl _)) w2.heap.size w3.heap.size A3 bs.length c3 _ rfl (Sl.of_own hown3) (byteCells_one _) (cat.length + bs.length) rfl _ (byteCells_append cat bs).symm (by unfold maxLen; omega) (by omega) (by omega) ?_; intro A4 c4 w4 hown4 hg4)
        go_roundg (l.length - (i + 1))
        case measure => omega
        case rel => exact ⟨i + 1, c4, A4, rfl, by omega, by rw [Hcat.out, List.length_append], by simp, Hall2, by rw [Hcat.out, List.length_append]; exact hown4, (bb.trans (hb3.mono bs1)).grown hg4 (by omega) (fun k hk => (hown.lt k hk).1)⟩
    · obtain rfl : i = l.length := by omega
      have hj : vJoin l = (vCat l, 0) := by
        unfold vJoin
        rw [if_pos]
        have := hall.out
        rwa [List.take_length] at this
      rw [hj]
      rw [List.take_length] at *
      clear hall
      go_wp2
      go_ret2
      exact ⟨A2, c2, rfl, hown, bb⟩
end Go.Proofs.Ytfeeincglijmjaa
