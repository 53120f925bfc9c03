/- The walks of the document's Add, of both Of. -/
import Derived.Test.YtgckedeaoglehaaJ
import Derived.Test.YtgckedeaoglehaaK
namespace Go.Proofs.Ytgckedeaoglehaa
open Go.RowKit
set_option linter.unusedVariables false
set_option linter.unusedSimpArgs false
attribute [local go_sem ↓] Go.wp_at_zero Go.wp_at_succ

theorem radd_any {lo up : Nat} {A : Option Addr} {n c : Nat} {l : List (Int × Int)} {x : Int} {w : World} (hr : Sl w lo up 2 A n c (rCells l)) (hup : up ≤ w.heap.size) (hn : n ≤ 1000) (hl : rWf l) (hx : -9223372036854775808 ≤ x ∧ x ≤ 9223372036854775807) :
    Calls Try.prog 11 #[.slice A n c, .int .i64 x] w (RetR w (rAdd l x)) := by
  by_cases hk : rOk l = true
  · exact radd_ok hr hup hn hk hx
  · have HC := Lib.hid (rcheck_fits hn hl w hr hup)
    have hk2 : rOk l = false := by simpa using hk
    rw [hk2] at HC
    have hq : rAdd l x = rAdd [] x := by
      unfold rAdd
      rw [show rOf l = rOf [] from by rw [show rOf l = [] from if_neg hk]; rfl]
    rw [hq]
    have HA := Lib.hid (fun W => radd_ok (w := W) (Sl.empty W 0 0 2) (Nat.zero_le _) (by omega) (show rOk [] = true from rfl) hx)
    generalize rAdd [] x = F at *
    clear hk hk2 hq hl hr
    go_enter Try.func11, Try.ntmps11
    go_wp2_with fail
    refine HC.out.mono ?_
    rintro e w1 ⟨rfl, hb⟩
    go_wp2_with fail
    refine (HA.out _).mono ?_
    rintro e w2 ⟨A2, c2, rfl, hown, hb2⟩
    go_wp2
    go_ret
    exact ⟨A2, c2, rfl, own_more hown hb.size, hb.trans (hb2.mono hb.size)⟩

/-- The cells of numbers. -/
def intCells (l : List Int) : List Value := l.map fun x => .int .i64 x
theorem intCells_length (l : List Int) : (intCells l).length = l.length := by simp [intCells]
theorem intCells_append (l m : List Int) : intCells (l ++ m) = intCells l ++ intCells m := by simp [intCells]
theorem intCells_one (l : List Int) : ∀ u ∈ intCells l, u.oneCell' = true := by
  intro u hu
  simp only [intCells, List.mem_map] at hu
  obtain ⟨b, _, rfl⟩ := hu
  rfl
theorem intCells_at {l : List Int} {j : Nat} (h : j < l.length) : (intCells l)[j]? = some (.int .i64 l[j]) := by
  simp [intCells, List.getElem?_eq_getElem h]
theorem sli_cell {w : World} {lo up n c : Nat} {A : Option Addr} {l : List Int} (hr : Sl w lo up 1 A n c (intCells l)) (hn : 0 < n) :
    ∃ g o, A = some ⟨g, o, none⟩ ∧ g < up ∧ ∀ j (h : j < l.length), w.cell? ⟨g, o + j, none⟩ = some (.int .i64 l[j]) := by
  obtain ⟨g, o, rfl, _, hb, hc⟩ := hr.at_ hn
  exact ⟨g, o, rfl, hb, fun j h => by rw [hc j (by rw [intCells_length]; exact h), intCells_at h]⟩
/-- Numbers that are Go's. -/
def iWf (l : List Int) : Prop := ∀ x ∈ l, -9223372036854775808 ≤ x ∧ x ≤ 9223372036854775807

theorem rOfs_take {l : List Int} {i : Nat} (h : i < l.length) : rOfs (l.take (i + 1)) = rAdd (rOfs (l.take i)) l[i] := by
  rw [List.take_succ_eq_append_getElem h, rOfs_snoc]
theorem rOfs_len (l : List Int) : (rOfs l).length ≤ 16 := (rOk_desc (rOfs_ok l)).2
theorem rOfs_wf (l : List Int) : rWf (rOfs l) := rWf_desc (rOk_desc (rOfs_ok l)).1

set_option maxHeartbeats 1000000 in
theorem ofs_any {lo up : Nat} {A : Option Addr} {n c : Nat} {l : List Int} {w : World} (hr : Sl w lo up 1 A n c (intCells l)) (hup : up ≤ w.heap.size) (hn : n ≤ 1000) (hl : iWf l) :
    Calls Try.prog 18 #[.slice A n c] w (RetR w (rOfs l)) := by
  have hlen : n = l.length := by have := hr.len; rw [intCells_length] at this; omega
  subst hlen
  have HR := Lib.hid hr
  have HL := Lib.hid hl
  clear hr hl
  go_enter Try.func18, Try.ntmps18
  go_wp2_with fail
  go_loopg [2, 7] l.length (fun gh s2 s7 wr => ∃ (i : Nat) (A2 : Option Addr) (c2 : Nat), gh = l.length - i ∧ i ≤ l.length ∧ s7 = .int .i64 i ∧ s2 = .slice A2 (rOfs (l.take i)).length c2 ∧
    wr.ownsRow w.heap.size 34 2 (.slice A2 (rOfs (l.take i)).length c2) (rOfs (l.take i)).length (rCells (rOfs (l.take i))) ∧ Below w.heap.size w wr)
  case atStart => exact ⟨0, none, 0, by omega, by omega, rfl, rfl, World.ownsRow_nil _ _ _ _, Below.refl _ _⟩
  case round =>
    obtain ⟨i, A2, c2, hg, hi, rfl, rfl, hown, bb⟩ := hrel
    have z1 := bb.size
    by_cases h : i < l.length
    · obtain ⟨g, o, rfl, _, hc⟩ := sli_cell (HR.out.below bb hup) (by omega)
      have k1 := hc i h
      have a1 := addr_add g o i
      have HA := Lib.hid (add_any (Sl.of_own hown) (Nat.le_refl _) (by have := rOfs_len (l.take i); omega) (rOfs_wf _) (HL.out l[i] (List.getElem_mem h)))
      rw [← rOfs_take h] at HA
      clear hc
      generalize l[i] = x at *
      generalize rOfs (l.take i) = M at *
      go_wp2_with fail
      refine HA.out.mono ?_
      rintro e w1 ⟨A3, c3, rfl, hown3, hb3⟩
      go_wp2
      go_roundg (l.length - (i + 1))
      case measure => omega
      case rel => exact ⟨i + 1, A3, c3, rfl, by omega, by simp, rfl, own_more hown3 z1, bb.trans (hb3.mono z1)⟩
    · obtain rfl : i = l.length := by omega
      rw [List.take_length] at *
      generalize rOfs l = M at *
      go_wp2
      go_ret
      exact ⟨A2, c2, rfl, hown, bb⟩

set_option maxHeartbeats 1000000 in
theorem rofs_any {lo up : Nat} {A : Option Addr} {n c : Nat} {l : List Int} {w : World} (hr : Sl w lo up 1 A n c (intCells l)) (hup : up ≤ w.heap.size) (hn : n ≤ 1000) (hl : iWf l) :
    Calls Try.prog 19 #[.slice A n c] w (RetR w (rOfs l)) := by
  have hlen : n = l.length := by have := hr.len; rw [intCells_length] at this; omega
  subst hlen
  have HR := Lib.hid hr
  have HL := Lib.hid hl
  clear hr hl
  go_enter Try.func19, Try.ntmps19
  go_wp2_with fail
  go_loopg [3, 4] l.length (fun gh s2 s7 wr => ∃ (i : Nat) (A2 : Option Addr) (c2 : Nat), gh = l.length - i ∧ i ≤ l.length ∧ s7 = .int .i64 i ∧ s2 = .slice A2 (rOfs (l.take i)).length c2 ∧
    wr.ownsRow w.heap.size 34 2 (.slice A2 (rOfs (l.take i)).length c2) (rOfs (l.take i)).length (rCells (rOfs (l.take i))) ∧ Below w.heap.size w wr)
  case atStart => exact ⟨0, none, 0, by omega, by omega, rfl, rfl, World.ownsRow_nil _ _ _ _, Below.refl _ _⟩
  case round =>
    obtain ⟨i, A2, c2, hg, hi, rfl, rfl, hown, bb⟩ := hrel
    have z1 := bb.size
    by_cases h : i < l.length
    · obtain ⟨g, o, rfl, _, hc⟩ := sli_cell (HR.out.below bb hup) (by omega)
      have k1 := hc i h
      have a1 := addr_add g o i
      have HA := Lib.hid (radd_any (Sl.of_own hown) (Nat.le_refl _) (by have := rOfs_len (l.take i); omega) (rOfs_wf _) (HL.out l[i] (List.getElem_mem h)))
      rw [← rOfs_take h] at HA
      clear hc
      generalize l[i] = x at *
      generalize rOfs (l.take i) = M at *
      go_wp2_with fail
      refine HA.out.mono ?_
      rintro e w1 ⟨A3, c3, rfl, hown3, hb3⟩
      go_wp2
      go_roundg (l.length - (i + 1))
      case measure => omega
      case rel => exact ⟨i + 1, A3, c3, rfl, by omega, by simp, rfl, own_more hown3 z1, bb.trans (hb3.mono z1)⟩
    · obtain rfl : i = l.length := by omega
      rw [List.take_length] at *
      generalize rOfs l = M at *
      go_wp2
      go_ret
      exact ⟨A2, c2, rfl, hown, bb⟩
end Go.Proofs.Ytgckedeaoglehaa
