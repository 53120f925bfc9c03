/- The walks of the document's Same. -/
import Derived.Test.YthcnahcnboalbaaA
import Derived.Deep.LoopGhost
import Derived.Deep.QuietTactic
namespace Go.Proofs.Ythcnahcnboalbaa
open Go.RowKit
set_option linter.unusedVariables false
set_option linter.unusedSimpArgs false
attribute [local go_sem ↓] Go.wp_at_zero Go.wp_at_succ

/-- The cells of numbers. -/
def intCells (l : List Int) : List Value := l.map fun x => .int .i64 x
theorem intCells_length (l : List Int) : (intCells l).length = l.length := by simp [intCells]
theorem intCells_append (l m : List Int) : intCells (l ++ m) = intCells l ++ intCells m := by simp [intCells]
theorem intCells_one (l : List Int) : ∀ u ∈ intCells l, u.oneCell' = true := by
  intro u hu
  simp only [intCells, List.mem_map] at hu
  obtain ⟨b, _, rfl⟩ := hu
  rfl
theorem intCells_at {l : List Int} {j : Nat} (h : j < l.length) : (intCells l)[j]? = some (.int .i64 l[j]) := by
  simp [intCells, List.getElem?_eq_getElem h]
theorem sli_cell {w : World} {lo up n c : Nat} {A : Option Addr} {l : List Int} (hr : Sl w lo up 1 A n c (intCells l)) (hn : 0 < n) :
    ∃ g o, A = some ⟨g, o, none⟩ ∧ ∀ j (h : j < l.length), w.cell? ⟨g, o + j, none⟩ = some (.int .i64 l[j]) := by
  obtain ⟨g, o, rfl, _, _, hc⟩ := hr.at_ hn
  exact ⟨g, o, rfl, fun j h => by rw [hc j (by rw [intCells_length]; exact h), intCells_at h]⟩

theorem same_yes {lo up lo2 up2 : Nat} {A A2 : Option Addr} {n c n2 c2 : Nat} {l : List Int} {w : World} (hr : Sl w lo up 1 A n c (intCells l)) (hr2 : Sl w lo2 up2 1 A2 n2 c2 (intCells l)) (hn : n ≤ 140737488355328) :
    Calls Try.prog 22 #[.slice A n c, .slice A2 n2 c2] w fun e w' => e = .returned (.bool true) ∧ Below w.heap.size w w' := by
  have hl : n = l.length := by have := hr.len; rw [intCells_length] at this; omega
  have hl2 : n2 = l.length := by have := hr2.len; rw [intCells_length] at this; omega
  subst hl hl2
  rcases Nat.eq_zero_or_pos l.length with h0 | h0
  · rw [h0]
    clear hr hr2
    go_enter Try.func22, Try.ntmps22
    go_wp2
    go_rounds 2
    go_ret
    exact ⟨rfl, Below.refl _ _⟩
  · obtain ⟨g, o, rfl, hc⟩ := sli_cell hr h0
    obtain ⟨g2, o2, rfl, hc2⟩ := sli_cell hr2 h0
    have HC := Lib.hid hc
    have HC2 := Lib.hid hc2
    clear hr hr2 hc hc2
    go_enter Try.func22, Try.ntmps22
    go_wp2
    go_loopg [5] l.length (fun gh s5 wr => ∃ i : Nat, gh = l.length - i ∧ i ≤ l.length ∧ s5 = .int .i64 i ∧ ∃ m, wr = w.drewN m)
    case atStart => exact ⟨0, by omega, by omega, rfl, 0, rfl⟩
    case round =>
      obtain ⟨i, hg, hi, rfl, m, rfl⟩ := hrel
      by_cases h : i < l.length
      · have k1 := HC.out i h
        have k2 := HC2.out i h
        have a1 := addr_add g o i
        have a2 := addr_add g2 o2 i
        generalize l[i] = x at k1 k2
        go_wp2_with fail
        go_quiet (skip)
        go_wp2
        go_roundg (l.length - (i + 1))
        case measure => omega
        case rel => exact ⟨i + 1, rfl, by omega, by simp, m + nq, rfl⟩
      · obtain rfl : i = l.length := by omega
        go_wp2
        go_ret
        exact ⟨rfl, ⟨rfl, rfl, rfl, Nat.le_refl _, fun _ _ => rfl⟩⟩

theorem info3 : (Try.prog.info? 3).map (fun i => (i.zero, i.size, i.bytes)) = some (some (.int .i64 0), 1, 8) := by kernel_rfl
end Go.Proofs.Ythcnahcnboalbaa
