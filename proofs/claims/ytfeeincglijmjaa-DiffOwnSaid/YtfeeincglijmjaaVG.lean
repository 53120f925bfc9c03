/- The walks of the document's Same. -/
import Derived.Test.YtfeeincglijmjaaVA
import Derived.Deep.LoopGhost
import Derived.Deep.QuietTactic
namespace Go.Proofs.Ytfeeincglijmjaa
open Go.RowKit
set_option linter.unusedVariables false
set_option linter.unusedSimpArgs false
attribute [local go_sem ↓] Go.wp_at_zero Go.wp_at_succ

/-- The cells of numbers. -/
def intCells (l : List Int) : List Value := l.map fun x => .int .i64 x
theorem intCells_length (l : List Int) : (intCells l).length = l.length := by simp [intCells]
theorem intCells_append (l m : List Int) : intCells (l ++ m) = intCells l ++ intCells m := by simp [intCells]
theorem intCells_one (l : List Int) : ∀ u ∈ intCells l, u.oneCell' = true := by
  intro u hu
  simp only [intCells, List.mem_map] at hu
  obtain ⟨b, _, rfl⟩ := hu
  rfl
theorem intCells_at {l : List Int} {j : Nat} (h : j < l.length) : (intCells l)[j]? = some (.int .i64 l[j]) := by
  simp [intCells, List.getElem?_eq_getElem h]
theorem sli_cell {w : World} {lo up n c : Nat} {A : Option Addr} {l : List Int} (hr : Sl w lo up 1 A n c (intCells l)) (hn : 0 < n) :
    ∃ g o, A = some ⟨g, o, none⟩ ∧ ∀ j (h : j < l.length), w.cell? ⟨g, o + j, none⟩ = some (.int .i64 l[j]) := by
  obtain ⟨g, o, rfl, _, _, hc⟩ := hr.at_ hn
  exact ⟨g, o, rfl, fun j h => by rw [hc j (by rw [intCells_length]; exact h), intCells_at h]⟩
theorem info3 : (Try.prog.info? 3).map (fun i => (i.zero, i.size, i.bytes)) = some (some (.int .i64 0), 1, 8) := by kernel_rfl
end Go.Proofs.Ytfeeincglijmjaa
