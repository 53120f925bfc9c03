/- Words on slices of ranges. -/
import Derived.Test.YtgebebdapfnmpaaProg
import Derived.Test.YtgebebdapfnmpaaLib
import Derived.Deep.RegionHeld3
import Derived.Deep.DrawnRows
import Derived.Deep.LoopGhost
import Derived.Deep.QuietTactic
import Derived.RegionTactic
import Derived.ChangeAlike
import Derived.BigRegion
import Derived.Handy
namespace Go.Proofs.Ytgebebdapfnmpaa
open Go.RowKit
set_option linter.unusedVariables false
set_option linter.unusedSimpArgs false
attribute [local go_sem ↓] Go.wp_at_zero Go.wp_at_succ

/-- The cells of ranges. -/
def rCells : List (Int × Int) → List Value
  | [] => []
  | p :: l => .int .i64 p.1 :: .int .i64 p.2 :: rCells l
theorem rCells_length : ∀ l : List (Int × Int), (rCells l).length = l.length * 2
  | [] => rfl
  | p :: l => by simp [rCells, rCells_length l, Nat.add_mul]
theorem rCells_append : ∀ l m : List (Int × Int), rCells (l ++ m) = rCells l ++ rCells m
  | [], m => rfl
  | p :: l, m => by simp [rCells, rCells_append l m]
theorem rCells_one : ∀ l : List (Int × Int), ∀ u ∈ rCells l, u.oneCell' = true
  | [], u, h => by simp [rCells] at h
  | p :: l, u, h => by
    simp only [rCells, List.mem_cons] at h
    rcases h with rfl | rfl | h
    · rfl
    · rfl
    · exact rCells_one l u h
theorem rCells_at : ∀ (l : List (Int × Int)) (j : Nat) (h : j < l.length), (rCells l)[j * 2]? = some (.int .i64 l[j].1) ∧ (rCells l)[j * 2 + 1]? = some (.int .i64 l[j].2)
  | [], j, h => absurd h (by simp)
  | p :: l, 0, h => by simp [rCells]
  | p :: l, j + 1, h => by
    have := rCells_at l j (by simpa using h)
    rw [show (j + 1) * 2 = j * 2 + 2 from by omega]
    simpa [rCells] using this
/-- The cells of a slice of ranges. -/
theorem slr_cell {w : World} {lo up n c : Nat} {A : Option Addr} {l : List (Int × Int)} (hr : Sl w lo up 2 A n c (rCells l)) (hn : 0 < n) :
    ∃ g o, A = some ⟨g, o, none⟩ ∧ g < up ∧ ∀ j (h : j < l.length), w.cell? ⟨g, o + j * 2, none⟩ = some (.int .i64 l[j].1) ∧ w.cell? ⟨g, o + j * 2 + 1, none⟩ = some (.int .i64 l[j].2) := by
  obtain ⟨g, o, rfl, _, hb, hc⟩ := hr.at_ hn
  refine ⟨g, o, rfl, hb, fun j h => ?_⟩
  have hl := rCells_length l
  have := rCells_at l j h
  rw [hc (j * 2) (by omega), show o + j * 2 + 1 = o + (j * 2 + 1) from by omega, hc (j * 2 + 1) (by omega)]
  exact this

/-- What a range may not be, behind the one ahead. -/
def rBad (ahead : Option (Int × Int)) (r : Int × Int) : Prop := r.1 < 0 ∨ r.2 < r.1 ∨ 4611686018427387903 < r.2 ∨ ∃ q, ahead = some q ∧ q.1 - 1 ≤ r.2
/-- Ranges each of which may be. -/
def rGood (l : List (Int × Int)) : Prop := ∀ i (h : i < l.length), ¬ rBad (if i = 0 then none else l[i - 1]?) l[i]

end Go.Proofs.Ytgebebdapfnmpaa
