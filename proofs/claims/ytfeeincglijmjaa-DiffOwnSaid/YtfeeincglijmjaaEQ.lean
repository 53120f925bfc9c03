/- The walk of bytes.Equal. -/
import Derived.Test.YtfeeincglijmjaaVG
namespace Go.Proofs.Ytfeeincglijmjaa
open Go.RowKit
set_option linter.unusedVariables false
set_option linter.unusedSimpArgs false
attribute [local go_sem ↓] Go.wp_at_zero Go.wp_at_succ

theorem equal_any {lo up lo2 up2 : Nat} {A A2 : Option Addr} {c c2 : Nat} {l l2 : List UInt8} {w : World} (h : Sl w lo up 1 A l.length c (byteCells l)) (h2 : Sl w lo2 up2 1 A2 l2.length c2 (byteCells l2)) :
    Calls Try.prog 52 #[.slice A l.length c, .slice A2 l2.length c2] w fun e w' => e = .returned (.bool (decide (l = l2))) ∧ w' = w := by
  have q1 := run_string_of h Try.underlying23 Try.underlying5 Try.underlying9
  have q2 := run_string_of h2 Try.underlying23 Try.underlying5 Try.underlying9
  go_enter Try.func52, Try.ntmps52
  go_wp2_with fail
  go_ret
  have e : (l == l2) = decide (l = l2) := by rw [Bool.eq_iff_iff]; simp
  exact ⟨by rw [← e]; rfl, rfl⟩
end Go.Proofs.Ytfeeincglijmjaa
