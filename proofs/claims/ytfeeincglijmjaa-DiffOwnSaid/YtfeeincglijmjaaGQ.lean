/- Two rows of three numbers, compared. -/
import Derived.Test.YtfeeincglijmjaaGF
import Derived.Laws.StructEq
namespace Go.Proofs.Ytfeeincglijmjaa
open Go.RowKit
set_option linter.unusedVariables false
set_option linter.unusedSimpArgs false

theorem eq_in33 (a b c a2 b2 c2 : Int) (w : World) :
    (Op.equalIn 10000 33 (.agg #[.int .i64 a, .int .i64 b, .int .i64 c]) (.agg #[.int .i64 a2, .int .i64 b2, .int .i64 c2])).run Try.prog w = .ok (a == a2 && b == b2 && c == c2) w := by
  have u3 := Try.underlying3
  have a3 := Try.isAgg3
  have z3 := Try.sizeOf3
  rw [show (10000 : Nat) = 9999 + 1 from rfl, Op.equalIn]
  simp only [Sem.run_bind, run_underlying Try.underlying33, Result.andThen_ok]
  simp only [Std.Legacy.Range.forIn_eq_forIn_range', Std.Legacy.Range.size, Nat.sub_zero, Nat.add_sub_cancel, Nat.div_one, List.range'_succ, List.range'_zero, List.forIn_cons, List.forIn_nil]
  go_simp
  by_cases h1 : a = a2 <;> by_cases h2 : b = b2 <;> by_cases h3 : c = c2 <;> simp [h1, h2, h3]
end Go.Proofs.Ytfeeincglijmjaa
