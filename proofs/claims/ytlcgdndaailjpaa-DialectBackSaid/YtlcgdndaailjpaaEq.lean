/- What '==' says of two structs of this program's. -/
import Derived.Test.YtlcgdndaailjpaaProg
import Derived.Test.YtlcgdndaailjpaaTbl
import Derived.Laws.StructEq
namespace Go.Proofs.Ytlcgdndaailjpaa.Eq_
set_option linter.unusedVariables false
set_option linter.unusedSimpArgs false
open Go.RowKit Q
theorem eqDialect (a b c a' b' c' : Int) (w : World) : (Op.equalIn 10000 23 (.agg #[.int .u8 a, .int .u8 b, .int .i64 c]) (.agg #[.int .u8 a', .int .u8 b', .int .i64 c'])).run Try.prog w = .ok (a == a' && b == b' && c == c') w := by
  have u1 := Try.underlying5
  have u2 := Try.underlying3
  rw [show (10000 : Nat) = 9999 + 1 from rfl, run_equalIn_agg w 9999 23 _ _ (by kernel_rfl) (by kernel_rfl)]
  simp only [Program.fieldsOf, Try.underlying23]
  go_simp
  by_cases h1 : a = a' <;> by_cases h2 : b = b' <;> by_cases h3 : c = c' <;> simp [h1, h2, h3]
theorem eqRDialect (a b c a' b' c' : Int) (w : World) : (Op.equalIn 10000 29 (.agg #[.int .i64 a, .int .i64 b, .int .i64 c]) (.agg #[.int .i64 a', .int .i64 b', .int .i64 c'])).run Try.prog w = .ok (a == a' && b == b' && c == c') w := by
  have u2 := Try.underlying3
  rw [show (10000 : Nat) = 9999 + 1 from rfl, run_equalIn_agg w 9999 29 _ _ (by kernel_rfl) (by kernel_rfl)]
  simp only [Program.fieldsOf, Try.underlying29]
  go_simp
  by_cases h1 : a = a' <;> by_cases h2 : b = b' <;> by_cases h3 : c = c' <;> simp [h1, h2, h3]
end Go.Proofs.Ytlcgdndaailjpaa.Eq_
