/- What '==' says of two structs of this program's. -/
import Derived.Test.YtogmcfljojobfaaProg
import Derived.Test.YtogmcfljojobfaaTbl
import Derived.Laws.StructEq
namespace Go.Proofs.Ytogmcfljojobfaa.Eq_
set_option linter.unusedVariables false
set_option linter.unusedSimpArgs false
open Go.RowKit Q
theorem eqDialect (a b c a' b' c' : Int) (w : World) : (Op.equalIn 10000 54 (.agg #[.int .u8 a, .int .u8 b, .int .i64 c]) (.agg #[.int .u8 a', .int .u8 b', .int .i64 c'])).run Try.prog w = .ok (a == a' && b == b' && c == c') w := by
  have u1 := Try.underlying5
  have u2 := Try.underlying3
  rw [show (10000 : Nat) = 9999 + 1 from rfl, run_equalIn_agg w 9999 54 _ _ (by kernel_rfl) (by kernel_rfl)]
  simp only [Program.fieldsOf, Try.underlying54]
  go_simp
  by_cases h1 : a = a' <;> by_cases h2 : b = b' <;> by_cases h3 : c = c' <;> simp [h1, h2, h3]
theorem eqRDialect (a b c a' b' c' : Int) (w : World) : (Op.equalIn 10000 57 (.agg #[.int .i64 a, .int .i64 b, .int .i64 c]) (.agg #[.int .i64 a', .int .i64 b', .int .i64 c'])).run Try.prog w = .ok (a == a' && b == b' && c == c') w := by
  have u2 := Try.underlying3
  rw [show (10000 : Nat) = 9999 + 1 from rfl, run_equalIn_agg w 9999 57 _ _ (by kernel_rfl) (by kernel_rfl)]
  simp only [Program.fieldsOf, Try.underlying57]
  go_simp
  by_cases h1 : a = a' <;> by_cases h2 : b = b' <;> by_cases h3 : c = c' <;> simp [h1, h2, h3]
theorem eqFault (a b a' b' : Int) (w : World) : (Op.equalIn 10000 70 (.agg #[.int .i64 a, .int .i64 b]) (.agg #[.int .i64 a', .int .i64 b'])).run Try.prog w = .ok (a == a' && b == b') w := by
  have u1 := Try.underlying26
  have u2 := Try.underlying3
  rw [show (10000 : Nat) = 9999 + 1 from rfl, run_equalIn_agg w 9999 70 _ _ (by kernel_rfl) (by kernel_rfl)]
  simp only [Program.fieldsOf, Try.underlying70]
  go_simp
  by_cases h1 : a = a' <;> by_cases h2 : b = b' <;> simp [h1, h2]
theorem eqEvent (a b c d e a' b' c' d' e' : Bool) (f f' : Int) (w : World) : (Op.equalIn 10000 38 (.agg #[.bool a, .bool b, .bool c, .bool d, .bool e, .int .u8 f]) (.agg #[.bool a', .bool b', .bool c', .bool d', .bool e', .int .u8 f'])).run Try.prog w = .ok (a == a' && b == b' && c == c' && d == d' && e == e' && f == f') w := by
  have u1 := Try.underlying5
  have u2 := Try.underlying4
  rw [show (10000 : Nat) = 9999 + 1 from rfl, run_equalIn_agg w 9999 38 _ _ (by kernel_rfl) (by kernel_rfl)]
  simp only [Program.fieldsOf, Try.underlying38]
  go_simp
  by_cases h1 : a = a' <;> by_cases h2 : b = b' <;> by_cases h3 : c = c' <;> by_cases h4 : d = d' <;> by_cases h5 : e = e' <;> by_cases h6 : f = f' <;> simp [h1, h2, h3, h4, h5, h6]
theorem eqREvent (a b c d e f a' b' c' d' e' f' : Int) (w : World) : (Op.equalIn 10000 44 (.agg #[.int .i64 a, .int .i64 b, .int .i64 c, .int .i64 d, .int .i64 e, .int .i64 f]) (.agg #[.int .i64 a', .int .i64 b', .int .i64 c', .int .i64 d', .int .i64 e', .int .i64 f'])).run Try.prog w = .ok (a == a' && b == b' && c == c' && d == d' && e == e' && f == f') w := by
  have u2 := Try.underlying3
  rw [show (10000 : Nat) = 9999 + 1 from rfl, run_equalIn_agg w 9999 44 _ _ (by kernel_rfl) (by kernel_rfl)]
  simp only [Program.fieldsOf, Try.underlying44]
  go_simp
  by_cases h1 : a = a' <;> by_cases h2 : b = b' <;> by_cases h3 : c = c' <;> by_cases h4 : d = d' <;> by_cases h5 : e = e' <;> by_cases h6 : f = f' <;> simp [h1, h2, h3, h4, h5, h6]
end Go.Proofs.Ytogmcfljojobfaa.Eq_
