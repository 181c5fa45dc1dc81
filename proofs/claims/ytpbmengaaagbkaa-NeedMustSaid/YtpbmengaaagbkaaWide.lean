/- Parse at the widest limits; the joints between the walks' words and the plain ones. -/
import Derived.Test.YtpbmengaaagbkaaPar
import Derived.Test.YtpbmengaaagbkaaWPlain3
import Derived.Test.YtpbmengaaagbkaaNeed
import Derived.Test.YtpbmengaaagbkaaSame
namespace Go.Proofs.Ytpbmengaaagbkaa.Wide
set_option linter.unusedVariables false
set_option linter.unusedSimpArgs false
open Go.RowKit Q Mach Dia Gram Rdr Par Need
def wide : Lim := ⟨2147483648, 2147483648, 2147483648, false⟩
theorem parse_w (d : Dia) (s : Bs) (hs : s.length ≤ 100000) (w : World) :
    Calls Try.prog 21 #[rdiaV d, .agg #[.int .i64 2147483648, .int .i64 2147483648, .int .i64 2147483648, .int .i64 0], sv s] w (ParseP (parseP d wide s) w) := parse_c w d wide s hs
theorem why_eq (d : Dia) (f : Bs) (a b : Bool) : whyB d f a b = Wr.why d f a b := rfl
theorem eol_eq (d : Dia) : endB d.fin = Wr.eol d := rfl
theorem eol_len (d : Dia) : (Wr.eol d).length ≤ 2 := by unfold Wr.eol; split <;> simp
theorem valid_of_whole {f : Bs} (h : ¬ Utf.wholeP f < f.length) : Utf.valid f = true := by
  rw [← Utf.whole_auto]
  have := (Utf.whole_spec f).1
  omega
end Go.Proofs.Ytpbmengaaagbkaa.Wide
