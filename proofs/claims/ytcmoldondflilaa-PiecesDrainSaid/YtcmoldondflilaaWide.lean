/- Parse at the widest limits; the joints between the walks' words and the plain ones. -/
import Derived.Test.YtcmoldondflilaaPar
import Derived.Test.YtcmoldondflilaaWPlain3
import Derived.Test.YtcmoldondflilaaNeed
import Derived.Test.YtcmoldondflilaaSame
namespace Go.Proofs.Ytcmoldondflilaa.Wide
set_option linter.unusedVariables false
set_option linter.unusedSimpArgs false
set_option maxRecDepth 100000
open Go.RowKit Q Mach Dia Gram Rdr Par Need
def wide : Lim := ⟨2147483648, 2147483648, 2147483648, false⟩
theorem parse_w (d : Dia) (s : Bs) (hs : s.length ≤ 100000) (w : World) :
    Calls Try.prog 19 #[rdiaV d, .agg #[.int .i64 2147483648, .int .i64 2147483648, .int .i64 2147483648, .int .i64 0], sv s] w (ParseP (parseP d wide s) w) := parse_c w d wide s hs
theorem why_eq (d : Dia) (f : Bs) (a b : Bool) : whyB d f a b = Wr.why d f a b := rfl
theorem eol_eq (d : Dia) : endB d.fin = Wr.eol d := rfl
theorem eol_len (d : Dia) : (Wr.eol d).length ≤ 2 := by unfold Wr.eol; split <;> simp
theorem valid_of_whole {f : Bs} (h : ¬ Utf.wholeP f < f.length) : Utf.valid f = true := by
  rw [← Utf.whole_auto]
  have := (Utf.whole_spec f).1
  omega
def rowBytes' : Row → Nat
  | [] => 0
  | f :: r => f.length + rowBytes' r
/-- Fields, bare, with the delimiter between. -/
def jn (d : Dia) : Bool → Row → Bs
  | _, [] => []
  | fi, f :: r => (if fi then [] else [d.delim]) ++ f ++ jn d false r
theorem jn_append (d : Dia) : ∀ (a b : Row) (fi : Bool), jn d fi (a ++ b) = jn d fi a ++ jn d (fi && a.isEmpty) b
  | [], b, fi => by simp [jn]
  | f :: a, b, fi => by simp [jn, jn_append d a b false]
theorem jn_take (d : Dia) (r : Row) (k : Nat) (h : k < r.length) : jn d true (r.take (k + 1)) = jn d true (r.take k) ++ ((if k == 0 then [] else [d.delim]) ++ r[k]) := by
  rw [List.take_succ_eq_append_getElem h, jn_append]
  have e : (r.take k).isEmpty = (k == 0) := by
    cases k with
    | zero => simp
    | succ k => cases r with
      | nil => simp at h
      | cons => simp
  rw [e, Bool.true_and]
  simp [jn]
theorem jn_len (d : Dia) : ∀ (r : Row) (fi : Bool), (jn d fi r).length ≤ rowBytes' r + r.length
  | [], fi => by simp [jn, rowBytes']
  | f :: r, fi => by
    have := jn_len d r false
    simp only [jn, List.length_append, List.length_cons, rowBytes'] at this ⊢
    split <;> simp <;> omega
theorem row_plain (d : Dia) (al : Bool) : ∀ (r : Row) (fi : Bool), (∀ (i : Nat) (h : i < r.length), Wr.why d r[i] al (fi && i == 0) = 0) → Wr.rowB d al fi r = jn d true r ∧ ∀ f r', r = f :: r' → jn d false r = d.delim :: Wr.rowB d al fi r
  | [], fi, _ => ⟨rfl, by simp⟩
  | [f], fi, h => by
    have h0 := h 0 (by simp)
    simp only [List.getElem_cons_zero, beq_self_eq_true, Bool.and_true] at h0
    simp [Wr.rowB, Wr.writ, h0, jn]
  | f :: g :: r, fi, h => by
    have h0 := h 0 (by simp)
    simp only [List.getElem_cons_zero, beq_self_eq_true, Bool.and_true] at h0
    obtain ⟨h1, h2⟩ := row_plain d al (g :: r) false (fun i hi => by have := h (i + 1) (by simp at hi ⊢; omega); simpa using this)
    have h3 := h2 g r rfl
    have hw : Wr.writ d f al fi = f := by simp [Wr.writ, h0]
    refine ⟨?_, ?_⟩
    · rw [Wr.rowB, hw, jn, h3]
      simp
    · intro f' r' _
      rw [Wr.rowB, hw, jn, h3]
      simp
end Go.Proofs.Ytcmoldondflilaa.Wide
