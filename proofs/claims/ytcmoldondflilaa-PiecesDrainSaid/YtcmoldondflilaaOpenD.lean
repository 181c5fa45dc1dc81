/- Dialects and limits as arguments, opened. -/
import Derived.Test.YtcmoldondflilaaOpen
namespace Go.Proofs.Ytcmoldondflilaa.Q
set_option linter.unusedVariables false
set_option linter.unusedSimpArgs false
set_option maxRecDepth 100000
open Go.RowKit Go.ChangeShapes Go.WideShapes Go.Joins Go.Deep
section
variable {H : Type} {enc : TypeId × Value → H} {P : Program} {w : World} {base : Nat} {spare : Nat → Bool} {held : Bool} {r : Reach} {b0 : Nat} {t : TypeId} {f0 f1 f2 f3 : Field} {v : Value} {d : DataW H} {p : List MemPlace}
theorem Trod_dialect (hs : P.underlying t = some (.struct #[f0, f1, f2])) (hone : oneCellFields P #[f0, f1, f2] = true) (hC : P.cellsOf t = 3) (h0 : P.underlying f0.type = some (.int .u8)) (h1 : P.underlying f1.type = some (.int .u8)) (h2 : P.underlying f2.type = some (.int .i64))
    (hv : Value.okWide P w r b0 t v) (h : DataW.Trod enc P w base spare held t v d p) :
    ∃ (x y : UInt8) (z : Int), v = .agg #[bv x, bv y, .int .i64 z] ∧ -9223372036854775808 ≤ z ∧ z ≤ 9223372036854775807 := by
  obtain ⟨v0, v1, v2, y0, y1, y2, n, rfl, _, _, k0, k1, k2⟩ := Go.Joins.open_agg3 hs hone hC hv h
  obtain ⟨a, hc0, _, e0⟩ := DataW.trod_int h0 k0
  obtain ⟨b, hc1, _, e1⟩ := DataW.trod_int h1 k1
  obtain ⟨c, hc2, _, e2⟩ := DataW.trod_int h2 k2
  simp at hc0 hc1 hc2
  subst hc0 hc1 hc2
  obtain ⟨x, rfl⟩ := byte_wf e0
  obtain ⟨y, rfl⟩ := byte_wf e1
  exact ⟨x, y, c, rfl, i64_wf e2⟩
theorem Trod_limits (hs : P.underlying t = some (.struct #[f0, f1, f2, f3])) (hone : oneCellFields P #[f0, f1, f2, f3] = true) (hC : P.cellsOf t = 4) (h0 : P.underlying f0.type = some (.int .i64)) (h1 : P.underlying f1.type = some (.int .i64)) (h2 : P.underlying f2.type = some (.int .i64)) (h3 : P.underlying f3.type = some .bool)
    (hv : Value.okWide P w r b0 t v) (h : DataW.Trod enc P w base spare held t v d p) :
    ∃ (a b c : Int) (u : Bool), v = .agg #[.int .i64 a, .int .i64 b, .int .i64 c, .bool u] ∧ (-9223372036854775808 ≤ a ∧ a ≤ 9223372036854775807) ∧ (-9223372036854775808 ≤ b ∧ b ≤ 9223372036854775807) ∧ -9223372036854775808 ≤ c ∧ c ≤ 9223372036854775807 := by
  obtain ⟨v0, v1, v2, v3, y0, y1, y2, y3, n, rfl, _, _, k0, k1, k2, k3⟩ := Go.Joins.open_agg4 hs hone hC hv h
  obtain ⟨a, hc0, _, e0⟩ := DataW.trod_int h0 k0
  obtain ⟨b, hc1, _, e1⟩ := DataW.trod_int h1 k1
  obtain ⟨c, hc2, _, e2⟩ := DataW.trod_int h2 k2
  obtain ⟨u, hc3, _⟩ := DataW.trod_bool h3 k3
  simp at hc0 hc1 hc2 hc3
  subst hc0 hc1 hc2 hc3
  exact ⟨a, b, c, u, rfl, i64_wf e0, i64_wf e1, i64_wf e2⟩
end
end Go.Proofs.Ytcmoldondflilaa.Q
