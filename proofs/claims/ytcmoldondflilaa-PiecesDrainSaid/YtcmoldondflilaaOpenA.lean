/- A pair of bytes (an array) as an argument, opened. -/
import Derived.Test.YtcmoldondflilaaProg
import Derived.Test.YtcmoldondflilaaOpenD
import Derived.Laws.IdiomArrays
import Derived.OpenShut
namespace Go.Proofs.Ytcmoldondflilaa.Q
set_option linter.unusedVariables false
set_option linter.unusedSimpArgs false
set_option maxRecDepth 100000
open Go.RowKit Go.ChangeShapes Go.WideShapes Go.Joins Go.Deep
section
variable {H : Type} {enc : TypeId × Value → H} {w : World} {base : Nat} {spare : Nat → Bool} {held : Bool} {r : Reach} {b0 : Nat} {v : Value} {d : DataW H} {p : List MemPlace}
theorem Trod_pair (hv : Value.okWide Try.prog w r b0 74 v) (h : DataW.Trod enc Try.prog w base spare held 74 v d p) : ∃ x y : UInt8, v = .agg #[bv x, bv y] := by
  have ht : Try.prog.underlying 74 = some (.array 2 5) := Try.underlying74
  simp only [Value.okWide, ht] at hv
  obtain ⟨cs, rfl, hsz, _⟩ := hv
  have hC : Try.prog.cellsOf 74 = 2 := by kernel_rfl
  have hE : Try.prog.cellsOf 5 = 1 := by kernel_rfl
  obtain ⟨c0, c1, rfl⟩ := array2 (hsz.trans hC)
  obtain ⟨fuel, hf⟩ := h
  obtain ⟨xs, m, rfl, _, _, hl, hi⟩ := Go.DataW.trod_array ht hf
  have h0 := hi 0 (by omega)
  have h1 := hi 1 (by omega)
  rw [hE] at h0 h1
  match xs, hl with
  | [y0, y1], _ =>
    simp [Value.cells] at h0 h1
    obtain ⟨a, q0, _, e0⟩ := DataW.trod_int Try.underlying5 h0
    obtain ⟨b, q1, _, e1⟩ := DataW.trod_int Try.underlying5 h1
    simp at q0 q1
    subst q0 q1
    obtain ⟨x, rfl⟩ := byte_wf e0
    obtain ⟨y, rfl⟩ := byte_wf e1
    exact ⟨x, y, rfl⟩
end
end Go.Proofs.Ytcmoldondflilaa.Q
