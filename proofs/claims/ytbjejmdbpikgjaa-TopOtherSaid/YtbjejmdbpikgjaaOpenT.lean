/- Ways and deals as arguments, opened. -/
import Derived.Test.YtbjejmdbpikgjaaProg
import Derived.Test.YtbjejmdbpikgjaaOpenD
import Derived.Test.YtbjejmdbpikgjaaTbl
namespace Go.Proofs.Ytbjejmdbpikgjaa.Q
set_option linter.unusedVariables false
set_option linter.unusedSimpArgs false
set_option maxRecDepth 100000
open Go.RowKit Go.ChangeShapes Go.WideShapes Go.Joins Go.Deep
section
variable {H : Type} {enc : TypeId × Value → H} {w : World} {base : Nat} {spare : Nat → Bool} {held : Bool} {r : Reach} {b0 : Nat} {v : Value} {d : DataW H} {p : List MemPlace}
theorem Trod_way (hv : Value.okWide Try.prog w r b0 27 v) (h : DataW.Trod enc Try.prog w base spare held 27 v d p) :
    ∃ (x y : UInt8) (z a b c : Int) (u : Bool), v = .agg #[bv x, bv y, .int .i64 z, .int .i64 a, .int .i64 b, .int .i64 c, .bool u] := by
  obtain ⟨cs, rfl, hsz⟩ := okWide_struct Try.underlying27 hv
  have hsz : cs.size = 7 := hsz.trans (by kernel_rfl)
  obtain ⟨cl⟩ := cs
  have hsz : cl.length = 7 := by simpa using hsz
  obtain ⟨c0, c1, c2, c3, c4, c5, c6, rfl⟩ : ∃ c0 c1 c2 c3 c4 c5 c6, cl = [c0, c1, c2, c3, c4, c5, c6] := by
    match cl, hsz with
    | [c0, c1, c2, c3, c4, c5, c6], _ => exact ⟨c0, c1, c2, c3, c4, c5, c6, rfl⟩
  obtain ⟨fuel, hf⟩ := h
  obtain ⟨y0, y1, n, hx, _, h0, h1⟩ := trod_struct2 Try.underlying27 hf
  have eD : Try.prog.cellsOf 23 = 3 := by kernel_rfl
  have eL : Try.prog.cellsOf 25 = 4 := by kernel_rfl
  have eU : Try.prog.cellsOf 5 = 1 := by kernel_rfl
  have eI : Try.prog.cellsOf 3 = 1 := by kernel_rfl
  have eB : Try.prog.cellsOf 4 = 1 := by kernel_rfl
  simp only [Value.cells, eD, eL] at h0 h1
  simp at h0 h1
  obtain ⟨z0, z1, z2, n1, _, _, k0, k1, k2⟩ := trod_struct3 Try.underlying23 h0
  obtain ⟨q0, q1, q2, q3, n2, _, _, l0, l1, l2, l3⟩ := trod_struct4 Try.underlying25 h1
  simp only [eU, eI, eB] at k0 k1 k2 l0 l1 l2 l3
  simp at k0 k1 k2 l0 l1 l2 l3
  obtain ⟨a0, hc0, _, e0⟩ := DataW.trod_int Try.underlying5 k0
  obtain ⟨a1, hc1, _, e1⟩ := DataW.trod_int Try.underlying5 k1
  obtain ⟨a2, hc2, _, e2⟩ := DataW.trod_int Try.underlying3 k2
  obtain ⟨a3, hc3, _, e3⟩ := DataW.trod_int Try.underlying3 l0
  obtain ⟨a4, hc4, _, e4⟩ := DataW.trod_int Try.underlying3 l1
  obtain ⟨a5, hc5, _, e5⟩ := DataW.trod_int Try.underlying3 l2
  obtain ⟨a6, hc6, _⟩ := DataW.trod_bool Try.underlying4 l3
  simp at hc0 hc1 hc2 hc3 hc4 hc5 hc6
  subst hc0 hc1 hc2 hc3 hc4 hc5 hc6
  obtain ⟨x, rfl⟩ := byte_wf e0
  obtain ⟨y, rfl⟩ := byte_wf e1
  exact ⟨x, y, a2, a3, a4, a5, a6, rfl⟩
theorem Trod_deal (hv : Value.okWide Try.prog w r b0 56 v) (h : DataW.Trod enc Try.prog w base spare held 56 v d p) :
    ∃ (va vb : Value) (za zb : List Int), v = .agg #[va, vb] ∧ Rd w w.heap.size 1 va za.length (za.map (Value.int .i64)) ∧ Rd w w.heap.size 1 vb zb.length (zb.map (Value.int .i64)) := by
  obtain ⟨cs, rfl, hsz⟩ := okWide_struct Try.underlying56 hv
  have hsz : cs.size = 2 := hsz.trans (by kernel_rfl)
  obtain ⟨cl⟩ := cs
  have hsz : cl.length = 2 := by simpa using hsz
  obtain ⟨c0, c1, rfl⟩ : ∃ c0 c1, cl = [c0, c1] := by
    match cl, hsz with
    | [c0, c1], _ => exact ⟨c0, c1, rfl⟩
  obtain ⟨fuel, hf⟩ := h
  obtain ⟨y0, y1, n, hx, _, h0, h1⟩ := trod_struct2 Try.underlying56 hf
  have eI : Try.prog.cellsOf 41 = 1 := by kernel_rfl
  simp only [Value.cells, eI] at h0 h1
  simp at h0 h1
  obtain ⟨v0, l0, e0, r0, _, _⟩ := trod_ints Try.underlying41 Try.underlying3 (by kernel_rfl) (of_decide_eq_true (by kernel_rfl)) h0
  obtain ⟨v1, l1, e1, r1, _, _⟩ := trod_ints Try.underlying41 Try.underlying3 (by kernel_rfl) (of_decide_eq_true (by kernel_rfl)) h1
  simp at e0 e1
  subst e0 e1
  exact ⟨c0, c1, l0, l1, rfl, r0, r1⟩
theorem Trod_deal2 (hv : Value.okWide Try.prog w r b0 56 v) (h : DataW.Trod enc Try.prog w base spare held 56 v d p) :
    ∃ (va vb : Value) (za zb : List Int), v = .agg #[va, vb] ∧ Rd w w.heap.size 1 va za.length (za.map (Value.int .i64)) ∧ Rd w w.heap.size 1 vb zb.length (zb.map (Value.int .i64)) ∧ ∀ n ∈ za, -9223372036854775808 ≤ n ∧ n ≤ 9223372036854775807 := by
  obtain ⟨cs, rfl, hsz⟩ := okWide_struct Try.underlying56 hv
  have hsz : cs.size = 2 := hsz.trans (by kernel_rfl)
  obtain ⟨cl⟩ := cs
  have hsz : cl.length = 2 := by simpa using hsz
  obtain ⟨c0, c1, rfl⟩ : ∃ c0 c1, cl = [c0, c1] := by
    match cl, hsz with
    | [c0, c1], _ => exact ⟨c0, c1, rfl⟩
  obtain ⟨fuel, hf⟩ := h
  obtain ⟨y0, y1, n, hx, _, h0, h1⟩ := trod_struct2 Try.underlying56 hf
  have eI : Try.prog.cellsOf 41 = 1 := by kernel_rfl
  simp only [Value.cells, eI] at h0 h1
  simp at h0 h1
  obtain ⟨v0, l0, e0, r0, b0, _⟩ := trod_ints Try.underlying41 Try.underlying3 (by kernel_rfl) (of_decide_eq_true (by kernel_rfl)) h0
  obtain ⟨v1, l1, e1, r1, _, _⟩ := trod_ints Try.underlying41 Try.underlying3 (by kernel_rfl) (of_decide_eq_true (by kernel_rfl)) h1
  simp at e0 e1
  subst e0 e1
  exact ⟨c0, c1, l0, l1, rfl, r0, r1, b0⟩
end
end Go.Proofs.Ytbjejmdbpikgjaa.Q
