/- Slices of events as arguments, opened. -/
import Derived.Test.YtogmcfljojobfaaOpen
import Derived.Test.YtogmcfljojobfaaRun
import Derived.Deep.Fields
namespace Go.Proofs.Ytogmcfljojobfaa.Q
set_option linter.unusedVariables false
set_option linter.unusedSimpArgs false
open Go.RowKit Go.ChangeShapes Go.WideShapes Go.Joins Go.Deep Mach Scan
section
variable {H : Type} {enc : TypeId × Value → H} {P : Program} {w : World} {base : Nat} {spare : Nat → Bool} {held : Bool} {r : Reach} {b0 : Nat} {t e : TypeId} {f0 f1 f2 f3 f4 f5 : Field} {v : Value} {d : DataW H} {p : List MemPlace}
theorem row_event (hs : P.underlying e = some (.struct #[f0, f1, f2, f3, f4, f5])) (hone : oneCellFields P #[f0, f1, f2, f3, f4, f5] = true) (h0 : P.underlying f0.type = some .bool) (h1 : P.underlying f1.type = some .bool) (h2 : P.underlying f2.type = some .bool) (h3 : P.underlying f3.type = some .bool) (h4 : P.underlying f4.type = some .bool) (h5 : P.underlying f5.type = some (.int .u8))
    {fuel : Nat} {cs : List Value} {x : DataW H × List MemPlace} (hl : cs.length = 6) (h : DataW.trod enc P w base spare held fuel e cs = some x) : ∃ ev : Ev, cs = evC ev := by
  match cs, hl with
  | [c0, c1, c2, c3, c4, c5], _ =>
    obtain ⟨xs, n, _, hx, _, hlen, hg⟩ := DataW.trod_struct hs h
    obtain ⟨o0, k0⟩ := hone_of hone 0 f0 rfl
    obtain ⟨o1, k1⟩ := hone_of hone 1 f1 rfl
    obtain ⟨o2, k2⟩ := hone_of hone 2 f2 rfl
    obtain ⟨o3, k3⟩ := hone_of hone 3 f3 rfl
    obtain ⟨o4, k4⟩ := hone_of hone 4 f4 rfl
    obtain ⟨o5, k5⟩ := hone_of hone 5 f5 rfl
    match xs, hlen with
    | [y0, y1, y2, y3, y4, y5], _ =>
      have g0 : DataW.trod enc P w base spare held n f0.type [c0] = some y0 := by simpa [Value.cells, o0, k0] using hg 0 f0 rfl
      have g1 : DataW.trod enc P w base spare held n f1.type [c1] = some y1 := by simpa [Value.cells, o1, k1] using hg 1 f1 rfl
      have g2 : DataW.trod enc P w base spare held n f2.type [c2] = some y2 := by simpa [Value.cells, o2, k2] using hg 2 f2 rfl
      have g3 : DataW.trod enc P w base spare held n f3.type [c3] = some y3 := by simpa [Value.cells, o3, k3] using hg 3 f3 rfl
      have g4 : DataW.trod enc P w base spare held n f4.type [c4] = some y4 := by simpa [Value.cells, o4, k4] using hg 4 f4 rfl
      have g5 : DataW.trod enc P w base spare held n f5.type [c5] = some y5 := by simpa [Value.cells, o5, k5] using hg 5 f5 rfl
      obtain ⟨a0, q0, _⟩ := DataW.trod_bool h0 g0
      obtain ⟨a1, q1, _⟩ := DataW.trod_bool h1 g1
      obtain ⟨a2, q2, _⟩ := DataW.trod_bool h2 g2
      obtain ⟨a3, q3, _⟩ := DataW.trod_bool h3 g3
      obtain ⟨a4, q4, _⟩ := DataW.trod_bool h4 g4
      obtain ⟨a5, q5, _, e5⟩ := DataW.trod_int h5 g5
      simp at q0 q1 q2 q3 q4 q5
      subst q0 q1 q2 q3 q4 q5
      obtain ⟨b, rfl⟩ := byte_wf e5
      exact ⟨⟨a0, a1, a2, a3, a4, b⟩, rfl⟩
theorem rows_events (hs : P.underlying e = some (.struct #[f0, f1, f2, f3, f4, f5])) (hone : oneCellFields P #[f0, f1, f2, f3, f4, f5] = true) (h0 : P.underlying f0.type = some .bool) (h1 : P.underlying f1.type = some .bool) (h2 : P.underlying f2.type = some .bool) (h3 : P.underlying f3.type = some .bool) (h4 : P.underlying f4.type = some .bool) (h5 : P.underlying f5.type = some (.int .u8)) {f' : Nat} {W : Prop} :
    ∀ rows : List (List Value), (∀ r ∈ rows, r.length = 6 ∧ ∃ y, DataW.trod enc P w base spare held f' e r = some y ∧ (W → Wt P e y.1)) → ∃ l : List Ev, rows.flatten = l.flatMap evC ∧ rows.length = l.length
  | [], _ => ⟨[], rfl, rfl⟩
  | r :: rows, h => by
    obtain ⟨l, g1, g2⟩ := rows_events hs hone h0 h1 h2 h3 h4 h5 rows (fun x hx => h x (by simp [hx]))
    obtain ⟨hl, y, hy, _⟩ := h r (by simp)
    obtain ⟨ev, rfl⟩ := row_event hs hone h0 h1 h2 h3 h4 h5 hl hy
    exact ⟨ev :: l, by simp [g1], by simp [g2]⟩
theorem Trod_events (ht : P.underlying t = some (.slice e)) (hC : P.cellsOf e = 6) (hs : P.underlying e = some (.struct #[f0, f1, f2, f3, f4, f5])) (hone : oneCellFields P #[f0, f1, f2, f3, f4, f5] = true) (h0 : P.underlying f0.type = some .bool) (h1 : P.underlying f1.type = some .bool) (h2 : P.underlying f2.type = some .bool) (h3 : P.underlying f3.type = some .bool) (h4 : P.underlying f4.type = some .bool) (h5 : P.underlying f5.type = some (.int .u8))
    (hv : Value.okWide P w r b0 t v) (h : DataW.Trod enc P w base spare held t v d p) : ∃ l : List Ev, Rd w w.heap.size 6 v l.length (l.flatMap evC) := by
  obtain ⟨a, len, cap, rfl⟩ := okWide_slice ht hv
  obtain ⟨fuel, hf⟩ := h
  obtain ⟨v', rows, f', hcs, hrd, hz, hr⟩ := open_sl ht hC hf
  simp [Value.cells] at hcs
  subst hcs
  obtain ⟨l, g1, g2⟩ := rows_events hs hone h0 h1 h2 h3 h4 h5 rows hr
  rw [g1, g2] at hrd
  exact ⟨l, hrd⟩
end
end Go.Proofs.Ytogmcfljojobfaa.Q
