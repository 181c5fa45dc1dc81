/- Slices of operations (of the law of pieces) as arguments, opened. -/
import Derived.Test.YtcmoldondflilaaProg
import Derived.Test.YtcmoldondflilaaOpenD
import Derived.Test.YtcmoldondflilaaTbl
namespace Go.Proofs.Ytcmoldondflilaa.Q
set_option linter.unusedVariables false
set_option linter.unusedSimpArgs false
set_option maxRecDepth 100000
open Go.RowKit Go.ChangeShapes Go.WideShapes Go.Joins Go.Deep
/-- An operation: its kind, its number, its record's value and what that reads as. -/
structure Op where
  k : UInt8
  n : Int
  v : Value
  r : List (List UInt8)
def opC (x : Op) : List Value := [bv x.k, .int .i64 x.n, x.v]
/-- What the operations of an argument are. -/
structure OpOk (w : World) (B : Nat) (x : Op) : Prop where
  rng : -9223372036854775808 ≤ x.n ∧ x.n ≤ 9223372036854775807
  rd : Rd w B 1 x.v x.r.length (x.r.map sv)
section
variable {H : Type} {enc : TypeId × Value → H} {w : World} {base : Nat} {spare : Nat → Bool} {held : Bool} {r : Reach} {b0 : Nat} {v : Value} {d : DataW H} {p : List MemPlace}
theorem row_op {fuel : Nat} {cs : List Value} {x : DataW H × List MemPlace} (hl : cs.length = 3) (h : DataW.trod enc Try.prog w base spare held fuel 71 cs = some x) :
    ∃ o : Op, cs = opC o ∧ OpOk w w.heap.size o ∧ (Wt Try.prog 71 x.1 → o.r.length ≤ reachBytes ∧ ∀ s ∈ o.r, s.length ≤ reachBytes) := by
  match cs, hl with
  | [c0, c1, c2], _ =>
    obtain ⟨y0, y1, y2, n, hx, _, h0, h1, h2⟩ := trod_struct3 Try.underlying71 h
    have eU : Try.prog.cellsOf 5 = 1 := by kernel_rfl
    have eI : Try.prog.cellsOf 3 = 1 := by kernel_rfl
    have eS : Try.prog.cellsOf 24 = 1 := by kernel_rfl
    simp only [eU, eI, eS] at h0 h1 h2
    simp at h0 h1 h2
    obtain ⟨a0, q0, _, e0⟩ := DataW.trod_int Try.underlying5 h0
    obtain ⟨a1, q1, _, e1⟩ := DataW.trod_int Try.underlying3 h1
    obtain ⟨a2, l2, q2, r2, hz⟩ := trod_strs Try.underlying24 Try.underlying9 (by kernel_rfl) (of_decide_eq_true (by kernel_rfl)) h2
    simp at q0 q1 q2
    subst q0 q1 q2
    obtain ⟨b, rfl⟩ := byte_wf e0
    refine ⟨⟨b, a1, c2, l2⟩, rfl, ⟨i64_wf e1, r2⟩, fun hw => ?_⟩
    subst hx
    exact hz (hw.field Try.underlying71 (j := 2) rfl rfl)
theorem rows_ops {f' : Nat} {W : Prop} :
    ∀ rows : List (List Value), (∀ r ∈ rows, r.length = 3 ∧ ∃ y, DataW.trod enc Try.prog w base spare held f' 71 r = some y ∧ (W → Wt Try.prog 71 y.1)) →
    ∃ l : List Op, rows.flatten = l.flatMap opC ∧ rows.length = l.length ∧ (∀ o ∈ l, OpOk w w.heap.size o) ∧ (W → ∀ o ∈ l, o.r.length ≤ reachBytes ∧ ∀ s ∈ o.r, s.length ≤ reachBytes)
  | [], _ => ⟨[], rfl, rfl, by simp, by simp⟩
  | r :: rows, h => by
    obtain ⟨l, g1, g2, g3, g4⟩ := rows_ops rows (fun x hx => h x (by simp [hx]))
    obtain ⟨hl, y, hy, hw⟩ := h r (by simp)
    obtain ⟨o, rfl, ho, hs⟩ := row_op hl hy
    refine ⟨o :: l, by simp [g1], by simp [g2], ?_, fun hW x hx => ?_⟩
    · intro x hx
      rcases List.mem_cons.1 hx with rfl | hx
      · exact ho
      · exact g3 x hx
    · rcases List.mem_cons.1 hx with rfl | hx
      · exact hs (hw hW)
      · exact g4 hW x hx
theorem Trod_ops (hv : Value.okWide Try.prog w r b0 65 v) (h : DataW.Trod enc Try.prog w base spare held 65 v d p) (hw : Wt Try.prog 65 d) :
    ∃ l : List Op, Rd w w.heap.size 3 v l.length (l.flatMap opC) ∧ (∀ o ∈ l, OpOk w w.heap.size o) ∧ Small (l.map Op.r) := by
  obtain ⟨a, len, cap, rfl⟩ := okWide_slice Try.underlying65 hv
  obtain ⟨fuel, hf⟩ := h
  obtain ⟨v', rows, f', hcs, hrd, hz, hr⟩ := open_sl Try.underlying65 (by kernel_rfl) hf
  simp [Value.cells] at hcs
  subst hcs
  obtain ⟨l, g1, g2, g3, g4⟩ := rows_ops rows hr
  rw [g1, g2] at hrd
  refine ⟨l, hrd, g3, by rw [List.length_map, ← g2]; exact hz hw (of_decide_eq_true (by kernel_rfl)), fun x hx => ?_⟩
  simp only [List.mem_map] at hx
  obtain ⟨o, ho, rfl⟩ := hx
  exact g4 hw o ho
end
theorem opC_len (es : List Op) : (es.flatMap opC).length = es.length * 3 := by
  induction es with
  | nil => rfl
  | cons e es ih => simp only [List.flatMap_cons, List.length_append, ih, List.length_cons]; simp [opC]; omega
theorem opC_at (es : List Op) : ∀ (k j : Nat) (hk : k < es.length), j < 3 → (es.flatMap opC)[k * 3 + j]? = (opC es[k])[j]? := by
  induction es with
  | nil => intro k j hk; simp at hk
  | cons e es ih =>
    intro k j hk hj
    rw [List.flatMap_cons]
    match k, hk with
    | 0, hk => rw [List.getElem?_append_left (by simp [opC]; omega)]; simp
    | k + 1, hk =>
      rw [List.getElem?_append_right (by simp [opC]; omega)]
      have : (k + 1) * 3 + j - (opC e).length = k * 3 + j := by simp [opC]; omega
      rw [this, ih k j (by simpa using hk) hj]
      rfl
/-- The three cells of an operation of a slice that reads. -/
theorem op_cells {w : World} {B n c : Nat} {A : Option Addr} {es : List Op} (h : Rd w B 3 (.slice A n c) n (es.flatMap opC)) (k : Nat) (hk : k < es.length) :
    ∃ b off, A = some ⟨b, off, none⟩ ∧ b < B ∧ ∀ j u, (opC es[k])[j]? = some u → w.cell? ⟨b, off + k * 3 + j, none⟩ = some u := by
  obtain ⟨A', c', hv, hn, hc, hl, hx⟩ := h
  injection hv with h1 _ _
  subst h1
  rcases hx with hx | ⟨b, off, rfl, hb, hcell⟩
  · have := congrArg List.length hx
    rw [opC_len] at this
    simp at this
    omega
  · refine ⟨b, off, rfl, hb, fun j u hu => ?_⟩
    have hj : j < 3 := by have := (List.getElem?_eq_some_iff.1 hu).1; simpa [opC] using this
    rw [Nat.add_assoc]
    exact hcell _ _ ((opC_at es k j hk hj).trans hu)
end Go.Proofs.Ytcmoldondflilaa.Q
