/- What events leave of a maker, within bounds; an event of a slice. -/
import Derived.Test.YtogmcfljojobfaaFld4
import Derived.Test.YtogmcfljojobfaaRun
namespace Go.Proofs.Ytogmcfljojobfaa.Fld
set_option linter.unusedVariables false
set_option linter.unusedSimpArgs false
open Go.RowKit Q Mach Dia Scan Ref4 Limits
theorem evC_len (es : List Ev) : (es.flatMap evC).length = es.length * 6 := by
  induction es with
  | nil => rfl
  | cons e es ih => simp only [List.flatMap_cons, List.length_append, ih, List.length_cons]; simp [evC]; omega
theorem evC_at (es : List Ev) : ∀ (k j : Nat) (hk : k < es.length), j < 6 → (es.flatMap evC)[k * 6 + j]? = (evC es[k])[j]? := by
  induction es with
  | nil => intro k j hk; simp at hk
  | cons e es ih =>
    intro k j hk hj
    rw [List.flatMap_cons]
    match k, hk with
    | 0, hk => rw [List.getElem?_append_left (by simp [evC]; omega)]; simp
    | k + 1, hk =>
      rw [List.getElem?_append_right (by simp [evC]; omega)]
      have : (k + 1) * 6 + j - (evC e).length = k * 6 + j := by simp [evC]; omega
      rw [this, ih k j (by simpa using hk) hj]
      rfl
/-- The six cells of an event of a slice that reads. -/
theorem ev_cells {w : World} {B n c : Nat} {A : Option Addr} {es : List Ev} (h : Rd w B 6 (.slice A n c) n (es.flatMap evC)) (k : Nat) (hk : k < es.length) :
    ∃ b off, A = some ⟨b, off, none⟩ ∧ b < B ∧ ∀ j u, (evC es[k])[j]? = some u → w.cell? ⟨b, off + k * 6 + j, none⟩ = some u := by
  obtain ⟨A', c', hv, hn, hc, hl, hx⟩ := h
  injection hv with h1 _ _
  subst h1
  rcases hx with hx | ⟨b, off, rfl, hb, hcell⟩
  · have := congrArg List.length hx
    rw [evC_len] at this
    simp at this
    omega
  · refine ⟨b, off, rfl, hb, fun j u hu => ?_⟩
    have hj : j < 6 := by have := (List.getElem?_eq_some_iff.1 hu).1; simpa [evC] using this
    rw [Nat.add_assoc]
    exact hcell _ _ ((evC_at es k j hk hj).trans hu)


/-- After n events: what there may be. -/
structure Upto (n : Nat) (l : Lim) (m : Mk) : Prop where
  l : m.lim = l
  f : m.field.length ≤ n
  r : m.record.length ≤ 2 * n
  b : m.begun ≤ n
  k : m.count ≤ n
theorem upto0 (l : Lim) : Upto 0 l (mk0 l) := ⟨rfl, by simp [mk0], by simp [mk0], by simp [mk0], by simp [mk0]⟩
theorem Upto.mB {n : Nat} {l : Lim} {m : Mk} (h : Upto n l m) (b : Bool) : (mB m b).lim = l ∧ (mB m b).field = m.field ∧ (mB m b).record = m.record ∧ (mB m b).begun ≤ n + 1 ∧ (mB m b).count = m.count := by
  have := h.b
  unfold Fld.mB
  split
  · exact ⟨h.l, rfl, rfl, by show m.begun + 1 ≤ n + 1; omega, rfl⟩
  · exact ⟨h.l, rfl, rfl, by omega, rfl⟩
theorem mA_parts (m : Mk) (b : Bool) (x : UInt8) : (mA m b x).lim = m.lim ∧ (mA m b x).field.length ≤ m.field.length + 1 ∧ (mA m b x).record = m.record ∧ (mA m b x).begun = m.begun ∧ (mA m b x).count = m.count := by
  unfold mA
  split <;> simp
theorem mP_parts (m : Mk) (b : Bool) : (mP m b).lim = m.lim ∧ (mP m b).field.length ≤ m.field.length ∧ (mP m b).record.length ≤ m.record.length + 1 ∧ (mP m b).begun = m.begun ∧ (mP m b).count = m.count := by
  unfold mP
  split <;> simp [putField]
theorem Upto.gather {n : Nat} {l : Lim} {m : Mk} (h : Upto n l m) (e : Ev) : Upto (n + 1) l (gather m e).1 := by
  obtain ⟨e1, e2, e3, e4, e5, e6⟩ := e
  obtain ⟨b1, b2, b3, b4, b5⟩ := h.mB e1
  have a := mA_parts (Fld.mB m e1) e2 e6
  have p := mP_parts (mA (Fld.mB m e1) e2 e6) e3
  have q := mP_parts (mP (mA (Fld.mB m e1) e2 e6) e3) e4
  have hf := h.f; have hr := h.r; have hb := h.b; have hk := h.k
  rw [gather_eq]
  rw [b2, b3, b5] at a
  obtain ⟨a1, a2, a3, a4, a5⟩ := a
  rw [a3, a4, a5] at p
  obtain ⟨p1, p2, p3, p4, p5⟩ := p
  rw [p4, p5] at q
  obtain ⟨q1, q2, q3, q4, q5⟩ := q
  split
  · exact ⟨h.l, by first | omega | (simp only; omega), by first | omega | (simp only; omega), by first | omega | (simp only; omega), by first | omega | (simp only; omega)⟩
  split
  · exact ⟨b1, by simp only [b2]; omega, by simp only [b3]; omega, by first | omega | (simp only; omega), by first | omega | (simp only; omega)⟩
  split
  · exact ⟨by rw [p1, a1, b1], by first | omega | (simp only; omega), by first | omega | (simp only; omega), by first | omega | (simp only; omega), by first | omega | (simp only; omega)⟩
  split
  · exact ⟨by rw [p1, a1, b1], by first | omega | (simp only; omega), by first | omega | (simp only; omega), by first | omega | (simp only; omega), by first | omega | (simp only; omega)⟩
  split
  · exact ⟨by rw [q1, p1, a1, b1], by first | omega | (simp only; omega), by first | omega | (simp only; omega), by first | omega | (simp only; omega), by first | omega | (simp only; omega)⟩
  · exact ⟨by rw [q1, p1, a1, b1], by first | omega | (simp only; omega), by first | omega | (simp only; omega), by first | omega | (simp only; omega), by first | omega | (simp only; omega)⟩
theorem Upto.take {n : Nat} {l : Lim} {m : Mk} (h : Upto n l m) (e : Ev) : Upto (n + 1) l (take m e).1 := by
  have g := h.gather e
  rw [take_eq]
  split
  · split
    · exact ⟨g.l, g.f, g.r, g.b, g.k⟩
    · split
      · exact ⟨g.l, g.f, g.r, g.b, g.k⟩
      · have hc := gather_count m e
        have hk := h.k
        exact ⟨g.l, g.f, by simp, g.b, by show (Mach.gather m e).1.count + 1 ≤ n + 1; omega⟩
  · exact ⟨h.l, Nat.le_succ_of_le h.f, by have := h.r; show m.record.length ≤ 2 * (n + 1); omega, Nat.le_succ_of_le h.b, Nat.le_succ_of_le h.k⟩
theorem Upto.fine {n : Nat} {l : Lim} {m : Mk} (h : Upto n l m) (hn : n ≤ 10000) (ha : l.field ≤ 2147483648) (hb : l.fields ≤ 2147483648) (hc : l.records ≤ 2147483648) : Fine m :=
  ⟨by rw [h.l]; exact ha, by rw [h.l]; exact hb, by rw [h.l]; exact hc, by have := h.f; omega, by have := h.r; omega, by have := h.b; omega, by have := h.k; omega⟩
def wide5 : Lim := ⟨1000, 1000, 1000, false⟩
/-- Within wide limits nothing is an error. -/
theorem wide_take {n : Nat} {m : Mk} (h : Upto n wide5 m) (hn : n < 400) (hs : m.stopped = 0) (e : Ev) : (take m e).1.stopped = 0 ∧ (take m e).2.2 = 0 := by
  have hg : (Mach.gather m e).2 = 0 := by
    obtain ⟨e1, e2, e3, e4, e5, e6⟩ := e
    obtain ⟨b1, b2, b3, b4, b5⟩ := h.mB e1
    have a := mA_parts (Fld.mB m e1) e2 e6
    have p := mP_parts (mA (Fld.mB m e1) e2 e6) e3
    have hf := h.f; have hr := h.r; have hb := h.b; have hk := h.k
    rw [b2, b3, b5] at a
    obtain ⟨a1, a2, a3, a4, a5⟩ := a
    rw [a3, a4, a5] at p
    obtain ⟨p1, p2, p3, p4, p5⟩ := p
    have l1 : m.lim.records = 1000 := by rw [h.l]; rfl
    have l2 : (Fld.mB m e1).lim.field = 1000 := by rw [b1]; rfl
    have l3 : (mP (mA (Fld.mB m e1) e2 e6) e3).lim.fields = 1000 := by rw [p1, a1, b1]; rfl
    have l4 : (mA (Fld.mB m e1) e2 e6).lim.uniform = false := by rw [a1, b1]; rfl
    have d1 : decide (m.lim.records ≤ m.begun) = false := by simp; omega
    have d2 : decide ((Fld.mB m e1).lim.field ≤ (Fld.mB m e1).field.length) = false := by rw [b2]; simp; omega
    have d3 : decide ((mP (mA (Fld.mB m e1) e2 e6) e3).lim.fields ≤ (mP (mA (Fld.mB m e1) e2 e6) e3).record.length) = false := by simp; omega
    rw [gather_eq, d1, d2, d3, l4]
    simp
  rw [take_eq, if_pos hs, hg]
  simp
  split <;> simp

theorem take_stopped (m : Mk) (e : Ev) (hs : m.stopped ≠ 0) : take m e = (m, none, m.stopped) := by rw [take_eq, if_neg hs]
set_option maxHeartbeats 1000000 in
/-- Behind an error an event changes nothing. -/
theorem takeStopped_c (base g : Nat) (m : Mk) (ev : Ev) (w : World) (h : Mk1 w base g m) (hs : m.stopped ≠ 0) :
    Calls Try.prog 13 #[.pointer (some ⟨g, 0, none⟩), evV ev] w fun r w' => r = .returned (.tuple #[.slice none 0 0, .bool false, .int .i64 m.stopped]) ∧ Keeps [] w w' := by
  obtain ⟨vf, vr, h⟩ := h
  have kp : Keeps [] w (w.alloc (.cells #[.bool ev.beg, .bool ev.add, .bool ev.fld, .bool ev.lin, .bool ev.rcd, bv ev.b] 38)) := Keeps.alloc [] w _
  have c9 : (w.alloc (.cells #[.bool ev.beg, .bool ev.add, .bool ev.fld, .bool ev.lin, .bool ev.rcd, bv ev.b] 38)).cell? ⟨g, 9, none⟩ = _ := (h.keep kp).c (i := 9) rfl
  have hs' : ((m.stopped : Int) == 0) = false := by simpa using hs
  have hs2 : ((m.stopped : Int) != 0) = true := by simpa using hs
  have hgl := h.blk.lt
  obtain ⟨e1, e2, e3, e4, e5, e6⟩ := ev
  clear h hs
  go_enter Try.func13, Try.ntmps13
  go_wp2_with (fail)
  go_quiet (fail)
  go_wp2_with (fail)
  go_ret3
  exact ⟨rfl, kp.drewN1 _⟩
end Go.Proofs.Ytogmcfljojobfaa.Fld
