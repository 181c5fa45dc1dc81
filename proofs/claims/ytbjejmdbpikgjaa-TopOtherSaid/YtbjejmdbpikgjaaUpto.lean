/- How great a maker may be behind n events. -/
import Derived.Test.YtbjejmdbpikgjaaFld4
namespace Go.Proofs.Ytbjejmdbpikgjaa.Fld
set_option linter.unusedVariables false
set_option linter.unusedSimpArgs false
set_option maxRecDepth 100000
open Go.RowKit Q Mach Dia Scan Ref4
/-- After n events: what there may be. -/
structure Upto (n : Nat) (l : Lim) (m : Mk) : Prop where
  l : m.lim = l
  f : m.field.length ≤ n
  r : m.record.length ≤ 2 * n
  b : m.begun ≤ n
  k : m.count ≤ n
theorem upto0 (l : Lim) : Upto 0 l (mk0 l) := ⟨rfl, by simp [mk0], by simp [mk0], by simp [mk0], by simp [mk0]⟩
theorem Upto.mB {n : Nat} {l : Lim} {m : Mk} (h : Upto n l m) (b : Bool) : (mB m b).lim = l ∧ (mB m b).field = m.field ∧ (mB m b).record = m.record ∧ (mB m b).begun ≤ n + 1 ∧ (mB m b).count = m.count := by
  have := h.b
  unfold Fld.mB
  split
  · exact ⟨h.l, rfl, rfl, by show m.begun + 1 ≤ n + 1; omega, rfl⟩
  · exact ⟨h.l, rfl, rfl, by omega, rfl⟩
theorem mA_parts (m : Mk) (b : Bool) (x : UInt8) : (mA m b x).lim = m.lim ∧ (mA m b x).field.length ≤ m.field.length + 1 ∧ (mA m b x).record = m.record ∧ (mA m b x).begun = m.begun ∧ (mA m b x).count = m.count := by
  unfold mA
  split <;> simp
theorem mP_parts (m : Mk) (b : Bool) : (mP m b).lim = m.lim ∧ (mP m b).field.length ≤ m.field.length ∧ (mP m b).record.length ≤ m.record.length + 1 ∧ (mP m b).begun = m.begun ∧ (mP m b).count = m.count := by
  unfold mP
  split <;> simp [putField]
theorem Upto.gather {n : Nat} {l : Lim} {m : Mk} (h : Upto n l m) (e : Ev) : Upto (n + 1) l (gather m e).1 := by
  obtain ⟨e1, e2, e3, e4, e5, e6⟩ := e
  obtain ⟨b1, b2, b3, b4, b5⟩ := h.mB e1
  have a := mA_parts (Fld.mB m e1) e2 e6
  have p := mP_parts (mA (Fld.mB m e1) e2 e6) e3
  have q := mP_parts (mP (mA (Fld.mB m e1) e2 e6) e3) e4
  have hf := h.f; have hr := h.r; have hb := h.b; have hk := h.k
  rw [gather_eq]
  rw [b2, b3, b5] at a
  obtain ⟨a1, a2, a3, a4, a5⟩ := a
  rw [a3, a4, a5] at p
  obtain ⟨p1, p2, p3, p4, p5⟩ := p
  rw [p4, p5] at q
  obtain ⟨q1, q2, q3, q4, q5⟩ := q
  split
  · exact ⟨h.l, by first | omega | (simp only; omega), by first | omega | (simp only; omega), by first | omega | (simp only; omega), by first | omega | (simp only; omega)⟩
  split
  · exact ⟨b1, by simp only [b2]; omega, by simp only [b3]; omega, by first | omega | (simp only; omega), by first | omega | (simp only; omega)⟩
  split
  · exact ⟨by rw [p1, a1, b1], by first | omega | (simp only; omega), by first | omega | (simp only; omega), by first | omega | (simp only; omega), by first | omega | (simp only; omega)⟩
  split
  · exact ⟨by rw [p1, a1, b1], by first | omega | (simp only; omega), by first | omega | (simp only; omega), by first | omega | (simp only; omega), by first | omega | (simp only; omega)⟩
  split
  · exact ⟨by rw [q1, p1, a1, b1], by first | omega | (simp only; omega), by first | omega | (simp only; omega), by first | omega | (simp only; omega), by first | omega | (simp only; omega)⟩
  · exact ⟨by rw [q1, p1, a1, b1], by first | omega | (simp only; omega), by first | omega | (simp only; omega), by first | omega | (simp only; omega), by first | omega | (simp only; omega)⟩
theorem Upto.take {n : Nat} {l : Lim} {m : Mk} (h : Upto n l m) (e : Ev) : Upto (n + 1) l (take m e).1 := by
  have g := h.gather e
  rw [take_eq]
  split
  · split
    · exact ⟨g.l, g.f, g.r, g.b, g.k⟩
    · split
      · exact ⟨g.l, g.f, g.r, g.b, g.k⟩
      · have hc := gather_count m e
        have hk := h.k
        exact ⟨g.l, g.f, by simp, g.b, by show (Mach.gather m e).1.count + 1 ≤ n + 1; omega⟩
  · exact ⟨h.l, Nat.le_succ_of_le h.f, by have := h.r; show m.record.length ≤ 2 * (n + 1); omega, Nat.le_succ_of_le h.b, Nat.le_succ_of_le h.k⟩
theorem Upto.fine {n : Nat} {l : Lim} {m : Mk} (h : Upto n l m) (hn : n ≤ 10000) (ha : l.field ≤ 2147483648) (hb : l.fields ≤ 2147483648) (hc : l.records ≤ 2147483648) : Fine m :=
  ⟨by rw [h.l]; exact ha, by rw [h.l]; exact hb, by rw [h.l]; exact hc, by have := h.f; omega, by have := h.r; omega, by have := h.b; omega, by have := h.k; omega⟩
end Go.Proofs.Ytbjejmdbpikgjaa.Fld
