/- Layer 10 in plain Lean: what may be written, lines and tables piece by piece, lengths. No program in sight. -/
import Derived.Test.YtcmoldondflilaaWPlain3
import Derived.Test.YtcmoldondflilaaTabPlain
namespace Go.Proofs.Ytcmoldondflilaa.Wr
set_option linter.unusedVariables false
set_option linter.unusedSimpArgs false
set_option maxRecDepth 100000
open Mach Gram QuoPlain Par Utf
open Tab (fieldsOf bytesOf bytesOfRow)
/-- What bars a record. -/
def may (r : Row) : Nat := if r.isEmpty then 13 else if r.all valid then 0 else 14
theorem may_ok {r : Row} (h : may r = 0) : r ≠ [] ∧ ∀ f ∈ r, valid f = true := by
  unfold may at h
  cases r with
  | nil => simp at h
  | cons f r =>
    simp only [List.isEmpty_cons, Bool.false_eq_true, if_false] at h
    split at h
    · rename_i ha
      exact ⟨by simp, fun x hx => List.all_eq_true.1 ha x hx⟩
    · cases h
def front (t : Tb) : Nat := (t.takeWhile fun r => may r == 0).length
theorem row_snoc (d : Dia) (al : Bool) : ∀ (a : Row) (fi : Bool) (f : Bs), rowB d al fi (a ++ [f]) = rowB d al fi a ++ ((if a.isEmpty then [] else [d.delim]) ++ writ d f al (fi && a.isEmpty))
  | [], fi, f => by simp [rowB]
  | [g], fi, f => by simp [rowB]
  | g :: h :: a, fi, f => by
    have := row_snoc d al (h :: a) false f
    simp only [List.cons_append, rowB] at this ⊢
    rw [this]
    simp
theorem empty_take {α : Type} (l : List α) (k : Nat) (h : k < l.length) : (l.take k).isEmpty = (k == 0) := by
  cases k with
  | zero => simp
  | succ k => cases l with
    | nil => simp at h
    | cons => simp
theorem row_take (d : Dia) (al fi : Bool) (r : Row) (k : Nat) (h : k < r.length) : rowB d al fi (r.take (k + 1)) = rowB d al fi (r.take k) ++ ((if k == 0 then [] else [d.delim]) ++ writ d r[k] al (fi && k == 0)) := by
  rw [List.take_succ_eq_append_getElem h, row_snoc, empty_take r k h]
theorem text_snoc (d : Dia) : ∀ (a : Tb) (fi : Bool) (r : Row), textB d fi (a ++ [r]) = textB d fi a ++ lineB d r (fi && a.isEmpty)
  | [], fi, r => by simp [textB]
  | b :: a, fi, r => by simp [textB, text_snoc d a false r]
theorem text_take (d : Dia) (fi : Bool) (t : Tb) (k : Nat) (h : k < t.length) : textB d fi (t.take (k + 1)) = textB d fi (t.take k) ++ lineB d t[k] (fi && k == 0) := by
  rw [List.take_succ_eq_append_getElem h, text_snoc, empty_take t k h]
/-! ### Lengths -/
theorem writ_len (d : Dia) (f : Bs) (al fi : Bool) : (writ d f al fi).length ≤ 2 * f.length + 2 := by
  have := writ_le (d := d) f al fi
  have := dbl_len d.quote f
  rw [quo_len] at *
  omega
theorem row_len (d : Dia) (al : Bool) : ∀ (r : Row) (fi : Bool), (rowB d al fi r).length ≤ 2 * bytesOfRow r + 3 * r.length
  | [], fi => by simp [rowB]
  | [f], fi => by have := writ_len d f al fi; simp [rowB, bytesOfRow]; omega
  | f :: g :: r, fi => by
    have h1 := writ_len d f al fi
    have h2 := row_len d al (g :: r) false
    simp only [rowB, bytesOfRow, List.map_cons, List.sum_cons, List.length_append, List.length_cons] at h2 ⊢
    omega
theorem eol_le (d : Dia) : (eol d).length ≤ 2 := by unfold eol; split <;> simp
theorem line_len (d : Dia) (r : Row) (fi : Bool) : (lineB d r fi).length ≤ 2 * bytesOfRow r + 3 * r.length + 2 := by
  have := row_len d (r.length == 1) r fi
  have := eol_le d
  simp only [lineB, List.length_append]
  omega
theorem text_len (d : Dia) : ∀ (t : Tb) (fi : Bool), (textB d fi t).length ≤ 2 * bytesOf t + 3 * fieldsOf t + 2 * t.length
  | [], fi => by simp [textB]
  | r :: t, fi => by
    have h1 := line_len d r fi
    have h2 := text_len d t false
    simp only [textB, bytesOf, fieldsOf, List.map_cons, List.sum_cons, List.length_append, List.length_cons] at h2 ⊢
    omega
theorem bytes_take (r : Row) (k : Nat) : bytesOfRow (r.take k) ≤ bytesOfRow r := by
  conv => rhs; rw [← List.take_append_drop k r]
  unfold bytesOfRow
  rw [List.map_append, List.sum_append]
  omega
theorem bytesT_take (t : Tb) (k : Nat) : bytesOf (t.take k) ≤ bytesOf t ∧ fieldsOf (t.take k) ≤ fieldsOf t := by
  constructor
  · conv => rhs; rw [← List.take_append_drop k t]
    unfold bytesOf
    rw [List.map_append, List.sum_append]
    omega
  · conv => rhs; rw [← List.take_append_drop k t]
    unfold fieldsOf
    rw [List.map_append, List.sum_append]
    omega
theorem mem_bytes {r : Row} {f : Bs} (h : f ∈ r) : f.length ≤ bytesOfRow r := by
  unfold bytesOfRow
  induction r with
  | nil => cases h
  | cons a r ih =>
    rcases List.mem_cons.1 h with rfl | h
    · simp
    · have := ih h; simp; omega
theorem mem_table {t : Tb} {r : Row} (h : r ∈ t) : bytesOfRow r ≤ bytesOf t ∧ r.length ≤ fieldsOf t := by
  unfold bytesOf fieldsOf
  induction t with
  | nil => cases h
  | cons a t ih =>
    rcases List.mem_cons.1 h with rfl | h
    · simp
    · have := ih h; simp; omega
theorem row_take_len (d : Dia) (al fi : Bool) (r : Row) (k : Nat) : (rowB d al fi (r.take k)).length ≤ 2 * bytesOfRow r + 3 * r.length := by
  have h1 := row_len d al (r.take k) fi
  have h2 := bytes_take r k
  have h3 : (r.take k).length ≤ r.length := List.length_take_le' _ _
  omega
theorem text_take_len (d : Dia) (fi : Bool) (t : Tb) (k : Nat) : (textB d fi (t.take k)).length ≤ 2 * bytesOf t + 3 * fieldsOf t + 2 * t.length := by
  have h1 := text_len d (t.take k) fi
  have h2 := bytesT_take t k
  have h3 : (t.take k).length ≤ t.length := List.length_take_le' _ _
  omega
/-! ### The front -/
theorem front_le : ∀ (t : Tb), front t ≤ t.length
  | [] => Nat.le_refl _
  | r :: t => by
    have := front_le t
    unfold front at this ⊢
    simp only [List.takeWhile]
    split <;> simp <;> omega
theorem front_of {t : Tb} {k : Nat} (hk : k < t.length) (h : ∀ (j : Nat) (hj : j < t.length), j < k → may t[j] = 0) (hb : may t[k] ≠ 0) : front t = k := by
  induction t generalizing k with
  | nil => simp at hk
  | cons r t ih =>
    unfold front at ih ⊢
    cases k with
    | zero =>
      have : (may r == 0) = false := by simpa using hb
      simp [List.takeWhile, this]
    | succ k =>
      have h0 : may r = 0 := h 0 (by simp) (by omega)
      have hr : (may r == 0) = true := by simpa using h0
      simp only [List.takeWhile, hr, List.length_cons]
      rw [ih (k := k) (by simpa using hk) (fun j hj hjk => by have := h (j + 1) (by simpa using hj) (by omega); simpa using this) (by simpa using hb)]
theorem front_all {t : Tb} (h : ∀ (j : Nat) (hj : j < t.length), may t[j] = 0) : front t = t.length := by
  induction t with
  | nil => rfl
  | cons r t ih =>
    unfold front at ih ⊢
    have h0 : may r = 0 := h 0 (by simp)
    have hr : (may r == 0) = true := by simpa using h0
    simp only [List.takeWhile, hr, List.length_cons]
    rw [ih (fun j hj => by have := h (j + 1) (by simpa using hj); simpa using this)]
theorem front_full {t : Tb} (h : front t = t.length) : ∀ r ∈ t, may r = 0 := by
  induction t with
  | nil => simp
  | cons r t ih =>
    unfold front at h ih
    simp only [List.takeWhile] at h
    split at h
    · rename_i hr
      simp only [List.length_cons] at h
      intro x hx
      rcases List.mem_cons.1 hx with rfl | hx
      · simpa using hr
      · exact ih (by omega) x hx
    · simp at h
end Go.Proofs.Ytcmoldondflilaa.Wr
