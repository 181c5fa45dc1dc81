/- Tables in plain Lean (layer 13 and the document's words). No program in sight. -/
namespace Go.Proofs.Ytcmoldondflilaa.Tab
set_option linter.unusedVariables false
set_option linter.unusedSimpArgs false
set_option maxRecDepth 100000

abbrev Bs := List UInt8
abbrev Row := List Bs
abbrev Tb := List Row

def fieldsOf (t : Tb) : Nat := (t.map List.length).sum
def bytesOfRow (r : Row) : Nat := (r.map List.length).sum
def bytesOf (t : Tb) : Nat := (t.map bytesOfRow).sum
theorem row_le {t : Tb} {k : Nat} (h : k < t.length) : t[k].length ≤ fieldsOf t := by
  induction t generalizing k with
  | nil => simp at h
  | cons r t ih =>
    cases k with
    | zero => simp [fieldsOf]
    | succ k =>
      have := ih (k := k) (by simpa using h)
      simp [fieldsOf] at this ⊢
      omega
theorem row_le' {t : Tb} {r : Row} (h : r ∈ t) : r.length ≤ fieldsOf t := by
  obtain ⟨k, hk, rfl⟩ := List.getElem_of_mem h
  exact row_le hk
theorem fields_take (t : Tb) (k : Nat) (h : k < t.length) : fieldsOf (t.take (k + 1)) = fieldsOf (t.take k) + t[k].length := by
  unfold fieldsOf; rw [List.take_succ_eq_append_getElem h, List.map_append, List.sum_append]; simp
theorem bytes_take (t : Tb) (k : Nat) (h : k < t.length) : bytesOf (t.take (k + 1)) = bytesOf (t.take k) + bytesOfRow t[k] := by
  unfold bytesOf; rw [List.take_succ_eq_append_getElem h, List.map_append, List.sum_append]; simp
theorem rowBytes_take (r : Row) (k : Nat) (h : k < r.length) : bytesOfRow (r.take (k + 1)) = bytesOfRow (r.take k) + r[k].length := by
  unfold bytesOfRow; rw [List.take_succ_eq_append_getElem h, List.map_append, List.sum_append]; simp

/-- Are all records as long as the first one? -/
def evenT (t : Tb) : Bool := t.all fun r => r.length == (t.headD []).length
def column (t : Tb) (n : Nat) : Row := t.map fun r => r.getD n []
def turn (t : Tb) : Tb := (List.range (t.headD []).length).map (column t)

theorem even_at {t : Tb} (h : evenT t = true) {k : Nat} (hk : k < t.length) : t[k].length = (t.headD []).length := by
  unfold evenT at h
  rw [List.all_eq_true] at h
  simpa using h t[k] (List.getElem_mem hk)
theorem even_of {t : Tb} (h : ∀ k (hk : k < t.length), t[k].length = (t.headD []).length) : evenT t = true := by
  unfold evenT
  rw [List.all_eq_true]
  intro r hr
  obtain ⟨k, hk, rfl⟩ := List.getElem_of_mem hr
  simpa using h k hk
theorem even_no {t : Tb} {k : Nat} (hk : k < t.length) (h : t[k].length ≠ (t.headD []).length) : evenT t = false := by
  cases he : evenT t with
  | false => rfl
  | true => exact absurd (even_at he hk) h
theorem turn_len (t : Tb) : (turn t).length = (t.headD []).length := by simp [turn]
theorem column_len (t : Tb) (n : Nat) : (column t n).length = t.length := by simp [column]
theorem head_turn {t : Tb} (h : 0 < (turn t).length) : (turn t).headD [] = column t 0 := by
  have h' : 0 < (t.headD []).length := by simpa [turn] using h
  unfold turn
  cases hn : (t.headD []).length with
  | zero => omega
  | succ n => simp [List.range_succ_eq_map]
theorem even_turn (t : Tb) : evenT (turn t) = true := by
  apply even_of
  intro k hk
  rw [head_turn (by omega), column_len]
  simp [turn, column_len]
theorem turn_turn {t : Tb} (he : evenT t = true) (h : 0 < (turn t).length) : turn (turn t) = t := by
  have hl := turn_len t
  apply List.ext_getElem
  · rw [turn_len, head_turn h, column_len]
  · intro i h1 h2
    apply List.ext_getElem
    · rw [even_at he h2]
      simp [turn, column]
    · intro j h3 h4
      have h5 := even_at he h2
      simp [turn, column, List.getD, h2]
      rw [List.getElem?_eq_getElem (by omega)]
      simp [List.getElem?_eq_getElem h4]

/-! ### The least and the greatest number of fields -/
def widths : Bool → Tb → Nat → Nat → Nat × Nat
  | _, [], a, b => (a, b)
  | first, r :: t, a, b => widths false t (if first || decide (r.length < a) then r.length else a) (max b r.length)
end Go.Proofs.Ytcmoldondflilaa.Tab
