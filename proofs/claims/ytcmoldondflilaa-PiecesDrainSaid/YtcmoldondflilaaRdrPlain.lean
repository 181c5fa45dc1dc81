/- The grammar's pieces, as the document's reader takes them: a line's end, a line, a text. No program. -/
import Derived.Test.YtcmoldondflilaaGram
namespace Go.Proofs.Ytcmoldondflilaa.Rdr
set_option linter.unusedVariables false
set_option linter.unusedSimpArgs false
set_option maxRecDepth 100000
open Mach Gram
def atB (s : Bs) (i : Nat) (b : UInt8) : Bool := s[i]? == some b
theorem atB_lt {s : Bs} {i : Nat} (h : i < s.length) (b : UInt8) : atB s i b = (s[i] == b) := by unfold atB; rw [List.getElem?_eq_getElem h]; simp
theorem atB_ge {s : Bs} {i : Nat} (h : s.length ≤ i) (b : UInt8) : atB s i b = false := by unfold atB; rw [List.getElem?_eq_none h]; rfl
theorem at_lt {s : Bs} {i : Nat} {b : UInt8} (h : atB s i b = true) : i < s.length := by
  rcases Nat.lt_or_ge i s.length with h1 | h1
  · exact h1
  · rw [atB_ge h1] at h; cases h
theorem drop1 {s : Bs} {i : Nat} (h : i < s.length) : s.drop i = s[i] :: s.drop (i + 1) := List.drop_eq_getElem_cons h
theorem quoted_to (d : Dia) (lm : Nat) : ∀ (r : Bs) (i : Nat) (f : Bs), (quotedG d lm r i f).kind = 0 → ∃ k, k ≤ r.length ∧ (quotedG d lm r i f).r = r.drop k ∧ (quotedG d lm r i f).i = i + k
  | [], i, f, h => by simp [quotedG] at h
  | [b], i, f, h => by
    unfold quotedG at h ⊢
    split at h
    · rename_i hb; rw [if_pos hb]; exact ⟨1, by simp, rfl, rfl⟩
    · split at h
      · simp at h
      · simp [quotedG] at h
  | b :: c :: r, i, f, h => by
    unfold quotedG at h ⊢
    split at h
    · rename_i hb
      rw [if_pos hb]
      split at h
      · rename_i hc
        rw [if_pos hc]
        split at h
        · simp at h
        · rename_i hf
          rw [if_neg hf]
          obtain ⟨k, h1, h2, h3⟩ := quoted_to d lm r (i + 2) _ h
          exact ⟨k + 2, by simp; omega, by rw [h2]; rfl, by rw [h3]; omega⟩
      · rename_i hc
        rw [if_neg hc]
        split at h
        · rename_i hs; rw [if_pos hs]; exact ⟨1, by simp, rfl, rfl⟩
        · simp at h
    · rename_i hb
      rw [if_neg hb]
      split at h
      · simp at h
      · rename_i hf
        rw [if_neg hf]
        obtain ⟨k, h1, h2, h3⟩ := quoted_to d lm (c :: r) (i + 1) _ h
        exact ⟨k + 1, by simp at h1 ⊢; omega, by rw [h2]; rfl, by rw [h3]; omega⟩
theorem bare_to (d : Dia) (lm : Nat) : ∀ (r : Bs) (i : Nat) (f : Bs), (bareG d lm r i f).kind = 0 → ∃ k, k ≤ r.length ∧ (bareG d lm r i f).r = r.drop k ∧ (bareG d lm r i f).i = i + k
  | [], i, f, h => ⟨0, by simp, by simp [bareG], by simp [bareG]⟩
  | b :: r, i, f, h => by
    unfold bareG at h ⊢
    split at h
    · rename_i hb; rw [if_pos hb]; exact ⟨0, by simp, rfl, rfl⟩
    · rename_i hb
      rw [if_neg hb]
      split at h
      · simp at h
      · rename_i hq
        rw [if_neg hq]
        split at h
        · simp at h
        · rename_i hf
          rw [if_neg hf]
          obtain ⟨k, h1, h2, h3⟩ := bare_to d lm r (i + 1) _ h
          exact ⟨k + 1, by simp; omega, by rw [h2]; rfl, by rw [h3]; omega⟩
section
variable {d : Dia} {lm : Nat} {s : Bs} {i : Nat}
theorem field_q (h : atB s i d.quote = true) : fieldG d lm (s.drop i) i = quotedG d lm (s.drop (i + 1)) (i + 1) [] := by
  have hi := at_lt h
  rw [atB_lt hi] at h
  rw [drop1 hi]
  unfold fieldG
  simp only [h, if_true]
theorem field_b (h : atB s i d.quote = false) : fieldG d lm (s.drop i) i = bareG d lm (s.drop i) i [] := by
  rcases Nat.lt_or_ge i s.length with hi | hi
  · rw [atB_lt hi] at h
    rw [drop1 hi]
    unfold fieldG
    simp only [h, Bool.false_eq_true, if_false]
  · rw [List.drop_eq_nil_of_le hi]; rfl
theorem field_to (hi : i ≤ s.length) (h : (fieldG d lm (s.drop i) i).kind = 0) : (fieldG d lm (s.drop i) i).r = s.drop (fieldG d lm (s.drop i) i).i ∧ i ≤ (fieldG d lm (s.drop i) i).i ∧ (fieldG d lm (s.drop i) i).i ≤ s.length := by
  cases hq : atB s i d.quote
  · rw [field_b hq] at h ⊢
    obtain ⟨k, h1, h2, h3⟩ := bare_to d lm _ _ _ h
    simp at h1
    rw [h2, h3, List.drop_drop]
    exact ⟨rfl, by omega, by omega⟩
  · have hl := at_lt hq
    rw [field_q hq] at h ⊢
    obtain ⟨k, h1, h2, h3⟩ := quoted_to d lm _ _ _ h
    simp at h1
    rw [h2, h3, List.drop_drop]
    exact ⟨rfl, by omega, by omega⟩
end
section fields
variable {d : Dia} {l : Lim} {u : Option Nat} {n i : Nat} {s : Bs} {row : Row} {X : FR}
theorem fs_bad (hX : fieldG d l.field (s.drop i) i = X) (hk : X.kind ≠ 0) : fieldsG d l u (n + 1) (s.drop i) i row = ⟨row, X.r, X.i, X.kind, X.pl⟩ := by
  unfold fieldsG
  simp only [hX]
  rw [if_pos (by simpa using hk)]
theorem fs_ok (hX : fieldG d l.field (s.drop i) i = X) (hk : X.kind = 0) (hr : X.r = s.drop X.i) :
    fieldsG d l u (n + 1) (s.drop i) i row = if atB s X.i d.delim then
        (if (row ++ [X.f]).length == l.fields then ⟨row ++ [X.f], s.drop X.i, X.i, 8, X.i⟩
        else if u == some (row ++ [X.f]).length then ⟨row ++ [X.f], s.drop X.i, X.i, 10, X.i⟩
        else fieldsG d l u n (s.drop (X.i + 1)) (X.i + 1) (row ++ [X.f]))
      else ⟨row ++ [X.f], s.drop X.i, X.i, 0, 0⟩ := by
  conv => lhs; unfold fieldsG
  simp only [hX]
  rw [if_neg (by simp [hk]), hr]
  rcases Nat.lt_or_ge X.i s.length with hi | hi
  · rw [atB_lt hi, drop1 hi]
  · rw [atB_ge hi, List.drop_eq_nil_of_le hi]; rfl
end fields
/-- A line comes to a fault, or to a record, where that is whole, and the place behind it. -/
inductive LO where
  | bad (k p : Nat)
  | ok (row : Row) (e i : Nat)
def tailG (d : Dia) (u : Option Nat) (s : Bs) (row : Row) (i : Nat) : LO :=
  if i = s.length then (if bad u row.length then .bad 10 i else .ok row i i)
  else if atB s i 10 then
    if d.fin == 2 then .bad 6 i else if bad u row.length then .bad 10 i else .ok row i (i + 1)
  else if d.fin == 1 then .bad 6 i else if bad u row.length then .bad 10 i else if atB s (i + 1) 10 then .ok row (i + 1) (i + 2) else .bad 6 (i + 1)
def lineG (d : Dia) (l : Lim) (u : Option Nat) (begun : Nat) (s : Bs) (i : Nat) : LO :=
  if begun == l.records then .bad 9 i else
  let x := fieldsG d l u ((s.drop i).length + 1) (s.drop i) i []
  if x.kind != 0 then .bad x.kind x.pl else tailG d u s x.row x.i
def LO.go (o : LO) (K : Row → Nat → Nat → G) : G := match o with | .bad k p => G.wrong k p | .ok row e i => K row e i
theorem fields_to (d : Dia) (l : Lim) (u : Option Nat) (s : Bs) : ∀ (n i : Nat) (row : Row), (s.drop i).length < n → i ≤ s.length → (fieldsG d l u n (s.drop i) i row).kind = 0 →
    (fieldsG d l u n (s.drop i) i row).r = s.drop (fieldsG d l u n (s.drop i) i row).i ∧ i ≤ (fieldsG d l u n (s.drop i) i row).i ∧ (fieldsG d l u n (s.drop i) i row).i ≤ s.length
  | 0, i, row, h, hi, hk => by omega
  | n + 1, i, row, h, hi, hk => by
    obtain ⟨X, hX⟩ : ∃ X, fieldG d l.field (s.drop i) i = X := ⟨_, rfl⟩
    by_cases hk0 : X.kind = 0
    · obtain ⟨h1, h2, h3⟩ := field_to (d := d) (lm := l.field) hi (by rw [hX]; exact hk0)
      rw [hX] at h1 h2 h3
      rw [fs_ok hX hk0 h1] at hk ⊢
      split at hk
      · rename_i ha
        rw [if_pos ha]
        have hl := at_lt ha
        split at hk
        · simp at hk
        · rename_i hf
          rw [if_neg hf]
          split at hk
          · simp at hk
          · rename_i hu
            rw [if_neg hu]
            have hh : (s.drop (X.i + 1)).length < n := by simp at h ⊢; omega
            obtain ⟨a, b, c⟩ := fields_to d l u s n (X.i + 1) _ hh (by omega) hk
            exact ⟨a, by omega, c⟩
      · rename_i ha
        rw [if_neg ha]
        exact ⟨rfl, h2, h3⟩
    · rw [fs_bad hX hk0] at hk
      exact absurd hk hk0
theorem read_nil (d : Dia) (l : Lim) (n begun : Nat) (first : Option Nat) (i : Nat) : readG d l n begun first [] i = G.nil := by cases n <;> rfl
/-- The text's next line. -/
theorem read_line (d : Dia) (l : Lim) (n begun : Nat) (first : Option Nat) (s : Bs) (i : Nat) (hi : i < s.length) (h10 : atB s i 10 = false) (h13 : atB s i 13 = false) :
    readG d l (n + 1) begun first (s.drop i) i = (lineG d l (uni l first) begun s i).go fun row e i' => G.cons row e (readG d l n (begun + 1) (firstOf first row.length) (s.drop i') i') := by
  rw [atB_lt hi] at h10 h13
  conv => lhs; rw [drop1 hi]; unfold readG
  simp only [h10, h13, Bool.false_eq_true, if_false]
  rw [← drop1 hi]
  unfold lineG
  split
  · rfl
  · obtain ⟨x, hx⟩ : ∃ x, fieldsG d l (uni l first) ((s.drop i).length + 1) (s.drop i) i [] = x := ⟨_, rfl⟩
    have hto := fields_to d l (uni l first) s ((s.drop i).length + 1) i [] (by omega) (by omega)
    simp only [hx] at hto ⊢
    split
    · rfl
    · rename_i hk
      obtain ⟨h1, h2, h3⟩ := hto (by simpa using hk)
      rw [h1]
      unfold tailG
      rcases Nat.lt_or_ge x.i s.length with hlt | hge
      · have hne : ¬ x.i = s.length := by omega
        rw [if_neg hne, drop1 hlt, atB_lt hlt]
        dsimp only
        split
        · split
          · rfl
          · split <;> rfl
        · split
          · rfl
          · split
            · rfl
            · rcases Nat.lt_or_ge (x.i + 1) s.length with hl2 | hg2
              · rw [drop1 hl2, atB_lt hl2]
                dsimp only
                split <;> rfl
              · rw [atB_ge hg2, List.drop_eq_nil_of_le hg2]
                rfl
      · have heq : x.i = s.length := by omega
        rw [if_pos heq, List.drop_eq_nil_of_le hge]
        dsimp only
        split
        · rfl
        · show _ = G.cons x.row x.i (readG d l n (begun + 1) (firstOf first x.row.length) (s.drop x.i) x.i)
          rw [List.drop_eq_nil_of_le hge, read_nil]
/-- The text's next line is empty. -/
theorem read_feed (d : Dia) (l : Lim) (n begun : Nat) (first : Option Nat) (s : Bs) (i : Nat) (h10 : atB s i 10 = true) :
    readG d l (n + 1) begun first (s.drop i) i = if d.fin == 2 then G.wrong 6 i else readG d l n begun first (s.drop (i + 1)) (i + 1) := by
  have hi := at_lt h10
  rw [atB_lt hi] at h10
  conv => lhs; rw [drop1 hi]; unfold readG
  simp only [h10, if_true]
theorem read_cr (d : Dia) (l : Lim) (n begun : Nat) (first : Option Nat) (s : Bs) (i : Nat) (h10 : atB s i 10 = false) (h13 : atB s i 13 = true) :
    readG d l (n + 1) begun first (s.drop i) i = if d.fin == 1 then G.wrong 6 i else if atB s (i + 1) 10 then readG d l n begun first (s.drop (i + 2)) (i + 2) else G.wrong 6 (i + 1) := by
  have hi := at_lt h13
  rw [atB_lt hi] at h10 h13
  conv => lhs; rw [drop1 hi]; unfold readG
  simp only [h10, h13, if_true, Bool.false_eq_true, if_false]
  split
  · rfl
  · rcases Nat.lt_or_ge (i + 1) s.length with hl2 | hg2
    · rw [drop1 hl2, atB_lt hl2]
    · rw [atB_ge hg2, List.drop_eq_nil_of_le hg2]
      rfl
end Go.Proofs.Ytcmoldondflilaa.Rdr
