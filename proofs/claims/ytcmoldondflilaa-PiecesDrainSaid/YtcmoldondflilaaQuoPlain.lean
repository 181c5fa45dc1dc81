/- Layer 9 in plain Lean: a field quoted, and read back. No program in sight. -/
import Derived.Test.YtcmoldondflilaaMach
namespace Go.Proofs.Ytcmoldondflilaa.QuoPlain
set_option linter.unusedVariables false
set_option linter.unusedSimpArgs false
set_option maxRecDepth 100000
open Mach

def dbl (q : UInt8) : Bs → Bs
  | [] => []
  | b :: f => if b == q then b :: b :: dbl q f else b :: dbl q f
def quoB (q : UInt8) (f : Bs) : Bs := q :: (dbl q f ++ [q])
theorem dbl_append (q : UInt8) (a b : Bs) : dbl q (a ++ b) = dbl q a ++ dbl q b := by
  induction a with
  | nil => rfl
  | cons x a ih => simp only [List.cons_append, dbl, ih]; split <;> simp
theorem dbl_len (q : UInt8) (f : Bs) : f.length ≤ (dbl q f).length ∧ (dbl q f).length ≤ 2 * f.length := by
  induction f with
  | nil => simp [dbl]
  | cons b f ih => simp only [dbl]; split <;> simp only [List.length_cons] <;> omega
/-- The field of what stands between the quotes, if it is one. -/
def undbl (q : UInt8) : Bs → Option Bs
  | [] => some []
  | [b] => if b == q then none else some [b]
  | b :: c :: r => if b == q then (if c == q then (undbl q r).map (c :: ·) else none) else (undbl q (c :: r)).map (b :: ·)
theorem undbl_dbl (q : UInt8) : ∀ f : Bs, undbl q (dbl q f) = some f
  | [] => rfl
  | b :: f => by
    have ih := undbl_dbl q f
    by_cases h : b = q
    · subst h
      simp [dbl, undbl, ih]
    · have h' : (b == q) = false := by simpa using h
      simp only [dbl, h']
      cases hd : dbl q f with
      | nil =>
        rw [hd] at ih
        simp [undbl] at ih
        subst ih
        simp [undbl, h']
      | cons c r =>
        rw [hd] at ih
        simp [undbl, h', ih]
theorem undbl_some (q : UInt8) : ∀ (m f : Bs), undbl q m = some f → dbl q f = m := by
  intro m
  induction m using undbl.induct q with
  | case1 => intro f h; simp [undbl] at h; subst h; rfl
  | case2 b hb => intro f h; simp [undbl, hb] at h
  | case3 b hb => intro f h; simp [undbl, hb] at h; subst h; simp [dbl, hb]
  | case4 b c r hb hc ih =>
    intro f h
    simp only [undbl, hb, hc, if_true, Option.map_eq_some_iff] at h
    obtain ⟨g, h1, rfl⟩ := h
    rw [beq_iff_eq] at hb hc
    subst hb
    subst hc
    simp [dbl, ih g h1]
  | case5 b c r hb hc => intro f h; simp [undbl, hb, hc] at h
  | case6 b c r hb ih =>
    intro f h
    simp only [undbl, hb, Bool.false_eq_true, if_false, Option.map_eq_some_iff] at h
    obtain ⟨g, h1, rfl⟩ := h
    simp [dbl, hb, ih g h1]
/-- What a text that begins with a quote is the quoting of. -/
def innerB (q : UInt8) (s : Bs) : Option Bs := if s.length < 2 then none else if s.getLast? != some q then none else undbl q ((s.drop 1).take (s.length - 2))
theorem mid_quo (q : UInt8) (m : Bs) : ((q :: (m ++ [q])).drop 1).take ((q :: (m ++ [q])).length - 2) = m := by
  simp
theorem inner_quo (q : UInt8) (f : Bs) : innerB q (quoB q f) = some f := by
  unfold innerB quoB
  rw [mid_quo, undbl_dbl, if_neg (by simp), if_neg (by simp [List.getLast?_cons])]
theorem inner_some (q : UInt8) (t f : Bs) (h : innerB q (q :: t) = some f) : quoB q f = q :: t := by
  unfold innerB at h
  split at h
  · cases h
  · rename_i h2
    split at h
    · cases h
    · rename_i h3
      have h3' : (q :: t).getLast? = some q := by simpa using h3
      have ht : t ≠ [] := by rintro rfl; simp at h2
      obtain ⟨m, x, rfl⟩ : ∃ m x, t = m ++ [x] := ⟨t.dropLast, t.getLast ht, (List.dropLast_concat_getLast ht).symm⟩
      have hx : x = q := by simpa [List.getLast?_cons] using h3'
      subst hx
      rw [mid_quo] at h
      rw [quoB, undbl_some _ _ _ h]
theorem quoB_inj (q : UInt8) (f g : Bs) (h : quoB q f = quoB q g) : f = g := by
  have h1 := inner_quo q f
  rw [h, inner_quo] at h1
  exact (Option.some.inj h1).symm
/-- The document's words: the field that a text behind its first quote would be. -/
def rl (q : UInt8) : Bs → Bs
  | b :: c :: r => if b == q then (if r = [] then [] else c :: rl q r) else b :: rl q (c :: r)
  | [_] => []
  | [] => []
theorem rl_dbl (q : UInt8) : ∀ f : Bs, rl q (dbl q f ++ [q]) = f
  | [] => rfl
  | b :: f => by
    have ih := rl_dbl q f
    by_cases h : b = q
    · subst h
      simp [dbl, rl, ih]
    · have h' : (b == q) = false := by simpa using h
      simp only [dbl, h', Bool.false_eq_true, if_false, List.cons_append]
      cases hd : dbl q f ++ [q] with
      | nil => simp at hd
      | cons c r =>
        rw [hd] at ih
        simp [rl, h', ih]
theorem inner_rl (q : UInt8) (t : Bs) : innerB q (q :: t) = if quoB q (rl q t) = q :: t then some (rl q t) else none := by
  cases h : innerB q (q :: t) with
  | some f =>
    have h1 := inner_some q t f h
    have h2 : dbl q f ++ [q] = t := by unfold quoB at h1; exact (List.cons.inj h1).2
    have h3 := rl_dbl q f
    rw [h2] at h3
    rw [h3, if_pos h1]
  | none =>
    rw [if_neg]
    intro h1
    have := inner_quo q (rl q t)
    rw [h1, h] at this
    cases this
/-- A byte that makes a text no field. -/
def badB (d : Dia) (b : UInt8) : Bool := b == d.delim || b == d.quote || b == 13 || b == 10
def unquoB (d : Dia) (s : Bs) : Bs × Bool × Nat :=
  match s with
  | [] => ([], false, 0)
  | b :: t =>
    if b == d.quote then (match innerB d.quote (b :: t) with | some f => (f, true, 0) | none => ([], false, 4))
    else if (b :: t).any (badB d) then ([], false, 23) else (b :: t, false, 0)
end Go.Proofs.Ytcmoldondflilaa.QuoPlain
