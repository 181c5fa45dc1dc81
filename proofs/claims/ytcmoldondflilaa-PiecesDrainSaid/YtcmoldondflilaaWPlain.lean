/- Layers 8, 9 and 10 in plain Lean: lines and tables as texts; they are read as they were. No program in sight. -/
import Derived.Test.YtcmoldondflilaaQuoPlain
import Derived.Test.YtcmoldondflilaaParPlain
namespace Go.Proofs.Ytcmoldondflilaa.Wr
set_option linter.unusedVariables false
set_option linter.unusedSimpArgs false
set_option maxRecDepth 100000
open Mach Gram QuoPlain
/-- Why a field must be quoted; as it is written; the end of a line. -/
def why (d : Dia) (f : Bs) (alone first : Bool) : Nat :=
  if f.contains d.delim then 1 else if f.contains d.quote then 2 else if f.contains 13 || f.contains 10 then 3 else if f.isEmpty && alone then 4 else if first && Bom.hasB f 3 then 5 else 0
def writ (d : Dia) (f : Bs) (alone first : Bool) : Bs := if why d f alone first != 0 then quoB d.quote f else f
def eol (d : Dia) : Bs := if d.fin = 2 then [13, 10] else [10]
def rowB (d : Dia) (al : Bool) : Bool → Row → Bs
  | _, [] => []
  | fi, [f] => writ d f al fi
  | fi, f :: g :: r => writ d f al fi ++ d.delim :: rowB d al false (g :: r)
def lineB (d : Dia) (r : Row) (fi : Bool) : Bs := rowB d (r.length == 1) fi r ++ eol d
def textB (d : Dia) : Bool → Tb → Bs
  | _, [] => []
  | fi, r :: t => lineB d r fi ++ textB d false t

section read
variable {d : Dia} (hd : d.right = true)
include hd
theorem sep_q {b : UInt8} (h : sepB d b = true) : b ≠ d.quote := by
  obtain ⟨p1, p2, p3, p4, p5⟩ := right_parts hd
  unfold sepB at h
  simp only [Bool.or_eq_true, beq_iff_eq] at h
  rintro rfl
  rcases h with (h | h) | h
  · exact p5 h.symm
  · exact p2 h
  · exact p1 h
omit hd in
theorem bad_parts {b : UInt8} (h : badB d b = false) : sepB d b = false ∧ b ≠ d.quote := by
  unfold badB at h
  simp only [Bool.or_eq_false_iff, beq_eq_false_iff_ne] at h
  unfold sepB
  simp [h]
theorem quoted_dbl (lm : Nat) : ∀ (f acc rest : Bs) (i : Nat), Stops d rest → acc.length + f.length ≤ lm →
    quotedG d lm (dbl d.quote f ++ d.quote :: rest) i acc = ⟨acc ++ f, rest, i + (dbl d.quote f).length + 1, 0, 0⟩
  | [], acc, rest, i, hs, hl => by
    rcases hs with rfl | ⟨b, r', rfl, hb⟩
    · simp [dbl, quotedG]
    · have hq : (b == d.quote) = false := by simpa using sep_q hd hb
      simp [dbl, quotedG, hq, hb]
  | b :: f, acc, rest, i, hs, hl => by
    have ih := fun acc' i' h => quoted_dbl lm f acc' rest i' hs h
    simp only [List.length_cons] at hl
    have hne : (acc.length == lm) = false := by simp; omega
    by_cases h : b = d.quote
    · subst h
      simp only [dbl, beq_self_eq_true, if_true, List.cons_append, quotedG, hne, Bool.false_eq_true, if_false]
      rw [ih _ _ (by simp; omega)]
      simp; omega
    · have h' : (b == d.quote) = false := by simpa using h
      simp only [dbl, h', Bool.false_eq_true, if_false, List.cons_append]
      obtain ⟨c, r, hc⟩ : ∃ c r, dbl d.quote f ++ d.quote :: rest = c :: r := by cases hx : dbl d.quote f <;> simp
      rw [hc]
      simp only [quotedG, h', Bool.false_eq_true, if_false, hne]
      rw [← hc, ih _ _ (by simp; omega)]
      simp; omega
omit hd in
theorem bare_ok (lm : Nat) : ∀ (f acc rest : Bs) (i : Nat), (∀ b ∈ f, badB d b = false) → Stops d rest → acc.length + f.length ≤ lm →
    bareG d lm (f ++ rest) i acc = ⟨acc ++ f, rest, i + f.length, 0, 0⟩
  | [], acc, rest, i, hb, hs, hl => by
    rcases hs with rfl | ⟨b, r', rfl, hb⟩
    · simp [bareG]
    · simp [bareG, hb]
  | b :: f, acc, rest, i, hb, hs, hl => by
    simp only [List.length_cons] at hl
    obtain ⟨h1, h2⟩ := bad_parts (hb b (by simp))
    have hne : (acc.length == lm) = false := by simp; omega
    have h2' : (b == d.quote) = false := by simpa using h2
    simp only [List.cons_append, bareG, h1, h2', hne, Bool.false_eq_true, if_false]
    rw [bare_ok lm f _ rest _ (fun x hx => hb x (by simp [hx])) hs (by simp; omega)]
    simp; omega
omit hd in
theorem why_bad {f : Bs} {al fi : Bool} (h : (why d f al fi != 0) = false) : ∀ b ∈ f, badB d b = false := by
  have h : why d f al fi = 0 := by simpa using h
  unfold why at h
  intro b hb
  split at h
  · cases h
  · rename_i h1
    split at h
    · cases h
    · rename_i h2
      split at h
      · cases h
      · rename_i h3
        simp only [List.contains_iff_mem, Bool.or_eq_true, not_or] at h1 h2 h3
        unfold badB
        simp only [Bool.or_eq_false_iff, beq_eq_false_iff_ne]
        exact ⟨⟨⟨fun e => h1 (e ▸ hb), fun e => h2 (e ▸ hb)⟩, fun e => h3.1 (e ▸ hb)⟩, fun e => h3.2 (e ▸ hb)⟩
theorem field_writ (lm : Nat) (f rest : Bs) (al fi : Bool) (i : Nat) (hs : Stops d rest) (hl : f.length ≤ lm) :
    fieldG d lm (writ d f al fi ++ rest) i = ⟨f, rest, i + (writ d f al fi).length, 0, 0⟩ := by
  unfold writ
  cases h : (why d f al fi != 0)
  · have hb := why_bad h
    simp only [Bool.false_eq_true, if_false]
    have hbare := bare_ok lm f [] rest i hb hs (by simpa using hl)
    rw [List.nil_append] at hbare
    unfold fieldG
    cases hx : f ++ rest with
    | nil => rw [hx] at hbare; exact hbare
    | cons b r' =>
      have hq : (b == d.quote) = false := by
        rw [beq_eq_false_iff_ne]
        cases f with
        | nil =>
          rcases hs with rfl | ⟨c, r2, rfl, hc⟩
          · simp at hx
          · simp at hx; rw [← hx.1]; exact sep_q hd hc
        | cons c f => simp at hx; rw [← hx.1]; exact (bad_parts (hb c (by simp))).2
      simp only [hq, Bool.false_eq_true, if_false]
      rw [← hx]
      exact hbare
  · simp only [if_true]
    unfold fieldG quoB
    simp only [List.cons_append, beq_self_eq_true, if_true, List.append_assoc, List.singleton_append, List.nil_append]
    rw [quoted_dbl hd lm f [] rest (i + 1) hs (by simpa using hl)]
    simp; omega
/-- Behind a row: the text's end, or an end of line. -/
def Ends (r : Bs) : Prop := r = [] ∨ ∃ b r', r = b :: r' ∧ (b = 10 ∨ b = 13)
omit hd in
theorem Ends.stops {d : Dia} {r : Bs} (h : Ends r) : Stops d r := by
  rcases h with rfl | ⟨b, r', rfl, h⟩
  · exact .inl rfl
  · exact .inr ⟨b, r', rfl, by unfold sepB; rcases h with rfl | rfl <;> simp⟩
theorem fields_row (l : Lim) : ∀ (r : Row) (n i : Nat) (row0 : Row) (al fi : Bool) (rest : Bs), r ≠ [] → Ends rest → r.length ≤ n → (∀ f ∈ r, f.length ≤ l.field) → row0.length + r.length ≤ l.fields →
    fieldsG d l none n (rowB d al fi r ++ rest) i row0 = ⟨row0 ++ r, rest, i + (rowB d al fi r).length, 0, 0⟩
  | [], n, i, row0, al, fi, rest, h, _, _, _, _ => absurd rfl h
  | [f], n, i, row0, al, fi, rest, _, he, hn, hl, hf => by
    obtain ⟨n, rfl⟩ : ∃ m, n = m + 1 := ⟨n - 1, by simp at hn; omega⟩
    obtain ⟨p1, p2, p3, p4, p5⟩ := right_parts hd
    simp only [rowB]
    unfold fieldsG
    rw [field_writ hd l.field f rest al fi i he.stops (hl f (by simp))]
    rcases he with rfl | ⟨b, r', rfl, h⟩
    · simp
    · have hb : (b == d.delim) = false := by rw [beq_eq_false_iff_ne]; rcases h with rfl | rfl <;> first | exact Ne.symm p4 | exact Ne.symm p3
      simp [hb]
  | f :: g :: r, n, i, row0, al, fi, rest, _, he, hn, hl, hf => by
    obtain ⟨n, rfl⟩ : ∃ m, n = m + 1 := ⟨n - 1, by simp at hn; omega⟩
    simp only [rowB, List.append_assoc, List.cons_append]
    unfold fieldsG
    rw [field_writ hd l.field f _ al fi i (.inr ⟨d.delim, _, rfl, by simp [sepB]⟩) (hl f (by simp))]
    simp only [List.length_cons] at hn hf
    have hne : ((row0 ++ [f]).length == l.fields) = false := by simp; omega
    have hno : ((none : Option Nat) == some (row0 ++ [f]).length) = false := rfl
    simp only [bne_self_eq_false, Bool.false_eq_true, if_false, beq_self_eq_true, if_true, hne, hno]
    rw [fields_row l (g :: r) n _ _ al false rest (by simp) he (by simp; omega) (fun x hx => hl x (by simp at hx ⊢; exact .inr hx)) (by simp; omega)]
    simp; omega
omit hd in
theorem eol_ends (d : Dia) (rest : Bs) : Ends (eol d ++ rest) := by
  unfold eol
  split
  · exact .inr ⟨13, 10 :: rest, rfl, .inr rfl⟩
  · exact .inr ⟨10, rest, rfl, .inl rfl⟩
/-- A row's text begins with a byte, and that of no end of line. -/
theorem row_head (r : Row) (al fi : Bool) (hr : r ≠ []) (hal : r.length = 1 → al = true) (rest : Bs) : ∃ b r', rowB d al fi r ++ rest = b :: r' ∧ b ≠ 10 ∧ b ≠ 13 := by
  obtain ⟨p1, p2, p3, p4, p5⟩ := right_parts hd
  have hw : ∀ (f tail : Bs), (f = [] → why d f al fi != 0 ∨ ∃ t, tail = d.delim :: t) → ∃ b r', writ d f al fi ++ tail = b :: r' ∧ b ≠ 10 ∧ b ≠ 13 := by
    intro f tail hf
    unfold writ
    cases h : (why d f al fi != 0)
    · simp only [Bool.false_eq_true, if_false]
      have hb := why_bad h
      cases f with
      | nil =>
        rcases hf rfl with h1 | ⟨t, rfl⟩
        · rw [h] at h1; cases h1
        · exact ⟨d.delim, t, rfl, p4, p3⟩
      | cons b f =>
        have := hb b (by simp)
        unfold badB at this
        simp only [Bool.or_eq_false_iff, beq_eq_false_iff_ne] at this
        exact ⟨b, f ++ tail, rfl, this.2, this.1.2⟩
    · simp only [if_true]
      exact ⟨d.quote, dbl d.quote f ++ [d.quote] ++ tail, rfl, p2, p1⟩
  match r with
  | [] => exact absurd rfl hr
  | [f] =>
    simp only [rowB]
    refine hw f rest ?_
    rintro rfl
    refine .inl ?_
    rw [hal rfl]
    simp [why]
  | f :: g :: r =>
    simp only [rowB, List.append_assoc, List.cons_append]
    exact hw f _ (fun _ => .inr ⟨_, rfl⟩)
theorem line_read (l : Lim) (hu : l.uniform = false) (r : Row) (fi : Bool) (n begun i : Nat) (first : Option Nat) (rest : Bs) (hr : r ≠ []) (hl : ∀ f ∈ r, f.length ≤ l.field) (hf : r.length ≤ l.fields) (hb : begun < l.records) :
    readG d l (n + 1) begun first (lineB d r fi ++ rest) i = G.cons r (i + (lineB d r fi).length - 1) (readG d l n (begun + 1) (firstOf first r.length) rest (i + (lineB d r fi).length)) := by
  obtain ⟨b, r', hhead, h10, h13⟩ := row_head hd r (r.length == 1) fi hr (by intro h; simp [h]) (eol d ++ rest)
  have hfs := fields_row hd l r ((b :: r').length + 1) i [] (r.length == 1) fi (eol d ++ rest) hr (eol_ends d rest) (by
    have : r.length ≤ (rowB d (r.length == 1) fi r).length + 1 := by
      have key : ∀ (r : Row) (al fi : Bool), r.length ≤ (rowB d al fi r).length + 1 := by
        intro r
        induction r with
        | nil => intro al fi; simp
        | cons f r ih =>
          intro al fi
          cases r with
          | nil => simp [rowB]
          | cons g r => have := ih al false; simp only [rowB, List.length_append, List.length_cons] at this ⊢; omega
      exact key r _ fi
    have h2 := congrArg List.length hhead
    simp only [List.length_append] at h2
    omega) hl (by simpa using hf)
  rw [List.nil_append, hhead] at hfs
  unfold lineB
  rw [List.append_assoc, hhead]
  conv => lhs; unfold readG
  have e10 : (b == 10) = false := by simpa using h10
  have e13 : (b == 13) = false := by simpa using h13
  have eb : (begun == l.records) = false := by simp; omega
  have eu : uni l first = none := by simp [uni, hu]
  simp only [e10, e13, eb, eu, Bool.false_eq_true, if_false]
  rw [hfs]
  have hbad : ∀ n, bad none n = false := fun _ => rfl
  simp only [bne_self_eq_false, Bool.false_eq_true, if_false, hbad]
  unfold eol
  by_cases h2 : d.fin = 2
  · have h1 : (d.fin == 1) = false := by rw [h2]; rfl
    simp only [h2, if_true, List.cons_append, List.nil_append]
    simp [Nat.add_assoc]
  · have h2' : (d.fin == 2) = false := by simpa using h2
    simp only [h2, if_false, List.cons_append, List.nil_append, h2', beq_self_eq_true, if_true]
    simp [Nat.add_assoc]
theorem text_read (l : Lim) (hu : l.uniform = false) : ∀ (t : Tb) (fi : Bool) (n begun i : Nat) (first : Option Nat), (∀ r ∈ t, r ≠ [] ∧ r.length ≤ l.fields ∧ ∀ f ∈ r, f.length ≤ l.field) → t.length ≤ n → begun + t.length ≤ l.records →
    ∃ es, readG d l n begun first (textB d fi t) i = ⟨t, es, 0, 0⟩
  | [], fi, n, begun, i, first, _, _, _ => ⟨[], by cases n <;> rfl⟩
  | r :: t, fi, n, begun, i, first, ht, hn, hb => by
    simp only [List.length_cons] at hn hb
    obtain ⟨n, rfl⟩ : ∃ m, n = m + 1 := ⟨n - 1, by omega⟩
    obtain ⟨h1, h2, h3⟩ := ht r (by simp)
    obtain ⟨es, he⟩ := text_read l hu t false n (begun + 1) (i + (lineB d r fi).length) (firstOf first r.length) (fun x hx => ht x (by simp [hx])) (by omega) (by omega)
    refine ⟨(i + (lineB d r fi).length - 1) :: es, ?_⟩
    rw [textB, line_read hd l hu r fi n begun i first _ h1 h3 h2 (by omega), he]
    rfl
end read
end Go.Proofs.Ytcmoldondflilaa.Wr
