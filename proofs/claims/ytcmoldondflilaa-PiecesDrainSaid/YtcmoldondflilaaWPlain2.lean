/- Layers 8, 9 and 10 in plain Lean: a text that is written is parsed as it was. No program in sight. -/
import Derived.Test.YtcmoldondflilaaWPlain
namespace Go.Proofs.Ytcmoldondflilaa.Wr
set_option linter.unusedVariables false
set_option linter.unusedSimpArgs false
set_option maxRecDepth 100000
open Mach Gram QuoPlain Par Utf
/-! ### UTF-8 -/
theorem ascii_step {st : Nat} {q : UInt8} (hq : q.toNat < 128) {s : Nat} (h : ustep st q.toNat = some s) : st = 0 ∧ s = 0 := by
  by_cases h0 : st = 0
  · subst h0
    have := t1 h
    refine ⟨rfl, ?_⟩
    omega
  · have := t2 h0 h
    omega
theorem urun_dbl {q : UInt8} (hq : q.toNat < 128) : ∀ (f : Bs) (st : Nat) (s : Nat), urun st f = some s → urun st (dbl q f) = some s
  | [], st, s, h => h
  | b :: f, st, s, h => by
    obtain ⟨s1, h1, h2⟩ := urun_cons_some h
    have ih := urun_dbl hq f s1 s h2
    simp only [dbl]
    split
    · rename_i hb
      rw [beq_iff_eq] at hb
      subst hb
      obtain ⟨rfl, rfl⟩ := ascii_step hq h1
      rw [urun_cons _ h1, urun_cons _ h1]
      exact ih
    · rw [urun_cons _ h1]
      exact ih
theorem valid_dbl {q : UInt8} (hq : q.toNat < 128) {f : Bs} (h : valid f = true) : valid (dbl q f) = true := by
  unfold valid at *
  rw [beq_iff_eq] at *
  exact urun_dbl hq f 0 0 h
theorem valid_nil : valid [] = true := rfl
theorem valid_cons {b : UInt8} (hb : b.toNat < 128) {l : Bs} (h : valid l = true) : valid (b :: l) = true := by
  have := valid_append [b] l (valid_ascii b hb) h
  simpa using this
theorem valid_quo {q : UInt8} (hq : q.toNat < 128) {f : Bs} (h : valid f = true) : valid (quoB q f) = true :=
  valid_cons hq (valid_append _ _ (valid_dbl hq h) (valid_ascii q hq))
section right
variable {d : Dia} (hd : d.right = true)
include hd
theorem ascii : d.delim.toNat < 128 ∧ d.quote.toNat < 128 := by
  unfold Dia.right mayPart at hd
  simp only [Bool.and_eq_true, decide_eq_true_eq] at hd
  exact ⟨hd.1.1.1.1.1, hd.1.1.2.1.1⟩
theorem valid_writ {f : Bs} (h : valid f = true) (al fi : Bool) : valid (writ d f al fi) = true := by
  unfold writ
  split
  · exact valid_quo (ascii hd).2 h
  · exact h
theorem valid_row : ∀ (r : Row) (al fi : Bool), (∀ f ∈ r, valid f = true) → valid (rowB d al fi r) = true
  | [], al, fi, h => rfl
  | [f], al, fi, h => valid_writ hd (h f (by simp)) al fi
  | f :: g :: r, al, fi, h => by
    simp only [rowB]
    exact valid_append _ _ (valid_writ hd (h f (by simp)) al fi) (valid_cons (ascii hd).1 (valid_row (g :: r) al false (fun x hx => h x (by simp at hx ⊢; exact .inr hx))))
omit hd in
theorem valid_eol (d : Dia) : valid (eol d) = true := by unfold eol; split <;> rfl
theorem valid_text : ∀ (t : Tb) (fi : Bool), (∀ r ∈ t, ∀ f ∈ r, valid f = true) → valid (textB d fi t) = true
  | [], fi, h => rfl
  | r :: t, fi, h => by
    simp only [textB, lineB]
    exact valid_append _ _ (valid_append _ _ (valid_row hd r _ fi (h r (by simp))) (valid_eol d)) (valid_text t false (fun x hx => h x (by simp [hx])))
/-! ### The mark -/
omit hd in
theorem mark_big (k : Nat) (hk : k < 3) : 128 ≤ (Bom.mark.getD k 0).toNat := by
  match k, hk with
  | 0, _ => decide
  | 1, _ => decide
  | 2, _ => decide
omit hd in
theorem nomark_at {l : Bs} {k : Nat} {c : UInt8} (hk : k < 3) (h : l[k]? = some c) (hc : c.toNat < 128) : Bom.hasB l 3 = false := by
  obtain ⟨h1, h2⟩ := List.getElem?_eq_some_iff.1 h
  refine Bom.hasB_off l 3 k hk h1 ?_ (by omega)
  intro e
  have := mark_big k hk
  rw [← e, h2] at this
  omega
omit hd in
theorem hasB_append {a b : Bs} (h : 3 ≤ a.length) : Bom.hasB (a ++ b) 3 = Bom.hasB a 3 := by
  unfold Bom.hasB
  rw [List.take_append_of_le_length h]
theorem nomark_writ (f tail : Bs) (al : Bool) (c : UInt8) (hc : c.toNat < 128) : Bom.hasB (writ d f al true ++ c :: tail) 3 = false := by
  unfold writ
  cases h : (why d f al true != 0)
  · simp only [Bool.false_eq_true, if_false]
    have hb : Bom.hasB f 3 = false := by
      have h : why d f al true = 0 := by simpa using h
      unfold why at h
      cases hm : Bom.hasB f 3
      · rfl
      · rw [hm] at h
        repeat' split at h
        all_goals first | (cases h; done) | simp_all
    by_cases h3 : 3 ≤ f.length
    · rw [hasB_append h3]; exact hb
    · exact nomark_at (k := f.length) (by omega) (by rw [List.getElem?_append_right (Nat.le_refl _)]; simp) hc
  · simp only [if_true]
    exact nomark_at (k := 0) (by omega) rfl (ascii hd).2
theorem nomark_text (t : Tb) (ht : ∀ r ∈ t, r ≠ []) : Bom.hasB (textB d true t) 3 = false := by
  cases t with
  | nil => rfl
  | cons r t =>
    obtain ⟨c, e, he, hc⟩ : ∃ c e, eol d = c :: e ∧ c.toNat < 128 := by
      unfold eol
      split
      · exact ⟨13, [10], rfl, by decide⟩
      · exact ⟨10, [], rfl, by decide⟩
    simp only [textB, lineB, he]
    match r with
    | [] => exact absurd rfl (ht [] (by simp))
    | [f] =>
      simp only [rowB, List.append_assoc, List.cons_append]
      exact nomark_writ hd f _ _ c hc
    | f :: g :: r =>
      simp only [rowB, List.append_assoc, List.cons_append]
      exact nomark_writ hd f _ _ d.delim (ascii hd).1
/-! ### What is parsed -/
omit hd in
theorem strip_no {s : Bs} (h : Bom.hasB s 3 = false) : Bom.strip s = s := by unfold Bom.strip; simp [h]
omit hd in
theorem bad_none {s : Bs} (h : valid s = true) : badP s = none ∧ ¬ wholeP s < s.length := by
  have h1 := (whole_auto s).2 h
  refine ⟨?_, by omega⟩
  rw [bad_auto]
  rw [valid_iff] at h
  simp only [Bool.and_eq_true, beq_iff_eq] at h
  rw [if_neg (by omega)]
omit hd in
theorem parse_of_read {l : Lim} {s : Bs} {t : Tb} {es : List Nat} (hm : Bom.hasB s 3 = false) (hv : valid s = true) (hr : readAll d l s = ⟨t, es, 0, 0⟩) : parseP d l s = (t, 0, 0) := by
  obtain ⟨h1, h2⟩ := bad_none hv
  have hl := read_lens d l (s.length + 1) 0 none s 0
  have hr' : readG d l (s.length + 1) 0 none s 0 = ⟨t, es, 0, 0⟩ := hr
  rw [hr'] at hl
  have hj : judge s ⟨t, es, 0, 0⟩ = (0, (s.length : Int)) := by
    rw [judge_eq]
    unfold judge0
    rw [h1]
    simp [h2, at0P]
  unfold parseP
  rw [strip_no hm, hr]
  simp only [hj]
  have hk : okP s (0, (s.length : Int)) = fun _ => true := by funext e; simp [okP]
  rw [hk, keep_all es t hl]
  rfl
theorem parse_text (l : Lim) (hu : l.uniform = false) (t : Tb) (ht : ∀ r ∈ t, r ≠ [] ∧ r.length ≤ l.fields ∧ ∀ f ∈ r, f.length ≤ l.field) (hv : ∀ r ∈ t, ∀ f ∈ r, valid f = true) (hb : t.length ≤ l.records) :
    parseP d l (textB d true t) = (t, 0, 0) := by
  have hlen : ∀ (t : Tb) (fi : Bool), (∀ r ∈ t, r ≠ []) → t.length ≤ (textB d fi t).length := by
    intro t
    induction t with
    | nil => intro fi _; simp
    | cons r t ih =>
      intro fi h
      have := ih false (fun x hx => h x (by simp [hx]))
      have he : 1 ≤ (eol d).length := by unfold eol; split <;> simp
      simp only [textB, lineB, List.length_append, List.length_cons]
      omega
  obtain ⟨es, he⟩ := text_read hd l hu t true ((textB d true t).length + 1) 0 0 none ht (by have := hlen t true (fun r hr => (ht r hr).1); omega) (by omega)
  exact parse_of_read (nomark_text hd t (fun r hr => (ht r hr).1)) (valid_text hd t true hv) he
/-- A field that is quoted, alone. -/
theorem parse_quoted (l : Lim) (hu : l.uniform = false) (f : Bs) (hf : f.length ≤ l.field) (h1 : 1 ≤ l.fields) (h2 : 1 ≤ l.records) (hv : valid f = true) : parseP d l (quoB d.quote f) = ([[f]], 0, 0) := by
  obtain ⟨p1, p2, p3, p4, p5⟩ := right_parts hd
  refine parse_of_read (es := [(quoB d.quote f).length]) (nomark_at (k := 0) (by omega) rfl (ascii hd).2) (valid_quo (ascii hd).2 hv) ?_
  have hx : fieldsG d l none ((quoB d.quote f).length + 1) (quoB d.quote f) 0 [] = ⟨[f], [], (quoB d.quote f).length, 0, 0⟩ := by
    have hq := quoted_dbl hd l.field f [] [] 1 (.inl rfl) (by simpa using hf)
    unfold fieldsG fieldG quoB
    simp only [beq_self_eq_true, if_true, Nat.zero_add]
    rw [hq]
    simp
    omega
  unfold readAll readG
  have hq : quoB d.quote f = d.quote :: (dbl d.quote f ++ [d.quote]) := rfl
  rw [hq]
  have e10 : (d.quote == 10) = false := by simpa using p2
  have e13 : (d.quote == 13) = false := by simpa using p1
  have eb : (0 == l.records) = false := by simp; omega
  have eu : uni l none = none := by simp [uni]
  simp only [e10, e13, eb, eu, Bool.false_eq_true, if_false]
  rw [hq] at hx
  rw [hx]
  simp [bad, G.cons, G.nil]
end right
end Go.Proofs.Ytcmoldondflilaa.Wr
