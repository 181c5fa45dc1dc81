/- Layers 8 and 10 in plain Lean: no text that is read as a table is shorter than what is written of it. No program in sight. -/
import Derived.Test.YtcmoldondflilaaWPlain2
namespace Go.Proofs.Ytcmoldondflilaa.Wr
set_option linter.unusedVariables false
set_option linter.unusedSimpArgs false
set_option maxRecDepth 100000
open Mach Gram QuoPlain Par Utf
/-! ### What was read, read back -/
theorem quoted_inv (d : Dia) (lm : Nat) : ∀ (r : Bs) (i : Nat) (acc : Bs), (quotedG d lm r i acc).kind = 0 → ∃ g, (quotedG d lm r i acc).f = acc ++ g ∧ r = dbl d.quote g ++ d.quote :: (quotedG d lm r i acc).r := by
  intro r i f
  induction r, i, f using quotedG.induct d lm with
  | case1 i f => intro h; simp [quotedG] at h
  | case2 b i f hq =>
    intro h
    rw [beq_iff_eq] at hq
    subst hq
    exact ⟨[], by simp [quotedG, dbl]⟩
  | case3 b i f hq hfull => intro h; simp [quotedG, hq, hfull] at h
  | case4 b i f hq hfull => intro h; simp [quotedG, hq, hfull] at h
  | case5 b c r i f hb hc hfull => intro h; simp [quotedG, hb, hc, hfull] at h
  | case6 b c r i f hb hc hfull ih =>
    intro h
    simp only [quotedG, hb, hc, hfull, if_true, if_false, Bool.false_eq_true] at h ih ⊢
    obtain ⟨g, h1, h2⟩ := ih h
    rw [beq_iff_eq] at hb hc
    refine ⟨c :: g, by simp [h1], ?_⟩
    subst hb
    subst hc
    simp only [dbl, beq_self_eq_true, if_true, List.cons_append]
    rw [← h2]
  | case7 b c r i f hb hc hsep =>
    intro h
    simp only [quotedG, hb, hc, hsep, if_true, if_false, Bool.false_eq_true]
    rw [beq_iff_eq] at hb
    exact ⟨[], by simp, by simp [dbl, hb]⟩
  | case8 b c r i f hb hc hsep => intro h; simp [quotedG, hb, hc, hsep] at h
  | case9 b c r i f hq hfull => intro h; simp [quotedG, hq, hfull] at h
  | case10 b c r i f hq hfull ih =>
    intro h
    simp only [quotedG, hq, hfull, if_true, if_false, Bool.false_eq_true] at h ih ⊢
    obtain ⟨g, h1, h2⟩ := ih h
    refine ⟨b :: g, by simp [h1], ?_⟩
    have hq' : (b == d.quote) = false := by simpa using hq
    simp only [dbl, hq', Bool.false_eq_true, if_false, List.cons_append]
    rw [← h2]
theorem bare_inv (d : Dia) (lm : Nat) : ∀ (r : Bs) (i : Nat) (acc : Bs), (bareG d lm r i acc).kind = 0 → ∃ g, (bareG d lm r i acc).f = acc ++ g ∧ r = g ++ (bareG d lm r i acc).r ∧ ∀ b ∈ g, badB d b = false := by
  intro r i f
  induction r, i, f using bareG.induct d lm with
  | case1 i f => intro h; exact ⟨[], by simp [bareG]⟩
  | case2 b r i f hb => intro h; exact ⟨[], by simp [bareG, hb]⟩
  | case3 b r i f hb hq => intro h; simp [bareG, hb, hq] at h
  | case4 b r i f hb hq hfull => intro h; simp [bareG, hb, hq, hfull] at h
  | case5 b r i f hb hq hfull ih =>
    intro h
    simp only [bareG, hb, hq, hfull, if_true, if_false, Bool.false_eq_true] at h ih ⊢
    obtain ⟨g, h1, h2, h3⟩ := ih h
    refine ⟨b :: g, by simp [h1], by rw [List.cons_append, ← h2], ?_⟩
    intro x hx
    simp only [List.mem_cons] at hx
    rcases hx with rfl | hx
    · have hb : sepB d x = false := by simpa using hb
      have hq : (x == d.quote) = false := by simpa using hq
      unfold sepB at hb
      simp only [Bool.or_eq_false_iff] at hb
      unfold badB
      simp [hb, hq]
    · exact h3 x hx
/-- w is a text of a field. -/
def FT (d : Dia) (w f : Bs) : Prop := (w = f ∧ ∀ b ∈ f, badB d b = false) ∨ w = quoB d.quote f
theorem field_inv (d : Dia) (lm : Nat) (r : Bs) (i : Nat) (h : (fieldG d lm r i).kind = 0) : ∃ w, r = w ++ (fieldG d lm r i).r ∧ FT d w (fieldG d lm r i).f := by
  have bare : ∀ r, (bareG d lm r i []).kind = 0 → ∃ w, r = w ++ (bareG d lm r i []).r ∧ FT d w (bareG d lm r i []).f := by
    intro r h
    obtain ⟨g, h1, h2, h3⟩ := bare_inv d lm r i [] h
    rw [List.nil_append] at h1
    exact ⟨g, h2, .inl ⟨h1.symm, by rw [h1]; exact h3⟩⟩
  unfold fieldG at h ⊢
  split at h
  · exact bare [] h
  · split at h
    · rename_i b r' hb
      rw [if_pos hb]
      obtain ⟨g, h1, h2⟩ := quoted_inv d lm r' (i + 1) [] h
      rw [List.nil_append] at h1
      rw [beq_iff_eq] at hb
      refine ⟨quoB d.quote g, ?_, .inr (by rw [h1])⟩
      unfold quoB
      subst hb
      simp only [List.cons_append, List.append_assoc, List.singleton_append, List.nil_append]
      rw [← h2]
    · rename_i b r' hb
      rw [if_neg hb]
      exact bare (b :: r') h
/-- w is a text of a row. -/
inductive RT (d : Dia) : Bs → Row → Prop
  | one {w f} : FT d w f → RT d w [f]
  | cons {w v f g r} : FT d w f → RT d v (g :: r) → RT d (w ++ d.delim :: v) (f :: g :: r)
theorem RT.ne {d : Dia} {w : Bs} {r : Row} (h : RT d w r) : r ≠ [] := by cases h <;> simp
theorem fields_inv (d : Dia) (l : Lim) (u : Option Nat) : ∀ (n : Nat) (r : Bs) (i : Nat) (row0 : Row), r.length < n → (fieldsG d l u n r i row0).kind = 0 →
    ∃ w row, (fieldsG d l u n r i row0).row = row0 ++ row ∧ r = w ++ (fieldsG d l u n r i row0).r ∧ RT d w row ∧ Ends (fieldsG d l u n r i row0).r
  | 0, r, i, row0, h, _ => by omega
  | n + 1, r, i, row0, hn, h => by
    have hi := field_inv d l.field r i
    have hst := field_stops d l.field r i
    obtain ⟨x, hx⟩ : ∃ x, fieldG d l.field r i = x := ⟨_, rfl⟩
    unfold fieldsG at h ⊢
    simp only [hx] at hi hst h ⊢
    by_cases hk : x.kind = 0
    rotate_left
    · rw [if_pos (by simpa using hk)] at h
      exact absurd h hk
    rw [if_neg (by simpa using hk)] at h ⊢
    obtain ⟨w, h1, h2⟩ := hi hk
    have h3 := hst.2 hk
    cases hr : x.r with
    | nil =>
      simp only [hr] at h h1 ⊢
      exact ⟨w, [x.f], rfl, h1, .one h2, .inl rfl⟩
    | cons b r' =>
      simp only [hr] at h h1 h3 ⊢
      by_cases hb : b = d.delim
      · have hb' : (b == d.delim) = true := by simpa using hb
        simp only [hb', if_true] at h ⊢
        split at h
        · exact absurd h (by simp)
        · rename_i hf
          split at h
          · exact absurd h (by simp)
          · rename_i hu
            rw [if_neg hf, if_neg hu]
            have hrl : r'.length < n := by have := congrArg List.length h1; simp at this; omega
            obtain ⟨v, row, a1, a2, a3, a4⟩ := fields_inv d l u n r' (x.i + 1) (row0 ++ [x.f]) hrl h
            have hne := a3.ne
            cases row with
            | nil => exact absurd rfl hne
            | cons g row =>
              refine ⟨w ++ d.delim :: v, x.f :: g :: row, by rw [a1]; simp, ?_, .cons h2 a3, a4⟩
              rw [List.append_assoc, List.cons_append, ← a2, ← hb]
              exact h1
      · have hb' : (b == d.delim) = false := by simpa using hb
        simp only [hb', Bool.false_eq_true, if_false] at h ⊢
        refine ⟨w, [x.f], rfl, h1, .one h2, .inr ⟨b, r', rfl, ?_⟩⟩
        rcases h3 with h3 | ⟨c, r2, hc, hs⟩
        · cases h3
        · injection hc with e1 e2
          subst e1
          unfold sepB at hs
          simp only [Bool.or_eq_true, beq_iff_eq] at hs
          rcases hs with (hs | hs) | hs
          · exact absurd hs hb
          · exact .inl hs
          · exact .inr hs
/-- An end of line of a dialect; a text of a table. -/
def IsEol (d : Dia) (e : Bs) : Prop := (e = [10] ∧ d.fin ≠ 2) ∨ (e = [13, 10] ∧ d.fin ≠ 1)
def Head (w : Bs) : Prop := ∃ b r, w = b :: r ∧ b ≠ 10 ∧ b ≠ 13
inductive LT (d : Dia) : Bs → Tb → Prop
  | nil : LT d [] []
  | blank {e s t} : IsEol d e → LT d s t → LT d (e ++ s) t
  | line {w e s r t} : Head w → RT d w r → IsEol d e → LT d s t → LT d (w ++ (e ++ s)) (r :: t)
  | last {w r} : Head w → RT d w r → LT d w [r]
theorem read_inv (d : Dia) (l : Lim) : ∀ (n begun : Nat) (first : Option Nat) (r : Bs) (i : Nat), r.length < n → (readG d l n begun first r i).kind = 0 → LT d r (readG d l n begun first r i).recs
  | 0, begun, first, r, i, h, _ => by omega
  | n + 1, begun, first, [], i, _, _ => .nil
  | n + 1, begun, first, b :: r', i, hn, h => by
    have IH := read_inv d l n
    have hfi := fields_inv d l (uni l first) ((b :: r').length + 1) (b :: r') i [] (by simp)
    obtain ⟨x, hx⟩ : ∃ x, fieldsG d l (uni l first) ((b :: r').length + 1) (b :: r') i [] = x := ⟨_, rfl⟩
    unfold readG at h ⊢
    dsimp only at h ⊢
    rw [hx] at hfi h ⊢
    simp only [List.length_cons] at hn
    by_cases h10 : b = 10
    · subst h10
      simp only [beq_self_eq_true, if_true] at h ⊢
      split at h
      · simp [G.wrong] at h
      · rename_i hf
        rw [if_neg hf]
        exact .blank (e := [10]) (.inl ⟨rfl, by simpa using hf⟩) (IH _ _ _ _ (by omega) h)
    have e10 : (b == 10) = false := by simpa using h10
    simp only [e10, Bool.false_eq_true, if_false] at h ⊢
    by_cases h13 : b = 13
    · subst h13
      simp only [beq_self_eq_true, if_true] at h ⊢
      split at h
      · simp [G.wrong] at h
      · rename_i hf
        rw [if_neg hf]
        cases r' with
        | nil => simp [G.wrong] at h
        | cons c r2 =>
          simp only [List.length_cons] at hn
          dsimp only at h ⊢
          split at h
          · rename_i hc
            rw [if_pos hc]
            rw [beq_iff_eq] at hc
            subst hc
            exact .blank (e := [13, 10]) (.inr ⟨rfl, by simpa using hf⟩) (IH _ _ _ _ (by omega) h)
          · simp [G.wrong] at h
    have e13 : (b == 13) = false := by simpa using h13
    simp only [e13, Bool.false_eq_true, if_false] at h ⊢
    split at h
    · simp [G.wrong] at h
    rename_i hbg
    rw [if_neg hbg]
    split at h
    · rename_i hk
      simp [G.wrong] at h
      simp [h] at hk
    rename_i hk
    rw [if_neg hk]
    obtain ⟨w, row, a1, a2, a3, a4⟩ := hfi (by simpa using hk)
    rw [List.nil_append] at a1
    have hhd : w ≠ [] → Head w := by
      intro hw
      cases w with
      | nil => exact absurd rfl hw
      | cons c w => simp only [List.cons_append, List.cons.injEq] at a2; exact ⟨c, w, rfl, by rw [← a2.1]; exact h10, by rw [← a2.1]; exact h13⟩
    have hw : w ≠ [] := by
      rintro rfl
      rw [List.nil_append] at a2
      rcases a4 with a4 | ⟨c, r2, a4, hc⟩
      · rw [a4] at a2; cases a2
      · rw [a4] at a2
        simp only [List.cons.injEq] at a2
        rcases hc with hc | hc
        · exact h10 (a2.1.trans hc)
        · exact h13 (a2.1.trans hc)
    have hH := hhd hw
    have hwl : 0 < w.length := List.length_pos_iff.2 hw
    cases hr : x.r with
    | nil =>
      simp only [hr] at h a2 ⊢
      split at h
      · simp [G.wrong] at h
      · rename_i hb
        rw [if_neg hb]
        rw [List.append_nil] at a2
        simp only [G.cons, G.nil]
        rw [a1, a2]
        exact .last hH a3
    | cons c r2 =>
      simp only [hr] at h a2 ⊢
      have hlen := congrArg List.length a2
      simp only [List.length_cons, List.length_append] at hlen
      split at h
      · rename_i hc
        rw [if_pos hc]
        rw [beq_iff_eq] at hc
        subst hc
        split at h
        · simp [G.wrong] at h
        · rename_i hf
          rw [if_neg hf]
          split at h
          · simp [G.wrong] at h
          · rename_i hb
            rw [if_neg hb]
            have h2 := IH _ _ _ _ (by omega) h
            rw [a1] at h2
            simp only [G.cons]
            rw [a1, a2]
            exact .line (e := [10]) hH a3 (.inl ⟨rfl, by simpa using hf⟩) h2
      · rename_i hc
        rw [if_neg hc]
        have hc13 : c = 13 := by
          rcases a4 with a4 | ⟨c', r3, a4, hc'⟩
          · rw [hr] at a4; cases a4
          · rw [hr] at a4
            injection a4 with e1 e2
            subst e1
            rcases hc' with hc' | hc'
            · subst hc'; simp at hc
            · exact hc'
        split at h
        · simp [G.wrong] at h
        · rename_i hf
          rw [if_neg hf]
          split at h
          · simp [G.wrong] at h
          · rename_i hb
            rw [if_neg hb]
            cases r2 with
            | nil => simp [G.wrong] at h
            | cons e r3 =>
              dsimp only at h ⊢
              simp only [List.length_cons] at hlen
              split at h
              · rename_i he
                rw [if_pos he]
                rw [beq_iff_eq] at he
                subst he
                have h2 := IH _ _ _ _ (by omega) h
                rw [a1] at h2
                simp only [G.cons]
                rw [a1, a2, hc13]
                exact .line (e := [13, 10]) hH a3 (.inr ⟨rfl, by simpa using hf⟩) h2
              · simp [G.wrong] at h
/-! ### Lengths -/
section right
variable {d : Dia} (hd : d.right = true)
theorem dbl_bare (q : UInt8) : ∀ (f : Bs), (∀ b ∈ f, b ≠ q) → dbl q f = f
  | [], _ => rfl
  | b :: f, h => by
    have hb : (b == q) = false := by simpa using h b (by simp)
    simp only [dbl, hb, Bool.false_eq_true, if_false]
    rw [dbl_bare q f (fun x hx => h x (by simp [hx]))]
theorem quo_len (q : UInt8) (f : Bs) : (quoB q f).length = (dbl q f).length + 2 := by simp [quoB]
theorem writ_le (f : Bs) (al fi : Bool) : (writ d f al fi).length ≤ (quoB d.quote f).length := by
  unfold writ
  split
  · exact Nat.le_refl _
  · have := dbl_len d.quote f
    rw [quo_len]; omega
/-- What a bare field's reason may be. -/
theorem why_bare {f : Bs} (hb : ∀ b ∈ f, badB d b = false) (al fi : Bool) : why d f al fi = if f.isEmpty && al then 4 else if fi && Bom.hasB f 3 then 5 else 0 := by
  have h : ∀ c, badB d c = true → f.contains c = false := by
    intro c hc
    cases hx : f.contains c
    · rfl
    · rw [List.contains_iff_mem] at hx
      rw [hb c hx] at hc
      cases hc
  unfold why
  rw [h d.delim (by simp [badB]), h d.quote (by simp [badB]), h 13 (by simp [badB]), h 10 (by simp [badB])]
  simp
theorem ft_len {w f : Bs} (h : FT d w f) (al : Bool) (hal : al = true → w ≠ []) : (writ d f al false).length ≤ w.length := by
  rcases h with ⟨rfl, hb⟩ | rfl
  · have : why d w al false = 0 := by
      rw [why_bare hb]
      cases al
      · simp
      · cases w with
        | nil => exact absurd rfl (hal rfl)
        | cons x y => simp
    unfold writ
    rw [this]
    simp
  · exact writ_le f al false
theorem rt_len : ∀ {w : Bs} {r : Row}, RT d w r → ∀ (al : Bool), (al = true → w ≠ []) → (r.length ≠ 1 → al = false) → (rowB d al false r).length ≤ w.length := by
  intro w r h
  induction h with
  | one h => intro al hal _; exact ft_len h al hal
  | cons h1 h2 ih =>
    intro al hal h
    obtain rfl : al = false := h (by simp)
    have := ft_len h1 false (by simp)
    have := ih false (by simp) (by simp)
    simp only [rowB, List.length_append, List.length_cons]
    omega
theorem eol_len {e : Bs} (h : IsEol d e) : (eol d).length ≤ e.length := by
  unfold eol
  rcases h with ⟨rfl, h⟩ | ⟨rfl, h⟩
  · rw [if_neg h]; simp
  · split <;> simp
def Closed (s : Bs) : Prop := s = [] ∨ s.getLast? = some 10
theorem closed_tail {a s : Bs} (h : Closed (a ++ s)) : Closed s := by
  cases s with
  | nil => exact .inl rfl
  | cons b s =>
    right
    rcases h with h | h
    · simp at h
    · rw [List.getLast?_append] at h
      simpa using h
include hd in
theorem ft_last {w f : Bs} (h : FT d w f) (hw : w ≠ []) : w.getLast? ≠ some 10 := by
  obtain ⟨p1, p2, p3, p4, p5⟩ := right_parts hd
  rcases h with ⟨rfl, hb⟩ | rfl
  · intro e
    have hm : (10 : UInt8) ∈ w := List.mem_of_getLast? e
    have := hb 10 hm
    simp [badB] at this
  · unfold quoB
    rw [show d.quote :: (dbl d.quote f ++ [d.quote]) = (d.quote :: dbl d.quote f) ++ [d.quote] from rfl, List.getLast?_append]
    simp
    exact p2
include hd in
theorem rt_last : ∀ {w : Bs} {r : Row}, RT d w r → w ≠ [] → w.getLast? ≠ some 10 := by
  obtain ⟨p1, p2, p3, p4, p5⟩ := right_parts hd
  intro w r h
  induction h with
  | one h => exact ft_last hd h
  | @cons w v f g r h1 h2 ih =>
    intro _
    cases v with
    | nil => rw [List.getLast?_append]; simp; exact p4
    | cons x y =>
      have := ih (by simp)
      rw [List.getLast?_append]
      rw [show d.delim :: x :: y = [d.delim] ++ (x :: y) from rfl, List.getLast?_append]
      cases hl : (x :: y).getLast? with
      | none => simp at hl
      | some z => rw [hl] at this; simpa using this
include hd in
theorem lt_len : ∀ {s : Bs} {t : Tb}, LT d s t → Closed s → (textB d false t).length ≤ s.length := by
  intro s t h
  induction h with
  | nil => intro _; simp [textB]
  | @blank e s t he h ih => intro hc; have := ih (closed_tail hc); simp only [List.length_append]; omega
  | @line w e s r t hh hr he h ih =>
    intro hc
    have h1 := ih (closed_tail (closed_tail hc))
    obtain ⟨b, w', rfl, _⟩ := hh
    have h2 := rt_len hr (r.length == 1) (by simp) (by intro h; simpa using h)
    have h3 := eol_len he
    simp only [textB, lineB, List.length_append]
    omega
  | @last w r hh hr =>
    intro hc
    obtain ⟨b, w', rfl, _⟩ := hh
    rcases hc with hc | hc
    · cases hc
    · exact absurd hc (rt_last hd hr (by simp))
/-- Does a table's first field begin with the mark? -/
def hm : Tb → Bool
  | (f :: _) :: _ => Bom.hasB f 3
  | _ => false
theorem writ_first (f : Bs) (al : Bool) (h : Bom.hasB f 3 = false) : writ d f al true = writ d f al false := by
  unfold writ why
  rw [h]
  simp
theorem text_first : ∀ (t : Tb), hm t = false → textB d true t = textB d false t
  | [], _ => rfl
  | [] :: t, _ => rfl
  | [f] :: t, h => by simp only [textB, lineB, rowB]; rw [writ_first f _ h]
  | (f :: g :: r) :: t, h => by simp only [textB, lineB, rowB]; rw [writ_first f _ h]
theorem writ_two (f : Bs) (al : Bool) : (writ d f al true).length ≤ (writ d f al false).length + 2 := by
  unfold writ
  cases h0 : (why d f al false != 0)
  · have hb := why_bad h0
    have := dbl_bare d.quote f (fun b hbm => (bad_parts (hb b hbm)).2)
    simp only [Bool.false_eq_true, if_false]
    split
    · rw [quo_len, this]; exact Nat.le_refl _
    · omega
  · have h1 : (why d f al true != 0) = true := by
      have h0' : why d f al false ≠ 0 := by simpa using h0
      have : why d f al true ≠ 0 := by
        unfold why at h0' ⊢
        repeat' split at h0'
        all_goals simp_all
      simpa using this
    simp only [h1, if_true]
    omega
theorem text_two : ∀ (t : Tb), (textB d true t).length ≤ (textB d false t).length + 2
  | [] => by simp [textB]
  | [] :: t => by simp only [textB, lineB, rowB, List.length_append, List.length_nil]; omega
  | [f] :: t => by have := writ_two (d := d) f ([f].length == 1); simp only [textB, lineB, rowB, List.length_append] at this ⊢; omega
  | (f :: g :: r) :: t => by have := writ_two (d := d) f ((f :: g :: r).length == 1); simp only [textB, lineB, rowB, List.length_append, List.length_cons] at this ⊢; omega
theorem hasB_pre {a b : Bs} (h : Bom.hasB a 3 = true) : Bom.hasB (a ++ b) 3 = true := by
  have h3 : 3 ≤ a.length := by
    unfold Bom.hasB at h
    rw [beq_iff_eq] at h
    have := congrArg List.length h
    simp [Bom.mark] at this
    omega
  rw [hasB_append h3]
  exact h
/-- A row's text, the first one, that does not begin with the mark: its first field is no bare mark. -/
theorem rt_len1 {w : Bs} {r : Row} (h : RT d w r) (hw : w ≠ []) (hm : Bom.hasB w 3 = false) : (rowB d (r.length == 1) true r).length ≤ w.length := by
  have ft : ∀ {w f tail : Bs} (al : Bool), FT d w f → (al = true → w ≠ []) → Bom.hasB (w ++ tail) 3 = false → (writ d f al true).length ≤ w.length := by
    intro w f tail al h hal hm
    rcases h with ⟨rfl, hb⟩ | rfl
    · have hm' : Bom.hasB w 3 = false := by
        cases hx : Bom.hasB w 3
        · rfl
        · rw [hasB_pre hx] at hm; cases hm
      rw [writ_first w al hm']
      exact ft_len (.inl ⟨rfl, hb⟩) al hal
    · exact writ_le f al true
  cases h with
  | one h =>
    have := ft (tail := []) true h (fun _ => hw) (by rwa [List.append_nil])
    simpa [rowB] using this
  | @cons w v f g r h1 h2 =>
    have := ft false h1 (by simp) hm
    have h3 := rt_len h2 false (by simp) (by simp)
    have e : ((f :: g :: r).length == 1) = false := by simp
    rw [e]
    simp only [rowB, List.length_append, List.length_cons]
    omega
include hd in
theorem lt_len1 {s : Bs} {t : Tb} (h : LT d s t) (hc : Closed s) (hh : ∀ b, s.head? = some b → b ≠ 10 ∧ b ≠ 13) (hm : Bom.hasB s 3 = false) : (textB d true t).length ≤ s.length := by
  cases h with
  | nil => simp [textB]
  | blank he h =>
    rcases he with ⟨rfl, _⟩ | ⟨rfl, _⟩
    · exact absurd rfl (hh 10 rfl).1
    · exact absurd rfl (hh 13 rfl).2
  | @line w e s r t hhd hr he h =>
    have h1 := lt_len hd h (closed_tail (closed_tail hc))
    obtain ⟨b, w', rfl, _⟩ := hhd
    have hm' : Bom.hasB (b :: w') 3 = false := by
      cases hx : Bom.hasB (b :: w') 3
      · rfl
      · rw [hasB_pre hx] at hm; cases hm
    have h2 := rt_len1 hr (by simp) hm'
    have h3 := eol_len he
    simp only [textB, lineB, List.length_append]
    omega
  | @last w r hhd hr =>
    obtain ⟨b, w', rfl, _⟩ := hhd
    rcases hc with hc | hc
    · cases hc
    · exact absurd hc (rt_last hd hr (by simp))
/-- What was parsed without a fault. -/
theorem parse_inv {l : Lim} {s : Bs} {t : Tb} {x : Int} (h : parseP d l s = (t, 0, x)) : LT d (Bom.strip s) t := by
  unfold parseP at h
  have hl := read_lens d l ((Bom.strip s).length + 1) 0 none (Bom.strip s) 0
  have hi := read_inv d l ((Bom.strip s).length + 1) 0 none (Bom.strip s) 0 (by omega)
  change (readAll d l (Bom.strip s)).ends.length = (readAll d l (Bom.strip s)).recs.length at hl
  change (readAll d l (Bom.strip s)).kind = 0 → LT d (Bom.strip s) (readAll d l (Bom.strip s)).recs at hi
  generalize readAll d l (Bom.strip s) = g at *
  simp only [Prod.mk.injEq] at h
  obtain ⟨h1, h2, h3⟩ := h
  have hk : g.kind = 0 := by
    rw [judge_eq] at h2
    unfold judge0 at h2
    simp only at h2
    cases hb : badP s with
    | some b =>
      rw [hb] at h2
      simp only at h2
      by_cases hx : g.kind = 0 ∨ (b : Int) ≤ at0P s g
      · rw [if_pos hx] at h2; simp at h2
      · rw [if_neg hx] at h2
        simp only at h2
        split at h2
        · cases h2
        · exact h2
    | none =>
      rw [hb] at h2
      simp only at h2
      by_cases hx : wholeP s < s.length ∧ at0P s g = (s.length : Int)
      · rw [if_pos hx] at h2; simp at h2
      · rw [if_neg hx] at h2
        simp only at h2
        split at h2
        · cases h2
        · exact h2
  have hok : okP s (judge s g) = fun _ => true := by funext e; simp [okP, h2]
  rw [hok, keep_all _ _ hl] at h1
  rw [← h1]
  exact hi hk
include hd in
/-- No text that is parsed as a table is shorter than what is written of it. -/
theorem shortest {l : Lim} {s : Bs} {t : Tb} {x : Int} (h : parseP d l s = (t, 0, x)) (hc : Closed s) (hx : hm t = false ∨ ∀ b, s.head? = some b → b ≠ 10 ∧ b ≠ 13) : (textB d true t).length ≤ s.length := by
  have hL := parse_inv h
  cases hb : Bom.hasB s 3
  · rw [strip_no hb] at hL
    rcases hx with hx | hx
    · rw [text_first t hx]
      exact lt_len hd hL hc
    · exact lt_len1 hd hL hc hx hb
  · have h3 : 3 ≤ s.length := by
      unfold Bom.hasB at hb
      rw [beq_iff_eq] at hb
      have := congrArg List.length hb
      simp [Bom.mark] at this
      omega
    have hs : Bom.strip s = s.drop 3 := by unfold Bom.strip; rw [if_pos hb]
    rw [hs] at hL
    have hc' : Closed (s.drop 3) := closed_tail (a := s.take 3) (by rwa [List.take_append_drop])
    have h1 := lt_len hd hL hc'
    have h2 := text_two (d := d) t
    rw [List.length_drop] at h1
    omega
include hd in
/-- What must be quoted is not read as it was, bare. -/
theorem must {l : Lim} {f : Bs} {x : Int} (hw : why d f true true ≠ 0) (h : parseP d l (f ++ eol d) = ([[f]], 0, x)) : False := by
  obtain ⟨p1, p2, p3, p4, p5⟩ := right_parts hd
  have hc : Closed (f ++ eol d) := by
    right
    rw [List.getLast?_append]
    unfold eol
    split <;> simp
  have h1 := shortest hd h hc (by
    cases hb : Bom.hasB f 3
    · exact .inl (by simpa [hm] using hb)
    · right
      intro b hbh
      cases f with
      | nil => cases hb
      | cons c f =>
        simp at hbh
        subst hbh
        have e : c = 239 := by
          unfold Bom.hasB at hb
          simp [Bom.mark] at hb
          exact hb.1
        subst e
        exact ⟨by decide, by decide⟩)
  have h2 : (writ d f true true).length = (dbl d.quote f).length + 2 := by
    unfold writ
    rw [if_pos (by simpa using hw), quo_len]
  have h3 := dbl_len d.quote f
  simp only [textB, lineB, rowB, List.length_append, List.length_cons, List.length_nil] at h1
  have e : ((0 + 1 == 1) : Bool) = true := rfl
  rw [e] at h1
  omega
end right
end Go.Proofs.Ytcmoldondflilaa.Wr
