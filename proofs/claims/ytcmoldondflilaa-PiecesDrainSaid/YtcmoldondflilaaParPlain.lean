/- ref06.Parse in plain Lean. No program. -/
import Derived.Test.YtcmoldondflilaaRdrPlain
import Derived.Test.YtcmoldondflilaaUtfPlain
import Derived.Test.YtcmoldondflilaaBomPlain
namespace Go.Proofs.Ytcmoldondflilaa.Par
set_option linter.unusedVariables false
set_option linter.unusedSimpArgs false
set_option maxRecDepth 100000
open Mach Gram
def keepP {α : Type} (ok : Nat → Bool) : List Nat → List α → List α
  | e :: es, r :: rs => if ok e then r :: keepP ok es rs else keepP ok es rs
  | _, _ => []
theorem keep_one {α : Type} (ok : Nat → Bool) : ∀ (es : List Nat) (rs : List α) (i : Nat) (he : i < es.length) (hr : i < rs.length),
    keepP ok (es.take (i + 1)) (rs.take (i + 1)) = keepP ok (es.take i) (rs.take i) ++ if ok es[i] then [rs[i]] else []
  | [], rs, i, he, hr => by simp at he
  | e :: es, [], i, he, hr => by simp at hr
  | e :: es, r :: rs, 0, he, hr => by
    simp only [List.take_succ_cons, List.take_zero, keepP, List.getElem_cons_zero]
    split <;> simp [keepP]
  | e :: es, r :: rs, i + 1, he, hr => by
    simp only [List.take_succ_cons, keepP, List.getElem_cons_succ]
    rw [keep_one ok es rs i (by simpa using he) (by simpa using hr)]
    split <;> simp
theorem keep_map {α β : Type} (ok : Nat → Bool) (f : α → β) : ∀ (es : List Nat) (rs : List α), keepP ok es (rs.map f) = (keepP ok es rs).map f
  | [], rs => by cases rs <;> rfl
  | e :: es, [] => rfl
  | e :: es, r :: rs => by
    simp only [List.map_cons, keepP]
    rw [keep_map ok f es rs]
    split <;> rfl
theorem keep_len {α : Type} (ok : Nat → Bool) : ∀ (es : List Nat) (rs : List α), (keepP ok es rs).length ≤ rs.length
  | [], rs => by cases rs <;> simp [keepP]
  | e :: es, [] => by simp [keepP]
  | e :: es, r :: rs => by
    have := keep_len ok es rs
    simp only [keepP]
    split <;> simp <;> omega
theorem keep_all {α : Type} : ∀ (es : List Nat) (rs : List α), es.length = rs.length → keepP (fun _ => true) es rs = rs
  | [], [], _ => rfl
  | e :: es, r :: rs, h => by simp [keepP, keep_all es rs (by simpa using h)]
theorem read_lens (d : Dia) (l : Lim) : ∀ (n begun : Nat) (first : Option Nat) (r : Bs) (i : Nat), (readG d l n begun first r i).ends.length = (readG d l n begun first r i).recs.length
  | 0, begun, first, r, i => rfl
  | n + 1, begun, first, r, i => by
    have IH := read_lens d l n
    unfold readG
    repeat' split
    all_goals first | rfl | exact IH _ _ _ _ | (dsimp only; repeat' split) | skip
    all_goals first | rfl | exact IH _ _ _ _ | (simp only [G.cons, G.nil, List.length_cons]; first | rfl | rw [IH]) | skip
theorem quoted_pl (d : Dia) (lm : Nat) : ∀ (r : Bs) (i : Nat) (f : Bs), (quotedG d lm r i f).pl ≤ i + r.length
  | [], i, f => by simp [quotedG]
  | [b], i, f => by
    unfold quotedG
    repeat' split
    all_goals simp [quotedG]
  | b :: c :: r, i, f => by
    unfold quotedG
    repeat' split
    all_goals first | (simp; done) | (simp; omega) | (have := quoted_pl d lm r (i + 2) (f ++ [c]); simp at this ⊢; omega) | (have := quoted_pl d lm (c :: r) (i + 1) (f ++ [b]); simp at this ⊢; omega)
theorem bare_pl (d : Dia) (lm : Nat) : ∀ (r : Bs) (i : Nat) (f : Bs), (bareG d lm r i f).pl ≤ i + r.length
  | [], i, f => by simp [bareG]
  | b :: r, i, f => by
    unfold bareG
    repeat' split
    all_goals first | (simp; done) | (simp; omega) | (have := bare_pl d lm r (i + 1) (f ++ [b]); simp at this ⊢; omega)
theorem field_pl (d : Dia) (lm : Nat) (r : Bs) (i : Nat) : (fieldG d lm r i).pl ≤ i + r.length := by
  unfold fieldG
  split
  · exact bare_pl d lm [] i []
  · split
    · have := quoted_pl d lm (by assumption) (i + 1) []
      simp only [List.length_cons]
      omega
    · exact bare_pl d lm _ i []
theorem field_k (d : Dia) (lm : Nat) (r : Bs) (i : Nat) (h : (fieldG d lm r i).kind = 0) : (fieldG d lm r i).i + (fieldG d lm r i).r.length = i + r.length := by
  unfold fieldG at h ⊢
  split at h
  · obtain ⟨k, h1, h2, h3⟩ := Rdr.bare_to d lm _ _ _ h
    rw [h2, h3, List.length_drop]; omega
  · split at h
    · rename_i hb
      rw [if_pos hb]
      obtain ⟨k, h1, h2, h3⟩ := Rdr.quoted_to d lm _ _ _ h
      rw [h2, h3, List.length_drop, List.length_cons]; omega
    · rename_i hb
      rw [if_neg hb]
      obtain ⟨k, h1, h2, h3⟩ := Rdr.bare_to d lm _ _ _ h
      rw [h2, h3, List.length_drop]; omega
theorem fields_b (d : Dia) (l : Lim) (u : Option Nat) : ∀ (n : Nat) (r : Bs) (i : Nat) (row : Row),
    (fieldsG d l u n r i row).pl ≤ i + r.length ∧ ((fieldsG d l u n r i row).kind = 0 → (fieldsG d l u n r i row).i + (fieldsG d l u n r i row).r.length = i + r.length)
  | 0, r, i, row => by simp [fieldsG]
  | n + 1, r, i, row => by
    have h1 := field_pl d l.field r i
    have h2 := field_k d l.field r i
    obtain ⟨X, hX⟩ : ∃ X, fieldG d l.field r i = X := ⟨_, rfl⟩
    rw [hX] at h1 h2
    unfold fieldsG
    simp only [hX]
    split
    · rename_i hk
      exact ⟨h1, fun h => absurd h (by simpa using hk)⟩
    · rename_i hk
      have h3 := h2 (by simpa using hk)
      split
      · rename_i hr
        rw [hr] at h3
        exact ⟨by simp, fun _ => h3⟩
      · rename_i b r' hr
        rw [hr] at h3
        simp only [List.length_cons] at h3
        split
        · split
          · exact ⟨by simp only; omega, fun h => by simp at h⟩
          · split
            · exact ⟨by simp only; omega, fun h => by simp at h⟩
            · obtain ⟨a, b⟩ := fields_b d l u n r' (X.i + 1) (row ++ [X.f])
              exact ⟨by omega, fun h => by have := b h; omega⟩
        · exact ⟨by simp, fun _ => by simp only [List.length_cons]; omega⟩
theorem read_b (d : Dia) (l : Lim) : ∀ (n begun : Nat) (first : Option Nat) (r : Bs) (i : Nat), (readG d l n begun first r i).pl ≤ i + r.length ∧ ∀ e ∈ (readG d l n begun first r i).ends, e ≤ i + r.length
  | 0, begun, first, r, i => by simp [readG, G.nil]
  | n + 1, begun, first, r, i => by
    have IH := read_b d l n
    match r with
    | [] => simp [readG, G.nil]
    | b :: r' =>
      obtain ⟨h1, h2⟩ := fields_b d l (uni l first) ((b :: r').length + 1) (b :: r') i []
      have W : ∀ k p, p ≤ i + (b :: r').length → (G.wrong k p).pl ≤ i + (b :: r').length ∧ ∀ e ∈ (G.wrong k p).ends, e ≤ i + (b :: r').length := fun k p hp => ⟨hp, by simp [G.wrong]⟩
      have C : ∀ row p (g : G), p ≤ i + (b :: r').length → (g.pl ≤ i + (b :: r').length ∧ ∀ e ∈ g.ends, e ≤ i + (b :: r').length) → (G.cons row p g).pl ≤ i + (b :: r').length ∧ ∀ e ∈ (G.cons row p g).ends, e ≤ i + (b :: r').length := by
        intro row p g hp hg
        refine ⟨hg.1, ?_⟩
        intro e he
        simp only [G.cons, List.mem_cons] at he
        rcases he with rfl | he
        · exact hp
        · exact hg.2 e he
      have U : ∀ bg fi (rr : Bs) j, j + rr.length ≤ i + (b :: r').length → (readG d l n bg fi rr j).pl ≤ i + (b :: r').length ∧ ∀ e ∈ (readG d l n bg fi rr j).ends, e ≤ i + (b :: r').length := by
        intro bg fi rr j hj
        obtain ⟨a, c⟩ := IH bg fi rr j
        exact ⟨by omega, fun e he => by have := c e he; omega⟩
      unfold readG
      dsimp only
      obtain ⟨x, hx⟩ : ∃ x, fieldsG d l (uni l first) ((b :: r').length + 1) (b :: r') i [] = x := ⟨_, rfl⟩
      rw [hx] at h1 h2 ⊢
      simp only [List.length_cons] at W C U h1 h2 ⊢
      split
      · split
        · exact W _ _ (by omega)
        · exact U _ _ _ _ (by omega)
      · split
        · split
          · exact W _ _ (by omega)
          · split
            · exact W _ _ (by omega)
            · split
              · exact U _ _ _ _ (by simp only [List.length_cons]; omega)
              · exact W _ _ (by simp only [List.length_cons]; omega)
        · split
          · exact W _ _ (by omega)
          · split
            · exact W _ _ h1
            · rename_i hk
              have h3 := h2 (by simpa using hk)
              split
              · rename_i hr
                rw [hr] at h3
                simp only [List.length_nil] at h3
                split
                · exact W _ _ (by omega)
                · exact C _ _ _ (by omega) ⟨by simp [G.nil], by simp [G.nil]⟩
              · rename_i c r2 hr
                rw [hr] at h3
                simp only [List.length_cons] at h3
                split
                · split
                  · exact W _ _ (by omega)
                  · split
                    · exact W _ _ (by omega)
                    · exact C _ _ _ (by omega) (U _ _ _ _ (by omega))
                · split
                  · exact W _ _ (by omega)
                  · split
                    · exact W _ _ (by omega)
                    · split
                      · exact W _ _ (by omega)
                      · simp only [List.length_cons] at h3
                        split
                        · exact C _ _ _ (by omega) (U _ _ _ _ (by omega))
                        · exact W _ _ (by omega)
/-- Kind and place. -/
def judge (s : Bs) (g : G) : Nat × Int :=
  let off : Int := (s.length : Int) - ((Bom.strip s).length : Int)
  let at0 : Int := if g.kind = 0 then (s.length : Int) else (g.pl : Int) + off
  let x : Nat × Int := match Utf.badP s with
    | some b => if g.kind = 0 ∨ (b : Int) ≤ at0 then (1, (b : Int)) else (g.kind, at0)
    | none => if Utf.wholeP s < s.length ∧ at0 = (s.length : Int) then (12, at0) else (g.kind, at0)
  (if x.1 = 1 then 3 else x.1, x.2)
def offP (s : Bs) : Int := (s.length : Int) - ((Bom.strip s).length : Int)
def okP (s : Bs) (j : Nat × Int) (e : Nat) : Bool := j.1 == 0 || decide ((e : Int) + offP s < j.2)
/-- What Parse comes to: the rows, the kind, the place. -/
def parseP (d : Dia) (l : Lim) (s : Bs) : Tb × Nat × Int :=
  let g := readAll d l (Bom.strip s)
  let j := judge s g
  (keepP (okP s j) g.ends g.recs, j.1, if j.1 = 0 then 0 else j.2)
theorem read_count (d : Dia) (l : Lim) : ∀ (n begun : Nat) (first : Option Nat) (r : Bs) (i : Nat), (readG d l n begun first r i).recs.length ≤ r.length
  | 0, begun, first, r, i => by simp [readG, G.nil]
  | n + 1, begun, first, [], i => by simp [readG, G.nil]
  | n + 1, begun, first, b :: r', i => by
    have IH := read_count d l n
    have hl := fields_len d l (uni l first) ((b :: r').length + 1) (b :: r') i []
    unfold readG
    dsimp only
    obtain ⟨x, hx⟩ : ∃ x, fieldsG d l (uni l first) ((b :: r').length + 1) (b :: r') i [] = x := ⟨_, rfl⟩
    simp only [List.length_cons] at hx hl
    simp only [List.length_cons]
    rw [hx] at hl ⊢
    have W : ∀ k p, (G.wrong k p).recs.length ≤ r'.length + 1 := by intros; simp [G.wrong]
    have C : ∀ row p (g : G), g.recs.length ≤ r'.length → (G.cons row p g).recs.length ≤ r'.length + 1 := by intros; simp [G.cons]; omega
    have U : ∀ bg fi (rr : Bs) j, rr.length ≤ r'.length → (readG d l n bg fi rr j).recs.length ≤ r'.length := fun bg fi rr j h => Nat.le_trans (IH bg fi rr j) h
    have U1 : ∀ bg fi (rr : Bs) j, rr.length ≤ r'.length → (readG d l n bg fi rr j).recs.length ≤ r'.length + 1 := fun bg fi rr j h => by have := U bg fi rr j h; omega
    repeat' split
    all_goals first
      | exact W _ _
      | exact U1 _ _ _ _ (by simp)
      | exact U1 _ _ _ _ (by simp; omega)
      | exact C _ _ _ (by simp [G.nil])
      | (refine C _ _ _ (U _ _ _ _ ?_); have hq := hl; simp only [*, List.length_cons] at hq; omega)
      | skip
/-- Judged by the grammar's fault and by the bytes, the kind not yet turned. -/
def judge0 (s : Bs) (k : Nat) (at0 : Int) : Nat × Int :=
  match Utf.badP s with
    | some b => if k = 0 ∨ (b : Int) ≤ at0 then (1, (b : Int)) else (k, at0)
    | none => if Utf.wholeP s < s.length ∧ at0 = (s.length : Int) then (12, at0) else (k, at0)
def at0P (s : Bs) (g : G) : Int := if g.kind = 0 then (s.length : Int) else (g.pl : Int) + ((s.length : Int) - ((Bom.strip s).length : Int))
theorem judge_eq (s : Bs) (g : G) : judge s g = (if (judge0 s g.kind (at0P s g)).1 = 1 then 3 else (judge0 s g.kind (at0P s g)).1, (judge0 s g.kind (at0P s g)).2) := rfl
theorem keep_snoc {α : Type} {ok : Nat → Bool} {es : List Nat} {rs : List α} {i : Nat} {e : Nat} {r : α} (he : es[i]? = some e) (hr : rs[i]? = some r) :
    keepP ok (es.take (i + 1)) (rs.take (i + 1)) = if ok e then keepP ok (es.take i) (rs.take i) ++ [r] else keepP ok (es.take i) (rs.take i) := by
  obtain ⟨h1, rfl⟩ := List.getElem?_eq_some_iff.1 he
  obtain ⟨h2, rfl⟩ := List.getElem?_eq_some_iff.1 hr
  rw [keep_one ok es rs i h1 h2]
  split <;> simp
end Go.Proofs.Ytcmoldondflilaa.Par
