/- The reader of pieces (layer 12) in plain Lean: what it comes to is what the document says of all bytes at once. No program. -/
import Derived.Test.YtbjejmdbpikgjaaParPlain
namespace Go.Proofs.Ytbjejmdbpikgjaa.Rdp
set_option linter.unusedVariables false
set_option linter.unusedSimpArgs false
set_option maxRecDepth 100000
open Mach Gram Par

/-- What a byte comes to: the states behind it, a record, what is wrong. -/
structure Sp where
  sq : Nat
  st : Nat
  mm : Mk
  o : Option Row
  kind : Nat
def stp (d : Dia) (sq st : Nat) (m : Mk) (b : UInt8) : Sp :=
  match Utf.ustep sq b.toNat with
  | none => ⟨sq, st, m, none, 3⟩
  | some q =>
    if (step d st b).2.2 ≠ 0 then ⟨q, st, m, none, (step d st b).2.2⟩
    else ⟨q, (step d st b).2.1, (take m (step d st b).1).1, (take m (step d st b).1).2.1, (take m (step d st b).1).2.2⟩
/-- What a walk through bytes leaves. -/
structure Wk where
  sq : Nat
  st : Nat
  mm : Mk
  recs : Tb
  kind : Nat
  pl : Nat
def Wk.pre (t : Tb) (x : Wk) : Wk := { x with recs := t ++ x.recs }
def wk (d : Dia) : Nat → Nat → Mk → Bs → Nat → Wk
  | sq, st, m, [], i => ⟨sq, st, m, [], 0, 0⟩
  | sq, st, m, b :: r, i =>
    let x := stp d sq st m b
    if x.kind ≠ 0 then ⟨x.sq, x.st, x.mm, [], x.kind, i⟩ else (wk d x.sq x.st x.mm r (i + 1)).pre x.o.toList
theorem Wk.pre_nil (x : Wk) : x.pre [] = x := rfl
theorem Wk.pre_pre (a b : Tb) (x : Wk) : (x.pre b).pre a = x.pre (a ++ b) := by simp [Wk.pre]
theorem wk_append (d : Dia) : ∀ (a b : Bs) (sq st : Nat) (m : Mk) (i : Nat), wk d sq st m (a ++ b) i =
    if (wk d sq st m a i).kind ≠ 0 then wk d sq st m a i
    else (wk d (wk d sq st m a i).sq (wk d sq st m a i).st (wk d sq st m a i).mm b (i + a.length)).pre (wk d sq st m a i).recs
  | [], b, sq, st, m, i => by simp [wk, Wk.pre]
  | c :: a, b, sq, st, m, i => by
    simp only [List.cons_append, wk]
    by_cases hk : (stp d sq st m c).kind ≠ 0
    · simp [hk]
    · simp only [hk, if_false]
      rw [wk_append d a b]
      generalize wk d (stp d sq st m c).sq (stp d sq st m c).st (stp d sq st m c).mm a (i + 1) = X
      have e : i + 1 + a.length = i + (c :: a).length := by simp; omega
      rw [e]
      by_cases hx : X.kind ≠ 0
      · simp [hx, Wk.pre]
      · simp [hx, Wk.pre]
theorem wk_ne (d : Dia) (sq st : Nat) (m : Mk) (i j : Nat) : wk d sq st m [] i = wk d sq st m [] j := rfl
/-- What the end comes to. -/
def fin (x : Wk) (n : Nat) : Tb × Nat × Nat :=
  if x.kind ≠ 0 then (x.recs, x.kind, x.pl)
  else if x.sq ≠ 0 then (x.recs, 12, n)
  else if (closeEv x.st).2 ≠ 0 then (x.recs, (closeEv x.st).2, n)
  else if (take x.mm (closeEv x.st).1).2.2 ≠ 0 then (x.recs, (take x.mm (closeEv x.st).1).2.2, n)
  else (x.recs ++ (take x.mm (closeEv x.st).1).2.1.toList, 0, 0)
theorem fin_pre (t : Tb) (x : Wk) (n : Nat) : fin (x.pre t) n = (t ++ (fin x n).1, (fin x n).2) := by
  unfold fin Wk.pre
  dsimp only
  repeat' split
  all_goals simp
/-! ### The same by the machine of layers 4 and 5 and the automaton of layer 2 -/
theorem mrun_ge (d : Dia) : ∀ (r : Bs) (st : Nat) (m : Mk) (i : Nat), ((mrun d st m r i).kind ≠ 0 → i ≤ (mrun d st m r i).pl ∧ (mrun d st m r i).pl ≤ i + r.length) ∧ ∀ e ∈ (mrun d st m r i).ends, i ≤ e
  | [], st, m, i => by
    unfold mrun
    repeat' (first | split | dsimp only)
    all_goals simp [G.wrong, G.nil, G.cons]
  | b :: r, st, m, i => by
    have IH := mrun_ge d r
    unfold mrun
    dsimp only
    split
    · simp [G.wrong]
    · split
      · simp [G.wrong]
      · have I := IH (step d st b).2.1 (take m (step d st b).1).1 (i + 1)
        split
        · refine ⟨fun h => ?_, fun e he => ?_⟩
          · have := I.1 h; simp only [List.length_cons]; omega
          · have := I.2 e he; omega
        · refine ⟨fun h => ?_, fun e he => ?_⟩
          · have := I.1 h; simp only [List.length_cons, G.cons]; omega
          · simp only [G.cons, List.mem_cons] at he
            rcases he with rfl | he
            · exact Nat.le_refl _
            · have := I.2 e he; omega
/-- What the grammar's fault and the automaton's come to, at places from i on. -/
def jdg (g : G) (sq n i len : Nat) : Nat × Nat :=
  if n < len then (if g.kind = 0 ∨ i + n ≤ g.pl then (3, i + n) else (g.kind, g.pl))
  else if sq ≠ 0 ∧ (g.kind = 0 ∨ g.pl = i + len) then (12, i + len)
  else if g.kind = 0 then (0, 0) else (g.kind, g.pl)
def okj (j : Nat × Nat) (e : Nat) : Bool := j.1 == 0 || decide (e < j.2)
theorem keep_none {α : Type} (ok : Nat → Bool) : ∀ (es : List Nat) (rs : List α), (∀ e ∈ es, ok e = false) → keepP ok es rs = []
  | [], rs, _ => by cases rs <;> rfl
  | e :: es, [], _ => rfl
  | e :: es, r :: rs, h => by
    simp only [keepP, h e (by simp), Bool.false_eq_true, if_false]
    exact keep_none ok es rs (fun x hx => h x (by simp [hx]))
theorem fin_wk (d : Dia) : ∀ (r : Bs) (sq st : Nat) (m : Mk) (i : Nat),
    fin (wk d sq st m r i) (i + r.length) = (keepP (okj (jdg (mrun d st m r i) (Utf.urunN sq r).1 (Utf.urunN sq r).2 i r.length)) (mrun d st m r i).ends (mrun d st m r i).recs, jdg (mrun d st m r i) (Utf.urunN sq r).1 (Utf.urunN sq r).2 i r.length)
  | [], sq, st, m, i => by
    simp only [wk, mrun, Utf.urunN, fin, List.length_nil, Nat.add_zero]
    by_cases h1 : (closeEv st).2 = 0
    · by_cases h2 : (take m (closeEv st).1).2.2 = 0
      · by_cases h3 : sq = 0
        · cases ho : (take m (closeEv st).1).2.1
          · simp [h1, h2, h3, jdg, G.nil, keepP, okj]
          · simp [h1, h2, h3, jdg, G.nil, G.cons, keepP, okj]
        · cases ho : (take m (closeEv st).1).2.1
          · simp [h1, h2, h3, jdg, G.nil, keepP, okj]
          · simp [h1, h2, h3, jdg, G.nil, G.cons, keepP, okj]
      · by_cases h3 : sq = 0
        · simp [h1, h2, h3, jdg, G.wrong, keepP, okj]
        · simp [h1, h2, h3, jdg, G.wrong, keepP, okj]
    · by_cases h3 : sq = 0
      · simp [h1, h3, jdg, G.wrong, keepP, okj]
      · simp [h1, h3, jdg, G.wrong, keepP, okj]
  | b :: r, sq, st, m, i => by
    have IH := fin_wk d r
    have GE := mrun_ge d (b :: r) st m i
    cases hu : Utf.ustep sq b.toNat with
    | none =>
      have e1 : wk d sq st m (b :: r) i = ⟨sq, st, m, [], 3, i⟩ := by simp [wk, stp, hu]
      have e2 : Utf.urunN sq (b :: r) = (sq, 0) := by simp [Utf.urunN, hu]
      rw [e1, e2]
      have e3 : jdg (mrun d st m (b :: r) i) sq 0 i (b :: r).length = (3, i) := by
        unfold jdg
        rw [if_pos (by simp)]
        by_cases hk : (mrun d st m (b :: r) i).kind = 0
        · simp [hk]
        · rw [if_pos (.inr (by have := (GE.1 hk).1; omega))]; simp
      dsimp only
      rw [e3]
      rw [keep_none _ _ _ (fun e he => by have := GE.2 e he; simp [okj]; omega)]
      simp [fin]
    | some q =>
      have e2 : Utf.urunN sq (b :: r) = ((Utf.urunN q r).1, (Utf.urunN q r).2 + 1) := by simp [Utf.urunN, hu]
      have hn := Utf.urunN_le r q
      rw [e2]
      dsimp only
      have BAD : ∀ (k : Nat) (x : Wk), k ≠ 0 → x.recs = [] → x.kind = k → x.pl = i → mrun d st m (b :: r) i = G.wrong k i → wk d sq st m (b :: r) i = x →
          fin (wk d sq st m (b :: r) i) (i + (b :: r).length) = (keepP (okj (jdg (mrun d st m (b :: r) i) (Utf.urunN q r).1 ((Utf.urunN q r).2 + 1) i (b :: r).length)) (mrun d st m (b :: r) i).ends (mrun d st m (b :: r) i).recs, jdg (mrun d st m (b :: r) i) (Utf.urunN q r).1 ((Utf.urunN q r).2 + 1) i (b :: r).length) := by
        intro k x hk h1 h2 h3 h4 h5
        rw [h5, h4]
        have e3 : jdg (G.wrong k i) (Utf.urunN q r).1 ((Utf.urunN q r).2 + 1) i (b :: r).length = (k, i) := by
          unfold jdg G.wrong
          dsimp only
          split
          · rw [if_neg (by rintro (h | h) <;> omega)]
          · rw [if_neg (by rintro ⟨_, h | h⟩; omega; simp at h)]
            try rw [if_neg hk]
        rw [e3]
        unfold fin
        rw [if_pos (by rw [h2]; exact hk), h1, h2, h3]
        rfl
      by_cases h1 : (step d st b).2.2 = 0
      rotate_left
      · exact BAD (step d st b).2.2 ⟨q, st, m, [], (step d st b).2.2, i⟩ h1 rfl rfl rfl (by simp [mrun, h1]) (by simp [wk, stp, hu, h1])
      by_cases h2 : (take m (step d st b).1).2.2 = 0
      rotate_left
      · exact BAD (take m (step d st b).1).2.2 ⟨q, (step d st b).2.1, (take m (step d st b).1).1, [], (take m (step d st b).1).2.2, i⟩ h2 rfl rfl rfl (by simp [mrun, h1, h2]) (by simp [wk, stp, hu, h1, h2])
      have e1 : wk d sq st m (b :: r) i = (wk d q (step d st b).2.1 (take m (step d st b).1).1 r (i + 1)).pre (take m (step d st b).1).2.1.toList := by simp [wk, stp, hu, h1, h2]
      have I := IH q (step d st b).2.1 (take m (step d st b).1).1 (i + 1)
      have IG := mrun_ge d r (step d st b).2.1 (take m (step d st b).1).1 (i + 1)
      have eL : i + (b :: r).length = i + 1 + r.length := by simp; omega
      rw [e1, fin_pre, eL, I]
      have e4 : mrun d st m (b :: r) i = match (take m (step d st b).1).2.1 with | none => mrun d (step d st b).2.1 (take m (step d st b).1).1 r (i + 1) | some row => G.cons row i (mrun d (step d st b).2.1 (take m (step d st b).1).1 r (i + 1)) := by
        rw [mrun]
        simp only [h1, h2, bne_self_eq_false, Bool.false_eq_true, if_false]
        try rfl
      rw [e4]
      generalize mrun d (step d st b).2.1 (take m (step d st b).1).1 r (i + 1) = g at *
      generalize Utf.urunN q r = u at *
      have ej : ∀ g' : G, g'.kind = g.kind → g'.pl = g.pl → jdg g' u.1 (u.2 + 1) i (b :: r).length = jdg g u.1 u.2 (i + 1) r.length := by
        intro g' hk hp
        unfold jdg
        rw [hk, hp]
        simp only [List.length_cons, show i + (u.2 + 1) = i + 1 + u.2 by omega, show i + (r.length + 1) = i + 1 + r.length by omega, Nat.add_lt_add_iff_right]
      cases ho : (take m (step d st b).1).2.1 with
      | none =>
        dsimp only
        rw [ej g rfl rfl]
        rfl
      | some row =>
        dsimp only
        rw [ej (G.cons row i g) rfl rfl]
        have hok : okj (jdg g u.1 u.2 (i + 1) r.length) i = true := by
          have : (jdg g u.1 u.2 (i + 1) r.length).1 = 0 ∨ i < (jdg g u.1 u.2 (i + 1) r.length).2 := by
            unfold jdg
            have := IG.1
            repeat' split
            all_goals first | (left; rfl) | (right; dsimp only; omega) | (right; dsimp only; have := (this (by assumption)).1; omega) | skip
            all_goals (by_cases hz : g.kind = 0 <;> first | (left; exact hz) | (right; have := (this hz).1; dsimp only; omega))
          rcases this with h | h <;> simp [okj, h]
        simp only [G.cons, keepP, hok, if_true, Option.toList_some, List.singleton_append]
theorem mrun_shift (d : Dia) (o : Nat) : ∀ (r : Bs) (st : Nat) (m : Mk) (i : Nat), (mrun d st m r (i + o)).recs = (mrun d st m r i).recs ∧ (mrun d st m r (i + o)).kind = (mrun d st m r i).kind ∧ (mrun d st m r (i + o)).ends = (mrun d st m r i).ends.map (· + o) ∧ ((mrun d st m r i).kind ≠ 0 → (mrun d st m r (i + o)).pl = (mrun d st m r i).pl + o)
  | [], st, m, i => by
    unfold mrun
    repeat' (first | split | dsimp only)
    all_goals simp [G.wrong, G.nil, G.cons]
  | b :: r, st, m, i => by
    have I := mrun_shift d o r (step d st b).2.1 (take m (step d st b).1).1 (i + 1)
    rw [show i + 1 + o = i + o + 1 by omega] at I
    rw [mrun, mrun]
    dsimp only
    split
    · simp [G.wrong]
    · split
      · simp [G.wrong]
      · split
        · exact I
        · simp only [G.cons, List.map_cons]
          exact ⟨by rw [I.1], I.2.1, by rw [I.2.2.1], I.2.2.2⟩
theorem gather_one (m : Mk) (e : Ev) : (gather m e).2 ≠ 1 := by
  unfold gather
  simp only [apply_ite Prod.snd]
  repeat' split
  all_goals decide
theorem take_one (m : Mk) (e : Ev) (h : m.stopped ≠ 1) : (take m e).2.2 ≠ 1 ∧ (take m e).1.stopped ≠ 1 := by
  have hg := gather_one m e
  unfold take
  dsimp only
  by_cases hs : m.stopped = 0
  · simp only [hs, beq_self_eq_true, if_true]
    repeat' split
    all_goals simp_all
  · have : (m.stopped == 0) = false := by simpa using hs
    simp only [this, Bool.false_eq_true, if_false]
    repeat' split
    all_goals simp_all
theorem step_one (d : Dia) (st : Nat) (b : UInt8) : (step d st b).2.2 ≠ 1 := by
  unfold step atStart inRecord
  repeat' split
  all_goals simp
theorem close_one (st : Nat) : (closeEv st).2 ≠ 1 := by
  unfold closeEv
  repeat' split
  all_goals simp
theorem mrun_one (d : Dia) : ∀ (r : Bs) (st : Nat) (m : Mk) (i : Nat), m.stopped ≠ 1 → (mrun d st m r i).kind ≠ 1
  | [], st, m, i, h => by
    have h1 := take_one m (closeEv st).1 h
    have h2 := close_one st
    rw [mrun]
    dsimp only
    split
    · exact h2
    · split
      · exact h1.1
      · split <;> simp [G.nil, G.cons]
  | b :: r, st, m, i, h => by
    have h1 := take_one m (step d st b).1 h
    have h2 := step_one d st b
    rw [mrun]
    dsimp only
    split
    · exact h2
    · split
      · exact h1.1
      · split
        · exact mrun_one d r _ _ _ h1.2
        · exact mrun_one d r _ _ _ h1.2
theorem keep_shift {α : Type} (f g : Nat → Bool) (o : Nat) : ∀ (es : List Nat) (rs : List α), (∀ e, f (e + o) = g e) → keepP f (es.map (· + o)) rs = keepP g es rs
  | [], rs, _ => by cases rs <;> rfl
  | e :: es, [], _ => rfl
  | e :: es, r :: rs, h => by
    simp only [List.map_cons, keepP, h, keep_shift f g o es rs h]
theorem strip_cases (s : Bs) : (Bom.strip s = s) ∨ (s = Bom.mark ++ Bom.strip s ∧ Bom.hasB s 3 = true) := by
  unfold Bom.strip
  by_cases h : Bom.hasB s 3 = true
  · rw [if_pos h]
    right
    have h3 := h
    unfold Bom.hasB at h3
    have e : s.take 3 = Bom.mark := by
      have := eq_of_beq h3
      rw [this]; rfl
    exact ⟨by rw [← e, List.take_append_drop], h⟩
  · rw [if_neg h]; exact .inl rfl
def off (s : Bs) : Nat := s.length - (Bom.strip s).length
theorem off_le (s : Bs) : (Bom.strip s).length ≤ s.length ∧ off s + (Bom.strip s).length = s.length := by
  unfold off
  rcases strip_cases s with h | ⟨h, _⟩
  · rw [h]; omega
  · have := congrArg List.length h
    rw [List.length_append] at this
    omega
theorem urun_strip (s : Bs) : Utf.urunN 0 s = ((Utf.urunN 0 (Bom.strip s)).1, off s + (Utf.urunN 0 (Bom.strip s)).2) := by
  rcases strip_cases s with h | ⟨h, _⟩
  · unfold off; rw [h]; simp
  · have h2 := Utf.urunN_append Bom.mark (Bom.strip s) 0 0 (by decide)
    have : off s = Bom.mark.length := by
      have := congrArg List.length h
      rw [List.length_append] at this
      unfold off; omega
    rw [this, ← h2, ← h]
/-- What comes of a text, byte by byte, is what Parse says. -/
theorem top_parse (d : Dia) (hd : d.right = true) (l : Lim) (hl : 1 ≤ l.fields) (s : Bs) :
    parseP d l s = ((fin (wk d 0 0 (mk0 l) (Bom.strip s) (off s)) s.length).1, (fin (wk d 0 0 (mk0 l) (Bom.strip s) (off s)) s.length).2.1, ((fin (wk d 0 0 (mk0 l) (Bom.strip s) (off s)) s.length).2.2 : Int)) := by
  have h0 := off_le s
  have hF := fin_wk d (Bom.strip s) 0 0 (mk0 l) (off s)
  rw [h0.2] at hF
  rw [hF]
  clear hF
  unfold parseP
  dsimp only
  rw [← read_mach d hd l hl (Bom.strip s)]
  have hM := mrun_shift d (off s) (Bom.strip s) 0 (mk0 l) 0
  have hG := mrun_ge d (Bom.strip s) 0 (mk0 l) 0
  have hK1 := mrun_one d (Bom.strip s) 0 (mk0 l) 0 (by simp [mk0])
  rw [Nat.zero_add] at hM
  generalize mrun d 0 (mk0 l) (Bom.strip s) 0 = g at *
  generalize mrun d 0 (mk0 l) (Bom.strip s) (off s) = g' at *
  obtain ⟨m1, m2, m3, m4⟩ := hM
  have hu := urun_strip s
  have hb := Utf.bad_auto s
  have hw := Utf.whole_state s
  have hn := Utf.urunN_le (Bom.strip s) 0
  rw [hu] at hb hw
  generalize hU : Utf.urunN 0 (Bom.strip s) = u at *
  have ho : offP s = (off s : Int) := by unfold offP; omega
  have key : (judge s g).1 = (jdg g' u.1 u.2 (off s) (Bom.strip s).length).1 ∧ ((judge s g).1 ≠ 0 → (judge s g).2 = ((jdg g' u.1 u.2 (off s) (Bom.strip s).length).2 : Int)) ∧ ((judge s g).1 = 0 → (jdg g' u.1 u.2 (off s) (Bom.strip s).length).2 = 0) := by
    have ho2 : (s.length : Int) - ((Bom.strip s).length : Int) = (off s : Int) := ho
    by_cases hk : g.kind = 0
    · by_cases hlt : u.2 < (Bom.strip s).length
      · have hbv : Utf.badP s = some (off s + u.2) := by rw [hb, if_pos (by omega)]
        have e1 : judge s g = (3, ((off s + u.2 : Nat) : Int)) := by unfold judge; rw [hbv]; simp [hk]
        have e2 : jdg g' u.1 u.2 (off s) (Bom.strip s).length = (3, off s + u.2) := by unfold jdg; rw [if_pos hlt, if_pos (.inl (by omega))]
        rw [e1, e2]; simp
      · have hbv : Utf.badP s = none := by rw [hb, if_neg (by omega)]
        have hw2 := hw (by omega)
        by_cases hq : u.1 = 0
        · have hw3 : ¬ Utf.wholeP s < s.length := fun h => hw2.mp h hq
          have e1 : judge s g = (0, (s.length : Int)) := by unfold judge; rw [hbv]; simp [hk, hw3]
          have e2 : jdg g' u.1 u.2 (off s) (Bom.strip s).length = (0, 0) := by unfold jdg; rw [if_neg hlt, if_neg (fun h => h.1 hq), if_pos (by omega)]
          rw [e1, e2]; simp
        · have hw3 : Utf.wholeP s < s.length := hw2.mpr hq
          have e1 : judge s g = (12, (s.length : Int)) := by unfold judge; rw [hbv]; simp [hk, hw3]
          have e2 : jdg g' u.1 u.2 (off s) (Bom.strip s).length = (12, off s + (Bom.strip s).length) := by unfold jdg; rw [if_neg hlt, if_pos ⟨hq, .inl (by omega)⟩]
          rw [e1, e2, h0.2]; simp
    · have hp := m4 hk
      have hb2 := hG.1 hk
      have h1 := hK1
      by_cases hlt : u.2 < (Bom.strip s).length
      · have hbv : Utf.badP s = some (off s + u.2) := by rw [hb, if_pos (by omega)]
        by_cases hle : off s + u.2 ≤ g'.pl
        · have hle2 : ((off s + u.2 : Nat) : Int) ≤ (g.pl : Int) + ((s.length : Int) - ((Bom.strip s).length : Int)) := by rw [ho2]; omega
          have e1 : judge s g = (3, ((off s + u.2 : Nat) : Int)) := by
            unfold judge; rw [hbv]; dsimp only; rw [if_neg hk, if_pos (Or.inr hle2)]; rfl
          have e2 : jdg g' u.1 u.2 (off s) (Bom.strip s).length = (3, off s + u.2) := by unfold jdg; rw [if_pos hlt, if_pos (.inr hle)]
          rw [e1, e2]; simp
        · have hle2 : ¬ (g.kind = 0 ∨ ((off s + u.2 : Nat) : Int) ≤ (g.pl : Int) + ((s.length : Int) - ((Bom.strip s).length : Int))) := by rw [ho2]; omega
          have e1 : judge s g = (g.kind, (g.pl : Int) + ((s.length : Int) - ((Bom.strip s).length : Int))) := by
            unfold judge; rw [hbv]; dsimp only; rw [if_neg hk, if_neg hle2]; dsimp only; rw [if_neg h1]
          have e2 : jdg g' u.1 u.2 (off s) (Bom.strip s).length = (g'.kind, g'.pl) := by unfold jdg; rw [if_pos hlt, if_neg (by rintro (h | h); omega; exact hle h)]
          rw [e1, e2]
          exact ⟨m2.symm, fun _ => by dsimp only; omega, fun h => absurd h hk⟩
      · have hbv : Utf.badP s = none := by rw [hb, if_neg (by omega)]
        have hw2 := hw (by omega)
        by_cases hq : u.1 ≠ 0 ∧ g'.pl = off s + (Bom.strip s).length
        · have hc : Utf.wholeP s < s.length ∧ (g.pl : Int) + ((s.length : Int) - ((Bom.strip s).length : Int)) = (s.length : Int) := ⟨hw2.mpr hq.1, by have := hq.2; omega⟩
          have e1 : judge s g = (12, (g.pl : Int) + ((s.length : Int) - ((Bom.strip s).length : Int))) := by
            unfold judge; rw [hbv]; dsimp only; rw [if_neg hk, if_pos hc]; rfl
          have e2 : jdg g' u.1 u.2 (off s) (Bom.strip s).length = (12, off s + (Bom.strip s).length) := by unfold jdg; rw [if_neg hlt, if_pos ⟨hq.1, .inr hq.2⟩]
          rw [e1, e2]
          exact ⟨rfl, fun _ => by dsimp only; have := hq.2; omega, fun h => by simp at h⟩
        · have hc : ¬ (Utf.wholeP s < s.length ∧ (g.pl : Int) + ((s.length : Int) - ((Bom.strip s).length : Int)) = (s.length : Int)) := fun h => hq ⟨hw2.mp h.1, by have := h.2; omega⟩
          have e1 : judge s g = (g.kind, (g.pl : Int) + ((s.length : Int) - ((Bom.strip s).length : Int))) := by
            unfold judge; rw [hbv]; dsimp only; rw [if_neg hk, if_neg hc]; dsimp only; rw [if_neg h1]
          have e2 : jdg g' u.1 u.2 (off s) (Bom.strip s).length = (g'.kind, g'.pl) := by unfold jdg; rw [if_neg hlt, if_neg (by rintro ⟨a, b | b⟩; omega; exact hq ⟨a, b⟩), if_neg (by omega)]
          rw [e1, e2]
          exact ⟨m2.symm, fun _ => by dsimp only; omega, fun h => absurd h hk⟩
  obtain ⟨k1, k2, k3⟩ := key
  rw [m1, m3]
  generalize jdg g' u.1 u.2 (off s) (Bom.strip s).length = jd at *
  generalize judge s g = j at *
  have e1 : keepP (okj jd) (g.ends.map (· + off s)) g.recs = keepP (okP s j) g.ends g.recs := by
    refine keep_shift (okj jd) (okP s j) (off s) _ _ ?_
    intro e
    unfold okj okP
    rw [ho, ← k1]
    by_cases h : j.1 = 0
    · simp [h]
    · rw [k2 h]
      congr 1
      exact decide_eq_decide.mpr (by omega)
  have e2 : (if j.1 = 0 then (0 : Int) else j.2) = (jd.2 : Int) := by
    by_cases h : j.1 = 0
    · rw [if_pos h, k3 h]; rfl
    · rw [if_neg h, k2 h]
  rw [e1, ← k1, ← e2]
end Go.Proofs.Ytbjejmdbpikgjaa.Rdp
