/- The stripper in plain Lean: its state, what Feed and Close come to. No program in sight. -/
namespace Go.Proofs.Ytcmoldondflilaa.Bom
set_option linter.unusedVariables false
set_option linter.unusedSimpArgs false
set_option maxRecDepth 100000

def mark : List UInt8 := [239, 187, 191]
structure St where
  held : Nat
  past : Bool
  stripped : Bool
  closed : Bool

/-- What the loop of Feed comes to while it is not known whether the mark is there: the state's three parts and what is handed on. -/
def go : Nat → List UInt8 → Nat × Bool × Bool × List UInt8
  | held, [] => (held, false, false, [])
  | held, b :: l => if b = mark.getD held 0 then (if held + 1 = 3 then (0, true, true, l) else go (held + 1) l) else (0, true, false, mark.take held ++ b :: l)

def St.ok (s : St) : Prop := s.held ≤ 2 ∧ (s.past = true → s.held = 0) ∧ (s.past = false → s.stripped = false)
def feedSt (s : St) (l : List UInt8) : St :=
  if s.closed then s else if s.past then s else ⟨(go s.held l).1, (go s.held l).2.1, (go s.held l).2.2.1, false⟩
def feedOut (s : St) (l : List UInt8) : List UInt8 :=
  if s.closed then [] else if s.past then l else (go s.held l).2.2.2
def closeSt (s : St) : St := ⟨0, s.past, s.stripped, true⟩
def closeOut (s : St) : List UInt8 := mark.take s.held

theorem go_nil (h : Nat) : go h [] = (h, false, false, []) := rfl
theorem go_off {h : Nat} {b : UInt8} {l : List UInt8} (e : b ≠ mark.getD h 0) : go h (b :: l) = (0, true, false, mark.take h ++ b :: l) := by
  rw [go, if_neg e]
theorem go_on {h : Nat} {b : UInt8} {l : List UInt8} (e : b = mark.getD h 0) (h3 : h + 1 ≠ 3) : go h (b :: l) = go (h + 1) l := by
  rw [go, if_pos e, if_neg h3]
theorem go_end {h : Nat} {b : UInt8} {l : List UInt8} (e : b = mark.getD h 0) (h3 : h + 1 = 3) : go h (b :: l) = (0, true, true, l) := by
  rw [go, if_pos e, if_pos h3]

theorem out_past {s : St} (hc : s.closed = false) (hp : s.past = true) (l : List UInt8) : feedOut s l = l ∧ feedSt s l = s := by
  simp [feedOut, feedSt, hc, hp]
theorem out_nil {s : St} (hok : s.ok) (hc : s.closed = false) (hp : s.past = false) : feedOut s [] = [] ∧ feedSt s [] = s := by
  obtain ⟨h1, h2, h3⟩ := hok
  cases s
  simp_all [feedOut, feedSt, go_nil]
theorem out_off {s : St} {b : UInt8} {l : List UInt8} (hc : s.closed = false) (hp : s.past = false) (e : b ≠ mark.getD s.held 0) :
    feedOut s (b :: l) = mark.take s.held ++ b :: l ∧ feedSt s (b :: l) = ⟨0, true, false, false⟩ := by
  simp [feedOut, feedSt, hc, hp, go_off e]
theorem out_on {s : St} {b : UInt8} {l : List UInt8} (hok : s.ok) (hc : s.closed = false) (hp : s.past = false) (e : b = mark.getD s.held 0) (h3 : s.held + 1 ≠ 3) :
    (⟨s.held + 1, false, false, false⟩ : St).ok ∧ feedOut s (b :: l) = feedOut ⟨s.held + 1, false, false, false⟩ l ∧ feedSt s (b :: l) = feedSt ⟨s.held + 1, false, false, false⟩ l := by
  refine ⟨⟨by have := hok.1; show s.held + 1 ≤ 2; omega, by simp, by simp⟩, ?_, ?_⟩
  · simp [feedOut, hc, hp, go_on e h3]
  · simp [feedSt, hc, hp, go_on e h3]
theorem out_end {s : St} {b : UInt8} {l : List UInt8} (hc : s.closed = false) (hp : s.past = false) (e : b = mark.getD s.held 0) (h3 : s.held + 1 = 3) :
    (⟨0, true, true, false⟩ : St).ok ∧ feedOut s (b :: l) = feedOut ⟨0, true, true, false⟩ l ∧ feedSt s (b :: l) = feedSt ⟨0, true, true, false⟩ l := by
  refine ⟨⟨by simp, by simp, by simp⟩, ?_, ?_⟩
  · simp [feedOut, hc, hp, go_end e h3]
  · simp [feedSt, hc, hp, go_end e h3]

/-! ### The document's words -/
def hasB (l : List UInt8) (n : Nat) : Bool := l.take n == mark.take n
theorem hasB_short (l : List UInt8) (n : Nat) (hn : n ≤ 3) (h : l.length < n) : hasB l n = false := by
  unfold hasB
  rw [beq_eq_false_iff_ne]
  intro e
  have := congrArg List.length e
  simp [mark] at this
  omega
theorem hasB_off (l : List UInt8) (n k : Nat) (hk : k < n) (hkl : k < l.length) (h : l[k] ≠ mark.getD k 0) (hn : n ≤ 3) : hasB l n = false := by
  unfold hasB
  rw [beq_eq_false_iff_ne]
  intro e
  have e1 := congrArg (fun x => x[k]?) e
  have hm : k < mark.length := by simp [mark]; omega
  simp only [List.getElem?_take, hk, if_true, List.getElem?_eq_getElem hkl, List.getElem?_eq_getElem hm] at e1
  apply h
  simp only [List.getD, List.getElem?_eq_getElem hm, Option.getD_some]
  exact Option.some.inj e1
theorem take_step (l : List UInt8) (k : Nat) (hk : k < 3) (hkl : k < l.length) (h : l.take k = mark.take k) (e : l[k] = mark.getD k 0) : l.take (k + 1) = mark.take (k + 1) := by
  have hm : k < mark.length := by simp [mark]; omega
  rw [List.take_succ_eq_append_getElem hkl, List.take_succ_eq_append_getElem hm, h, e]
  simp [List.getD, List.getElem?_eq_getElem hm]
def strip (l : List UInt8) : List UInt8 := if hasB l 3 then l.drop 3 else l
def heldN (l : List UInt8) : Nat := if l.length ≤ 2 ∧ hasB l l.length = true then l.length else 0
def told (l : List UInt8) : List UInt8 := if 0 < heldN l then [] else strip l

/-! ### The plain law -/
theorem go_append : ∀ (a b : List UInt8) (h : Nat), ((go h a).2.1 = false → go h (a ++ b) = go (go h a).1 b ∧ (go h a).2.2.2 = [] ∧ (go h a).2.2.1 = false) ∧
    ((go h a).2.1 = true → go h (a ++ b) = ((go h a).1, true, (go h a).2.2.1, (go h a).2.2.2 ++ b))
  | [], b, h => by simp [go]
  | x :: a, b, h => by
    have ih := go_append a b (h + 1)
    by_cases e : x = mark.getD h 0
    · by_cases h3 : h + 1 = 3
      · rw [List.cons_append, go_end e h3, go_end e h3]
        simp
      · rw [List.cons_append, go_on e h3, go_on e h3]
        exact ih
    · rw [List.cons_append, go_off e, go_off e]
      simp
theorem go_ok : ∀ (l : List UInt8) (h : Nat), h ≤ 2 → (go h l).1 ≤ 2 ∧ ((go h l).2.1 = true → (go h l).1 = 0) ∧ ((go h l).2.1 = false → (go h l).2.2.1 = false)
  | [], h, hh => by simp [go, hh]
  | x :: a, h, hh => by
    by_cases e : x = mark.getD h 0
    · by_cases h3 : h + 1 = 3
      · rw [go_end e h3]; simp
      · rw [go_on e h3]; exact go_ok a (h + 1) (by omega)
    · rw [go_off e]; simp
theorem go_len : ∀ (l : List UInt8) (h : Nat), (go h l).2.2.2.length ≤ h + l.length
  | [], h => by simp [go]
  | x :: a, h => by
    by_cases e : x = mark.getD h 0
    · by_cases h3 : h + 1 = 3
      · rw [go_end e h3]; simp; omega
      · rw [go_on e h3]; have := go_len a (h + 1); simp; omega
    · rw [go_off e]; simp [List.length_take]; omega
theorem feedOut_len {s : St} (h : s.ok) (l : List UInt8) : (feedOut s l).length ≤ l.length + 2 := by
  unfold feedOut
  split
  · simp
  · split
    · omega
    · have := go_len l s.held; have := h.1; omega
theorem feedSt_ok {s : St} (h : s.ok) (l : List UInt8) : (feedSt s l).ok := by
  unfold feedSt
  split
  · exact h
  · split
    · exact h
    · exact go_ok l s.held h.1
theorem feedSt_closed {s : St} (h : s.closed = false) (l : List UInt8) : (feedSt s l).closed = false := by
  unfold feedSt
  split
  · exact h
  · split
    · exact h
    · rfl
def s0 : St := ⟨0, false, false, false⟩
theorem s0_ok : s0.ok := ⟨by simp [s0], by simp [s0], by simp [s0]⟩
theorem feed_append (a b : List UInt8) : feedSt (feedSt s0 a) b = feedSt s0 (a ++ b) ∧ feedOut s0 a ++ feedOut (feedSt s0 a) b = feedOut s0 (a ++ b) := by
  have h := go_append a b 0
  cases hp : (go 0 a).2.1 with
  | false =>
    obtain ⟨h1, h2, h3⟩ := h.1 hp
    simp [feedSt, feedOut, s0, hp, h1, h2]
  | true =>
    have h1 := h.2 hp
    simp [feedSt, feedOut, s0, hp, h1]
theorem feed_whole (l : List UInt8) : feedOut s0 l = told l ∧ (feedSt s0 l).held = heldN l ∧ (feedSt s0 l).stripped = hasB l 3 ∧ feedOut s0 l ++ closeOut (feedSt s0 l) = strip l := by
  match l with
  | [] => decide
  | [a] =>
    by_cases h1 : a = 239
    · subst h1; decide
    · simp [feedOut, feedSt, s0, go, told, heldN, hasB, strip, closeOut, mark, h1]
  | [a, b] =>
    by_cases h1 : a = 239
    · by_cases h2 : b = 187
      · subst h1 h2; decide
      · subst h1; simp [feedOut, feedSt, s0, go, told, heldN, hasB, strip, closeOut, mark, h2]
    · simp [feedOut, feedSt, s0, go, told, heldN, hasB, strip, closeOut, mark, h1]
  | a :: b :: c :: r =>
    by_cases h1 : a = 239
    · by_cases h2 : b = 187
      · by_cases h3 : c = 191
        · subst h1 h2 h3; simp [feedOut, feedSt, s0, go, told, heldN, hasB, strip, closeOut, mark]
        · subst h1 h2; simp [feedOut, feedSt, s0, go, told, heldN, hasB, strip, closeOut, mark, h3]
      · subst h1; simp [feedOut, feedSt, s0, go, told, heldN, hasB, strip, closeOut, mark, h2]
    · simp [feedOut, feedSt, s0, go, told, heldN, hasB, strip, closeOut, mark, h1]

end Go.Proofs.Ytcmoldondflilaa.Bom
