/- UTF-8 in plain Lean: the automaton of layer 2, the document's code points, and that they agree. No program in sight. -/
namespace Go.Proofs.Ytcmoldondflilaa.Utf
set_option linter.unusedVariables false
set_option linter.unusedSimpArgs false
set_option maxRecDepth 100000

def ubegin (b : Nat) : Option Nat :=
  if b ≤ 127 then some 0 else if b < 194 then none else if b ≤ 223 then some 1 else if b = 224 then some 4 else if b = 237 then some 5
  else if b ≤ 239 then some 2 else if b = 240 then some 6 else if b ≤ 243 then some 3 else if b = 244 then some 7 else none
def ufollow (b lo hi next : Nat) : Option Nat := if b < lo ∨ hi < b then none else some next
def ustep (st b : Nat) : Option Nat :=
  if st = 0 then ubegin b else if st = 1 then ufollow b 128 191 0 else if st = 2 then ufollow b 128 191 1 else if st = 3 then ufollow b 128 191 2
  else if st = 4 then ufollow b 160 191 1 else if st = 5 then ufollow b 128 159 1 else if st = 6 then ufollow b 144 191 2 else if st = 7 then ufollow b 128 143 2 else none
def urun : Nat → List UInt8 → Option Nat
  | st, [] => some st
  | st, b :: l => (ustep st b.toNat).bind fun s => urun s l
/-- The state behind as many bytes as go on, and how many these are. -/
def urunN : Nat → List UInt8 → Nat × Nat
  | st, [] => (st, 0)
  | st, b :: l => match ustep st b.toNat with
    | none => (st, 0)
    | some s => ((urunN s l).1, (urunN s l).2 + 1)
def valid (l : List UInt8) : Bool := urun 0 l == some 0

theorem ubegin_lt {b s : Nat} (h : ubegin b = some s) : s ≤ 7 := by
  unfold ubegin at h
  repeat' split at h
  all_goals first | (injection h with h; omega) | cases h
theorem ustep_lt {st b s : Nat} (h : ustep st b = some s) : s ≤ 7 := by
  unfold ustep at h
  repeat' split at h
  all_goals first | exact ubegin_lt h | (unfold ufollow at h; split at h <;> first | (injection h with h; omega) | cases h) | cases h
theorem urun_append : ∀ (a b : List UInt8) (st : Nat), urun st (a ++ b) = (urun st a).bind fun s => urun s b
  | [], b, st => by simp [urun]
  | x :: a, b, st => by
    simp only [List.cons_append, urun]
    cases ustep st x.toNat with
    | none => rfl
    | some s => simp only [Option.bind_some]; exact urun_append a b s
theorem urunN_le : ∀ (l : List UInt8) (st : Nat), (urunN st l).2 ≤ l.length
  | [], st => by simp [urunN]
  | b :: l, st => by
    unfold urunN
    split
    · simp
    · have := urunN_le l; simp; exact this _
theorem urunN_whole : ∀ (l : List UInt8) (st : Nat), urun st l = if (urunN st l).2 = l.length then some (urunN st l).1 else none
  | [], st => by simp [urunN, urun]
  | b :: l, st => by
    unfold urunN urun
    cases h : ustep st b.toNat with
    | none => simp
    | some s => simp [urunN_whole l s]
theorem valid_iff (l : List UInt8) : valid l = ((urunN 0 l).2 == l.length && (urunN 0 l).1 == 0) := by
  unfold valid
  rw [urunN_whole]
  by_cases h : (urunN 0 l).2 = l.length <;> simp [h]

/-! ### The document's code points -/
def cp (s : List UInt8) (n : Nat) : Int :=
  if n = 2 then ((s.getD 0 0).toNat - 192) * 64 + (s.getD 1 0).toNat - 128
  else if n = 3 then ((s.getD 0 0).toNat - 224) * 4096 + ((s.getD 1 0).toNat - 128) * 64 + (s.getD 2 0).toNat - 128
  else if n = 4 then ((s.getD 0 0).toNat - 240) * 262144 + ((s.getD 1 0).toNat - 128) * 4096 + ((s.getD 2 0).toNat - 128) * 64 + (s.getD 3 0).toNat - 128
  else (s.getD 0 0).toNat
def byteOf (n : Int) : UInt8 := UInt8.ofNat n.toNat
def put (c : Int) : List UInt8 :=
  if c < 128 then [byteOf c] else if c < 2048 then [byteOf (192 + c / 64), byteOf (128 + c % 64)]
  else if c < 65536 then [byteOf (224 + c / 4096), byteOf (128 + c / 64 % 64), byteOf (128 + c % 64)]
  else [byteOf (240 + c / 262144), byteOf (128 + c / 4096 % 64), byteOf (128 + c / 64 % 64), byteOf (128 + c % 64)]
def cpOk (s : List UInt8) (n : Nat) : Bool :=
  decide (0 ≤ cp s n) && decide (cp s n ≤ 1114111) && (decide (cp s n < 55296) || decide (57343 < cp s n)) && put (cp s n) == s.take n
/-- The least n' from n on, up to 4 and the text's length, that is a sequence's length; 0: none. -/
def usizeFrom (s : List UInt8) : Nat → Nat → Nat
  | 0, _ => 0
  | f + 1, n => if n ≤ 4 ∧ n ≤ s.length then (if cpOk s n then n else usizeFrom s f (n + 1)) else 0
def usize (s : List UInt8) : Nat := usizeFrom s 4 1

theorem byteOf_toNat {n : Int} (h0 : 0 ≤ n) (h : n ≤ 255) : (byteOf n).toNat = n.toNat := by
  unfold byteOf
  rw [UInt8.toNat_ofNat']
  omega
theorem byte_eq {n : Int} {b : UInt8} (h0 : 0 ≤ n) (h : n ≤ 255) : byteOf n = b ↔ n = (b.toNat : Int) := by
  rw [← UInt8.toNat_inj, byteOf_toNat h0 h]
  omega

theorem cpOk1 (a : UInt8) (r : List UInt8) : cpOk (a :: r) 1 = true ↔ urun 0 [a] = some 0 := by
  have ha := a.toNat_lt
  simp only [cpOk, cp, Bool.and_eq_true, Bool.or_eq_true, decide_eq_true_eq, beq_iff_eq, urun, ustep, List.getD_cons_zero]
  simp only [show ¬ (1 = 2) by decide, show ¬ (1 = 3) by decide, show ¬ (1 = 4) by decide, if_false, if_true]
  constructor
  · rintro ⟨⟨⟨h1, h2⟩, h3⟩, h4⟩
    unfold put at h4
    split at h4
    · rename_i hc
      simp [ubegin, show a.toNat ≤ 127 by omega]
    · repeat' split at h4
      all_goals simp at h4
  · intro h
    have hc : a.toNat ≤ 127 := by
      unfold ubegin at h
      repeat' split at h
      all_goals first | assumption | simp at h
    refine ⟨⟨⟨by omega, by omega⟩, .inl (by omega)⟩, ?_⟩
    have : (a.toNat : Int) < 128 := by omega
    simp [put, this, byte_eq (show (0 : Int) ≤ (a.toNat : Int) by omega) (show (a.toNat : Int) ≤ 255 by omega)]

theorem put_two {c : Int} {a b : UInt8} (h0 : 0 ≤ c) : put c = [a, b] ↔ 128 ≤ c ∧ c < 2048 ∧ 192 + c / 64 = (a.toNat : Int) ∧ 128 + c % 64 = (b.toNat : Int) := by
  unfold put
  by_cases h1 : c < 128
  · simp [h1]; omega
  · by_cases h2 : c < 2048
    · simp only [h1, h2, if_false, if_true, List.cons.injEq, and_true, true_and]
      rw [byte_eq (by omega) (by omega), byte_eq (by omega) (by omega)]
      omega
    · by_cases h3 : c < 65536 <;> simp [h1, h2, h3]
theorem put_three {c : Int} {a b e : UInt8} (h0 : 0 ≤ c) : put c = [a, b, e] ↔ 2048 ≤ c ∧ c < 65536 ∧ 224 + c / 4096 = (a.toNat : Int) ∧ 128 + c / 64 % 64 = (b.toNat : Int) ∧ 128 + c % 64 = (e.toNat : Int) := by
  unfold put
  by_cases h1 : c < 128
  · simp [h1]; omega
  · by_cases h2 : c < 2048
    · simp [h1, h2]; omega
    · by_cases h3 : c < 65536
      · simp only [h1, h2, h3, if_false, if_true, List.cons.injEq, and_true, true_and]
        rw [byte_eq (by omega) (by omega), byte_eq (by omega) (by omega), byte_eq (by omega) (by omega)]
        omega
      · simp [h1, h2, h3]
theorem put_four {c : Int} {a b e f : UInt8} (h0 : 0 ≤ c) (h9 : c ≤ 1114111) : put c = [a, b, e, f] ↔ 65536 ≤ c ∧ 240 + c / 262144 = (a.toNat : Int) ∧ 128 + c / 4096 % 64 = (b.toNat : Int) ∧ 128 + c / 64 % 64 = (e.toNat : Int) ∧ 128 + c % 64 = (f.toNat : Int) := by
  unfold put
  by_cases h1 : c < 128
  · simp [h1]; omega
  · by_cases h2 : c < 2048
    · simp [h1, h2]; omega
    · by_cases h3 : c < 65536
      · simp [h1, h2, h3]; omega
      · simp only [h1, h2, h3, if_false, List.cons.injEq, and_true]
        rw [byte_eq (by omega) (by omega), byte_eq (by omega) (by omega), byte_eq (by omega) (by omega), byte_eq (by omega) (by omega)]
        omega
/-- What the automaton says, in numbers. -/
def seq2 (a b : Nat) : Prop := 194 ≤ a ∧ a ≤ 223 ∧ 128 ≤ b ∧ b ≤ 191
def seq3 (a b c : Nat) : Prop := 224 ≤ a ∧ a ≤ 239 ∧ 128 ≤ b ∧ b ≤ 191 ∧ (a = 224 → 160 ≤ b) ∧ (a = 237 → b ≤ 159) ∧ 128 ≤ c ∧ c ≤ 191
def seq4 (a b c e : Nat) : Prop := 240 ≤ a ∧ a ≤ 244 ∧ 128 ≤ b ∧ b ≤ 191 ∧ (a = 240 → 144 ≤ b) ∧ (a = 244 → b ≤ 143) ∧ 128 ≤ c ∧ c ≤ 191 ∧ 128 ≤ e ∧ e ≤ 191
theorem cpOk2 (a b : UInt8) (r : List UInt8) : cpOk (a :: b :: r) 2 = true ↔ seq2 a.toNat b.toNat := by
  simp only [cpOk, cp, Bool.and_eq_true, Bool.or_eq_true, decide_eq_true_eq, beq_iff_eq, List.getD_cons_zero, List.getD_cons_succ, if_true, List.take_succ_cons, List.take_zero]
  unfold seq2
  constructor
  · rintro ⟨⟨⟨h1, h2⟩, h3⟩, h4⟩
    rw [put_two h1] at h4
    omega
  · rintro ⟨h1, h2, h3, h4⟩
    refine ⟨⟨⟨by omega, by omega⟩, by omega⟩, ?_⟩
    rw [put_two (by omega)]
    omega
theorem cpOk3 (a b c : UInt8) (r : List UInt8) : cpOk (a :: b :: c :: r) 3 = true ↔ seq3 a.toNat b.toNat c.toNat := by
  simp only [cpOk, cp, Bool.and_eq_true, Bool.or_eq_true, decide_eq_true_eq, beq_iff_eq, List.getD_cons_zero, List.getD_cons_succ, if_true, List.take_succ_cons, List.take_zero, show ¬ (3 = 2) by decide, if_false]
  unfold seq3
  constructor
  · rintro ⟨⟨⟨h1, h2⟩, h3⟩, h4⟩
    rw [put_three h1] at h4
    omega
  · rintro ⟨h1, h2, h3, h4, h5, h6, h7, h8⟩
    refine ⟨⟨⟨by omega, by omega⟩, by omega⟩, ?_⟩
    rw [put_three (by omega)]
    omega
theorem cpOk4 (a b c e : UInt8) (r : List UInt8) : cpOk (a :: b :: c :: e :: r) 4 = true ↔ seq4 a.toNat b.toNat c.toNat e.toNat := by
  simp only [cpOk, cp, Bool.and_eq_true, Bool.or_eq_true, decide_eq_true_eq, beq_iff_eq, List.getD_cons_zero, List.getD_cons_succ, if_true, List.take_succ_cons, List.take_zero, show ¬ (4 = 2) by decide, show ¬ (4 = 3) by decide, if_false]
  unfold seq4
  constructor
  · rintro ⟨⟨⟨h1, h2⟩, h3⟩, h4⟩
    rw [put_four h1 h2] at h4
    omega
  · rintro ⟨h1, h2, h3, h4, h5, h6, h7, h8, h9, h10⟩
    refine ⟨⟨⟨by omega, by omega⟩, by omega⟩, ?_⟩
    rw [put_four (by omega) (by omega)]
    omega

/-! ### The automaton, in numbers -/
theorem t1 {a s : Nat} (h : ustep 0 a = some s) : (a ≤ 127 ∧ s = 0) ∨ (194 ≤ a ∧ a ≤ 223 ∧ s = 1) ∨ (a = 224 ∧ s = 4) ∨ (a = 237 ∧ s = 5) ∨ (225 ≤ a ∧ a ≤ 239 ∧ a ≠ 237 ∧ s = 2) ∨ (a = 240 ∧ s = 6) ∨ (241 ≤ a ∧ a ≤ 243 ∧ s = 3) ∨ (a = 244 ∧ s = 7) := by
  unfold ustep ubegin at h
  simp only [if_true] at h
  repeat' split at h
  all_goals first | (injection h with h; omega) | cases h
theorem t1' {a : Nat} : (a ≤ 127 → ustep 0 a = some 0) ∧ (194 ≤ a → a ≤ 223 → ustep 0 a = some 1) ∧ (a = 224 → ustep 0 a = some 4) ∧ (a = 237 → ustep 0 a = some 5) ∧ (225 ≤ a → a ≤ 239 → a ≠ 237 → ustep 0 a = some 2) ∧ (a = 240 → ustep 0 a = some 6) ∧ (241 ≤ a → a ≤ 243 → ustep 0 a = some 3) ∧ (a = 244 → ustep 0 a = some 7) := by
  unfold ustep ubegin
  simp only [if_true]
  refine ⟨?_, ?_, ?_, ?_, ?_, ?_, ?_, ?_⟩
  all_goals
    intros
    repeat' split
    all_goals first | rfl | omega
theorem t2 {s b s' : Nat} (h0 : s ≠ 0) (h : ustep s b = some s') : 128 ≤ b ∧ b ≤ 191 ∧ ((s = 1 ∧ s' = 0) ∨ (s = 2 ∧ s' = 1) ∨ (s = 3 ∧ s' = 2) ∨ (s = 4 ∧ 160 ≤ b ∧ s' = 1) ∨ (s = 5 ∧ b ≤ 159 ∧ s' = 1) ∨ (s = 6 ∧ 144 ≤ b ∧ s' = 2) ∨ (s = 7 ∧ b ≤ 143 ∧ s' = 2)) := by
  unfold ustep ufollow at h
  simp only [h0, if_false] at h
  repeat' split at h
  all_goals first | (injection h with h; omega) | cases h
theorem t2' {s b : Nat} (h1 : 128 ≤ b) (h2 : b ≤ 191) : (s = 1 → ustep s b = some 0) ∧ (s = 2 → ustep s b = some 1) ∧ (s = 3 → ustep s b = some 2) ∧ (s = 4 → 160 ≤ b → ustep s b = some 1) ∧ (s = 5 → b ≤ 159 → ustep s b = some 1) ∧ (s = 6 → 144 ≤ b → ustep s b = some 2) ∧ (s = 7 → b ≤ 143 → ustep s b = some 2) := by
  refine ⟨?_, ?_, ?_, ?_, ?_, ?_, ?_⟩
  all_goals
    rintro rfl
    intros
    unfold ustep ufollow
    simp
    omega
theorem urun_cons_some {st s : Nat} {b : UInt8} {l : List UInt8} (h : urun st (b :: l) = some s) : ∃ s1, ustep st b.toNat = some s1 ∧ urun s1 l = some s := by
  unfold urun at h
  cases h1 : ustep st b.toNat with
  | none => rw [h1] at h; cases h
  | some s1 => rw [h1] at h; exact ⟨s1, rfl, h⟩
theorem urun_cons {st s1 : Nat} {b : UInt8} (l : List UInt8) (h : ustep st b.toNat = some s1) : urun st (b :: l) = urun s1 l := by
  rw [urun, h]; rfl

/-! ### The first sequence -/
theorem usize_le (s : List UInt8) : usize s ≤ s.length := by
  unfold usize
  simp only [usizeFrom]
  repeat' split
  all_goals omega
theorem usize_run (s : List UInt8) (h : usize s ≠ 0) : urun 0 (s.take (usize s)) = some 0 := by
  unfold usize at h ⊢
  simp only [usizeFrom] at h ⊢
  match s with
  | [] => simp at h
  | a :: r =>
    by_cases h1 : cpOk (a :: r) 1 = true
    · have := (cpOk1 a r).1 h1
      simpa [h1] using this
    · simp only [h1] at h ⊢
      match r with
      | [] => simp at h
      | b :: r =>
        by_cases h2 : cpOk (a :: b :: r) 2 = true
        · obtain ⟨p1, p2, p3, p4⟩ := (cpOk2 a b r).1 h2
          have : urun 0 [a, b] = some 0 := by rw [urun_cons _ (t1'.2.1 p1 p2), urun_cons _ ((t2' p3 p4).1 rfl)]; rfl
          simpa [h2] using this
        · simp only [h2] at h ⊢
          match r with
          | [] => simp at h
          | c :: r =>
            by_cases h3 : cpOk (a :: b :: c :: r) 3 = true
            · obtain ⟨p1, p2, p3, p4, p5, p6, p7, p8⟩ := (cpOk3 a b c r).1 h3
              have : urun 0 [a, b, c] = some 0 := by
                by_cases e1 : a.toNat = 224
                · rw [urun_cons _ (t1'.2.2.1 e1), urun_cons _ ((t2' p3 p4).2.2.2.1 rfl (p5 e1)), urun_cons _ ((t2' p7 p8).1 rfl)]; rfl
                · by_cases e2 : a.toNat = 237
                  · rw [urun_cons _ (t1'.2.2.2.1 e2), urun_cons _ ((t2' p3 p4).2.2.2.2.1 rfl (p6 e2)), urun_cons _ ((t2' p7 p8).1 rfl)]; rfl
                  · rw [urun_cons _ (t1'.2.2.2.2.1 (by omega) p2 e2), urun_cons _ ((t2' p3 p4).2.1 rfl), urun_cons _ ((t2' p7 p8).1 rfl)]; rfl
              simpa [h3] using this
            · simp only [h3] at h ⊢
              match r with
              | [] => simp at h
              | e :: r =>
                by_cases h4 : cpOk (a :: b :: c :: e :: r) 4 = true
                · obtain ⟨p1, p2, p3, p4, p5, p6, p7, p8, p9, p10⟩ := (cpOk4 a b c e r).1 h4
                  have : urun 0 [a, b, c, e] = some 0 := by
                    by_cases e1 : a.toNat = 240
                    · rw [urun_cons _ (t1'.2.2.2.2.2.1 e1), urun_cons _ ((t2' p3 p4).2.2.2.2.2.1 rfl (p5 e1)), urun_cons _ ((t2' p7 p8).2.1 rfl), urun_cons _ ((t2' p9 p10).1 rfl)]; rfl
                    · by_cases e2 : a.toNat = 244
                      · rw [urun_cons _ (t1'.2.2.2.2.2.2.2 e2), urun_cons _ ((t2' p3 p4).2.2.2.2.2.2 rfl (p6 e2)), urun_cons _ ((t2' p7 p8).2.1 rfl), urun_cons _ ((t2' p9 p10).1 rfl)]; rfl
                      · rw [urun_cons _ (t1'.2.2.2.2.2.2.1 (by omega) (by omega)), urun_cons _ ((t2' p3 p4).2.2.1 rfl), urun_cons _ ((t2' p7 p8).2.1 rfl), urun_cons _ ((t2' p9 p10).1 rfl)]; rfl
                  simpa [h4] using this
                · simp [h4] at h
/-- No sequence is whole: what the automaton says of each beginning. -/
def Cut (l : List UInt8) : Prop := ∀ st, urun 0 l = some st → st ≠ 0 ∧ l.length ≤ 3 ∧ st + l.length ≤ 8 ∧ (l.length = 2 → st ≤ 2) ∧ (l.length = 3 → st = 1)
theorem cut_of (l : List UInt8) (h : usize l = 0) (m : Nat) (hm : 1 ≤ m) (hl : m ≤ l.length) : Cut (l.take m) := by
  unfold usize at h
  simp only [usizeFrom] at h
  intro st hst
  match l with
  | [] => simp at hl; omega
  | a :: r =>
    by_cases h1 : cpOk (a :: r) 1 = true
    · simp [h1] at h
    · have ha : ∀ s, ustep 0 a.toNat = some s → s ≠ 0 := by
        rintro s h0 rfl
        exact h1 ((cpOk1 a r).2 (by rw [urun_cons _ h0]; rfl))
      simp only [h1] at h
      match m, hm with
      | 1, _ =>
        simp only [List.take_succ_cons, List.take_zero] at hst ⊢
        obtain ⟨s1, g1, k1⟩ := urun_cons_some hst
        obtain rfl : s1 = st := by simpa [urun] using k1
        have := t1 g1
        have := ha _ g1
        simp
        omega
      | m + 2, _ =>
        match r with
        | [] => simp at hl
        | b :: r =>
          by_cases h2 : cpOk (a :: b :: r) 2 = true
          · simp [h2] at h
          · have hb : ¬ seq2 a.toNat b.toNat := fun x => h2 ((cpOk2 a b r).2 x)
            simp only [h2] at h
            match m with
            | 0 =>
              simp only [List.take_succ_cons, List.take_zero] at hst ⊢
              obtain ⟨s1, g1, k1⟩ := urun_cons_some hst
              obtain ⟨s2, g2, k2⟩ := urun_cons_some k1
              obtain rfl : s2 = st := by simpa [urun] using k2
              have := t1 g1
              have := ha _ g1
              have := t2 this g2
              unfold seq2 at hb
              simp
              omega
            | m + 1 =>
              match r with
              | [] => simp at hl
              | c :: r =>
                by_cases h3 : cpOk (a :: b :: c :: r) 3 = true
                · simp [h3] at h
                · have hc : ¬ seq3 a.toNat b.toNat c.toNat := fun x => h3 ((cpOk3 a b c r).2 x)
                  simp only [h3] at h
                  match m with
                  | 0 =>
                    simp only [List.take_succ_cons, List.take_zero] at hst ⊢
                    obtain ⟨s1, g1, k1⟩ := urun_cons_some hst
                    obtain ⟨s2, g2, k2⟩ := urun_cons_some k1
                    obtain ⟨s3, g3, k3⟩ := urun_cons_some k2
                    obtain rfl : s3 = st := by simpa [urun] using k3
                    have e1 := t1 g1
                    have e2 := ha _ g1
                    have e3 := t2 e2 g2
                    unfold seq2 at hb
                    unfold seq3 at hc
                    have e4 : s2 ≠ 0 := by omega
                    have e5 := t2 e4 g3
                    simp
                    omega
                  | m + 1 =>
                    match r with
                    | [] => simp at hl
                    | e :: r =>
                      by_cases h4 : cpOk (a :: b :: c :: e :: r) 4 = true
                      · simp [h4] at h
                      · have hd : ¬ seq4 a.toNat b.toNat c.toNat e.toNat := fun x => h4 ((cpOk4 a b c e r).2 x)
                        simp only [List.take_succ_cons] at hst
                        obtain ⟨s1, g1, k1⟩ := urun_cons_some hst
                        obtain ⟨s2, g2, k2⟩ := urun_cons_some k1
                        obtain ⟨s3, g3, k3⟩ := urun_cons_some k2
                        obtain ⟨s4, g4, k4⟩ := urun_cons_some k3
                        have e1 := t1 g1
                        have e2 := ha _ g1
                        have e3 := t2 e2 g2
                        unfold seq2 at hb
                        unfold seq3 at hc
                        unfold seq4 at hd
                        have e4 : s2 ≠ 0 := by omega
                        have e5 := t2 e4 g3
                        have e6 : s3 ≠ 0 := by omega
                        have e7 := t2 e6 g4
                        omega

/-! ### The document's words on texts -/
def goesP (p : List UInt8) : Bool :=
  (List.range 64).any fun a => (List.range (if p.length > 1 then 1 else 64)).any fun b =>
    decide (p.length ≤ usize (p ++ [UInt8.ofNat (128 + a), UInt8.ofNat (128 + b), 128])) && decide (0 < usize (p ++ [UInt8.ofNat (128 + a), UInt8.ofNat (128 + b), 128]))
def GoesP (p : List UInt8) : Bool := decide (p.length ≤ 4) && (p == [] || usize p == p.length || goesP p)
def wholeN : Nat → List UInt8 → Nat
  | 0, _ => 0
  | n + 1, s => if usize s = 0 then 0 else usize s + wholeN n (s.drop (usize s))
def wholeP (s : List UInt8) : Nat := wholeN (s.length + 1) s
def badFrom (t : List UInt8) : Nat → Nat → Option Nat
  | 0, _ => none
  | f + 1, n => if n ≤ t.length then (if GoesP (t.take n) then badFrom t f (n + 1) else some (n - 1)) else none
def badP (s : List UInt8) : Option Nat := (badFrom (s.drop (wholeP s)) (s.length + 1) 1).map (· + wholeP s)

theorem usize_nil : usize [] = 0 := rfl
theorem usize_take (l : List UInt8) (h : usize l = 0) (n : Nat) : usize (l.take n) = 0 := by
  by_cases hz : usize (l.take n) = 0
  · exact hz
  · have h1 := usize_run _ hz
    have h2 := usize_le (l.take n)
    rw [List.length_take] at h2
    rw [List.take_take, Nat.min_eq_left (by omega)] at h1
    exact absurd rfl ((cut_of l h (usize (l.take n)) (by omega) (by omega)) 0 h1).1
theorem goes_of (p : List UInt8) (hp0 : usize p = 0) (st : Nat) (h : urun 0 p = some st) (hp : p ≠ []) : goesP p = true := by
  have hc : Cut p := by
    have := cut_of p hp0 p.length (by cases p with | nil => exact absurd rfl hp | cons x xs => simp) (Nat.le_refl _)
    rwa [List.take_length] at this
  obtain ⟨h0, h3, h8, hl2, hl3⟩ := hc st h
  have hlen : 1 ≤ p.length := by cases p with | nil => exact absurd rfl hp | cons x xs => simp
  -- the byte that goes on
  have hst7 : st ≤ 7 := by omega
  have key : ∃ a, a < 64 ∧ ∃ n, n ≤ 3 ∧ 1 ≤ n ∧ urun st ([UInt8.ofNat (128 + a), UInt8.ofNat (128 + 0), 128].take n) = some 0 := by
    have : st = 1 ∨ st = 2 ∨ st = 3 ∨ st = 4 ∨ st = 5 ∨ st = 6 ∨ st = 7 := by omega
    rcases this with rfl | rfl | rfl | rfl | rfl | rfl | rfl
    · exact ⟨0, by omega, 1, by omega, by omega, by decide⟩
    · exact ⟨0, by omega, 2, by omega, by omega, by decide⟩
    · exact ⟨0, by omega, 3, by omega, by omega, by decide⟩
    · exact ⟨32, by omega, 2, by omega, by omega, by decide⟩
    · exact ⟨0, by omega, 2, by omega, by omega, by decide⟩
    · exact ⟨16, by omega, 3, by omega, by omega, by decide⟩
    · exact ⟨0, by omega, 3, by omega, by omega, by decide⟩
  obtain ⟨a, ha, n, hn, hn1, hrun⟩ := key
  unfold goesP
  rw [List.any_eq_true]
  refine ⟨a, by simpa using ha, ?_⟩
  rw [List.any_eq_true]
  refine ⟨0, by simp; split <;> omega, ?_⟩
  generalize ht : [UInt8.ofNat (128 + a), UInt8.ofNat (128 + 0), 128] = t at hrun ⊢
  have htl : t.length = 3 := by rw [← ht]; rfl
  have hfull : urun 0 ((p ++ t).take (p.length + n)) = some 0 := by
    rw [List.take_append, List.take_of_length_le (by omega), urun_append, h, Nat.add_sub_cancel_left]
    exact hrun
  have hz : usize (p ++ t) ≠ 0 := by
    intro hz
    exact absurd rfl ((cut_of _ hz (p.length + n) (by omega) (by simp; omega)) 0 hfull).1
  have hge : p.length ≤ usize (p ++ t) := by
    by_cases hlt : usize (p ++ t) < p.length
    · have h1 := usize_run _ hz
      rw [List.take_append_of_le_length (by omega)] at h1
      exact absurd rfl ((cut_of _ hp0 (usize (p ++ t)) (by omega) (by omega)) 0 h1).1
    · omega
  simp only [Bool.and_eq_true, decide_eq_true_eq]
  exact ⟨hge, by omega⟩
theorem goes_no (p : List UInt8) (h : urun 0 p = none) : goesP p = false := by
  rw [Bool.eq_false_iff]
  intro hg
  unfold goesP at hg
  rw [List.any_eq_true] at hg
  obtain ⟨a, _, hg⟩ := hg
  rw [List.any_eq_true] at hg
  obtain ⟨b, _, hg⟩ := hg
  generalize [UInt8.ofNat (128 + a), UInt8.ofNat (128 + b), 128] = t at hg
  simp only [Bool.and_eq_true, decide_eq_true_eq] at hg
  have h1 := usize_run (p ++ t) (by omega)
  rw [List.take_append, List.take_of_length_le hg.1, urun_append, h] at h1
  cases h1
/-- A beginning of a text that no sequence begins goes on, or the automaton has stopped. -/
theorem Goes_iff (t : List UInt8) (h : usize t = 0) (n : Nat) (hn : 1 ≤ n) (hl : n ≤ t.length) : GoesP (t.take n) = (urun 0 (t.take n)).isSome := by
  have hlen : (t.take n).length = n := by rw [List.length_take]; omega
  have hp0 := usize_take t h n
  have hcut := cut_of t h n hn hl
  have hne : t.take n ≠ [] := by intro e; rw [e] at hlen; simp at hlen; omega
  unfold GoesP
  rw [hlen, hp0]
  have e1 : (t.take n == []) = false := by simpa using hne
  have e2 : ((0 : Nat) == n) = false := by simp; omega
  rw [e1, e2]
  cases hu : urun 0 (t.take n) with
  | none => simp [goes_no _ hu]
  | some st =>
    have := (hcut st hu).2.1
    rw [hlen] at this
    simp [goes_of _ hp0 st hu hne]
    omega
theorem wholeN_spec : ∀ (f : Nat) (s : List UInt8), s.length < f → wholeN f s ≤ s.length ∧ urun 0 (s.take (wholeN f s)) = some 0 ∧ usize (s.drop (wholeN f s)) = 0
  | 0, s, h => by omega
  | f + 1, s, h => by
    unfold wholeN
    by_cases hz : usize s = 0
    · simp [hz, urun]
    · have hle := usize_le s
      have hr := usize_run s hz
      obtain ⟨h1, h2, h3⟩ := wholeN_spec f (s.drop (usize s)) (by simp; omega)
      rw [List.length_drop] at h1
      simp only [hz, if_false]
      refine ⟨by omega, ?_, ?_⟩
      · rw [List.take_add, urun_append, hr]
        exact h2
      · rw [← List.drop_drop]
        exact h3
theorem whole_spec (s : List UInt8) : wholeP s ≤ s.length ∧ urun 0 (s.take (wholeP s)) = some 0 ∧ usize (s.drop (wholeP s)) = 0 := wholeN_spec _ s (by omega)
theorem urunN_append (x t : List UInt8) : ∀ (st s : Nat), urun st x = some s → urunN st (x ++ t) = ((urunN s t).1, x.length + (urunN s t).2) := by
  induction x with
  | nil => intro st s h; simp [urun] at h; subst h; simp
  | cons b x ih =>
    intro st s h
    obtain ⟨s1, g1, g2⟩ := urun_cons_some h
    simp only [List.cons_append, urunN, g1, ih s1 s g2, List.length_cons]
    congr 1
    omega
theorem urun_take_some : ∀ (l : List UInt8) (st n : Nat), n ≤ l.length → ((urun st (l.take n)).isSome = true ↔ n ≤ (urunN st l).2)
  | [], st, n, h => by simp at h; subst h; simp [urun, urunN]
  | b :: l, st, 0, h => by simp [urun]
  | b :: l, st, n + 1, h => by
    simp only [List.take_succ_cons, urun, urunN]
    cases ustep st b.toNat with
    | none => simp
    | some s =>
      have := urun_take_some l s n (by simpa using h)
      simp only [Option.bind_some, this]
      omega
theorem badFrom_spec (t : List UInt8) (h : usize t = 0) : ∀ (f n : Nat), t.length < f + n → 1 ≤ n → n ≤ (urunN 0 t).2 + 1 → badFrom t f n = if (urunN 0 t).2 < t.length then some (urunN 0 t).2 else none
  | 0, n, hf, hn, hg => by
    have := urunN_le t 0
    unfold badFrom
    rw [if_neg (by omega)]
  | f + 1, n, hf, hn, hg => by
    have hle := urunN_le t 0
    unfold badFrom
    by_cases hnl : n ≤ t.length
    · rw [if_pos hnl, Goes_iff t h n hn hnl]
      have := urun_take_some t 0 n hnl
      by_cases hs : n ≤ (urunN 0 t).2
      · rw [if_pos (this.2 hs)]
        exact badFrom_spec t h f (n + 1) (by omega) (by omega) (by omega)
      · rw [if_neg (fun x => hs (this.1 x)), if_pos (by omega)]
        congr 1
        omega
    · rw [if_neg hnl, if_neg (by omega)]
/-- The document's first byte that doesn't go on is the automaton's. -/
theorem bad_auto (s : List UInt8) : badP s = if (urunN 0 s).2 < s.length then some (urunN 0 s).2 else none := by
  obtain ⟨h1, h2, h3⟩ := whole_spec s
  unfold badP
  have ha := urunN_append (s.take (wholeP s)) (s.drop (wholeP s)) 0 0 h2
  rw [List.take_append_drop] at ha
  rw [badFrom_spec _ h3 _ 1 (by simp; omega) (by omega) (by omega), ha]
  have hl : (s.take (wholeP s)).length = wholeP s := by rw [List.length_take]; omega
  rw [hl, List.length_drop]
  by_cases hb : (urunN 0 (s.drop (wholeP s))).2 < s.length - wholeP s
  · rw [if_pos hb, if_pos (by simp only; omega)]
    simp only [Option.map_some]
    congr 1
    omega
  · rw [if_neg hb, if_neg (by simp only; omega)]
    rfl
/-- A text that is whole is one that the automaton takes whole. -/
theorem whole_auto (s : List UInt8) : wholeP s = s.length ↔ valid s = true := by
  obtain ⟨h1, h2, h3⟩ := whole_spec s
  unfold valid
  rw [beq_iff_eq]
  constructor
  · intro h
    rw [h, List.take_length] at h2
    exact h2
  · intro h
    by_cases hlt : wholeP s < s.length
    · have h4 : urun 0 (s.drop (wholeP s)) = some 0 := by
        have := urun_append (s.take (wholeP s)) (s.drop (wholeP s)) 0
        rw [List.take_append_drop, h, h2] at this
        exact this.symm
      have hl : (s.drop (wholeP s)).length = s.length - wholeP s := List.length_drop
      have := cut_of _ h3 (s.drop (wholeP s)).length (by omega) (Nat.le_refl _)
      rw [List.take_length] at this
      exact absurd rfl (this 0 h4).1
    · omega
theorem whole_state (s : List UInt8) (h : (urunN 0 s).2 = s.length) : wholeP s < s.length ↔ (urunN 0 s).1 ≠ 0 := by
  have h1 := (whole_spec s).1
  have h2 := whole_auto s
  rw [valid_iff, h] at h2
  simp only [beq_self_eq_true, Bool.true_and, beq_iff_eq] at h2
  omega
theorem valid_append (a b : List UInt8) (ha : valid a = true) (hb : valid b = true) : valid (a ++ b) = true := by
  unfold valid at *
  rw [beq_iff_eq] at *
  rw [urun_append, ha]
  exact hb
theorem valid_ascii (b : UInt8) (h : b.toNat < 128) : valid [b] = true := by
  unfold valid
  rw [beq_iff_eq, urun_cons _ (t1'.1 (by omega))]
  rfl
end Go.Proofs.Ytcmoldondflilaa.Utf
