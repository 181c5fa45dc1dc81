/- PROVED: for all dialects a, b and every text s, TopOther(a, b, s) returns true and leaves its arguments as they were. No condition. -/
import Derived.Test.YtbjejmdbpikgjaaRdp
import Derived.Test.YtbjejmdbpikgjaaTabPlain
import Derived.Test.YtbjejmdbpikgjaaRows
import Derived.Test.YtbjejmdbpikgjaaTbC
import Derived.Test.YtbjejmdbpikgjaaTbB
import Derived.Test.YtbjejmdbpikgjaaSame
import Derived.Test.YtbjejmdbpikgjaaOpenT
import Derived.Deep.RegionHeld3
namespace Go.Proofs.Ytbjejmdbpikgjaa.RowsOk
set_option linter.unusedVariables false
set_option linter.unusedSimpArgs false
set_option maxRecDepth 100000
open Mach Gram Par
open Tab (fieldsOf bytesOf bytesOfRow)
def f1 (m : Mk) (e : Ev) : Bs := if e.add then m.field ++ [e.b] else m.field
def r2 (m : Mk) (e : Ev) : Row := if e.fld then m.record ++ [f1 m e] else m.record
def f2 (m : Mk) (e : Ev) : Bs := if e.fld then [] else f1 m e
def r3 (m : Mk) (e : Ev) : Row := if e.lin then r2 m e ++ [f2 m e] else r2 m e
def f3 (m : Mk) (e : Ev) : Bs := if e.lin then [] else f2 m e
theorem gather_ok (m : Mk) (e : Ev) (h : (gather m e).2 = 0) : (gather m e).1.field = f3 m e ∧ (gather m e).1.record = r3 m e := by
  obtain ⟨e1, e2, e3, e4, e5, e6⟩ := e
  unfold gather at h ⊢
  simp only [f3, r3, f2, r2, f1] at h ⊢
  cases e1 <;> cases e2 <;> cases e3 <;> cases e4 <;> simp only [putField, Bool.false_and, Bool.true_and, Bool.false_eq_true, if_false, if_true] at h ⊢
  all_goals (refine ⟨?_, ?_⟩ <;> (repeat' split) <;> simp_all <;> (split at h <;> simp at h))
theorem take_ok (m : Mk) (e : Ev) (hs : m.stopped = 0) (h : (take m e).2.2 = 0) :
    (take m e).1.field = f3 m e ∧ (take m e).1.record = (if e.rcd then [] else r3 m e) ∧ (take m e).2.1 = (if e.rcd then some (r3 m e) else none) ∧ (take m e).1.stopped = 0 := by
  have hg := gather_ok m e
  unfold take at h ⊢
  simp only [hs, beq_self_eq_true, if_true] at h ⊢
  by_cases hk : (gather m e).2 = 0
  · obtain ⟨a, b⟩ := hg hk
    simp only [hk, bne_self_eq_false, Bool.false_eq_true, if_false] at h ⊢
    cases hr : e.rcd <;> simp [a, b]
  · have hk' : ((gather m e).2 != 0) = true := by simpa using hk
    simp only [hk', if_true] at h
    exact absurd h hk
theorem ascii_step {sq q : Nat} {b : UInt8} (hb : b.toNat < 128) (h : Utf.ustep sq b.toNat = some q) : sq = 0 ∧ q = 0 := by
  by_cases h0 : sq = 0
  · subst h0
    have := (Utf.t1' (a := b.toNat)).1 (by omega)
    rw [this] at h
    exact ⟨rfl, (Option.some.inj h).symm⟩
  · have := (Utf.t2 h0 h).1
    omega
/-- What holds of the machine while nothing is wrong. -/
structure Inv (sq st : Nat) (m : Mk) : Prop where
  f : Utf.urun 0 m.field = some sq
  r : ∀ f ∈ m.record, Utf.valid f = true
  p : st = 5 → m.record ≠ []
  s : m.stopped = 0
  t : st ≤ 6
def RowOk (r : Row) : Prop := r ≠ [] ∧ ∀ f ∈ r, Utf.valid f = true
def wB (m : Mk) : Nat := bytesOfRow m.record + m.field.length
theorem bytes_app (a : Row) (f : Bs) : bytesOfRow (a ++ [f]) = bytesOfRow a + f.length := by unfold bytesOfRow; simp
/-- One event, the sequence's state behind it. -/
theorem take_inv {sq q st st' : Nat} {m : Mk} {e : Ev} (h : Inv sq st m) (hk : (take m e).2.2 = 0) (ht : st' ≤ 6) (ha : e.add = true → Utf.urun 0 (m.field ++ [e.b]) = some q ∧ e.fld = false ∧ e.lin = false) (hn : e.add = false → sq = 0 ∧ q = 0)
    (h5 : st' = 5 → e.lin = true ∧ e.rcd = false) (hr : e.rcd = true → e.lin = true ∨ m.record ≠ []) (hb : e.fld = true → e.lin = false) :
    Inv q st' (take m e).1 ∧ (∀ row, (take m e).2.1 = some row → RowOk row) ∧
    ((take m e).1.record.length + ((take m e).2.1.getD []).length ≤ m.record.length + 1 ∧ wB (take m e).1 + bytesOfRow ((take m e).2.1.getD []) ≤ wB m + 1) := by
  obtain ⟨a1, a2, a3, a4⟩ := take_ok m e h.s hk
  have hr3 : ∀ f ∈ r3 m e, Utf.valid f = true := by
    intro f hf
    cases hadd : e.add
    · obtain ⟨hs, hq⟩ := hn hadd
      have hv : Utf.valid m.field = true := by unfold Utf.valid; rw [h.f, hs]; rfl
      cases hfl : e.fld <;> cases hl : e.lin <;> simp only [r3, r2, f2, f1, hadd, hfl, hl, Bool.false_eq_true, if_false, if_true, List.mem_append, List.mem_singleton] at hf
      · exact h.r f hf
      · rcases hf with hf | rfl
        · exact h.r f hf
        · exact hv
      · rcases hf with hf | rfl
        · exact h.r f hf
        · exact hv
      · exact absurd (hb hfl) (by rw [hl]; simp)
    · obtain ⟨_, hf1, hl1⟩ := ha hadd
      simp only [r3, r2, hf1, hl1, Bool.false_eq_true, if_false] at hf
      exact h.r f hf
  have hf3 : Utf.urun 0 (f3 m e) = some q := by
    cases hadd : e.add
    · obtain ⟨hs, hq⟩ := hn hadd
      subst hq
      cases hfl : e.fld <;> cases hl : e.lin <;> simp only [f3, f2, f1, hadd, hfl, hl, Bool.false_eq_true, if_false, if_true]
      · rw [h.f, hs]
      all_goals rfl
    · obtain ⟨hu, hf1, hl1⟩ := ha hadd
      simp only [f3, f2, f1, hadd, hf1, hl1, Bool.false_eq_true, if_false, if_true]
      exact hu
  refine ⟨⟨by rw [a1]; exact hf3, ?_, ?_, a4, ht⟩, ?_, ?_, ?_⟩
  · rw [a2]
    cases hrc : e.rcd
    · simpa using hr3
    · simp
  · intro h5'
    obtain ⟨hl, hrc⟩ := h5 h5'
    rw [a2, hrc]
    simp [r3, hl]
  · intro row hrow
    rw [a3] at hrow
    cases hrc : e.rcd
    · rw [hrc] at hrow; simp at hrow
    · rw [hrc] at hrow
      simp only [if_true, Option.some.injEq] at hrow
      subst hrow
      refine ⟨?_, hr3⟩
      rcases hr hrc with hl | hm
      · simp [r3, hl]
      · unfold r3 r2
        split <;> (try split) <;> simp [hm]
  · rw [a2, a3]
    have hl3 : (r3 m e).length ≤ m.record.length + 1 := by
      unfold r3 r2
      cases hfl : e.fld
      · cases hl : e.lin <;> simp
      · have := hb hfl; simp [this]
    cases hrc : e.rcd <;> simp <;> omega
  · unfold wB
    rw [a1, a2, a3]
    have hw : bytesOfRow (r3 m e) + (f3 m e).length ≤ bytesOfRow m.record + m.field.length + 1 := by
      cases hadd : e.add
      · cases hfl : e.fld <;> cases hl : e.lin <;> simp only [r3, r2, f3, f2, f1, hadd, hfl, hl, Bool.false_eq_true, if_false, if_true, bytes_app, List.length_nil] <;> omega
      · obtain ⟨_, hf1, hl1⟩ := ha hadd
        simp only [r3, r2, f3, f2, f1, hadd, hf1, hl1, Bool.false_eq_true, if_false, if_true, List.length_append, List.length_singleton]
        omega
    have h0 : bytesOfRow [] = 0 := rfl
    cases hrc : e.rcd <;> simp [h0] <;> omega
theorem urun_snoc {f : Bs} {sq q : Nat} {b : UInt8} (h : Utf.urun 0 f = some sq) (hu : Utf.ustep sq b.toNat = some q) : Utf.urun 0 (f ++ [b]) = some q := by
  rw [Utf.urun_append, h]
  simp [Utf.urun, hu]
theorem may_ascii {b : UInt8} (h : mayPart b = true) : b.toNat < 128 := by
  unfold mayPart at h
  simp at h
  exact h.1.1
/-- What an event of the scanner is like. -/
def EvOk (d : Dia) (st st' : Nat) (e : Ev) (b : UInt8) : Prop :=
  (e.add = true → e.b = b ∧ e.fld = false ∧ e.lin = false) ∧ (e.add = false → b.toNat < 128) ∧ (st' = 5 → e.lin = true ∧ e.rcd = false) ∧ (e.rcd = true → e.lin = true ∨ st = 5) ∧ (e.fld = true → e.lin = false) ∧ st' ≤ 6
theorem ev_none {d : Dia} {st st' : Nat} {bg fl : Bool} {b : UInt8} (hb : b.toNat < 128) (h5 : st' ≠ 5) (h6 : st' ≤ 6) : EvOk d st st' ⟨bg, false, fl, false, false, 0⟩ b :=
  ⟨by simp, fun _ => hb, fun h => absurd h h5, by simp, by simp, h6⟩
theorem ev_add {d : Dia} {st st' : Nat} {bg : Bool} {b : UInt8} (h5 : st' ≠ 5) (h6 : st' ≤ 6) : EvOk d st st' ⟨bg, true, false, false, false, b⟩ b :=
  ⟨by simp, by simp, fun h => absurd h h5, by simp, by simp, h6⟩
theorem ev_lin5 {d : Dia} {st : Nat} {b : UInt8} (hb : b.toNat < 128) : EvOk d st 5 ⟨false, false, false, true, false, 0⟩ b :=
  ⟨by simp, fun _ => hb, by simp, by simp, by simp, by omega⟩
theorem ev_lin0 {d : Dia} {st : Nat} {b : UInt8} (hb : b.toNat < 128) : EvOk d st 0 ⟨false, false, false, true, true, 0⟩ b :=
  ⟨by simp, fun _ => hb, by simp, by simp, by simp, by omega⟩
theorem ev_rcd {d : Dia} {st : Nat} {b : UInt8} (hb : b.toNat < 128) : EvOk d st 0 ⟨false, false, false, false, st == 5, 0⟩ b :=
  ⟨by simp, fun _ => hb, by simp, by simp, by simp, by omega⟩
theorem lt_of_beq {b c : UInt8} (h : (b == c) = true) (hc : c.toNat < 128) : b.toNat < 128 := by
  rw [eq_of_beq h]; exact hc
theorem start_ev (d : Dia) (hd1 : d.delim.toNat < 128) (hd2 : d.quote.toNat < 128) (b : UInt8) (h : (atStart d b).2.2 = 0) : EvOk d 0 (atStart d b).2.1 (atStart d b).1 b := by
  unfold atStart at h ⊢
  by_cases c0 : wrongEnd d b = true
  · rw [if_pos c0] at h; exact absurd h (by decide)
  rw [if_neg c0]
  by_cases c1 : (b == d.quote) = true
  · rw [if_pos c1]; exact ev_none (lt_of_beq c1 hd2) (by decide) (by decide)
  rw [if_neg c1]
  by_cases c2 : (b == d.delim) = true
  · rw [if_pos c2]; exact ev_none (lt_of_beq c2 hd1) (by decide) (by decide)
  rw [if_neg c2]
  by_cases c3 : (b == 13) = true
  · rw [if_pos c3]; exact ev_none (lt_of_beq c3 (by decide)) (by decide) (by decide)
  rw [if_neg c3]
  by_cases c4 : (b == 10) = true
  · rw [if_pos c4]; exact ev_none (lt_of_beq c4 (by decide)) (by decide) (by decide)
  rw [if_neg c4]
  exact ev_add (by simp) (by simp)
theorem in_ev (d : Dia) (hd1 : d.delim.toNat < 128) (hd2 : d.quote.toNat < 128) (st : Nat) (b : UInt8) (h : (inRecord d st b).2.2 = 0) : EvOk d st (inRecord d st b).2.1 (inRecord d st b).1 b := by
  unfold inRecord at h ⊢
  by_cases c0 : wrongEnd d b = true
  · rw [if_pos c0] at h; exact absurd h (by decide)
  rw [if_neg c0] at h ⊢
  by_cases c1 : (b == d.quote && st == 1) = true
  · rw [if_pos c1]; exact ev_none (lt_of_beq ((Bool.and_eq_true _ _).mp c1).1 hd2) (by decide) (by decide)
  rw [if_neg c1] at h ⊢
  by_cases c2 : (b == d.quote && st == 4) = true
  · rw [if_pos c2]; exact ev_add (by simp) (by simp)
  rw [if_neg c2] at h ⊢
  by_cases c3 : (b == d.quote) = true
  · rw [if_pos c3] at h; exact absurd h (by decide)
  rw [if_neg c3] at h ⊢
  by_cases c4 : (b == d.delim) = true
  · rw [if_pos c4]; exact ev_none (lt_of_beq c4 hd1) (by decide) (by decide)
  rw [if_neg c4] at h ⊢
  by_cases c5 : (b == 13) = true
  · rw [if_pos c5]; exact ev_lin5 (lt_of_beq c5 (by decide))
  rw [if_neg c5] at h ⊢
  by_cases c6 : (b == 10) = true
  · rw [if_pos c6]; exact ev_lin0 (lt_of_beq c6 (by decide))
  rw [if_neg c6] at h ⊢
  by_cases c7 : (st == 4) = true
  · rw [if_pos c7] at h; exact absurd h (by decide)
  rw [if_neg c7]
  exact ev_add (by simp) (by simp)
theorem step_ev (d : Dia) (hd : d.right = true) (st : Nat) (hst : st ≤ 6) (b : UInt8) (h : (Mach.step d st b).2.2 = 0) : EvOk d st (Mach.step d st b).2.1 (Mach.step d st b).1 b := by
  unfold Dia.right at hd
  simp only [Bool.and_eq_true] at hd
  have hd1 := may_ascii hd.1.1.1
  have hd2 := may_ascii hd.1.1.2
  obtain rfl | rfl | rfl | rfl | rfl | h56 : st = 0 ∨ st = 1 ∨ st = 2 ∨ st = 4 ∨ st = 3 ∨ (st = 5 ∨ st = 6) := by omega
  · exact start_ev d hd1 hd2 b h
  · exact in_ev d hd1 hd2 1 b h
  · exact in_ev d hd1 hd2 2 b h
  · exact in_ev d hd1 hd2 4 b h
  · have e : Mach.step d 3 b = (if b == d.quote then (ev0, 4, 0) else (⟨false, true, false, false, false, b⟩, 3, 0)) := rfl
    rw [e]
    by_cases c : (b == d.quote) = true
    · rw [if_pos c]; exact ev_none (lt_of_beq c hd2) (by decide) (by decide)
    · rw [if_neg c]; exact ev_add (by simp) (by simp)
  · have e : Mach.step d st b = (if b != 10 then (ev0, 0, 6) else (⟨false, false, false, false, st == 5, 0⟩, 0, 0)) := by
      rcases h56 with rfl | rfl <;> rfl
    rw [e] at h ⊢
    by_cases c : (b != 10) = true
    · rw [if_pos c] at h; exact absurd h (by decide)
    · rw [if_neg c]
      have : b = 10 := by simpa using c
      subst this
      exact ev_rcd (by decide)
open Rdp
theorem stp_inv (d : Dia) (hd : d.right = true) {sq st : Nat} {m : Mk} (h : Inv sq st m) (b : UInt8) (hk : (stp d sq st m b).kind = 0) :
    Inv (stp d sq st m b).sq (stp d sq st m b).st (stp d sq st m b).mm ∧ (∀ row, (stp d sq st m b).o = some row → RowOk row) ∧
    ((stp d sq st m b).mm.record.length + ((stp d sq st m b).o.getD []).length ≤ m.record.length + 1 ∧ wB (stp d sq st m b).mm + bytesOfRow ((stp d sq st m b).o.getD []) ≤ wB m + 1) := by
  cases hu : Utf.ustep sq b.toNat with
  | none => simp [stp, hu] at hk
  | some q =>
    by_cases h1 : (Mach.step d st b).2.2 = 0
    rotate_left
    · simp [stp, hu, h1] at hk
    have e1 : stp d sq st m b = ⟨q, (Mach.step d st b).2.1, (take m (Mach.step d st b).1).1, (take m (Mach.step d st b).1).2.1, (take m (Mach.step d st b).1).2.2⟩ := by simp [stp, hu, h1]
    rw [e1] at hk ⊢
    dsimp only at hk ⊢
    obtain ⟨p1, p2, p3, p4, p5, p6⟩ := step_ev d hd st h.t b h1
    refine take_inv h hk p6 ?_ ?_ p3 ?_ p5
    · intro ha
      obtain ⟨a1, a2, a3⟩ := p1 ha
      rw [a1]
      exact ⟨urun_snoc h.f hu, a2, a3⟩
    · intro ha
      exact ascii_step (p2 ha) hu
    · intro hr
      rcases p4 hr with hl | hl
      · exact .inl hl
      · exact .inr (h.p hl)
theorem fields_cons (r : Row) (t : Tb) : fieldsOf (r :: t) = r.length + fieldsOf t := by simp [fieldsOf]
theorem bytes_cons (r : Row) (t : Tb) : bytesOf (r :: t) = bytesOfRow r + bytesOf t := by simp [bytesOf]
theorem wk_inv (d : Dia) (hd : d.right = true) : ∀ (r : Bs) (sq st : Nat) (m : Mk) (i : Nat), Inv sq st m → (wk d sq st m r i).kind = 0 →
    Inv (wk d sq st m r i).sq (wk d sq st m r i).st (wk d sq st m r i).mm ∧ (∀ row ∈ (wk d sq st m r i).recs, RowOk row) ∧
    fieldsOf (wk d sq st m r i).recs + (wk d sq st m r i).mm.record.length ≤ m.record.length + r.length ∧
    bytesOf (wk d sq st m r i).recs + wB (wk d sq st m r i).mm ≤ wB m + r.length ∧ (wk d sq st m r i).recs.length ≤ r.length
  | [], sq, st, m, i, h, hk => ⟨h, by simp [wk], by simp [wk, fieldsOf], by simp [wk, bytesOf], by simp [wk]⟩
  | b :: r, sq, st, m, i, h, hk => by
    have hs := stp_inv d hd h b
    have IH := wk_inv d hd r (stp d sq st m b).sq (stp d sq st m b).st (stp d sq st m b).mm (i + 1)
    rw [wk] at hk ⊢
    generalize stp d sq st m b = x at hs IH hk ⊢
    by_cases hx : x.kind = 0
    rotate_left
    · rw [if_pos hx] at hk
      exact absurd hk hx
    rw [if_neg (by simpa using hx)] at hk ⊢
    obtain ⟨s1, s2, s3, s4⟩ := hs hx
    obtain ⟨i1, i2, i3, i4, i5⟩ := IH s1 hk
    generalize wk d x.sq x.st x.mm r (i + 1) = y at *
    have hr0 : bytesOfRow [] = 0 := rfl
    cases ho : x.o with
    | none =>
      rw [ho] at s3 s4
      simp only [Option.getD_none, List.length_nil, hr0] at s3 s4
      refine ⟨i1, i2, ?_, ?_, ?_⟩
      · show fieldsOf y.recs + y.mm.record.length ≤ _
        simp only [List.length_cons]; omega
      · show bytesOf y.recs + wB y.mm ≤ _
        simp only [List.length_cons]; omega
      · show y.recs.length ≤ _
        simp only [List.length_cons]; omega
    | some row =>
      rw [ho] at s3 s4
      simp only [Option.getD_some] at s3 s4
      refine ⟨i1, ?_, ?_, ?_, ?_⟩
      · intro z hz
        rcases List.mem_cons.mp (show z ∈ row :: y.recs from hz) with rfl | hz
        · exact s2 _ ho
        · exact i2 z hz
      · show fieldsOf (row :: y.recs) + y.mm.record.length ≤ _
        rw [fields_cons]; simp only [List.length_cons]; omega
      · show bytesOf (row :: y.recs) + wB y.mm ≤ _
        rw [bytes_cons]; simp only [List.length_cons]; omega
      · show (row :: y.recs).length ≤ _
        simp only [List.length_cons]; omega
theorem close_ev {st : Nat} (h : (closeEv st).2 = 0) : (closeEv st).1 = ⟨false, false, false, true, true, 0⟩ ∨ (closeEv st).1 = ev0 := by
  unfold closeEv at h ⊢
  by_cases c : (st == 1 || st == 2 || st == 4) = true
  · rw [if_pos c]; exact .inl rfl
  · rw [if_neg c]
    right
    split <;> (try split) <;> rfl
theorem fields_app (a b : Tb) : fieldsOf (a ++ b) = fieldsOf a + fieldsOf b := by simp [fieldsOf]
theorem bytesT_app (a b : Tb) : bytesOf (a ++ b) = bytesOf a + bytesOf b := by simp [bytesOf]
/-- What is read without a fault. -/
theorem parse_ok (d : Dia) (hd : d.right = true) (l : Lim) (hl : 1 ≤ l.fields) (s : Bs) (t : Tb) (P : Int) (h : parseP d l s = (t, 0, P)) :
    (∀ row ∈ t, RowOk row) ∧ fieldsOf t ≤ s.length + 1 ∧ bytesOf t ≤ s.length + 1 ∧ t.length ≤ s.length + 1 ∧ P = 0 := by
  rw [top_parse d hd l hl s] at h
  have hn := (off_le s).1
  have I := wk_inv d hd (Bom.strip s) 0 0 (mk0 l) (off s) ⟨rfl, by simp [mk0], by simp, rfl, by omega⟩
  generalize wk d 0 0 (mk0 l) (Bom.strip s) (off s) = x at h I
  unfold fin at h
  by_cases hk : x.kind = 0
  rotate_left
  · rw [if_pos hk] at h
    exact absurd (congrArg (fun p => p.2.1) h) hk
  rw [if_neg (by simpa using hk)] at h
  by_cases hq : x.sq = 0
  rotate_left
  · rw [if_pos hq] at h
    exact absurd (congrArg (fun p => p.2.1) h) (by simp)
  rw [if_neg (by simpa using hq)] at h
  by_cases hc : (closeEv x.st).2 = 0
  rotate_left
  · rw [if_pos hc] at h
    exact absurd (congrArg (fun p => p.2.1) h) hc
  rw [if_neg (by simpa using hc)] at h
  by_cases hg : (take x.mm (closeEv x.st).1).2.2 = 0
  rotate_left
  · rw [if_pos hg] at h
    exact absurd (congrArg (fun p => p.2.1) h) hg
  rw [if_neg (by simpa using hg)] at h
  have ht : x.recs ++ (take x.mm (closeEv x.st).1).2.1.toList = t := congrArg (fun p => p.1) h
  have hP : P = 0 := (congrArg (fun p => p.2.2) h).symm
  obtain ⟨i1, i2, i3, i4, i5⟩ := I hk
  rw [hq] at i1
  have T : (∀ row, (take x.mm (closeEv x.st).1).2.1 = some row → RowOk row) ∧
    ((take x.mm (closeEv x.st).1).1.record.length + ((take x.mm (closeEv x.st).1).2.1.getD []).length ≤ x.mm.record.length + 1 ∧ wB (take x.mm (closeEv x.st).1).1 + bytesOfRow ((take x.mm (closeEv x.st).1).2.1.getD []) ≤ wB x.mm + 1) := by
    rcases close_ev hc with e | e
    · rw [e] at hg ⊢
      exact (take_inv (q := 0) (st' := 0) i1 hg (by omega) (by simp) (fun _ => ⟨rfl, rfl⟩) (by simp) (by simp) (by simp)).2
    · rw [e] at hg ⊢
      exact (take_inv (q := 0) (st' := 0) i1 hg (by omega) (by simp [ev0]) (fun _ => ⟨rfl, rfl⟩) (by simp) (by simp [ev0]) (by simp [ev0])).2
  obtain ⟨t1, t2, t3⟩ := T
  have hm0 : (mk0 l).record.length = 0 := rfl
  have hb0 : wB (mk0 l) = 0 := rfl
  rw [hm0] at i3
  rw [hb0] at i4
  have hr0 : bytesOfRow [] = 0 := rfl
  subst ht
  cases ho : (take x.mm (closeEv x.st).1).2.1 with
  | none =>
    simp only [Option.toList_none, List.append_nil]
    exact ⟨i2, by omega, by omega, by omega, hP⟩
  | some row =>
    rw [ho] at t1 t2 t3
    simp only [Option.getD_some] at t2 t3
    simp only [Option.toList_some]
    refine ⟨?_, ?_, ?_, ?_, hP⟩
    · intro z hz
      rcases List.mem_append.mp hz with hz | hz
      · exact i2 z hz
      · rw [List.mem_singleton] at hz; subst hz; exact t1 _ rfl
    · rw [fields_app, fields_cons]; have : fieldsOf [] = 0 := rfl; omega
    · rw [bytesT_app, bytes_cons]; have : bytesOf [] = 0 := rfl; omega
    · rw [List.length_append]; simp only [List.length_singleton]; omega
end Go.Proofs.Ytbjejmdbpikgjaa.RowsOk
namespace Go.Proofs.Ytbjejmdbpikgjaa.TopOtherP
set_option linter.unusedVariables false
set_option linter.unusedSimpArgs false
set_option maxRecDepth 100000
open Go.ChangeShapes Go.WideShapes Go.ChangeAt Go.RowKit Q Mach Dia Need Bld Quo WLine Par Wide
open Tab (fieldsOf bytesOf bytesOfRow)
attribute [local go_sem ↓] Go.wp_at_zero Go.wp_at_succ

theorem own : ownKnob Try.prog.godebug = none := by kernel_rfl
theorem laidOut : laidOutB Try.prog = true := by kernel_rfl
theorem other_parse (b : Dia) (hb : b.right = true) {t : Tb} (ht : ∀ r ∈ t, RowsOk.RowOk r) (h0 : t.length ≤ 1000) (h1 : fieldsOf t ≤ 1000) (h2 : bytesOf t ≤ 1000) : parseP b wide (Wr.textB b true t) = (t, 0, 0) := by
  refine Wr.parse_text hb wide rfl t ?_ (fun r hr f hf => (ht r hr).2 f hf) (by unfold wide; dsimp only; omega)
  intro r hr
  obtain ⟨a1, a2⟩ := Wr.mem_table hr
  refine ⟨(ht r hr).1, by unfold wide; dsimp only; omega, fun f hf => ?_⟩
  have := Wr.mem_bytes hf
  unfold wide
  dsimp only
  omega
theorem other_front {t : Tb} (ht : ∀ r ∈ t, RowsOk.RowOk r) : Wr.front t = t.length := by
  refine Wr.front_all (fun j hj => ?_)
  obtain ⟨h1, h2⟩ := ht _ (List.getElem_mem hj)
  unfold Wr.may
  cases hr : t[j] with
  | nil => exact absurd hr h1
  | cons f r =>
    rw [if_neg (by simp), if_pos]
    rw [List.all_eq_true]
    rw [hr] at h2
    exact h2
theorem rd_blk {w : World} {g : Nat} {T : TypeId} {xs : List Value} (h : Blk w g T xs) (hn : xs.length ≤ 100) : Rd w w.heap.size 1 (.slice (some ⟨g, 0, none⟩) xs.length xs.length) xs.length xs := by
  refine ⟨_, _, rfl, Nat.le_refl _, by unfold maxLen; omega, by omega, .inr ⟨g, 0, rfl, h.lt, fun j u hu => ?_⟩⟩
  rw [Nat.zero_add]
  exact h.cell_of hu
theorem use_blk {w : World} {g B : Nat} {T : TypeId} {cs : List Value} {G : Prop} (h : Blk w g T cs) (hb : B ≤ g) (k : Blk w g T cs → B ≤ g → G) : G := k h hb
theorem blk_k {w w' : World} {g : Nat} {T : TypeId} {cs : List Value} (k : Keeps [] w w') (h : Blk w g T cs) : Blk w' g T cs := h.keep k (by simp)
theorem blk_a {w : World} {g : Nat} {T : TypeId} {cs : List Value} {o : Obj} (h : Blk w g T cs) : Blk (w.alloc o) g T cs := h.alloc o
theorem blk_d {w : World} {g : Nat} {T : TypeId} {cs : List Value} (h : Blk w g T cs) : Blk w.drew g T cs := h
theorem bSg {B g o : Nat} {a w : World} {u : Value} (hp : B ≤ g) (h : Below B a w) : Below B a (w.setCell ⟨g, o, none⟩ u) := bS h ⟨g, o, none⟩ u hp
theorem size_dr (w : World) : w.drew.heap.size = w.heap.size := rfl
theorem blk_n1 (w : World) (o : Obj) (e : TypeId) (cs : List Value) : Blk ((w.alloc o).alloc (.cells cs.toArray e)) (w.heap.size + 1) e cs := by
  have := Blk.new (w.alloc o) e cs
  rwa [World.size_alloc] at this
theorem set_id {w : World} {g i : Nat} {T : TypeId} {cs : List Value} {u : Value} (h : Blk w g T cs) (hi : cs[i]? = some u) : w.setCell ⟨g, i, none⟩ u = w := by
  obtain ⟨fz, hg, _⟩ := h
  have hlt : g < w.heap.size := (Array.getElem?_eq_some_iff.1 hg).1
  have hv : w.heap[g] = .cells cs.toArray T fz := (Array.getElem?_eq_some_iff.1 hg).2
  have hs : cs.toArray.setIfInBounds i u = cs.toArray := by
    apply Array.ext
    · simp
    · intro k h1 h2
      rw [Array.getElem_setIfInBounds (by simpa using h2)]
      split
      · rename_i hk
        subst hk
        rw [List.getElem?_eq_some_iff] at hi
        obtain ⟨_, e⟩ := hi
        simp [e]
      · rfl
  rw [setCell_eq_setRow w g i _ T fz u hg, hs]
  unfold World.setRow
  have he : (w.heap.modify g fun o => match o with | .cells _ elem frozen => .cells cs.toArray elem frozen | o => o) = w.heap := by
    apply Array.ext
    · simp
    · intro k h1 h2
      rw [Array.getElem_modify]
      split
      · rename_i hk
        subst hk
        rw [hv]
      · rfl
  exact congrArg (fun hp => { w with heap := hp }) he
theorem fault_ne (a b : Int) (h : ¬ (a = 0 ∧ b = 0)) : (a == 0 && b == 0) = false := by
  cases ha : (a == 0) <;> cases hb : (b == 0) <;> simp_all
set_option maxHeartbeats 8000000 in
theorem walk (a b : Dia) (s : Bs) (w : World) : Calls Try.prog 6 #[diaV a, diaV b, sv s] w fun e w' => e = .returned (.bool true) ∧ Below w.heap.size w w' := by
  have HA := Lib.hid Wh.alive_c
  have HR := Lib.hid ref_c
  have HRR := Lib.hid right_c
  have kp := (Keeps.alloc [] w (.cells #[bv a.delim, bv a.quote, .int .i64 a.fin] 23)).alloc1 (.cells #[bv b.delim, bv b.quote, .int .i64 b.fin] 23)
  have ha := (Blk.new w 23 [bv a.delim, bv a.quote, .int .i64 a.fin]).alloc (.cells #[bv b.delim, bv b.quote, .int .i64 b.fin] 23)
  have hb := Blk.new (w.alloc (.cells #[bv a.delim, bv a.quote, .int .i64 a.fin] 23)) 23 [bv b.delim, bv b.quote, .int .i64 b.fin]
  rw [World.size_alloc] at hb
  obtain ⟨A, hRA⟩ : ∃ R, a.right = R := ⟨_, rfl⟩
  obtain ⟨B, hRB⟩ : ∃ R, b.right = R := ⟨_, rfl⟩
  have HRA := Lib.hid (HRR.out a)
  have HRB := Lib.hid (HRR.out b)
  rw [hRA] at HRA
  rw [hRB] at HRB
  have HIA := Lib.hid hRA
  have HIB := Lib.hid hRB
  have HRFA := Lib.hid (HR.out a)
  have HRFB := Lib.hid (HR.out b)
  clear hRA hRB
  obtain ⟨x, y, z⟩ := a
  obtain ⟨x', y', z'⟩ := b
  go_enter Try.func6, Try.ntmps6
  go_upto_region 1 with (fail)
  generalize (w.alloc (.cells #[bv x, bv y, .int .i64 z] 23)).alloc (.cells #[bv x', bv y', .int .i64 z'] 23) = w0 at *
  have c0 := ha.cell_of (i := 0) rfl
  have c1 := ha.cell_of (i := 1) rfl
  have c2 := ha.cell_of (i := 2) rfl
  have d0 := hb.cell_of (i := 0) rfl
  have d1 := hb.cell_of (i := 1) rfl
  have d2 := hb.cell_of (i := 2) rfl
  by_cases hs : s.length ≤ 300
  rotate_left
  · have h1 : ((300 : Int) < (s.length : Int)) := by omega
    go_wp2_with (fail)
    refine (HA.out _).mono ?_
    rintro e w1 ⟨rfl, k1⟩
    go_wp2_with (fail)
    go_ret
    exact ⟨rfl, (kp.trans k1 (by simp)).below (Nat.le_refl _) (by simp)⟩
  have h1 : ¬ ((300 : Int) < (s.length : Int)) := by omega
  go_wp2_with (fail)
  refine (HRFA.out _).mono ?_
  rintro e w1 ⟨rfl, k1⟩
  go_wp2_with (fail)
  refine (HRA.out _).mono ?_
  rintro e w2 ⟨rfl, k2⟩
  have k02 := (kp.trans k1 (by simp)).trans k2 (by simp)
  have ha2 := (ha.keep k1 (by simp)).keep k2 (by simp)
  have hb2 := (hb.keep k1 (by simp)).keep k2 (by simp)
  clear c0 c1 c2 d0 d1 d2 k1 k2 ha hb kp
  cases A
  · go_wp2_with (fail)
    refine (HA.out _).mono ?_
    rintro e w4 ⟨rfl, k4⟩
    go_wp2_with (fail)
    go_ret
    exact ⟨rfl, (k02.trans k4 (by simp)).below (Nat.le_refl _) (by simp)⟩
  have d0 := hb2.cell_of (i := 0) rfl
  have d1 := hb2.cell_of (i := 1) rfl
  have d2 := hb2.cell_of (i := 2) rfl
  go_wp2_with (fail)
  refine (HRFB.out _).mono ?_
  rintro e w3 ⟨rfl, k3⟩
  go_wp2_with (fail)
  refine (HRB.out _).mono ?_
  rintro e w4 ⟨rfl, k4⟩
  have k04 := (k02.trans k3 (by simp)).trans k4 (by simp)
  have ha4 := (ha2.keep k3 (by simp)).keep k4 (by simp)
  have hb4 := (hb2.keep k3 (by simp)).keep k4 (by simp)
  clear d0 d1 d2 k3 k4 ha2 hb2 k02
  cases B
  · go_wp2_with (fail)
    refine (HA.out _).mono ?_
    rintro e w5 ⟨rfl, k5⟩
    go_wp2_with (fail)
    go_ret
    exact ⟨rfl, (k04.trans k5 (by simp)).below (Nat.le_refl _) (by simp)⟩
  have kl := Keeps.alloc [] w4 (.cells #[.int .i64 2147483648, .int .i64 2147483648, .int .i64 2147483648, .bool false] 25)
  have k05 := k04.trans kl (by simp)
  have ha5 := ha4.keep kl (by simp)
  have hb5 := hb4.keep kl (by simp)
  have hl5 := Blk.new w4 25 [.int .i64 2147483648, .int .i64 2147483648, .int .i64 2147483648, .bool false]
  clear kl ha4 hb4 k04
  go_upto_region 4 with (fail)
  generalize w4.alloc (.cells #[.int .i64 2147483648, .int .i64 2147483648, .int .i64 2147483648, .bool false] 25) = w5 at *
  generalize w4.heap.size = gl at *
  have c0 := ha5.cell_of (i := 0) rfl
  have c1 := ha5.cell_of (i := 1) rfl
  have c2 := ha5.cell_of (i := 2) rfl
  have l0 := hl5.cell_of (i := 0) rfl
  have l1 := hl5.cell_of (i := 1) rfl
  have l2 := hl5.cell_of (i := 2) rfl
  have l3 := hl5.cell_of (i := 3) rfl
  have kc := Keeps.alloc [] w5 (.cells #[.int .i64 7] 3)
  have hc := Blk.new w5 3 [.int .i64 7]
  have k06 := Lib.hid (k05.trans kc (by simp))
  have ha6 := ha5.keep kc (by simp)
  have hb6 := hb5.keep kc (by simp)
  have hl6 := hl5.keep kc (by simp)
  obtain ⟨X, hX⟩ : ∃ X, parseP ⟨x, y, z⟩ wide s = X := ⟨_, rfl⟩
  have HFE := Rd.fed_c ⟨x, y, z⟩ HIA.out wide (by unfold wide; dsimp only; omega) (by unfold wide; dsimp only; omega) (by unfold wide; dsimp only; omega) s (by omega) _ [7] _ (rd_blk hc (by simp)) (by simp)
  rw [hX] at HFE
  obtain ⟨t, K, P⟩ := X
  have HX := Lib.hid hX
  have HFX : Hid (Calls Try.prog 16 #[.agg #[bv x, bv y, .int .i64 z], .agg #[.int .i64 2147483648, .int .i64 2147483648, .int .i64 2147483648, .bool false], sv s, .slice (some ⟨w5.heap.size, 0, none⟩) 1 1] (w5.alloc (.cells #[.int .i64 7] 3)) (fun e w' => ∃ v, e = .returned (.tuple #[v, .agg #[.int .i64 K, .int .i64 P], .bool true]) ∧ Tbl w' w'.heap.size v t ∧ Keeps [] (w5.alloc (.cells #[.int .i64 7] 3)) w')) := Lib.hid HFE
  clear hX HFE kc hc ha5 hb5 hl5 k05
  go_wp2_with (fail)
  refine HFX.out.mono ?_
  rintro e w7 ⟨v, rfl, hT, k7⟩
  obtain ⟨At, ct, rfl, _, _⟩ := hT.form
  have kf := Keeps.alloc [] w7 (.cells #[.int .i64 K, .int .i64 P] 35)
  have ha8 := (ha6.keep k7 (by simp)).keep kf (by simp)
  have hb8 := (hb6.keep k7 (by simp)).keep kf (by simp)
  have hl8 := (hl6.keep k7 (by simp)).keep kf (by simp)
  have hT8 := hT.keepB kf (by simp)
  have hf8 := Blk.new w7 35 [.int .i64 K, .int .i64 P]
  have k08 := (k06.out.trans k7 (by simp)).trans kf (by simp)
  have hts : w7.heap.size ≤ (w7.alloc (.cells #[.int .i64 K, .int .i64 P] 35)).heap.size := kf.size
  clear c0 c1 c2 l0 l1 l2 l3 ha6 hb6 hl6 hT k7 kf HFX
  go_upto_region 7 with (fail)
  generalize w7.alloc (.cells #[.int .i64 K, .int .i64 P] 35) = w8 at *
  generalize w7.heap.size = gf at *
  have f0 := hf8.cell_of (i := 0) rfl
  have f1 := hf8.cell_of (i := 1) rfl
  by_cases hK : K = 0
  rotate_left
  · have hK1 : ¬ ((K : Int) = 0) := by omega
    go_wp2_with (fail)
    refine (HA.out _).mono ?_
    rintro e w9 ⟨rfl, k9⟩
    go_wp2_with (fail)
    go_ret
    exact ⟨rfl, (k08.trans k9 (by simp)).below (Nat.le_refl _) (by simp)⟩
  subst hK
  obtain ⟨hrows, n1, n2, n3, rfl⟩ := RowsOk.parse_ok ⟨x, y, z⟩ HIA.out wide (by unfold wide; dsimp only; omega) s t P HX.out
  have HPP := other_parse ⟨x', y', z'⟩ HIB.out hrows (by omega) (by omega) (by omega)
  have HTX := fun w' h hB => rtext_c ⟨x', y', z'⟩ (.slice At t.length ct) t gf w' h hB (by omega) (by omega) (by omega)
  rw [other_front hrows, List.take_length] at HTX
  have htl := Wr.text_len ⟨x', y', z'⟩ t true
  obtain ⟨TT, hTT⟩ : ∃ T, Wr.textB ⟨x', y', z'⟩ true t = T := ⟨_, rfl⟩
  rw [hTT] at HPP HTX htl
  have HFE : ∀ w' V, Rd w' w'.heap.size 1 V 2 [.int .i64 1, .int .i64 5] → Calls Try.prog 16 #[.agg #[bv x', bv y', .int .i64 z'], .agg #[.int .i64 2147483648, .int .i64 2147483648, .int .i64 2147483648, .bool false], sv TT, V] w' (fun e w'' => ∃ v, e = .returned (.tuple #[v, .agg #[.int .i64 0, .int .i64 0], .bool true]) ∧ Tbl w'' w''.heap.size v t ∧ Keeps [] w' w'') := by
    intro w' V hV
    have := Rd.fed_c ⟨x', y', z'⟩ HIB.out wide (by unfold wide; dsimp only; omega) (by unfold wide; dsimp only; omega) (by unfold wide; dsimp only; omega) TT (by omega) V [1, 5] w' hV (by simp)
    rw [HPP] at this
    exact this
  have HTX2 := Lib.hid (fun w' (h : Below w8.heap.size w8 w') => HTX w' (hT8.below h hts) (Nat.le_trans hts h.size))
  have HFE2 := Lib.hid HFE
  have HT8 := Lib.hid hT8
  have HB8 := Lib.hid (k08.below (Nat.le_refl _) (by simp))
  have HS8 := Lib.hid k08.size
  clear HPP HTX HFE hrows n1 n2 n3 hTT htl HX hf8 ha8 hT8 hs h1 HRA HRB k06 k08 HR HRR HRFA
  go_upto_region 9 with (fail)
  clear f0 f1
  have b0 := hb8.cell_of (i := 0) rfl
  have b1 := hb8.cell_of (i := 1) rfl
  have b2 := hb8.cell_of (i := 2) rfl
  have l0 := hl8.cell_of (i := 0) rfl
  have l1 := hl8.cell_of (i := 1) rfl
  have l2 := hl8.cell_of (i := 2) rfl
  have l3 := hl8.cell_of (i := 3) rfl
  have hbl := hb8.lt
  have hll := hl8.lt
  clear hb8 hl8
  go_cut [11, 12, 13] from 46 (fun v11 v12 v13 wx => ∃ g, v12 = .pointer (some ⟨g, 0, none⟩) ∧ v13 = .bool true ∧ Tbl wx wx.heap.size v11 t ∧ Blk wx g 35 [.int .i64 0, .int .i64 0] ∧ Below w8.heap.size w8 wx)
  case first =>
    have HSS := fun w' (hb : Below (w8.heap.size) (w8) w') => ((⟨(hb.cell (p := ⟨w.heap.size + 1, 0, none⟩) (hbl)).trans (b0), (hb.cell (p := ⟨w.heap.size + 1, 1, none⟩) (hbl)).trans (b1), (hb.cell (p := ⟨w.heap.size + 1, 2, none⟩) (hbl)).trans (b2), (hb.cell (p := ⟨gl, 0, none⟩) (hll)).trans (l0), (hb.cell (p := ⟨gl, 1, none⟩) (hll)).trans (l1), (hb.cell (p := ⟨gl, 2, none⟩) (hll)).trans (l2), (hb.cell (p := ⟨gl, 3, none⟩) (hll)).trans (l3), hb⟩) : w'.cell? ⟨w.heap.size + 1, 0, none⟩ = some (bv x') ∧ w'.cell? ⟨w.heap.size + 1, 1, none⟩ = some (bv y') ∧ w'.cell? ⟨w.heap.size + 1, 2, none⟩ = some (.int .i64 z') ∧ w'.cell? ⟨gl, 0, none⟩ = some (.int .i64 2147483648) ∧ w'.cell? ⟨gl, 1, none⟩ = some (.int .i64 2147483648) ∧ w'.cell? ⟨gl, 2, none⟩ = some (.int .i64 2147483648) ∧ w'.cell? ⟨gl, 3, none⟩ = some (.bool false) ∧ Below (w8.heap.size) (w8) w')
    have HSSb : w8.heap.size ≤ (w8).heap.size := Nat.le_refl _
    go_region_held3 (fun w' => w'.cell? ⟨w.heap.size + 1, 0, none⟩ = some (bv x') ∧ w'.cell? ⟨w.heap.size + 1, 1, none⟩ = some (bv y') ∧ w'.cell? ⟨w.heap.size + 1, 2, none⟩ = some (.int .i64 z') ∧ w'.cell? ⟨gl, 0, none⟩ = some (.int .i64 2147483648) ∧ w'.cell? ⟨gl, 1, none⟩ = some (.int .i64 2147483648) ∧ w'.cell? ⟨gl, 2, none⟩ = some (.int .i64 2147483648) ∧ w'.cell? ⟨gl, 3, none⟩ = some (.bool false) ∧ Below (w8.heap.size) (w8) w') (((try go_split_ands); (with_reducible apply HSS); first | (with_reducible assumption) | (with_reducible (apply bC HSSb k1; assumption)) | (with_reducible (apply bAA HSSl; assumption)) | (repeat (first | (with_reducible assumption) | (with_reducible apply Below.refl) | (with_reducible apply bS (hp := HSSb)) | (with_reducible apply bSe) | (with_reducible apply bSg; · with_reducible assumption) | (with_reducible apply bA HSSb) | (with_reducible apply bD))))) (first | ((go_at_call 18; refine (HRFB.out _).mono ?_; rintro e w9 ⟨rfl, kR⟩; have k1 := kR; have sR := kR.size; (try simp only [World.size_alloc, size_dr] at sR))) | ((go_at_call 22; refine (HTX2.out _ (by repeat (first | with_reducible assumption | with_reducible exact Below.refl _ _ | with_reducible apply bD | with_reducible apply bA HSSb | (with_reducible refine bC (Nat.le_refl _) (by assumption) ?_)))).mono ?_; rintro e w10 ⟨rfl, kT⟩; have k1 := kT; have sT := kT.size; (try simp only [World.size_alloc, size_dr] at sT))) | ((go_at_call 16; refine (HFE2.out _ _ (rd_blk (T := 3) (xs := [.int .i64 1, .int .i64 5]) (by repeat (first | with_reducible exact Blk.new _ _ _ | with_reducible exact blk_n1 _ _ _ _ | (with_reducible apply blk_k; · with_reducible assumption) | with_reducible apply blk_d | with_reducible apply blk_a)) (by simp))).mono ?_; rintro e w11 ⟨v11, rfl, hT11, kF⟩; have k1 := kF; have sF := kF.size; (try simp only [World.size_alloc, size_dr] at sF); (first | ((apply use_blk (w := w11) (B := w8.heap.size) (T := 35) (cs := [.int .i64 0, .int .i64 0]); (repeat (first | with_reducible exact Blk.new _ _ _ | (with_reducible apply blk_k; · with_reducible assumption) | with_reducible apply blk_d | with_reducible apply blk_a)); (· ((try simp only [World.size_alloc, size_dr]); omega)); intro hq hge; (try simp only [World.size_alloc, size_dr] at hq hge); have q0 := hq.cell_of (i := 0) rfl; have z0 := hq.frozen (i := 0) (by simp); have q1 := hq.cell_of (i := 1) rfl; have z1 := hq.frozen (i := 1) (by simp))) | skip))))
    all_goals (go_wp2_with (fail); go_meet)
    all_goals first
      | (rw [set_id hq rfl, set_id hq rfl]; exact ⟨_, rfl, rfl, hT11, hq, by repeat (first | with_reducible assumption | with_reducible exact Below.refl _ _ | with_reducible apply bD | with_reducible apply bA HSSb | (with_reducible refine bC (Nat.le_refl _) (by assumption) ?_))⟩)
      | exact ⟨_, rfl, rfl, (hT11.keepB (Keeps.alloc [] _ _) (by simp)).more (Keeps.alloc [] _ _).size, Blk.new _ _ _, by repeat (first | with_reducible assumption | with_reducible exact Below.refl _ _ | with_reducible apply bD | with_reducible apply bA HSSb | (with_reducible refine bC (Nat.le_refl _) (by assumption) ?_))⟩
  case rest =>
    obtain ⟨g, rfl, rfl, hT, hf, hbw⟩ := hcut
    obtain ⟨Bt, cu, rfl, _, _⟩ := hT.form
    have f0 := hf.cell_of (i := 0) rfl
    have f1 := hf.cell_of (i := 1) rfl
    have HS : Hid (Calls Try.prog 20 #[.slice At t.length ct, .slice Bt t.length cu] wc fun e w' => e = .returned (.bool true) ∧ ∃ m, w' = wc.drewN m) := Lib.hid (by
      have := Same.sameTable_c (.slice At t.length ct) (.slice Bt t.length cu) t t _ _ _ (HT8.out.below hbw hts) hT
      simpa using this)
    have HBW := Lib.hid hbw
    clear b0 b1 b2 l0 l1 l2 l3 hT hf hbw HTX2 HFE2
    go_wp2_with (fail)
    refine HS.out.mono ?_
    rintro e w9 ⟨rfl, m, rfl⟩
    have HB9 := Lib.hid ((HB8.out.trans (HBW.out.mono HS8.out)).trans (below_of_drewN w.heap.size wc m))
    clear f0 f1 HS HBW
    generalize wc.drewN m = w9 at *
    go_wp2_with (fail)
    refine (HA.out _).mono ?_
    rintro e w10 ⟨rfl, k10⟩
    go_wp2_with (fail)
    go_ret
    exact ⟨rfl, HB9.out.trans (k10.below HB9.out.size (by simp))⟩
set_option maxRecDepth 100000 in
theorem lifted (os : Os) (started : os.Started) (H : Type) (enc : TypeId × Value → H) :
    ReturnsInHanded {} Try.checked os 6 .any (Rows.topOtherSpec.pre6 enc Try.prog Try.f6 Rows.topOtherRow.domain false) (Rows.topOtherSpec.post enc Try.prog Try.f6 false true false false) := by
  refine returnsInHanded_of_change_sized (C := Try.checked) own started (by kernel_rfl) Try.func6
    (ChangeSpec.witness6 (enc := enc) (C := Try.checked) false ⟨#[], #[.agg #[.int .u8 0, .int .u8 0, .int .i64 0], .agg #[.int .u8 0, .int .u8 0, .int .i64 0], .string .empty], []⟩ 8 (by kernel_rfl) (by kernel_rfl) (by kernel_rfl) (by kernel_rfl)) ?_
  intro W base args ds gs before hval0 hW hcnd hsz0 _
  have hval : ∀ (j : Nat) t v, Try.f6.params[j]? = some t → args[j]? = some v → Value.okWide Try.prog W .any base t v := hval0
  have hW' := hW
  obtain ⟨p, q, hA0, hV, rfl, hfz, hnd⟩ := hW
  have hA : DataW.TrodAll enc Try.prog W 0 (fun _ => true) true Try.f6.params.toList args.toList ds p := hA0
  have hsz : (DataW.weightsEach Try.prog (Try.f6.params.toList ++ Rows.topOtherSpec.plain.varTypes Try.prog) (ds ++ gs)).all (· ≤ reachBytes) = true := hsz0
  rw [Try.params6] at hA hval hsz
  obtain ⟨v0, vs0, d0, ds0, p0, q0, hargs, rfl, rfl, k0, r0⟩ := trodAll_cons hA
  obtain ⟨v1, vs1, d1, ds1, p1, q1, rfl, rfl, rfl, k1, r1⟩ := trodAll_cons r0
  obtain ⟨v2, vs2, d2, ds2, p2, q2, rfl, rfl, rfl, k2, r2⟩ := trodAll_cons r1
  obtain ⟨rfl, rfl, rfl⟩ := trodAll_nil r2
  obtain rfl : args = #[v0, v1, v2] := by cases args; simp_all
  obtain ⟨rfl, rfl⟩ := trodVars_none hV
  have lt0 := Trod_lt k0
  have lt1 := Trod_lt k1
  have lt2 := Trod_lt k2
  obtain ⟨x0, y0, z0, rfl, hz0⟩ := Trod_dialect Try.underlying23 (by kernel_rfl) (by kernel_rfl) Try.underlying5 Try.underlying5 Try.underlying3 (hval 0 23 v0 rfl rfl) k0
  obtain ⟨x1, y1, z1, rfl, hz1⟩ := Trod_dialect Try.underlying23 (by kernel_rfl) (by kernel_rfl) Try.underlying5 Try.underlying5 Try.underlying3 (hval 1 23 v1 rfl rfl) k1
  obtain ⟨l2, rfl, hl2⟩ := Trod_str Try.underlying9 (hval 2 9 v2 rfl rfl) k2 (wt_of hsz (j := 2) rfl rfl)
  clear hA0 hval0 hsz0
  refine (walk ⟨x0, y0, z0⟩ ⟨x1, y1, z1⟩ l2 W).mono fun e W' ⟨he, bel⟩ => ?_
  subst he
  exact ⟨_, rfl, _, _, _, [], _, [], hW', trodAll_mk1 (shut_bool Try.underlying4 _), (trodAll_cons_mk (Below.trod laidOut (by kernel_rfl) (of_decide_eq_true (by kernel_rfl)) k0 bel lt0) (trodAll_cons_mk (Below.trod laidOut (by kernel_rfl) (of_decide_eq_true (by kernel_rfl)) k1 bel lt1) (trodAll_cons_mk (Below.trod laidOut (by kernel_rfl) (of_decide_eq_true (by kernel_rfl)) k2 bel lt2) trodAll_mk0))), rfl, bel.frame _, fun h => by cases h⟩

theorem proved : Rows.TopOtherSaid :=
  OpenClaim.holds_of_wide 6 Try.f6 rfl rfl rfl rfl rfl rfl rfl ⟨rfl, rfl, rfl, rfl, rfl⟩ rfl rfl rfl rfl rfl (by kernel_rfl) Try.func6 (by kernel_rfl)
    (of_decide_eq_true (by kernel_rfl)) (by unfold Func.isWrapper; first | (rw [if_pos (by decide +kernel)]; kernel_rfl) | (rw [if_neg (by decide +kernel)]; exact ⟨rfl, rfl⟩))
    (fun os started H enc _ => lifted os started H enc)
end Go.Proofs.Ytbjejmdbpikgjaa.TopOtherP
namespace Go.Proofs.Ytbjejmdbpikgjaa
theorem topOther_holds : Rows.TopOtherSaid := TopOtherP.proved
#print axioms topOther_holds
end Go.Proofs.Ytbjejmdbpikgjaa
