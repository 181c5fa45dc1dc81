/- fields.Take: an event is taken. -/
import Derived.Test.YtbjejmdbpikgjaaFld2
namespace Go.Proofs.Ytbjejmdbpikgjaa.Fld
set_option linter.unusedVariables false
set_option linter.unusedSimpArgs false
set_option maxRecDepth 100000
open Go.RowKit Q Mach Dia Scan Ref4
attribute [local go_sem ↓] Go.wp_at_zero Go.wp_at_succ

/-- What Take hands back: a slice that the maker owned till then, or nil. -/
def TakePost (w : World) (base g : Nat) (e : TypeId) (pre post : List Value) (m : Mk) (ev : Ev) (vf vr : Value) (r : Ending) (w' : World) : Prop :=
  ∃ v, r = .returned (.tuple #[v, .bool (take m ev).2.1.isSome, .int .i64 (take m ev).2.2]) ∧ Own w' base 9 1 v ((take m ev).2.1.getD []).length (((take m ev).2.1.getD []).map sv) ∧ ((take m ev).2.1 = none → v = .slice none 0 0) ∧
    (∀ k ∈ blkOf v, k ∈ blkOf vr ∨ w.heap.size ≤ k) ∧ ∃ vf' vr', MkAt w' base g e pre post (take m ev).1 vf' vr' ∧ (∀ k ∈ blkOf v, k ∉ blkOf vr') ∧ Keeps (g :: (blkOf vf ++ blkOf vr)) w w' ∧ (∀ k ∈ blkOf vf', k ∈ blkOf vf ∨ w.heap.size ≤ k) ∧ (∀ k ∈ blkOf vr', k ∈ blkOf vr ∨ w.heap.size ≤ k)

theorem take_eq (m : Mk) (ev : Ev) : take m ev =
    if m.stopped = 0 then
      if (gather m ev).2 ≠ 0 then ({ (gather m ev).1 with stopped := (gather m ev).2 }, none, (gather m ev).2)
      else if ev.rcd = false then ({ (gather m ev).1 with stopped := 0 }, none, 0)
      else ({ (gather m ev).1 with stopped := 0, record := [], width := if (gather m ev).1.count == 0 then (gather m ev).1.record.length else (gather m ev).1.width, count := (gather m ev).1.count + 1 }, some (gather m ev).1.record, 0)
    else (m, none, m.stopped) := by
  unfold take
  by_cases hs : m.stopped = 0
  · simp only [hs, beq_self_eq_true, if_true]
    by_cases hk : (gather m ev).2 = 0
    · simp [hk]
    · simp [hk]
  · simp [hs]
theorem gather_count (m : Mk) (ev : Ev) : (gather m ev).1.count = m.count := by
  obtain ⟨e1, e2, e3, e4, e5, e6⟩ := ev
  have hB : ∀ m b, (mB m b).count = m.count := fun m b => by unfold mB; split <;> rfl
  have hA : ∀ m b x, (mA m b x).count = m.count := fun m b x => by unfold mA; split <;> rfl
  have hP : ∀ m b, (mP m b).count = m.count := fun m b => by unfold mP; split <;> rfl
  rw [gather_eq]
  repeat' split
  all_goals simp only [hB, hA, hP]
/-- The record's slice is given away. -/
theorem MkAt.giveRec {w : World} {base g : Nat} {e : TypeId} {pre post : List Value} {m : Mk} {vf vr : Value} (h : MkAt w base g e pre post m vf vr) (he : e ≠ 5 ∧ e ≠ 9) : MkAt (w.setCell ⟨g, pre.length + 5, none⟩ (.slice none 0 0)) base g e pre post { m with record := [] } vf (.slice none 0 0) := by
  refine ⟨?_, h.low, ?_, Own.nil_ _ _ _ _⟩
  · have h1 := h.blk.set_ (pre.length + 5) (.slice none 0 0)
    rw [List.append_assoc, List.set_append_right _ _ (by omega), List.set_append_left _ _ (by simp [mkC]), Nat.add_sub_cancel_left, ← List.append_assoc] at h1
    exact h1
  · exact h.fld.keep (Keeps.setCell w _ _) (fun a ha hm => by simp at hm; exact h.fld.apartBlk h.blk (Ne.symm he.1) a ha hm)
theorem MkAt.recKeep {w : World} {base g : Nat} {e : TypeId} {pre post : List Value} {m : Mk} {vf vr : Value} (h : MkAt w base g e pre post m vf vr) (he : e ≠ 5 ∧ e ≠ 9) (i : Nat) (u : Value) : Own (w.setCell ⟨g, i, none⟩ u) base 9 1 vr m.record.length (m.record.map sv) :=
  h.rcd.keep (Keeps.setCell w _ _) (fun a ha hm => by simp at hm; exact h.rcd.apartBlk h.blk (Ne.symm he.2) a ha hm)

set_option maxRecDepth 100000 in
set_option maxHeartbeats 4000000 in
theorem take_c (base g : Nat) (e : TypeId) (pre post : List Value) (m : Mk) (vf vr : Value) (ev : Ev) (w : World) (h : MkAt w base g e pre post m vf vr) (he : e ≠ 5 ∧ e ≠ 9 ∧ e ≠ 117) (hm : Fine m) :
    Calls Try.prog 59 #[.pointer (some ⟨g, pre.length, none⟩), evV ev] w (TakePost w base g e pre post m ev vf vr) := by
  have kp : Keeps [] w (w.alloc (.cells #[.bool ev.beg, .bool ev.add, .bool ev.fld, .bool ev.lin, .bool ev.rcd, bv ev.b] 117)) := Keeps.alloc [] w _
  have hE := Blk.new w 117 [.bool ev.beg, .bool ev.add, .bool ev.fld, .bool ev.lin, .bool ev.rcd, bv ev.b]
  have hM := h.keep kp
  have hgl := h.blk.lt
  have hne : w.heap.size ≠ g := by omega
  have HT := Lib.hid (take_eq m ev)
  have c9 := hM.c (i := 9) rfl
  obtain ⟨e1, e2, e3, e4, e5, e6⟩ := ev
  by_cases hs : m.stopped = 0
  rotate_left
  · have hs' : ((m.stopped : Int) == 0) = false := by simpa using hs
    have hs2 : ((m.stopped : Int) != 0) = true := by simpa using hs
    rw [if_neg hs] at HT
    have HM := Lib.hid hM
    clear h hM
    go_enter Try.func59, Try.ntmps59
    go_wp2_with (fail)
    go_quiet (fail)
    go_wp2_with (fail)
    go_ret3
    refine ⟨.slice none 0 0, ?_, ?_, fun _ => rfl, by simp [blkOf], vf, vr, ?_, by simp [blkOf], ?_, fun k hk => .inl hk, fun k hk => .inl hk⟩
    · rw [HT.out]; rfl
    · rw [HT.out]; exact Own.nil_ _ _ _ _
    · rw [HT.out]; exact HM.out.drewN _
    · exact ((kp.drewN1 _).sub (by simp))
  have hs' : ((m.stopped : Int) == 0) = true := by simpa using hs
  rw [if_pos hs] at HT
  have HG := Lib.hid (gather_c base g e pre post m vf vr ⟨e1, e2, e3, e4, e5, e6⟩ _ hM he hm)
  have HE := Lib.hid (fun w2 => ev_keep (w2 := w2) hE hM he)
  have k0 := hE.cell_of (i := 0) rfl
  have k1 := hE.cell_of (i := 1) rfl
  have k2 := hE.cell_of (i := 2) rfl
  have k3 := hE.cell_of (i := 3) rfl
  have k4 := hE.cell_of (i := 4) rfl
  have k5 := hE.cell_of (i := 5) rfl
  clear h hM hE hs
  go_enter Try.func59, Try.ntmps59
  go_wp2_with (fail)
  refine HG.out.mono ?_
  rintro r w2 ⟨rfl, vf1, vr1, hM, hK, hF, hR⟩
  have hE := HE.out w2 hK
  have hk0 : Keeps (g :: (blkOf vf ++ blkOf vr)) w w2 := (kp.sub (by simp)).trans hK (fun x hx _ => hx)
  have hF0 : ∀ k ∈ blkOf vf1, k ∈ blkOf vf ∨ w.heap.size ≤ k := fun k hk => (hF k hk).imp id (by intro h; simp at h; omega)
  have hR0 : ∀ k ∈ blkOf vr1, k ∈ blkOf vr ∨ w.heap.size ≤ k := fun k hk => (hR k hk).imp id (by intro h; simp at h; omega)
  have hck := gather_count m ⟨e1, e2, e3, e4, e5, e6⟩
  have hmk := hm.k
  generalize gather m ⟨e1, e2, e3, e4, e5, e6⟩ = X at *
  obtain ⟨m', k⟩ := X
  simp only at hck
  have hmk' : m'.count ≤ 100000 := by omega
  clear hck hmk
  simp only at hM
  clear k0 k1 k2 k3 k4 k5 HG HE hK hF hR kp c9
  obtain ⟨A, c, rfl, hn1, hx1⟩ := hM.rcd.form
  have c5 := hM.c (i := 5) rfl
  have c7 := hM.c (i := 7) rfl
  have c8 := hM.c (i := 8) rfl
  have c9 := hM.c (i := 9) rfl
  have f5 := hM.f (i := 5) (by omega)
  have f7 := hM.f (i := 7) (by omega)
  have f8 := hM.f (i := 8) (by omega)
  have f9 := hM.f (i := 9) (by omega)
  have k4 := hE.cell_of (i := 4) rfl
  have hEl := hE.lt
  have hM9 : MkAt (w2.setCell ⟨g, pre.length + 9, none⟩ (.int .i64 k)) base g e pre post { m' with stopped := k } vf1 (.slice A m'.record.length c) := hM.set ⟨he.1, he.2.1⟩ 9 _ rfl rfl rfl (by omega)
  have k29 := hk0.trans (Keeps.setCell w2 ⟨g, pre.length + 9, none⟩ (.int .i64 k)) (by intro x hx _; simp at hx; subst hx; simp)
  have HM := Lib.hid hM
  have HM9 := Lib.hid hM9
  have HK9 := Lib.hid k29
  have HK0 := Lib.hid hk0
  have HF0 := Lib.hid hF0
  have HR0 := Lib.hid hR0
  clear hM hE hM9 k29 hk0 hF0 hR0
  by_cases hk : k = 0
  rotate_left
  · have hk' : ((k : Int) != 0) = true := by simpa using hk
    rw [if_pos hk] at HT
    go_wp2_with (fail)
    go_quiet (fail)
    go_wp2_with (fail)
    go_ret3
    refine ⟨.slice none 0 0, ?_, ?_, fun _ => rfl, by simp [blkOf], vf1, .slice A m'.record.length c, ?_, by simp [blkOf], ?_, HF0.out, HR0.out⟩
    · rw [HT.out]; rfl
    · rw [HT.out]; exact Own.nil_ _ _ _ _
    · rw [HT.out]; exact HM9.out.drewN _
    · exact HK9.out.drewN1 _
  subst hk
  have hk' : (((0 : Nat) : Int) != 0) = false := by decide
  rw [if_neg (by simp)] at HT
  cases e5
  · rw [if_pos rfl] at HT
    go_wp2_with (fail)
    go_ret3
    refine ⟨.slice none 0 0, ?_, ?_, fun _ => rfl, by simp [blkOf], vf1, .slice A m'.record.length c, ?_, by simp [blkOf], HK9.out, HF0.out, HR0.out⟩
    · rw [HT.out]; rfl
    · rw [HT.out]; exact Own.nil_ _ _ _ _
    · rw [HT.out]; exact HM9.out
  rw [if_neg (by decide)] at HT
  have hM5 := HM9.out.giveRec ⟨he.1, he.2.1⟩
  have hO5 := HM9.out.recKeep ⟨he.1, he.2.1⟩ (pre.length + 5) (.slice none 0 0)
  have k5 := HK9.out.trans (Keeps.setCell _ ⟨g, pre.length + 5, none⟩ (.slice none 0 0)) (by intro x hx _; simp at hx; subst hx; simp)
  have hfa : ∀ k ∈ blkOf (.slice A m'.record.length c), k ∉ blkOf (.slice none 0 0) := by simp [blkOf]
  have hgr : ∀ k ∈ blkOf (.slice A m'.record.length c), k ≠ g := fun k hk => HM.out.rcd.apartBlk HM.out.blk (Ne.symm he.2.1) k hk
  have HM5 := Lib.hid hM5; have HO5 := Lib.hid hO5; have HK5 := Lib.hid k5; have HGR := Lib.hid hgr; have HFA := Lib.hid hfa
  clear hM5 hO5 k5 hgr hfa
  have hcap : (m'.record.length : Int) ≤ 9223372036854775807 := by unfold maxLen at hx1; omega
  by_cases hc : m'.count = 0
  · have hc' : ((m'.count : Int) == 0) = true := by simpa using hc
    have hM8 := HM5.out.set (m' := { m' with stopped := 0, record := [], width := m'.record.length }) ⟨he.1, he.2.1⟩ 8 (.int .i64 m'.record.length) rfl rfl rfl (by omega)
    have hM7 := hM8.set (m' := { m' with stopped := 0, record := [], width := m'.record.length, count := m'.count + 1 }) ⟨he.1, he.2.1⟩ 7 (.int .i64 1) (by simp [mkC, hc]) rfl rfl (by omega)
    have HM7 := Lib.hid hM7
    have HC := Lib.hid hc
    clear hM8 hM7
    go_wp2_with (fail)
    go_ret3
    refine ⟨.slice A m'.record.length c, ?_, ?_, ?_, ?_, vf1, .slice none 0 0, ?_, HFA.out, ?_, HF0.out, by simp [blkOf]⟩
    · rw [HT.out]; rfl
    · rw [HT.out]
      exact (HO5.out.keep (Keeps.setCell _ ⟨g, pre.length + 8, none⟩ _) (fun a ha hm => by simp at hm; exact HGR.out a ha hm)).keep (Keeps.setCell _ ⟨g, pre.length + 7, none⟩ _) (fun a ha hm => by simp at hm; exact HGR.out a ha hm)
    · rw [HT.out]; intro h; simp at h
    · exact HR0.out
    · rw [HT.out]
      simpa [HC.out] using HM7.out
    · exact (HK5.out.set1 _ _ (by simp)).set1 _ _ (by simp)
  · have hc' : ((m'.count : Int) == 0) = false := by simpa using hc
    have hM7 := HM5.out.set (m' := { m' with stopped := 0, record := [], count := m'.count + 1 }) ⟨he.1, he.2.1⟩ 7 (.int .i64 ((m'.count : Int) + 1)) rfl rfl rfl (by omega)
    have HM7 := Lib.hid hM7
    have HC := Lib.hid hc
    have hcm : (m'.count : Int) ≤ 200000 := by omega
    clear hM7
    go_wp2_with (fail)
    go_ret3
    refine ⟨.slice A m'.record.length c, ?_, ?_, ?_, ?_, vf1, .slice none 0 0, ?_, HFA.out, ?_, HF0.out, by simp [blkOf]⟩
    · rw [HT.out]; rfl
    · rw [HT.out]
      exact HO5.out.keep (Keeps.setCell _ ⟨g, pre.length + 7, none⟩ _) (fun a ha hm => by simp at hm; exact HGR.out a ha hm)
    · rw [HT.out]; intro h; simp at h
    · exact HR0.out
    · rw [HT.out]
      simpa [HC.out] using HM7.out
    · exact HK5.out.set1 _ _ (by simp)
end Go.Proofs.Ytbjejmdbpikgjaa.Fld
