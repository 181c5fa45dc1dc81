/- fields.gather: what an event has goes into the maker. -/
import Derived.Test.YtbjejmdbpikgjaaFld
namespace Go.Proofs.Ytbjejmdbpikgjaa.Fld
set_option linter.unusedVariables false
set_option linter.unusedSimpArgs false
set_option maxRecDepth 100000
open Go.RowKit Q Mach Dia Scan Ref4
attribute [local go_sem ↓] Go.wp_at_zero Go.wp_at_succ

theorem MkAt.drewN {w : World} {base g : Nat} {e : TypeId} {pre post : List Value} {m : Mk} {vf vr : Value} (h : MkAt w base g e pre post m vf vr) (n : Nat) : MkAt (w.drewN n) base g e pre post m vf vr := ⟨h.blk, h.low, h.fld, h.rcd⟩
theorem MkAt.keep {w w' : World} {base g : Nat} {e : TypeId} {pre post : List Value} {m : Mk} {vf vr : Value} (h : MkAt w base g e pre post m vf vr) (k : Keeps [] w w') : MkAt w' base g e pre post m vf vr := ⟨h.blk.keep k (by simp), h.low, h.fld.keep k (by simp), h.rcd.keep k (by simp)⟩
/-- One of the maker's numbers is stored. -/
theorem MkAt.set {w : World} {base g : Nat} {e : TypeId} {pre post : List Value} {m m' : Mk} {vf vr : Value} (h : MkAt w base g e pre post m vf vr) (he : e ≠ 5 ∧ e ≠ 9) (i : Nat) (u : Value) (hi : (mkC m vf vr).set i u = mkC m' vf vr) (hf : m'.field = m.field) (hr : m'.record = m.record) (hl : i < 10) : MkAt (w.setCell ⟨g, pre.length + i, none⟩ u) base g e pre post m' vf vr := by
  refine ⟨?_, h.low, ?_, ?_⟩
  · have h1 := h.blk.set_ (pre.length + i) u
    rw [List.append_assoc, List.set_append_right _ _ (by omega), List.set_append_left _ _ (by simp [mkC]; omega), Nat.add_sub_cancel_left, hi, ← List.append_assoc] at h1
    exact h1
  · rw [hf]
    exact h.fld.keep (Keeps.setCell w _ _) (fun a ha hm => by simp at hm; exact h.fld.apartBlk h.blk (Ne.symm he.1) a ha hm)
  · rw [hr]
    exact h.rcd.keep (Keeps.setCell w _ _) (fun a ha hm => by simp at hm; exact h.rcd.apartBlk h.blk (Ne.symm he.2) a ha hm)

structure Fine (m : Mk) : Prop where
  a : m.lim.field ≤ 2147483648
  b : m.lim.fields ≤ 2147483648
  c : m.lim.records ≤ 2147483648
  f : m.field.length ≤ 100000
  r : m.record.length ≤ 100000
  n : m.begun ≤ 100000
  k : m.count ≤ 100000

theorem MkPost.step {w w1 w2 : World} {base g : Nat} {e : TypeId} {pre post : List Value} {m2 : Mk} {vf vr vf1 vr1 vf2 vr2 : Value} (hK : Keeps (g :: (blkOf vf ++ blkOf vr)) w w1) (hF : ∀ k ∈ blkOf vf1, k ∈ blkOf vf ∨ w.heap.size ≤ k) (hR : ∀ k ∈ blkOf vr1, k ∈ blkOf vr ∨ w.heap.size ≤ k)
    (h2 : MkAt w2 base g e pre post m2 vf2 vr2) (k2 : Keeps (g :: (blkOf vf1 ++ blkOf vr1)) w1 w2) (hF2 : ∀ k ∈ blkOf vf2, k ∈ blkOf vf1 ∨ w1.heap.size ≤ k) (hR2 : ∀ k ∈ blkOf vr2, k ∈ blkOf vr1 ∨ w1.heap.size ≤ k) : MkPost w base g e pre post m2 vf vr w2 := by
  refine ⟨vf2, vr2, h2, hK.trans k2 ?_, ?_, ?_⟩
  · intro x hx hl
    simp only [List.mem_cons, List.mem_append] at hx ⊢
    rcases hx with rfl | hx | hx
    · exact .inl rfl
    · rcases hF x hx with h | h
      · exact .inr (.inl h)
      · omega
    · rcases hR x hx with h | h
      · exact .inr (.inr h)
      · omega
  · intro k hk
    rcases hF2 k hk with h | h
    · exact hF k h
    · exact .inr (Nat.le_trans hK.size h)
  · intro k hk
    rcases hR2 k hk with h | h
    · exact hR k h
    · exact .inr (Nat.le_trans hK.size h)
theorem MkPost.step0 {w w1 w2 : World} {base g : Nat} {e : TypeId} {pre post : List Value} {m2 : Mk} {vf vr vf1 vr1 : Value} (hK : Keeps (g :: (blkOf vf ++ blkOf vr)) w w1) (hF : ∀ k ∈ blkOf vf1, k ∈ blkOf vf ∨ w.heap.size ≤ k) (hR : ∀ k ∈ blkOf vr1, k ∈ blkOf vr ∨ w.heap.size ≤ k)
    (h2 : MkAt w2 base g e pre post m2 vf1 vr1) (k2 : Keeps [g] w1 w2) : MkPost w base g e pre post m2 vf vr w2 :=
  MkPost.step hK hF hR h2 (k2.sub (fun x hx _ => by simp at hx; simp [hx])) (fun k hk => .inl hk) (fun k hk => .inl hk)
theorem ev_keep {w1 w2 : World} {base g b : Nat} {e : TypeId} {pre post cs : List Value} {m : Mk} {vf vr : Value} (hE : Blk w1 b 117 cs) (h : MkAt w1 base g e pre post m vf vr) (he : e ≠ 5 ∧ e ≠ 9 ∧ e ≠ 117) (k : Keeps (g :: (blkOf vf ++ blkOf vr)) w1 w2) : Blk w2 b 117 cs := by
  refine hE.keep k fun hm => ?_
  simp only [List.mem_cons, List.mem_append] at hm
  rcases hm with hm | hm | hm
  · subst hm; exact h.blk.ne_ hE he.2.2 rfl
  · exact h.fld.apartBlk hE (by decide) _ hm rfl
  · exact h.rcd.apartBlk hE (by decide) _ hm rfl
def mB (m : Mk) (b : Bool) : Mk := if b then { m with begun := m.begun + 1 } else m
def mA (m : Mk) (b : Bool) (x : UInt8) : Mk := if b then { m with field := m.field ++ [x] } else m
def mP (m : Mk) (b : Bool) : Mk := if b then putField m else m
theorem gather_eq (m : Mk) (e1 e2 e3 e4 e5 : Bool) (e6 : UInt8) : gather m ⟨e1, e2, e3, e4, e5, e6⟩ =
    if e1 && decide (m.lim.records ≤ m.begun) then (m, 9) else
    if e2 && decide ((mB m e1).lim.field ≤ (mB m e1).field.length) then (mB m e1, 7) else
    if e3 && decide ((mP (mA (mB m e1) e2 e6) e3).lim.fields ≤ (mP (mA (mB m e1) e2 e6) e3).record.length) then (mP (mA (mB m e1) e2 e6) e3, 8) else
    if e3 && ((mA (mB m e1) e2 e6).lim.uniform && decide (0 < (mA (mB m e1) e2 e6).count)) && ((mP (mA (mB m e1) e2 e6) e3).record.length == (mP (mA (mB m e1) e2 e6) e3).width) then (mP (mA (mB m e1) e2 e6) e3, 10) else
    if e4 && ((mA (mB m e1) e2 e6).lim.uniform && decide (0 < (mA (mB m e1) e2 e6).count)) && ((mP (mP (mA (mB m e1) e2 e6) e3) e4).record.length != (mP (mP (mA (mB m e1) e2 e6) e3) e4).width) then (mP (mP (mA (mB m e1) e2 e6) e3) e4, 10) else (mP (mP (mA (mB m e1) e2 e6) e3) e4, 0) := rfl

set_option maxRecDepth 100000 in
set_option maxHeartbeats 4000000 in
theorem gather_c (base g : Nat) (e : TypeId) (pre post : List Value) (m : Mk) (vf vr : Value) (ev : Ev) (w : World) (h : MkAt w base g e pre post m vf vr) (he : e ≠ 5 ∧ e ≠ 9 ∧ e ≠ 117) (hm : Fine m) :
    Calls Try.prog 82 #[.pointer (some ⟨g, pre.length, none⟩), evV ev] w fun r w' => r = .returned (.int .i64 (gather m ev).2) ∧ MkPost w base g e pre post (gather m ev).1 vf vr w' := by
  obtain ⟨e1, e2, e3, e4, e5, e6⟩ := ev
  have HF := Lib.hid (h.keep (Keeps.alloc [] w (.cells #[.bool e1, .bool e2, .bool e3, .bool e4, .bool e5, bv e6] 117)))
  have kp : Keeps [] w (w.alloc (.cells #[.bool e1, .bool e2, .bool e3, .bool e4, .bool e5, bv e6] 117)) := Keeps.alloc [] w _
  have hE := Blk.new w 117 [.bool e1, .bool e2, .bool e3, .bool e4, .bool e5, bv e6]
  have hgl := h.blk.lt
  have hne : w.heap.size ≠ g := by omega
  have HG := Lib.hid (gather_eq m e1 e2 e3 e4 e5 e6)
  clear h
  go_enter Try.func82, Try.ntmps82
  go_upto_if 7 with (fail)
  generalize w.alloc (.cells #[.bool e1, .bool e2, .bool e3, .bool e4, .bool e5, bv e6] 117) = w1 at *
  go_cut [4] (fun v wx => v = .int .i64 0 ∧ Blk wx w.heap.size 117 [.bool e1, .bool e2, .bool e3, .bool e4, .bool e5, bv e6] ∧ MkPost w base g e pre post (mB m e1) vf vr wx ∧ (e1 && decide (m.lim.records ≤ m.begun)) = false)
  case first =>
    cases e1
    · go_wp2_with (fail)
      go_meet
      exact ⟨rfl, hE, ⟨vf, vr, HF.out, kp.sub (by simp), fun k hk => .inl hk, fun k hk => .inl hk⟩, rfl⟩
    · have c2 := HF.out.c (i := 2) rfl
      have c6 := HF.out.c (i := 6) rfl
      have f6 := HF.out.f (i := 6) (by omega)
      have hbn := hm.n
      have hbc := hm.c
      by_cases hb : m.lim.records ≤ m.begun
      · have hb' : decide ((m.lim.records : Int) ≤ (m.begun : Int)) = true := by simp; omega
        go_wp2_with (fail)
        go_quiet (fail)
        go_wp2_with (fail)
        go_ret
        have hg : gather m ⟨true, e2, e3, e4, e5, e6⟩ = (m, 9) := by rw [HG.out]; simp [hb]
        rw [hg]
        exact ⟨rfl, vf, vr, HF.out.drewN _, (kp.sub (by simp)).drewN1 _, fun k hk => .inl hk, fun k hk => .inl hk⟩
      · have hb' : decide ((m.lim.records : Int) ≤ (m.begun : Int)) = false := by simp; omega
        go_wp2_with (fail)
        go_quiet (fail)
        go_wp2_with (fail)
        go_meet
        exact ⟨rfl, (hE.drewN nq).far hne _, ⟨vf, vr, (HF.out.drewN nq).set ⟨he.1, he.2.1⟩ 6 _ (by simp [mkC, mB]) rfl rfl (by omega), ((kp.sub (F' := g :: (blkOf vf ++ blkOf vr)) (by simp)).drewN1 nq).set1 _ _ (by simp), fun k hk => .inl hk, fun k hk => .inl hk⟩, by simp; omega⟩
  case rest =>
    obtain ⟨rfl, hE1, hM1, ht1⟩ := hcut
    have HT1 := Lib.hid ht1
    clear ht1 hE kp HF
    have hmf : (mB m e1).field.length ≤ 100000 := by unfold mB; split <;> exact hm.f
    have hml : (mB m e1).lim.field ≤ 2147483648 := by unfold mB; split <;> exact hm.a
    generalize hm1 : mB m e1 = m1 at *
    have HM1 := Lib.hid hm1
    clear hm1
    have q1 := hE1.cell_of (i := 1) rfl
    go_upto_if 26 with (fail)
    clear q1
    go_cut [4] (fun v wx => v = .int .i64 0 ∧ Blk wx w.heap.size 117 [.bool e1, .bool e2, .bool e3, .bool e4, .bool e5, bv e6] ∧ MkPost w base g e pre post (mA m1 e2 e6) vf vr wx ∧ (e2 && decide (m1.lim.field ≤ m1.field.length)) = false)
    case first =>
      cases e2
      · go_wp2_with (fail)
        go_meet
        exact ⟨rfl, hE1, hM1, rfl⟩
      · obtain ⟨vf1, vr1, hM, hK, hF, hR⟩ := hM1
        obtain ⟨A, cf, rfl, hn1, hx1⟩ := hM.fld.form
        have c0 := hM.c (i := 0) rfl
        have c4 := hM.c (i := 4) rfl
        have c05 := hE1.cell_of (i := 5) rfl
        rw [Nat.add_zero] at c0
        by_cases hb : m1.lim.field ≤ m1.field.length
        · have hb' : decide ((m1.lim.field : Int) ≤ (m1.field.length : Int)) = true := by simp; omega
          go_wp2_with (fail)
          go_quiet (fail)
          go_wp2_with (fail)
          go_ret
          have hg : gather m ⟨e1, true, e3, e4, e5, e6⟩ = (m1, 7) := by rw [HG.out, HT1.out]; simp [hb]
          rw [hg]
          exact ⟨rfl, .slice A m1.field.length cf, vr1, hM.drewN _, hK.drewN1 _, hF, hR⟩
        · have hb' : decide ((m1.lim.field : Int) ≤ (m1.field.length : Int)) = false := by simp; omega
          go_wp2_with (fail)
          go_quiet (fail)
          have hM2 := hM.drewN nq
          have hE2 := hE1.drewN nq
          have hK2 := hK.drewN1 nq
          clear hM hE1 hK c0 c4 c05
          generalize wc.drewN nq = w3 at *
          go_upto_region 8 with (fail)
          obtain ⟨iU, hiU, hU0, hU1, hU2⟩ := info_parts infoU8
          have hownD : Own (w3.alloc (.cells #[bv e6] 5)).drew base 5 1 (.slice A m1.field.length cf) m1.field.length (m1.field.map bv) := hM2.fld.keep ((Keeps.alloc [] w3 _).drew1) (by simp)
          have hsrc : Src Try.prog (w3.alloc (.cells #[bv e6] 5)).drew 37 5 1 (.slice (some ⟨w3.heap.size, 0, none⟩) 1 1) 1 [bv e6] := src_one w3 (bv e6) 1 Try.underlying37
          obtain ⟨v', w4, hap, hown4, k4, hb4⟩ := run_append (P := Try.prog) (ty := 37) Try.underlying37 hiU hU0 hU1 hU2 rfl hownD hsrc (by simp [Value.oneCell']) (by simp only [maxLen]; omega) (by omega) (by have := hM2.low; have := hM2.blk.lt; simp; omega)
          obtain ⟨A', c', rfl, _, _⟩ := hown4.form
          have kA : Keeps [] w3 (w3.alloc (.cells #[bv e6] 5)).drew := (Keeps.alloc [] w3 _).drew1
          have hgf : ∀ k ∈ blkOf (.slice A m1.field.length cf), k ≠ g := by intro k hk; exact hM2.fld.apartBlk hM2.blk (Ne.symm he.1) k hk
          have hblk4 := (hM2.blk.keep kA (by simp)).keep k4 (fun hm => hgf _ hm rfl)
          have hr4 := (hM2.rcd.keep kA (by simp)).keep k4 (fun a ha hm => hM2.rcd.apart hM2.fld (by decide) a ha hm)
          have k34 := (kA.sub (F' := blkOf (.slice A m1.field.length cf)) (by simp)).trans k4 (fun x h _ => h)
          have d4 := hM2.c (i := 4) rfl
          have d05 := hE2.cell_of (i := 5) rfl
          have g4 : w4.cell? ⟨g, pre.length + 4, none⟩ = some (.slice A m1.field.length cf) := by
            rw [hblk4.cell, List.append_assoc, List.getElem?_append_right (by omega), List.getElem?_append_left (by simp [mkC]), Nat.add_sub_cancel_left]
            rfl
          have h4 : w4.frozen? ⟨g, pre.length + 4, none⟩ = false := hblk4.frozen (by simp [mkC])
          have hltE := hE2.lt
          have hltg := hM2.blk.lt
          have H1 := Lib.hid hblk4; have H2 := Lib.hid hr4; have H3 := Lib.hid k34; have H4 := Lib.hid hown4; have H5 := Lib.hid hb4; have H6 := Lib.hid hM2; have H7 := Lib.hid hE2; have H8 := Lib.hid hgf
          clear hblk4 hr4 k34 hown4 hb4 hM2 hE2 hgf hownD hsrc kA k4 hiU hU0 hU1 hU2
          go_region_law (first | (refine step_append hap _ _ rfl rfl rfl rfl rfl ?_))
          all_goals go_wp2_with (fail)
          all_goals go_meet
          all_goals
            have kk : Keeps (g :: (blkOf (.slice A m1.field.length cf) ++ blkOf vr1)) w3 (w4.setCell ⟨g, pre.length + 4, none⟩ (.slice A' (m1.field.length + 1) c')) := (H3.out.sub (fun x hx _ => by simp [hx])).set1 _ _ (by simp)
            refine ⟨rfl, ev_keep H7.out H6.out he kk, MkPost.step (vf2 := .slice A' (m1.field.length + 1) c') (vr2 := vr1) hK2 hF hR ⟨?_, H6.out.low, ?_, ?_⟩ kk ?_ (fun k hk => .inl hk), by simp; omega⟩
            · have h2 := H1.out.set_ (pre.length + 4) (.slice A' (m1.field.length + 1) c')
              simpa [mkC, mA, List.set_append] using h2
            · have h2 := H4.out.keep (Keeps.setCell w4 ⟨g, pre.length + 4, none⟩ (.slice A' (m1.field.length + 1) c')) (fun a ha hm => by simp at hm; rcases H5.out a ha with h3 | h3; exact H8.out a h3 hm; simp at h3; omega)
              simpa [mA] using h2
            · have h2 := H2.out.keep (Keeps.setCell w4 ⟨g, pre.length + 4, none⟩ (.slice A' (m1.field.length + 1) c')) (fun a ha hm => by simp at hm; exact H6.out.rcd.apartBlk H6.out.blk (Ne.symm he.2.1) a ha hm)
              simpa [mA] using h2
            · intro k hk
              exact (H5.out k hk).imp id (by intro h; simp at h; omega)
    case rest =>
      obtain ⟨rfl, hE2, hM2, ht2⟩ := hcut
      have HT2 := Lib.hid ht2
      clear ht2 hE1 hM1
      have hmr : (mA m1 e2 e6).record.length ≤ 100000 := by
        have h1 : m1.record = m.record := by rw [← HM1.out]; unfold mB; split <;> rfl
        have h2 : (mA m1 e2 e6).record = m1.record := by unfold mA; split <;> rfl
        rw [h2, h1]; exact hm.r
      generalize hm2 : mA m1 e2 e6 = m2 at *
      clear hm2 hmf hml
      go_upto_region 9 with (fail)
      go_cut [5] (fun v wx => v = .bool (m2.lim.uniform && decide (0 < m2.count)) ∧ wx = wc)
      case first =>
        obtain ⟨vf1, vr1, hM, hK, hF, hR⟩ := hM2
        have c3 := hM.c (i := 3) rfl
        have c7 := hM.c (i := 7) rfl
        obtain ⟨un, hun⟩ : ∃ un, m2.lim.uniform = un := ⟨_, rfl⟩
        have hcd : decide ((0 : Int) < (m2.count : Int)) = decide (0 < m2.count) := by rw [decide_eq_decide]; omega
        obtain ⟨cb, hcb⟩ : ∃ cb, decide (0 < m2.count) = cb := ⟨_, rfl⟩
        rw [hcb] at hcd
        rw [hun] at c3
        have HU := Lib.hid hun; have HC := Lib.hid hcb
        clear hun hcb
        cases un <;> cases cb
        all_goals
          go_wp2_with (fail)
          go_meet
          exact ⟨by rw [HU.out, HC.out]; rfl, rfl⟩
      case rest =>
        obtain ⟨rfl, rfl⟩ := hcut
        generalize hu : (m2.lim.uniform && decide (0 < m2.count)) = u at HG ⊢
        have HUV := Lib.hid hu
        clear hu
        have q2 := hE2.cell_of (i := 2) rfl
        go_upto_if 62 with (fail)
        clear q2
        go_cut [4, 5] (fun v v5 wx => v = .int .i64 0 ∧ v5 = .bool u ∧ Blk wx w.heap.size 117 [.bool e1, .bool e2, .bool e3, .bool e4, .bool e5, bv e6] ∧ MkPost w base g e pre post (mP m2 e3) vf vr wx ∧ (e3 && decide ((mP m2 e3).lim.fields ≤ (mP m2 e3).record.length)) = false ∧ (e3 && u && ((mP m2 e3).record.length == (mP m2 e3).width)) = false)
        case first =>
          cases e3
          · go_wp2_with (fail)
            go_meet
            exact ⟨rfl, rfl, hE2, hM2, rfl, rfl⟩
          · obtain ⟨vf1, vr1, hM, hK, hF, hR⟩ := hM2
            have HP := Lib.hid (putField_c base g e pre post m2 vf1 vr1 wc hM ⟨he.1, he.2.1⟩ (by omega))
            have HE := Lib.hid (fun w2 => ev_keep (w2 := w2) hE2 hM he)
            clear hE2
            go_wp2_with (fail)
            refine HP.out.mono ?_
            rintro r w3 ⟨rfl, hP⟩
            obtain ⟨vf2, vr2, hM3, hK3, hF3, hR3⟩ := hP
            have hE3 := HE.out w3 hK3
            have hP3 : MkPost w base g e pre post (mP m2 true) vf vr w3 := MkPost.step hK hF hR hM3 hK3 hF3 hR3
            replace hM3 : MkAt w3 base g e pre post (mP m2 true) vf2 vr2 := hM3
            clear HP HE hM hK hF hR hK3 hF3 hR3
            obtain ⟨A2, cr, rfl, hn2, hx2⟩ := hM3.rcd.form
            have c1 := hM3.c (i := 1) rfl
            have c5 := hM3.c (i := 5) rfl
            have c8 := hM3.c (i := 8) rfl
            by_cases hb : (mP m2 true).lim.fields ≤ (mP m2 true).record.length
            · have hb' : decide (((mP m2 true).lim.fields : Int) ≤ ((mP m2 true).record.length : Int)) = true := by simp; omega
              go_wp2_with (fail)
              go_quiet (fail)
              go_wp2_with (fail)
              go_ret
              have hg : gather m ⟨e1, e2, true, e4, e5, e6⟩ = ((mP m2 true), 8) := by rw [HG.out, HT1.out, HT2.out]; simp [hb]
              rw [hg]
              obtain ⟨v1, v2, g1, g2, g3, g4⟩ := hP3
              exact ⟨rfl, v1, v2, g1.drewN _, g2.drewN1 _, g3, g4⟩
            · have hb' : decide (((mP m2 true).lim.fields : Int) ≤ ((mP m2 true).record.length : Int)) = false := by simp; omega
              go_wp2_with (fail)
              go_quiet (fail)
              have hE4 := hE3.drewN nq
              have hP4 : MkPost w base g e pre post (mP m2 true) vf vr (w3.drewN nq) := by
                obtain ⟨v1, v2, g1, g2, g3, g4⟩ := hP3
                exact ⟨v1, v2, g1.drewN _, g2.drewN1 _, g3, g4⟩
              have d5 : (w3.drewN nq).cell? _ = _ := c5
              have d8 : (w3.drewN nq).cell? _ = _ := c8
              clear hE3 hP3 hM3 c1 c5 c8
              generalize w3.drewN nq = w4 at *
              obtain ⟨eq, heq⟩ : ∃ q, ((mP m2 true).record.length == (mP m2 true).width) = q := ⟨_, rfl⟩
              have heq' : (((mP m2 true).record.length : Int) == ((mP m2 true).width : Int)) = eq := by rw [← heq, Bool.eq_iff_iff, beq_iff_eq, beq_iff_eq]; omega
              rw [heq] at HG
              have HEQ := Lib.hid heq
              clear heq
              cases u
              · go_wp2_with (fail)
                go_quiet (fail)
                go_wp2_with (fail)
                go_meet
                obtain ⟨v1, v2, g1, g2, g3, g4⟩ := hP4
                exact ⟨rfl, rfl, hE4.drewN _, ⟨v1, v2, g1.drewN _, g2.drewN1 _, g3, g4⟩, by simp; omega, by simp⟩
              · cases eq
                · go_wp2_with (fail)
                  go_quiet (fail)
                  go_wp2_with (fail)
                  go_meet
                  obtain ⟨v1, v2, g1, g2, g3, g4⟩ := hP4
                  exact ⟨rfl, rfl, hE4.drewN _, ⟨v1, v2, g1.drewN _, g2.drewN1 _, g3, g4⟩, by simp; omega, by rw [HEQ.out]; rfl⟩
                · go_wp2_with (fail)
                  go_quiet (fail)
                  go_wp2_with (fail)
                  go_ret
                  have hg : gather m ⟨e1, e2, true, e4, e5, e6⟩ = ((mP m2 true), 10) := by rw [HG.out, HT1.out, HT2.out]; simp [hb]
                  rw [hg]
                  obtain ⟨v1, v2, g1, g2, g3, g4⟩ := hP4
                  exact ⟨rfl, v1, v2, g1.drewN _, g2.drewN1 _, g3, g4⟩
        case rest =>
          obtain ⟨rfl, rfl, hE5, hM5, ht3, ht4⟩ := hcut
          have hmr3 : (mP m2 e3).record.length ≤ 100001 := by
            unfold mP
            split
            · simp [putField]; omega
            · omega
          have HT3 := Lib.hid ht3
          have HT4 := Lib.hid ht4
          clear ht3 ht4 hE2 hM2
          generalize hm3 : mP m2 e3 = m3 at *
          clear hm3
          have q3 := hE5.cell_of (i := 3) rfl
          go_upto_if 90 with (fail)
          clear q3
          cases e4
          · go_wp2_with (fail)
            go_ret
            have hg : gather m ⟨e1, e2, e3, false, e5, e6⟩ = (m3, 0) := by
              rw [HG.out, HT1.out, HT2.out, HT3.out, HT4.out]
              rfl
            rw [hg]
            exact ⟨rfl, hM5⟩
          · obtain ⟨vf1, vr1, hM, hK, hF, hR⟩ := hM5
            have HP := Lib.hid (putField_c base g e pre post m3 vf1 vr1 wc hM ⟨he.1, he.2.1⟩ (by omega))
            clear hE5
            go_wp2_with (fail)
            refine HP.out.mono ?_
            rintro r w3 ⟨rfl, hP⟩
            obtain ⟨vf2, vr2, hM3, hK3, hF3, hR3⟩ := hP
            have hP3 : MkPost w base g e pre post (mP m3 true) vf vr w3 := MkPost.step hK hF hR hM3 hK3 hF3 hR3
            replace hM3 : MkAt w3 base g e pre post (mP m3 true) vf2 vr2 := hM3
            clear HP hM hK hF hR hK3 hF3 hR3
            obtain ⟨A2, cr, rfl, hn2, hx2⟩ := hM3.rcd.form
            have c5 := hM3.c (i := 5) rfl
            have c8 := hM3.c (i := 8) rfl
            obtain ⟨eq, heq⟩ : ∃ q, ((mP m3 true).record.length != (mP m3 true).width) = q := ⟨_, rfl⟩
            have heq' : (((mP m3 true).record.length : Int) != ((mP m3 true).width : Int)) = eq := by rw [← heq, Bool.eq_iff_iff, bne_iff_ne, bne_iff_ne]; omega
            have HEQ := Lib.hid heq
            clear heq
            cases u
            · go_wp2_with (fail)
              go_quiet (fail)
              go_wp2_with (fail)
              go_ret
              have hg : gather m ⟨e1, e2, e3, true, e5, e6⟩ = ((mP m3 true), 0) := by
                rw [HG.out, HT1.out, HT2.out, HT3.out, HT4.out]
                simp
              rw [hg]
              obtain ⟨v1, v2, g1, g2, g3, g4⟩ := hP3
              exact ⟨rfl, v1, v2, g1.drewN _, g2.drewN1 _, g3, g4⟩
            · cases eq
              · go_wp2_with (fail)
                go_quiet (fail)
                go_wp2_with (fail)
                go_ret
                have hg : gather m ⟨e1, e2, e3, true, e5, e6⟩ = ((mP m3 true), 0) := by
                  rw [HG.out, HT1.out, HT2.out, HT3.out, HT4.out, HEQ.out]
                  rfl
                rw [hg]
                obtain ⟨v1, v2, g1, g2, g3, g4⟩ := hP3
                exact ⟨rfl, v1, v2, g1.drewN _, g2.drewN1 _, g3, g4⟩
              · go_wp2_with (fail)
                go_quiet (fail)
                go_wp2_with (fail)
                go_ret
                have hg : gather m ⟨e1, e2, e3, true, e5, e6⟩ = ((mP m3 true), 10) := by
                  rw [HG.out, HT1.out, HT2.out, HT3.out, HT4.out, HEQ.out]
                  rfl
                rw [hg]
                obtain ⟨v1, v2, g1, g2, g3, g4⟩ := hP3
                exact ⟨rfl, v1, v2, g1.drewN _, g2.drewN1 _, g3, g4⟩
end Go.Proofs.Ytbjejmdbpikgjaa.Fld
