/- The document's maker of layer 5: put, Take, within wide limits. -/
import Derived.Test.YtogmcfljojobfaaFldW
import Derived.Test.YtogmcfljojobfaaFld4
namespace Go.Proofs.Ytogmcfljojobfaa.Ref5
set_option linter.unusedVariables false
set_option linter.unusedSimpArgs false
open Go.RowKit Q Mach Dia Scan Ref4 Fld
attribute [local go_sem ↓] Go.wp_at_zero Go.wp_at_succ
def r5C (m : Mk) (vr : Value) : List Value := [.int .i64 m.lim.field, .int .i64 m.lim.fields, .int .i64 m.lim.records, .int .i64 0, sv m.field, vr, .int .i64 m.begun, .int .i64 m.count, .int .i64 m.width, .int .i64 0]
structure RM (w : World) (base g : Nat) (m : Mk) (vr : Value) : Prop where
  blk : Blk w g 36 (r5C m vr)
  low : base ≤ g
  rcd : Own w base 9 1 vr m.record.length (m.record.map sv)
section rm
variable {w w' : World} {base g : Nat} {m m' : Mk} {vr : Value}
theorem RM.c (h : RM w base g m vr) {i : Nat} {u : Value} (hi : (r5C m vr)[i]? = some u) : w.cell? ⟨g, i, none⟩ = some u := h.blk.cell_of hi
theorem RM.f (h : RM w base g m vr) {i : Nat} (hi : i < 10) : w.frozen? ⟨g, i, none⟩ = false := h.blk.frozen (by simp [r5C]; omega)
theorem RM.keep (h : RM w base g m vr) (k : Keeps [] w w') : RM w' base g m vr := ⟨h.blk.keep k (by simp), h.low, h.rcd.keep k (by simp)⟩
theorem RM.apart (h : RM w base g m vr) : ∀ k ∈ blkOf vr, k ≠ g := h.rcd.apartBlk h.blk (by decide)
theorem RM.set (h : RM w base g m vr) (i : Nat) (u : Value) (hi : (r5C m vr).set i u = r5C m' vr) (hr : m'.record = m.record) : RM (w.setCell ⟨g, i, none⟩ u) base g m' vr := by
  refine ⟨?_, h.low, ?_⟩
  · rw [← hi]; exact h.blk.set_ i u
  · rw [hr]; exact h.rcd.keep (Keeps.setCell w _ _) (fun a ha hm => by simp at hm; exact h.apart a ha hm)
end rm
def RPost (w : World) (base g : Nat) (m' : Mk) (vr : Value) (w' : World) : Prop :=
  ∃ vr', RM w' base g m' vr' ∧ Keeps (g :: blkOf vr) w w' ∧ (∀ k ∈ blkOf vr', k ∈ blkOf vr ∨ w.heap.size ≤ k)
theorem RPost.refl {w : World} {base g : Nat} {m : Mk} {vr : Value} (h : RM w base g m vr) : RPost w base g m vr w := ⟨vr, h, Keeps.refl _ _, fun k hk => .inl hk⟩
theorem RPost.trans {w w1 w2 : World} {base g : Nat} {m2 : Mk} {vr vr1 : Value} (hK : Keeps (g :: blkOf vr) w w1) (hF : ∀ k ∈ blkOf vr1, k ∈ blkOf vr ∨ w.heap.size ≤ k) (h : RPost w1 base g m2 vr1 w2) : RPost w base g m2 vr w2 := by
  obtain ⟨vr2, h1, h2, h3⟩ := h
  refine ⟨vr2, h1, hK.trans h2 ?_, ?_⟩
  · intro x hx hl
    simp only [List.mem_cons] at hx ⊢
    rcases hx with rfl | hx
    · exact .inl rfl
    · rcases hF x hx with h | h
      · exact .inr h
      · omega
  · intro k hk
    rcases h3 k hk with h | h
    · exact hF k h
    · exact .inr (Nat.le_trans hK.size h)
set_option maxHeartbeats 1000000 in
theorem rput_c (base g : Nat) (m : Mk) (vr : Value) (w : World) (h : RM w base g m vr) (hl : m.record.length ≤ 1000000) :
    Calls Try.prog 31 #[.pointer (some ⟨g, 0, none⟩)] w fun r w' => r = .returned (.tuple #[]) ∧ RPost w base g (putField m) vr w' := by
  obtain ⟨iS, hiS, hS0, hS1, hS2⟩ := info_parts infoStr
  have HF := Lib.hid h
  have c4 := h.c (i := 4) rfl
  have c5 := h.c (i := 5) rfl
  have f4 := h.f (i := 4) (by omega)
  have f5 := h.f (i := 5) (by omega)
  have hgl := h.blk.lt
  clear h
  go_enter Try.func31, Try.ntmps31
  go_wp2_with (fail)
  have hownD : Own (w.alloc (.cells #[sv m.field] 9)).drew base 9 1 vr m.record.length (m.record.map sv) := HF.out.rcd.keep ((Keeps.alloc [] w _).drew1) (by simp)
  have hsrc : Src Try.prog (w.alloc (.cells #[sv m.field] 9)).drew 34 9 1 (.slice (some ⟨w.heap.size, 0, none⟩) 1 1) 1 [sv m.field] := src_one w (sv m.field) 1 Try.underlying34
  obtain ⟨v', w2, hap, hown2, k2, hb2⟩ := run_append (P := Try.prog) (ty := 34) Try.underlying34 hiS hS0 hS1 hS2 rfl hownD hsrc (by simp [Value.oneCell']) (by simp only [maxLen]; omega) (by omega) (by have := HF.out.low; simp; omega)
  obtain ⟨A', c', rfl, _, _⟩ := hown2.form
  have hgr : ∀ k ∈ blkOf vr, k ≠ g := HF.out.apart
  have kA : Keeps [] w (w.alloc (.cells #[sv m.field] 9)).drew := (Keeps.alloc [] w _).drew1
  have hblk2 := (HF.out.blk.keep kA (by simp)).keep k2 (fun hm => hgr _ hm rfl)
  have k02 := (kA.sub (F' := blkOf vr) (by simp)).trans k2 (fun x h _ => h)
  have hg2 := hblk2.lt
  have g5 := hblk2.cell_of (i := 5) rfl
  have g4 := hblk2.cell_of (i := 4) rfl
  have h5 := hblk2.frozen (i := 5) (by simp [r5C])
  have h4 := hblk2.frozen (i := 4) (by simp [r5C])
  have HB2 := Lib.hid hblk2; have HO2 := Lib.hid hown2; have K2 := Lib.hid k02; have HN := Lib.hid hb2; have HGR := Lib.hid hgr
  clear hownD hsrc hown2 k2 hb2 hiS hS0 hS1 hS2 hblk2 k02 hgr kA
  go_region_law (first | (refine step_append hap _ _ rfl rfl rfl rfl rfl ?_))
  all_goals go_wp2_with (fail)
  all_goals
    go_end0
    refine ⟨rfl, .slice A' (m.record.length + 1) c', ⟨?_, HF.out.low, ?_⟩, ?_, ?_⟩
    · have h2 := (HB2.out.set_ 5 (.slice A' (m.record.length + 1) c')).set_ 4 (.string ⟨#[]⟩)
      simpa [r5C, putField, List.set_append] using h2
    · have h2 := HO2.out.keep ((Keeps.setCell w2 ⟨g, 5, none⟩ (.slice A' (m.record.length + 1) c')).set1 ⟨g, 4, none⟩ (.string ⟨#[]⟩) (by simp)) (fun a ha hm => by simp at hm; rcases HN.out a ha with h3 | h3; exact HGR.out a h3 hm; simp at h3; omega)
      simpa [putField] using h2
    · exact ((K2.out.sub (F' := g :: blkOf vr) (fun x hx _ => by simp [hx])).set1 _ _ (by simp)).set1 _ _ (by simp)
    · intro k hk
      exact (HN.out k hk).imp id (by intro h; simp at h; omega)
/-- Within wide limits: what an event does. -/
def m4 (m : Mk) (e : Ev) : Mk := mP (mP (mA (mB m e.beg) e.add e.b) e.fld) e.lin
theorem take_wide {n : Nat} {m : Mk} (h : Upto n wide5 m) (hn : n < 400) (hs : m.stopped = 0) (e : Ev) :
    take m e = if e.rcd then ({ m4 m e with stopped := 0, record := [], width := if (m4 m e).count == 0 then (m4 m e).record.length else (m4 m e).width, count := (m4 m e).count + 1 }, some (m4 m e).record, 0) else ({ m4 m e with stopped := 0 }, none, 0) := by
  have hg : Mach.gather m e = (m4 m e, 0) := by
    obtain ⟨e1, e2, e3, e4, e5, e6⟩ := e
    obtain ⟨b1, b2, b3, b4, b5⟩ := h.mB e1
    have a := mA_parts (Fld.mB m e1) e2 e6
    have p := mP_parts (mA (Fld.mB m e1) e2 e6) e3
    have hf := h.f; have hr := h.r; have hb := h.b; have hk := h.k
    rw [b2, b3, b5] at a
    obtain ⟨a1, a2, a3, a4, a5⟩ := a
    rw [a3, a4, a5] at p
    obtain ⟨p1, p2, p3, p4, p5⟩ := p
    have l1 : m.lim.records = 1000 := by rw [h.l]; rfl
    have l2 : (Fld.mB m e1).lim.field = 1000 := by rw [b1]; rfl
    have l3 : (mP (mA (Fld.mB m e1) e2 e6) e3).lim.fields = 1000 := by rw [p1, a1, b1]; rfl
    have l4 : (mA (Fld.mB m e1) e2 e6).lim.uniform = false := by rw [a1, b1]; rfl
    have d1 : decide (m.lim.records ≤ m.begun) = false := by simp; omega
    have d2 : decide ((Fld.mB m e1).lim.field ≤ (Fld.mB m e1).field.length) = false := by rw [b2]; simp; omega
    have d3 : decide ((mP (mA (Fld.mB m e1) e2 e6) e3).lim.fields ≤ (mP (mA (Fld.mB m e1) e2 e6) e3).record.length) = false := by simp; omega
    rw [gather_eq, d1, d2, d3, l4]
    simp [m4]
  rw [take_eq, if_pos hs, hg]
  cases e.rcd <;> simp
theorem RPost.ev {w1 w2 : World} {base g b : Nat} {cs : List Value} {m : Mk} {vr : Value} (hE : Blk w1 b 44 cs) (h : RM w1 base g m vr) (k : Keeps (g :: blkOf vr) w1 w2) : Blk w2 b 44 cs := by
  refine hE.keep k fun hm => ?_
  simp only [List.mem_cons] at hm
  rcases hm with hm | hm
  · subst hm; exact h.blk.ne_ hE (by decide) rfl
  · exact h.rcd.apartBlk hE (by decide) _ hm rfl
def RTakeP (w : World) (base g : Nat) (T : Mk × Option Row × Nat) (vr : Value) (r : Ending) (w' : World) : Prop :=
  ∃ v, r = .returned (.tuple #[v, .int .i64 (if T.2.1.isSome then 1 else 0)]) ∧ Own w' base 9 1 v (T.2.1.getD []).length ((T.2.1.getD []).map sv) ∧ (T.2.1 = none → v = .slice none 0 0) ∧
    (∀ k ∈ blkOf v, k ∈ blkOf vr ∨ w.heap.size ≤ k) ∧ ∃ vr', RM w' base g T.1 vr' ∧ (∀ k ∈ blkOf v, k ∉ blkOf vr') ∧ Keeps (g :: blkOf vr) w w' ∧ (∀ k ∈ blkOf vr', k ∈ blkOf vr ∨ w.heap.size ≤ k)
theorem one_eq (b : Bool) : (Ref4.one b == 1) = b := by cases b <;> rfl
theorem one_eq0 (b : Bool) : (Ref4.one b == 0) = !b := by cases b <;> rfl
set_option maxRecDepth 100000 in
set_option maxHeartbeats 20000000 in
theorem rtake_c (base g n : Nat) (m : Mk) (vr : Value) (ev : Ev) (w : World) (h : RM w base g m vr) (hU : Upto n wide5 m) (hn : n < 400) (hs : m.stopped = 0) :
    Calls Try.prog 14 #[.pointer (some ⟨g, 0, none⟩), revV ev] w (RTakeP w base g (take m ev) vr) := by
  obtain ⟨T, hT⟩ : ∃ T, take m ev = T := ⟨_, rfl⟩
  have htw := take_wide hU hn hs ev
  rw [hT] at htw
  rw [hT]
  have HT := Lib.hid htw
  clear htw hT
  have HU := Lib.hid hU
  have hbg : ((m.begun : Int) == (m.lim.records : Int)) = false := by
    have := hU.b; have hl := hU.l
    rw [hl, beq_eq_false_iff_ne]; simp only [wide5]; omega
  have hwb : IntKind.i64.wrap ((m.begun : Int) + 1) = (m.begun : Int) + 1 := IntWalk.i64_in _ (by have := hU.b; omega)
  have HS := Lib.hid hs
  clear hU hs
  obtain ⟨e1, e2, e3, e4, e5, b⟩ := ev
  have q1 := one_eq e1
  have q2 := one_eq e2
  have q3 := one_eq e3
  have q4 := one_eq e4
  have q5 := one_eq0 e5
  dsimp only [revV]
  generalize Ref4.one e1 = o1 at *
  generalize Ref4.one e2 = o2 at *
  generalize Ref4.one e3 = o3 at *
  generalize Ref4.one e4 = o4 at *
  generalize Ref4.one e5 = o5 at *
  have kp : Keeps [] w (w.alloc (.cells #[.int .i64 o1, .int .i64 o2, .int .i64 o3, .int .i64 o4, .int .i64 o5, .int .i64 b.toNat] 44)) := Keeps.alloc [] w _
  have hE := Blk.new w 44 [.int .i64 o1, .int .i64 o2, .int .i64 o3, .int .i64 o4, .int .i64 o5, .int .i64 b.toNat]
  have hM := h.keep kp
  have hgl := h.blk.lt
  go_enter Try.func14, Try.ntmps14
  -- Begin
  have c9 := hM.c (i := 9) rfl
  have c6 := hM.c (i := 6) rfl
  have f6 := hM.f (i := 6) (by omega)
  have c2 := hM.c (i := 2) rfl
  have d0 := hE.cell_of (i := 0) rfl
  have hEl := hE.lt
  have hML := hM.blk.lt
  have HE := Lib.hid hE
  have HM := Lib.hid hM
  have KP := Lib.hid kp
  clear hE hM kp h
  go_upto_if 15 with (fail)
  go_cut [] from 8 (fun wx => RPost w base g (mB m e1) vr wx ∧ Blk wx w.heap.size 44 [.int .i64 o1, .int .i64 o2, .int .i64 o3, .int .i64 o4, .int .i64 o5, .int .i64 b.toNat])
  case first =>
    cases e1
    · go_wp2_with (fail)
      go_meet
      exact ⟨⟨vr, HM.out, KP.out.sub (by simp), fun k hk => .inl hk⟩, HE.out⟩
    · go_wp2_with (fail)
      go_quiet (fail)
      go_wp2_with (fail)
      go_meet
      refine ⟨⟨vr, ?_, ?_, fun k hk => .inl hk⟩, ?_⟩
      · exact (HM.out.keep (Keeps.drewN [] _ _)).set 6 _ (by simp [r5C, Fld.mB]) rfl
      · exact ((KP.out.drewN1 _).sub (by simp)).set1 _ _ (by simp)
      · exact ((HE.out).drewN _).far (by simp; omega) _
  case rest =>
  obtain ⟨⟨vr1, hM1, hK1, hF1⟩, hE1⟩ := hcut
  clear c9 c6 f6 c2 d0 hEl hML HE HM KP hbg hwb
  obtain ⟨u1, u2, u3, u4, u5⟩ := HU.out.mB e1
  have HM4 : Hid (m4 m ⟨e1, e2, e3, e4, e5, b⟩ = mP (mP (mA (Fld.mB m e1) e2 b) e3) e4) := Lib.hid rfl
  generalize Fld.mB m e1 = m1 at *
  -- Add
  have hcat : ∀ x y : List UInt8, (ByteArray.mk x.toArray ++ ByteArray.mk y.toArray) = ⟨(x ++ y).toArray⟩ := cat_mk
  have hfl : m1.field.length ≤ 400 := by rw [u2]; have := HU.out.f; omega
  have hsum : ¬ (9223372036854775807 < m1.field.length + 1) := by omega
  have hsum2 : ¬ (9223372036854775807 < m1.field.length + [b].length) := by simp; omega
  have hle : ((m1.field.length : Int) == (m1.lim.field : Int)) = false := by rw [u1, beq_eq_false_iff_ne]; simp only [wide5]; omega
  have hb8 : IntKind.u8.wrap (b.toNat : Int) = b.toNat := by rw [IntKind.wrap_u8]; have := wrap_u8 b; omega
  have HU1 := Lib.hid (And.intro u1 (And.intro u2 (And.intro u3 (And.intro u4 u5))))
  clear u1 u2 u3 u4 u5
  have hgw : g < wc.heap.size := hM1.blk.lt
  have hnr : w.heap.size ≠ g := by omega
  have c4 := hM1.c (i := 4) rfl
  have f4 := hM1.f (i := 4) (by omega)
  have c0 := hM1.c (i := 0) rfl
  have d1 := hE1.cell_of (i := 1) rfl
  have d5 := hE1.cell_of (i := 5) rfl
  have HM1 := Lib.hid hM1
  have HE1 := Lib.hid hE1
  clear hM1 hE1
  go_upto_if 38 with (fail)
  go_cut [] from 8 (fun wx => RPost wc base g (mA m1 e2 b) vr1 wx ∧ Blk wx w.heap.size 44 [.int .i64 o1, .int .i64 o2, .int .i64 o3, .int .i64 o4, .int .i64 o5, .int .i64 b.toNat])
  case first =>
    cases e2
    · go_wp2_with (fail)
      go_meet
      exact ⟨RPost.refl HM1.out, HE1.out⟩
    · go_wp2_with (fail)
      go_quiet (fail)
      have c4 : (wc.drewN nq).cell? ⟨g, 4, none⟩ = some (sv m1.field) := c4
      have f4 : (wc.drewN nq).frozen? ⟨g, 4, none⟩ = false := f4
      have d5 : (wc.drewN nq).cell? ⟨w.heap.size, 5, none⟩ = some (.int .i64 b.toNat) := d5
      have hgw : g < (wc.drewN nq).heap.size := hgw
      have hM2 : RM (wc.drewN nq) base g m1 vr1 := HM1.out.keep (Keeps.drewN [] _ _)
      have hE2 := HE1.out.drewN nq
      have k2 : Keeps [] wc (wc.drewN nq) := Keeps.drewN [] _ _
      generalize wc.drewN nq = w2 at *
      have hstr : (convert 75 9 (.slice (some ⟨w2.heap.size, 0, none⟩) 1 1)).run Try.prog (w2.alloc (.cells #[.int .u8 b.toNat] 5)).drew = .ok (sv [b]) (w2.alloc (.cells #[.int .u8 b.toNat] 5)).drew :=
        run_toString (B := w2.heap.size + 1) (show Rd (w2.alloc (.cells #[bv b] 5)).drew (w2.heap.size + 1) 1 _ [b].length ([b].map bv) from rd_one' w2 b 5) Try.underlying75 Try.underlying5 Try.underlying9
      have c4a : (w2.alloc (.cells #[.int .u8 b.toNat] 5)).cell? ⟨g, 4, none⟩ = some (sv m1.field) := kA c4 _
      go_wp2_with (fail)
      go_region_law (first | (refine step_convert hstr _ rfl rfl rfl ?_))
      all_goals go_wp2_with (fail)
      all_goals
        go_meet
        refine ⟨⟨vr1, ?_, ?_, fun k hk => .inl hk⟩, ?_⟩
        · exact (hM2.set (m' := Fld.mA m1 true b) 4 (.string ⟨(m1.field ++ [b]).toArray⟩) (by simp [r5C, Fld.mA]) rfl).keep (((Keeps.refl [] _).alloc1 _).drew1)
        · exact (((k2.sub (by simp)).set1 ⟨g, 4, none⟩ _ (by simp)).alloc1 _).drew1
        · exact ((hE2.far (p := ⟨g, 4, none⟩) hnr _).alloc _).drew
  case rest =>
  obtain ⟨hR2, hE2⟩ := hcut
  obtain ⟨vr2, hM2, hK2, hF2⟩ := RPost.trans hK1 hF1 hR2
  have a := mA_parts m1 e2 b
  have HA : Hid ((mA m1 e2 b).lim = wide5 ∧ (mA m1 e2 b).record.length ≤ 2 * n ∧ (mA m1 e2 b).count ≤ n) := Lib.hid (by
    obtain ⟨u1, u2, u3, u4, u5⟩ := HU1.out
    obtain ⟨a1, a2, a3, a4, a5⟩ := a
    exact ⟨a1.trans u1, by rw [a3, u3]; exact HU.out.r, by rw [a5, u5]; exact HU.out.k⟩)
  clear a hcat hfl hsum hsum2 hle hb8 hgw c4 f4 c0 d1 d5 HM1 HE1 hR2 hK1 hF1 HU1
  have HM4 : Hid (m4 m ⟨e1, e2, e3, e4, e5, b⟩ = mP (mP (mA m1 e2 b) e3) e4) := HM4
  generalize Fld.mA m1 e2 b = m2 at *
  -- Field
  have hgw : g < wc.heap.size := hM2.blk.lt
  have c3 := hM2.c (i := 3) rfl
  have d2 := hE2.cell_of (i := 2) rfl
  have HP := Lib.hid (rput_c base g m2 vr2 wc hM2 (by have := HA.out.2.1; omega))
  have HM2 := Lib.hid hM2
  have HE2 := Lib.hid hE2
  clear hM2 hE2
  go_upto_if 80 with (fail)
  go_cut [] from 8 (fun wx => RPost wc base g (mP m2 e3) vr2 wx ∧ Blk wx w.heap.size 44 [.int .i64 o1, .int .i64 o2, .int .i64 o3, .int .i64 o4, .int .i64 o5, .int .i64 b.toNat])
  case first =>
    cases e3
    · go_wp2_with (fail)
      go_meet
      exact ⟨RPost.refl HM2.out, HE2.out⟩
    · go_wp2_with (fail)
      refine HP.out.mono ?_
      rintro r w2 ⟨rfl, vr3, hM3, hK3, hF3⟩
      have hE3 := RPost.ev HE2.out HM2.out hK3
      obtain ⟨A3, cr3, rfl, hA1, hA2⟩ := hM3.rcd.form
      have e2c := hM3.c (i := 2) rfl
      have e1c := hM3.c (i := 1) rfl
      have e5c := hM3.c (i := 5) rfl
      have hge : ¬ ((putField m2).lim.fields ≤ (putField m2).record.length) := by
        have h1 := HA.out.1; have h2 := HA.out.2.1
        have h3 : (putField m2).lim = wide5 := h1
        rw [h3]
        simp [putField, wide5]
        omega
      generalize hpf : putField m2 = m3 at *
      have HPF := Lib.hid hpf
      have HM3 := Lib.hid hM3
      clear hpf hM3
      go_wp2_with (fail)
      go_quiet (fail)
      go_wp2_with (fail)
      go_quiet (fail)
      go_wp2_with (fail)
      go_meet
      refine ⟨⟨_, ?_, ?_, hF3⟩, ?_⟩
      · have := HPF.out
        subst this
        exact HM3.out.keep ((Keeps.drewN [] _ _).drewN1 _)
      · exact (hK3.drewN1 _).drewN1 _
      · exact (hE3.drewN _).drewN _
  case rest =>
  obtain ⟨hR2, hE2⟩ := hcut
  obtain ⟨vr3, hM3, hK3, hF3⟩ := RPost.trans hK2 hF2 hR2
  have a := mP_parts m2 e3
  have HA3 : Hid ((mP m2 e3).lim = wide5 ∧ (mP m2 e3).record.length ≤ 2 * n + 1 ∧ (mP m2 e3).count ≤ n) := Lib.hid (by
    obtain ⟨a1, a2, a3, a4, a5⟩ := a
    exact ⟨a1.trans HA.out.1, by have := HA.out.2.1; omega, by rw [a5]; exact HA.out.2.2⟩)
  clear a hgw c3 d2 HP HM2 HE2 hR2 hK2 hF2 HA
  generalize Fld.mP m2 e3 = m3 at *
  -- Line
  have hgw : g < wc.heap.size := hM3.blk.lt
  have d3 := hE2.cell_of (i := 3) rfl
  have HP := Lib.hid (rput_c base g m3 vr3 wc hM3 (by have := HA3.out.2.1; omega))
  have HM3 := Lib.hid hM3
  have HE2 := Lib.hid hE2
  clear hM3 hE2
  go_upto_if 115 with (fail)
  go_cut [] from 8 (fun wx => RPost wc base g (mP m3 e4) vr3 wx ∧ Blk wx w.heap.size 44 [.int .i64 o1, .int .i64 o2, .int .i64 o3, .int .i64 o4, .int .i64 o5, .int .i64 b.toNat])
  case first =>
    cases e4
    · go_wp2_with (fail)
      go_meet
      exact ⟨RPost.refl HM3.out, HE2.out⟩
    · go_wp2_with (fail)
      refine HP.out.mono ?_
      rintro r w2 ⟨rfl, vr4, hM4, hK4, hF4⟩
      have hE4 := RPost.ev HE2.out HM3.out hK4
      generalize hpf : putField m3 = m4 at *
      have HPF := Lib.hid hpf
      have HM4 := Lib.hid hM4
      clear hpf hM4
      go_wp2_with (fail)
      go_quiet (fail)
      go_wp2_with (fail)
      go_meet
      refine ⟨⟨_, ?_, ?_, hF4⟩, ?_⟩
      · have := HPF.out
        subst this
        exact HM4.out.keep (Keeps.drewN [] _ _)
      · exact hK4.drewN1 _
      · exact hE4.drewN _
  case rest =>
  obtain ⟨hR2, hE4⟩ := hcut
  obtain ⟨vr4, hM4, hK4, hF4⟩ := RPost.trans hK3 hF3 hR2
  have a := mP_parts m3 e4
  have HA4 : Hid ((mP m3 e4).record.length ≤ 2 * n + 2 ∧ (mP m3 e4).count ≤ n) := Lib.hid (by
    obtain ⟨a1, a2, a3, a4, a5⟩ := a
    exact ⟨by have := HA3.out.2.1; omega, by rw [a5]; exact HA3.out.2.2⟩)
  have hT4 := HT.out
  rw [HM4.out] at hT4
  clear a hgw d3 HP HM3 HE2 hR2 hK3 hF3 HA3 HT HM4
  generalize Fld.mP m3 e4 = m5 at *
  -- Record
  have d4 := hE4.cell_of (i := 4) rfl
  have hgw : g < wc.heap.size := hM4.blk.lt
  cases e5
  · simp only [Bool.false_eq_true, if_false] at hT4
    have HT := Lib.hid hT4
    have HM := Lib.hid hM4
    clear hT4 hM4 hE4
    go_wp2_with (fail)
    go_ret2
    refine ⟨.slice none 0 0, ?_, ?_, fun _ => rfl, by simp [blkOf], vr4, ?_, by simp [blkOf], hK4, hF4⟩
    · rw [HT.out]; rfl
    · rw [HT.out]; exact Own.nil_ _ _ _ _
    · rw [HT.out]; exact ⟨HM.out.blk, HM.out.low, HM.out.rcd⟩
  · simp only [if_true] at hT4
    have HT := Lib.hid hT4
    obtain ⟨A5, c5r, rfl, hA1, hA2⟩ := hM4.rcd.form
    have c5 := hM4.c (i := 5) rfl
    have c7 := hM4.c (i := 7) rfl
    have f5 := hM4.f (i := 5) (by omega)
    have f7 := hM4.f (i := 7) (by omega)
    have f8 := hM4.f (i := 8) (by omega)
    have c8 := hM4.c (i := 8) rfl
    have hwk : IntKind.i64.wrap ((m5.count : Int) + 1) = (m5.count : Int) + 1 := IntWalk.i64_in _ (by have := HA4.out.2; omega)
    obtain ⟨K, hK⟩ : ∃ K, (m5.count == 0) = K := ⟨_, rfl⟩
    have hK2 : ((m5.count : Int) == 0) = K := by rw [← hK, Bool.eq_iff_iff, beq_iff_eq, beq_iff_eq]; omega
    rw [hK] at HT
    have HM := Lib.hid hM4
    have hgr := hM4.apart
    have HGR := Lib.hid hgr
    clear hT4 hM4 hE4 hK hgr
    cases K
    · go_wp2_with (fail)
      go_ret2
      have kS : Keeps [g] wc ((wc.setCell ⟨g, 5, none⟩ (.slice none 0 0)).setCell ⟨g, 7, none⟩ (.int .i64 (m5.count + 1))) := (Keeps.setCell wc ⟨g, 5, none⟩ _).set1 ⟨g, 7, none⟩ _ (by simp)
      have hOwn := HM.out.rcd.keep kS (fun a ha hm => by simp at hm; exact HGR.out a ha hm)
      refine ⟨.slice A5 m5.record.length c5r, ?_, ?_, ?_, hF4, .slice none 0 0, ⟨?_, ?_, ?_⟩, by simp [blkOf], ?_, by simp [blkOf]⟩
      · rw [HT.out]; rfl
      · rw [HT.out]; exact hOwn
      · rw [HT.out]; intro h; cases h
      · rw [HT.out]
        have h2 := (HM.out.blk.set_ 5 (.slice none 0 0)).set_ 7 (.int .i64 (m5.count + 1))
        simpa [r5C] using h2
      · exact HM.out.low
      · rw [HT.out]; exact Own.nil_ _ _ _ _
      · exact hK4.trans (kS.sub (F' := g :: blkOf vr) (by simp)) (fun x hx _ => hx)
    · go_wp2_with (fail)
      go_ret2
      have kS : Keeps [g] wc (((wc.setCell ⟨g, 5, none⟩ (.slice none 0 0)).setCell ⟨g, 8, none⟩ (.int .i64 m5.record.length)).setCell ⟨g, 7, none⟩ (.int .i64 (m5.count + 1))) := ((Keeps.setCell wc ⟨g, 5, none⟩ _).set1 ⟨g, 8, none⟩ _ (by simp)).set1 ⟨g, 7, none⟩ _ (by simp)
      have hOwn := HM.out.rcd.keep kS (fun a ha hm => by simp at hm; exact HGR.out a ha hm)
      refine ⟨.slice A5 m5.record.length c5r, ?_, ?_, ?_, hF4, .slice none 0 0, ⟨?_, ?_, ?_⟩, by simp [blkOf], ?_, by simp [blkOf]⟩
      · rw [HT.out]; rfl
      · rw [HT.out]; exact hOwn
      · rw [HT.out]; intro h; cases h
      · rw [HT.out]
        have h2 := ((HM.out.blk.set_ 5 (.slice none 0 0)).set_ 8 (.int .i64 m5.record.length)).set_ 7 (.int .i64 (m5.count + 1))
        simpa [r5C] using h2
      · exact HM.out.low
      · rw [HT.out]; exact Own.nil_ _ _ _ _
      · exact hK4.trans (kS.sub (F' := g :: blkOf vr) (by simp)) (fun x hx _ => hx)
end Go.Proofs.Ytogmcfljojobfaa.Ref5
