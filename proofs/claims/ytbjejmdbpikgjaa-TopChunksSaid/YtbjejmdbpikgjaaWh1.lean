/- The contracts of package whole: a byte's step and the end, where nothing is wrong. -/
import Derived.Test.YtbjejmdbpikgjaaRd6
namespace Go.Proofs.Ytbjejmdbpikgjaa.Wh
set_option linter.unusedVariables false
set_option linter.unusedSimpArgs false
set_option maxRecDepth 100000
open Go.RowKit Q Mach Dia Scan Ref4 Fld
attribute [local go_sem ↓] Go.wp_at_zero Go.wp_at_succ
/-- Below base nothing turns, and no result's cell does. -/
structure BF (base : Nat) (w w' : World) : Prop where
  b : Below base w w'
  f : ∀ (r : Nat) (cs : List Value), Blk w r 35 cs → Blk w' r 35 cs
theorem BF.trans {base : Nat} {a b c : World} (h : BF base a b) (k : BF base b c) : BF base a c := ⟨h.b.trans k.b, fun r cs hb => k.f r cs (h.f r cs hb)⟩
theorem BF.size {base : Nat} {a b : World} (h : BF base a b) : a.heap.size ≤ b.heap.size := h.b.size
theorem BF.of {base : Nat} {a b : World} (k : Keeps [] a b) (hb : base ≤ a.heap.size) : BF base a b := ⟨k.below hb (by simp), fun r cs h => h.keep k (by simp)⟩
theorem BF.cell {base g i : Nat} {a : World} {e : TypeId} {cs : List Value} (h : Blk a g e cs) (he : 35 ≠ e) (hg : base ≤ g) (hb : base ≤ a.heap.size) (u : Value) : BF base a (a.setCell ⟨g, i, none⟩ u) :=
  ⟨(Keeps.setCell a ⟨g, i, none⟩ u).below hb (by simp; exact hg), fun r cs hr => hr.keep (Keeps.setCell a ⟨g, i, none⟩ u) (fun hm => by simp only [List.mem_singleton] at hm; exact hr.ne_ h he hm)⟩
structure WAt (w : World) (base g gm gt : Nat) (d : Dia) (sq st : Nat) (m : Mk) (vf vr vq : Value) (vs : List Value) (recs : Tb) : Prop where
  blk : Blk w g 142 [bv d.delim, bv d.quote, .int .i64 d.fin, .pointer (some ⟨gm, 0, none⟩), .int .i64 sq, .int .i64 st]
  mka : MkAt w base gm 82 [] [] m vf vr
  tab : OTb w base 65 9 vq vs recs
  ap : ∀ x ∈ vs.flatMap blkOf, x ∉ blkOf vr
  box : Blk w gt 42 [vq]
  low : base ≤ g ∧ base ≤ gt
section wat
variable {w w' : World} {base g gm gt : Nat} {d : Dia} {sq st : Nat} {m : Mk} {vf vr vq : Value} {vs : List Value} {recs : Tb}
theorem WAt.keep (h : WAt w base g gm gt d sq st m vf vr vq vs recs) (k : Keeps [] w w') : WAt w' base g gm gt d sq st m vf vr vq vs recs :=
  ⟨h.blk.keep k (by simp), h.mka.keep k, h.tab.keep k (by simp), h.ap, h.box.keep k (by simp), h.low⟩
theorem OTb.apartB {e : TypeId} {r : Nat} {cs : List Value} (h : OTb w base 65 9 vq vs recs) (hb : Blk w r e cs) (h1 : 65 ≠ e) (h2 : 9 ≠ e) : ∀ x ∈ tblks vq vs, x ≠ r := by
  obtain ⟨t1, t2, t3⟩ := h
  intro x hx
  simp only [tblks, List.mem_append, List.mem_flatMap] at hx
  rcases hx with hx | ⟨y, hy, hx⟩
  · exact t2.apartBlk hb h1 x hx
  · obtain ⟨j, hj, rfl⟩ := List.getElem_of_mem hy
    exact (t3 j _ _ (List.getElem?_eq_getElem hj) (List.getElem?_eq_getElem (by omega))).apartBlk hb h2 x hx
theorem OTb.apartF {n : Nat} {xs : List Value} {v : Value} (h : OTb w base 65 9 vq vs recs) (hb : Own w base 5 1 v n xs) : ∀ x ∈ tblks vq vs, x ∉ blkOf v := by
  obtain ⟨t1, t2, t3⟩ := h
  intro x hx
  simp only [tblks, List.mem_append, List.mem_flatMap] at hx
  rcases hx with hx | ⟨y, hy, hx⟩
  · exact t2.apart hb (by decide) x hx
  · obtain ⟨j, hj, rfl⟩ := List.getElem_of_mem hy
    exact (t3 j _ _ (List.getElem?_eq_getElem hj) (List.getElem?_eq_getElem (by omega))).apart hb (by decide) x hx
/-- One of the walker's numbers is stored. -/
theorem WAt.set (h : WAt w base g gm gt d sq st m vf vr vq vs recs) (i : Nat) (u : Value) {sq' st' : Nat} (hi : ([bv d.delim, bv d.quote, .int .i64 d.fin, .pointer (some ⟨gm, 0, none⟩), .int .i64 sq, .int .i64 st] : List Value).set i u = [bv d.delim, bv d.quote, .int .i64 d.fin, .pointer (some ⟨gm, 0, none⟩), .int .i64 sq', .int .i64 st']) :
    WAt (w.setCell ⟨g, i, none⟩ u) base g gm gt d sq' st' m vf vr vq vs recs := by
  have k := Keeps.setCell w ⟨g, i, none⟩ u
  refine ⟨?_, ⟨h.mka.blk.keep k ?_, h.mka.low, h.mka.fld.keep k ?_, h.mka.rcd.keep k ?_⟩, h.tab.keep k ?_, h.ap, h.box.keep k ?_, h.low⟩
  · have h1 := h.blk.set_ i u
    rw [hi] at h1
    exact h1
  · intro hm; simp only [List.mem_singleton] at hm; exact h.mka.blk.ne_ h.blk (by decide) hm
  · intro x hx hm; simp only [List.mem_singleton] at hm; exact h.mka.fld.apartBlk h.blk (by decide) x hx hm
  · intro x hx hm; simp only [List.mem_singleton] at hm; exact h.mka.rcd.apartBlk h.blk (by decide) x hx hm
  · intro x hx hm; simp only [List.mem_singleton] at hm; exact OTb.apartB h.tab h.blk (by decide) (by decide) x hx hm
  · intro hm; simp only [List.mem_singleton] at hm; exact h.box.ne_ h.blk (by decide) hm
def WGot (w : World) (base g gm gt : Nat) (d : Dia) (sq st : Nat) (m : Mk) (o : Option Row) (vq : Value) (vs : List Value) (recs : Tb) (e : Ending) (w' : World) : Prop :=
  ∃ v vf vr, e = .returned (.tuple #[v, .bool o.isSome, .int .i64 0]) ∧ Own w' base 9 1 v (o.getD []).length ((o.getD []).map sv) ∧ (o = none → v = .slice none 0 0) ∧ (∀ k ∈ blkOf v, k ∉ blkOf vr) ∧ WAt w' base g gm gt d sq st m vf vr vq vs recs ∧ BF base w w'
theorem WAt.take {ev : Ev} {r : Ending} (h : WAt w base g gm gt d sq st m vf vr vq vs recs) (hk : (take m ev).2.2 = 0) (hp : TakePost w base gm 82 [] [] m ev vf vr r w') :
    WGot w base g gm gt d sq st (take m ev).1 (take m ev).2.1 vq vs recs r w' := by
  obtain ⟨v, hr, hown, hn, hv, vf', vr', hM, hap, hK, hF, hR⟩ := hp
  rw [hk] at hr
  have hin : ∀ x ∈ tblks vq vs, x ∉ gm :: (blkOf vf ++ blkOf vr) := by
    intro x hx hm
    simp only [List.mem_cons, List.mem_append] at hm
    rcases hm with hm | hm | hm
    · exact OTb.apartB h.tab h.mka.blk (by decide) (by decide) x hx hm
    · exact OTb.apartF h.tab h.mka.fld x hx hm
    · simp only [tblks, List.mem_append] at hx
      rcases hx with hx | hx
      · exact h.tab.2.1.apart h.mka.rcd (by decide) x hx hm
      · exact h.ap x hx hm
  have hnb : ∀ {y : Nat} {e : TypeId} {cs : List Value}, Blk w y e cs → 82 ≠ e → 5 ≠ e → 9 ≠ e → y ∉ gm :: (blkOf vf ++ blkOf vr) := by
    intro y e cs hb h1 h2 h3 hm
    simp only [List.mem_cons, List.mem_append] at hm
    rcases hm with hm | hm | hm
    · exact h.mka.blk.ne_ hb h1 hm.symm
    · exact h.mka.fld.apartBlk hb h2 _ hm rfl
    · exact h.mka.rcd.apartBlk hb h3 _ hm rfl
  refine ⟨v, vf', vr', hr, hown, hn, hap, ⟨h.blk.keep hK (hnb h.blk (by decide) (by decide) (by decide)), hM, h.tab.keep hK hin, ?_, h.box.keep hK (hnb h.box (by decide) (by decide) (by decide)), h.low⟩, ?_⟩
  · intro x hx hm
    rcases hR x hm with h1 | h1
    · exact h.ap x hx h1
    · have := (h.tab.lt x (by simp only [tblks, List.mem_append]; exact .inr hx)).2
      omega
  · refine ⟨?_, fun r cs hb => hb.keep hK (hnb hb (by decide) (by decide) (by decide))⟩
    have hlt := h.mka.blk.lt
    refine hK.below (Nat.le_of_lt (Nat.lt_of_le_of_lt h.mka.low hlt)) ?_
    intro x hx
    simp only [List.mem_cons, List.mem_append] at hx
    rcases hx with rfl | hx | hx
    · exact h.mka.low
    · exact (h.mka.fld.lt x hx).1
    · exact (h.mka.rcd.lt x hx).1
theorem WGot.after {w1 : World} {o : Option Row} {e : Ending} (k : BF base w w1) (h : WGot w1 base g gm gt d sq st m o vq vs recs e w') : WGot w base g gm gt d sq st m o vq vs recs e w' := by
  obtain ⟨v, vf, vr, h1, h2, h3, h4, h5, h6⟩ := h
  exact ⟨v, vf, vr, h1, h2, h3, h4, h5, k.trans h6⟩
end wat
set_option maxHeartbeats 4000000 in
theorem step_c (w : World) (base g gm gt : Nat) (d : Dia) (sq st : Nat) (m : Mk) (vf vr vq : Value) (vs : List Value) (recs : Tb) (b : UInt8) (h : WAt w base g gm gt d sq st m vf vr vq vs recs) (hm : Fine m) (hsq : sq ≤ 7) (hst : st ≤ 6) (x : Rdp.Sp) (hx : Rdp.stp d sq st m b = x) (h0 : x.kind = 0) (hbw : base ≤ w.heap.size) :
    Calls Try.prog 77 #[.pointer (some ⟨g, 0, none⟩), bv b] w (WGot w base g gm gt d x.sq x.st x.mm x.o vq vs recs) := by
  have HU := Lib.hid (fun w => UtfS.step_c sq hsq b w)
  have HS := Lib.hid (fun w => Scan.step_c d st hst b w)
  have HF := Lib.hid hm
  have c4 := h.blk.cell_of (i := 4) rfl
  have f4 := h.blk.frozen (i := 4) (by simp)
  have hgl := h.blk.lt
  have HB := Lib.hid h
  unfold Rdp.stp at hx
  cases hu : Utf.ustep sq b.toNat with
  | none => rw [hu] at hx; subst hx; simp at h0
  | some q =>
    rw [hu] at HU hx
    simp only [UtfS.ustepV] at HU
    obtain ⟨X, hX⟩ : ∃ X, Mach.step d st b = X := ⟨_, rfl⟩
    rw [hX] at HS hx
    obtain ⟨⟨e1, e2, e3, e4, e5, e6⟩, t, r⟩ := X
    dsimp only at hx
    by_cases hr0 : r = 0
    rotate_left
    · rw [if_pos hr0] at hx; subst hx; exact absurd h0 hr0
    subst hr0
    rw [if_neg (by simp)] at hx
    subst hx
    dsimp only at h0 ⊢
    have HT0 := Lib.hid h0
    have h1 : WAt (w.setCell ⟨g, 4, none⟩ (.int .i64 q)) base g gm gt d q st m vf vr vq vs recs := h.set 4 _ rfl
    have c0 := h1.blk.cell_of (i := 0) rfl
    have c1 := h1.blk.cell_of (i := 1) rfl
    have c2 := h1.blk.cell_of (i := 2) rfl
    have c5 := h1.blk.cell_of (i := 5) rfl
    have hg1 := h1.blk.lt
    have K1 := Lib.hid (BF.cell (i := 4) h.blk (by decide) h.low.1 hbw (.int .i64 (q : Int)))
    have H1 := Lib.hid h1
    clear hu hX h1 h hm hsq hst h0
    simp only [stepV] at HS
    obtain ⟨x, y, z⟩ := d
    go_enter Try.func77, Try.ntmps77
    go_wp2_with (fail)
    refine (HU.out _).mono ?_
    rintro e w1 ⟨rfl, rfl⟩
    clear HU
    go_upto_region 5 with (fail)
    clear c4 f4 hgl
    generalize hW1 : w1.setCell ⟨g, 4, none⟩ (.int .i64 q) = wr at *
    go_cut [9, 10, 11] from 27 (fun v9 v10 v11 wx => ∃ g1 : Nat, v9 = .pointer (some ⟨g1, 0, none⟩) ∧ wr.heap.size ≤ g1 ∧ Blk wx g1 117 [.bool e1, .bool e2, .bool e3, .bool e4, .bool e5, bv e6] ∧ v10 = .int .i64 t ∧ v11 = .int .i64 ((0 : Nat) : Int) ∧ Keeps [] wr wx)
    case first =>
      clear HF HB H1 K1 hW1 HT0
      go_region_law (first
        | (refine step_call (HS.out _) Try.func81 ⟨by kernel_rfl, by kernel_rfl⟩ _ _ rfl rfl rfl ?_; rintro e w1 ⟨rfl, k1⟩; refine ⟨_, rfl, ?_⟩; (first | ((with_reducible have hq := ((Blk.new wr 117 [.bool false, .bool false, .bool false, .bool false, .bool false, .int .u8 0]).drew).keep k1 (by simp)); have q0 := hq.cell_of (i := 0) rfl; have f0 := hq.frozen (i := 0) (by simp); have q1 := hq.cell_of (i := 1) rfl; have f1 := hq.frozen (i := 1) (by simp); have q2 := hq.cell_of (i := 2) rfl; have f2 := hq.frozen (i := 2) (by simp); have q3 := hq.cell_of (i := 3) rfl; have f3 := hq.frozen (i := 3) (by simp); have q4 := hq.cell_of (i := 4) rfl; have f4 := hq.frozen (i := 4) (by simp); have q5 := hq.cell_of (i := 5) rfl; have f5 := hq.frozen (i := 5) (by simp)) | skip)))
      all_goals (go_wp2_with (fail); go_meet)
      all_goals first
        | exact ⟨_, rfl, Nat.le_refl _, (((((hq.set_ 0 _).set_ 1 _).set_ 2 _).set_ 3 _).set_ 4 _).set_ 5 _, rfl, rfl, (((((((Keeps.alloc [] wr _).drew1.trans k1 (by simp)).setNew _ _ (Nat.le_refl _)).setNew _ _ (Nat.le_refl _)).setNew _ _ (Nat.le_refl _)).setNew _ _ (Nat.le_refl _)).setNew _ _ (Nat.le_refl _)).setNew _ _ (Nat.le_refl _)⟩
        | exact ⟨_, rfl, k1.size, Blk.new w1 117 _, rfl, rfl, ((Keeps.drew [] wr).trans k1 (by simp)).alloc1 _⟩
    case rest =>
      obtain ⟨g1, rfl, hg1, hbE, rfl, rfl, kx⟩ := hcut
      have h2 := H1.out.keep kx
      have kx1 := K1.out.trans (BF.of kx (Nat.le_trans hbw K1.out.size))
      have hgc := h2.blk.lt
      have hgx := hbE.lt
      have f5 := h2.blk.frozen (i := 5) (by simp)
      have c5 := h2.blk.cell_of (i := 5) rfl
      clear c0 c1 c2 HS hW1 K1 H1 HB
      have h3 : WAt (wc.setCell ⟨g, 5, none⟩ (.int .i64 t)) base g gm gt ⟨x, y, z⟩ q t m vf vr vq vs recs := h2.set 5 _ rfl
      have hE3 := hbE.far (p := ⟨g, 5, none⟩) (by show g1 ≠ g; omega) (.int .i64 t)
      have k3 := kx1.trans (BF.cell (i := 5) h2.blk (by decide) h2.low.1 (Nat.le_trans hbw kx1.size) (.int .i64 (t : Int)))
      have H3 := Lib.hid h3
      have K3 := Lib.hid k3
      have HX3 := Lib.hid hE3
      clear h2 hbE h3 hE3 k3 kx1
      go_upto_region 9 with (fail)
      generalize wc.setCell ⟨g, 5, none⟩ (.int .i64 t) = wy at *
      have c3 := H3.out.blk.cell_of (i := 3) rfl
      have q0 := HX3.out.cell_of (i := 0) rfl
      have q1 := HX3.out.cell_of (i := 1) rfl
      have q2 := HX3.out.cell_of (i := 2) rfl
      have q3 := HX3.out.cell_of (i := 3) rfl
      have q4 := HX3.out.cell_of (i := 4) rfl
      have q5 := HX3.out.cell_of (i := 5) rfl
      have h4 := H3.out.keep (Keeps.drew [] wy)
      have HT : Hid (Calls Try.prog 59 #[.pointer (some ⟨gm, 0, none⟩), evV ⟨e1, e2, e3, e4, e5, e6⟩] wy.drew (WGot wy.drew base g gm gt ⟨x, y, z⟩ q t (take m ⟨e1, e2, e3, e4, e5, e6⟩).1 (take m ⟨e1, e2, e3, e4, e5, e6⟩).2.1 vq vs recs)) :=
        Lib.hid ((take_c base gm 82 [] [] m vf vr ⟨e1, e2, e3, e4, e5, e6⟩ wy.drew h4.mka ⟨by decide, by decide, by decide⟩ HF.out).mono fun r w' hp => h4.take HT0.out hp)
      have HD := Lib.hid (show BF base wy wy.drew from BF.of (Keeps.drew [] wy) (Nat.le_trans hbw K3.out.size))
      clear h4
      go_region_law (first
        | (refine step_call HT.out Try.func59 ⟨by kernel_rfl, by kernel_rfl⟩ _ _ rfl rfl rfl ?_; rintro e w4 ⟨v, vf9, vr9, rfl, hg⟩; have HG := Lib.hid hg; clear hg; refine ⟨_, rfl, ?_⟩))
      all_goals
        go_wp2_with (fail)
        go_ret3
        go_simp
        exact WGot.after (K3.out.trans HD.out) ⟨v, vf9, vr9, rfl, HG.out⟩
end Go.Proofs.Ytbjejmdbpikgjaa.Wh
