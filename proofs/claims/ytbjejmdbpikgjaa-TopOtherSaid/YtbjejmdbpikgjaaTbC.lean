/- Melted of the texts Wh1 Wh2 Wh3 Wh4 Rdq Top1 Fed. -/
import Derived.Test.YtbjejmdbpikgjaaTbA
import Derived.Deep.RegionWith
import Derived.Test.YtbjejmdbpikgjaaTbl
import Derived.Test.YtbjejmdbpikgjaaOpen
namespace Go.Proofs.Ytbjejmdbpikgjaa.Wh
set_option linter.unusedVariables false
set_option linter.unusedSimpArgs false
set_option maxRecDepth 100000
open Go.RowKit Q Mach Dia Scan Ref4 Fld
attribute [local go_sem ↓] Go.wp_at_zero Go.wp_at_succ
/-- Below base nothing turns, and no result's cell does. -/
structure BF (base : Nat) (w w' : World) : Prop where
  b : Below base w w'
  f : ∀ (r : Nat) (cs : List Value), Blk w r 35 cs → Blk w' r 35 cs
theorem BF.trans {base : Nat} {a b c : World} (h : BF base a b) (k : BF base b c) : BF base a c := ⟨h.b.trans k.b, fun r cs hb => k.f r cs (h.f r cs hb)⟩
theorem BF.size {base : Nat} {a b : World} (h : BF base a b) : a.heap.size ≤ b.heap.size := h.b.size
theorem BF.of {base : Nat} {a b : World} (k : Keeps [] a b) (hb : base ≤ a.heap.size) : BF base a b := ⟨k.below hb (by simp), fun r cs h => h.keep k (by simp)⟩
theorem BF.cell {base g i : Nat} {a : World} {e : TypeId} {cs : List Value} (h : Blk a g e cs) (he : 35 ≠ e) (hg : base ≤ g) (hb : base ≤ a.heap.size) (u : Value) : BF base a (a.setCell ⟨g, i, none⟩ u) :=
  ⟨(Keeps.setCell a ⟨g, i, none⟩ u).below hb (by simp; exact hg), fun r cs hr => hr.keep (Keeps.setCell a ⟨g, i, none⟩ u) (fun hm => by simp only [List.mem_singleton] at hm; exact hr.ne_ h he hm)⟩
structure WAt (w : World) (base g gm gt : Nat) (d : Dia) (sq st : Nat) (m : Mk) (vf vr vq : Value) (vs : List Value) (recs : Tb) : Prop where
  blk : Blk w g 142 [bv d.delim, bv d.quote, .int .i64 d.fin, .pointer (some ⟨gm, 0, none⟩), .int .i64 sq, .int .i64 st]
  mka : MkAt w base gm 82 [] [] m vf vr
  tab : OTb w base 65 9 vq vs recs
  ap : ∀ x ∈ vs.flatMap blkOf, x ∉ blkOf vr
  box : Blk w gt 42 [vq]
  low : base ≤ g ∧ base ≤ gt
section wat
variable {w w' : World} {base g gm gt : Nat} {d : Dia} {sq st : Nat} {m : Mk} {vf vr vq : Value} {vs : List Value} {recs : Tb}
theorem WAt.keep (h : WAt w base g gm gt d sq st m vf vr vq vs recs) (k : Keeps [] w w') : WAt w' base g gm gt d sq st m vf vr vq vs recs :=
  ⟨h.blk.keep k (by simp), h.mka.keep k, h.tab.keep k (by simp), h.ap, h.box.keep k (by simp), h.low⟩
theorem OTb.apartB {e : TypeId} {r : Nat} {cs : List Value} (h : OTb w base 65 9 vq vs recs) (hb : Blk w r e cs) (h1 : 65 ≠ e) (h2 : 9 ≠ e) : ∀ x ∈ tblks vq vs, x ≠ r := by
  obtain ⟨t1, t2, t3⟩ := h
  intro x hx
  simp only [tblks, List.mem_append, List.mem_flatMap] at hx
  rcases hx with hx | ⟨y, hy, hx⟩
  · exact t2.apartBlk hb h1 x hx
  · obtain ⟨j, hj, rfl⟩ := List.getElem_of_mem hy
    exact (t3 j _ _ (List.getElem?_eq_getElem hj) (List.getElem?_eq_getElem (by omega))).apartBlk hb h2 x hx
theorem OTb.apartF {n : Nat} {xs : List Value} {v : Value} (h : OTb w base 65 9 vq vs recs) (hb : Own w base 5 1 v n xs) : ∀ x ∈ tblks vq vs, x ∉ blkOf v := by
  obtain ⟨t1, t2, t3⟩ := h
  intro x hx
  simp only [tblks, List.mem_append, List.mem_flatMap] at hx
  rcases hx with hx | ⟨y, hy, hx⟩
  · exact t2.apart hb (by decide) x hx
  · obtain ⟨j, hj, rfl⟩ := List.getElem_of_mem hy
    exact (t3 j _ _ (List.getElem?_eq_getElem hj) (List.getElem?_eq_getElem (by omega))).apart hb (by decide) x hx
/-- One of the walker's numbers is stored. -/
theorem WAt.set (h : WAt w base g gm gt d sq st m vf vr vq vs recs) (i : Nat) (u : Value) {sq' st' : Nat} (hi : ([bv d.delim, bv d.quote, .int .i64 d.fin, .pointer (some ⟨gm, 0, none⟩), .int .i64 sq, .int .i64 st] : List Value).set i u = [bv d.delim, bv d.quote, .int .i64 d.fin, .pointer (some ⟨gm, 0, none⟩), .int .i64 sq', .int .i64 st']) :
    WAt (w.setCell ⟨g, i, none⟩ u) base g gm gt d sq' st' m vf vr vq vs recs := by
  have k := Keeps.setCell w ⟨g, i, none⟩ u
  refine ⟨?_, ⟨h.mka.blk.keep k ?_, h.mka.low, h.mka.fld.keep k ?_, h.mka.rcd.keep k ?_⟩, h.tab.keep k ?_, h.ap, h.box.keep k ?_, h.low⟩
  · have h1 := h.blk.set_ i u
    rw [hi] at h1
    exact h1
  · intro hm; simp only [List.mem_singleton] at hm; exact h.mka.blk.ne_ h.blk (by decide) hm
  · intro x hx hm; simp only [List.mem_singleton] at hm; exact h.mka.fld.apartBlk h.blk (by decide) x hx hm
  · intro x hx hm; simp only [List.mem_singleton] at hm; exact h.mka.rcd.apartBlk h.blk (by decide) x hx hm
  · intro x hx hm; simp only [List.mem_singleton] at hm; exact OTb.apartB h.tab h.blk (by decide) (by decide) x hx hm
  · intro hm; simp only [List.mem_singleton] at hm; exact h.box.ne_ h.blk (by decide) hm
def WGot (w : World) (base g gm gt : Nat) (d : Dia) (sq st : Nat) (m : Mk) (o : Option Row) (vq : Value) (vs : List Value) (recs : Tb) (e : Ending) (w' : World) : Prop :=
  ∃ v vf vr, e = .returned (.tuple #[v, .bool o.isSome, .int .i64 0]) ∧ Own w' base 9 1 v (o.getD []).length ((o.getD []).map sv) ∧ (o = none → v = .slice none 0 0) ∧ (∀ k ∈ blkOf v, k ∉ blkOf vr) ∧ WAt w' base g gm gt d sq st m vf vr vq vs recs ∧ BF base w w'
theorem WAt.take {ev : Ev} {r : Ending} (h : WAt w base g gm gt d sq st m vf vr vq vs recs) (hk : (take m ev).2.2 = 0) (hp : TakePost w base gm 82 [] [] m ev vf vr r w') :
    WGot w base g gm gt d sq st (take m ev).1 (take m ev).2.1 vq vs recs r w' := by
  obtain ⟨v, hr, hown, hn, hv, vf', vr', hM, hap, hK, hF, hR⟩ := hp
  rw [hk] at hr
  have hin : ∀ x ∈ tblks vq vs, x ∉ gm :: (blkOf vf ++ blkOf vr) := by
    intro x hx hm
    simp only [List.mem_cons, List.mem_append] at hm
    rcases hm with hm | hm | hm
    · exact OTb.apartB h.tab h.mka.blk (by decide) (by decide) x hx hm
    · exact OTb.apartF h.tab h.mka.fld x hx hm
    · simp only [tblks, List.mem_append] at hx
      rcases hx with hx | hx
      · exact h.tab.2.1.apart h.mka.rcd (by decide) x hx hm
      · exact h.ap x hx hm
  have hnb : ∀ {y : Nat} {e : TypeId} {cs : List Value}, Blk w y e cs → 82 ≠ e → 5 ≠ e → 9 ≠ e → y ∉ gm :: (blkOf vf ++ blkOf vr) := by
    intro y e cs hb h1 h2 h3 hm
    simp only [List.mem_cons, List.mem_append] at hm
    rcases hm with hm | hm | hm
    · exact h.mka.blk.ne_ hb h1 hm.symm
    · exact h.mka.fld.apartBlk hb h2 _ hm rfl
    · exact h.mka.rcd.apartBlk hb h3 _ hm rfl
  refine ⟨v, vf', vr', hr, hown, hn, hap, ⟨h.blk.keep hK (hnb h.blk (by decide) (by decide) (by decide)), hM, h.tab.keep hK hin, ?_, h.box.keep hK (hnb h.box (by decide) (by decide) (by decide)), h.low⟩, ?_⟩
  · intro x hx hm
    rcases hR x hm with h1 | h1
    · exact h.ap x hx h1
    · have := (h.tab.lt x (by simp only [tblks, List.mem_append]; exact .inr hx)).2
      omega
  · refine ⟨?_, fun r cs hb => hb.keep hK (hnb hb (by decide) (by decide) (by decide))⟩
    have hlt := h.mka.blk.lt
    refine hK.below (Nat.le_of_lt (Nat.lt_of_le_of_lt h.mka.low hlt)) ?_
    intro x hx
    simp only [List.mem_cons, List.mem_append] at hx
    rcases hx with rfl | hx | hx
    · exact h.mka.low
    · exact (h.mka.fld.lt x hx).1
    · exact (h.mka.rcd.lt x hx).1
theorem WGot.after {w1 : World} {o : Option Row} {e : Ending} (k : BF base w w1) (h : WGot w1 base g gm gt d sq st m o vq vs recs e w') : WGot w base g gm gt d sq st m o vq vs recs e w' := by
  obtain ⟨v, vf, vr, h1, h2, h3, h4, h5, h6⟩ := h
  exact ⟨v, vf, vr, h1, h2, h3, h4, h5, k.trans h6⟩
end wat
set_option maxHeartbeats 4000000 in
theorem step_c (w : World) (base g gm gt : Nat) (d : Dia) (sq st : Nat) (m : Mk) (vf vr vq : Value) (vs : List Value) (recs : Tb) (b : UInt8) (h : WAt w base g gm gt d sq st m vf vr vq vs recs) (hm : Fine m) (hsq : sq ≤ 7) (hst : st ≤ 6) (x : Rdp.Sp) (hx : Rdp.stp d sq st m b = x) (h0 : x.kind = 0) (hbw : base ≤ w.heap.size) :
    Calls Try.prog 77 #[.pointer (some ⟨g, 0, none⟩), bv b] w (WGot w base g gm gt d x.sq x.st x.mm x.o vq vs recs) := by
  have HU := Lib.hid (fun w => UtfS.step_c sq hsq b w)
  have HS := Lib.hid (fun w => Scan.step_c d st hst b w)
  have HF := Lib.hid hm
  have c4 := h.blk.cell_of (i := 4) rfl
  have f4 := h.blk.frozen (i := 4) (by simp)
  have hgl := h.blk.lt
  have HB := Lib.hid h
  unfold Rdp.stp at hx
  cases hu : Utf.ustep sq b.toNat with
  | none => rw [hu] at hx; subst hx; simp at h0
  | some q =>
    rw [hu] at HU hx
    simp only [UtfS.ustepV] at HU
    obtain ⟨X, hX⟩ : ∃ X, Mach.step d st b = X := ⟨_, rfl⟩
    rw [hX] at HS hx
    obtain ⟨⟨e1, e2, e3, e4, e5, e6⟩, t, r⟩ := X
    dsimp only at hx
    by_cases hr0 : r = 0
    rotate_left
    · rw [if_pos hr0] at hx; subst hx; exact absurd h0 hr0
    subst hr0
    rw [if_neg (by simp)] at hx
    subst hx
    dsimp only at h0 ⊢
    have HT0 := Lib.hid h0
    have h1 : WAt (w.setCell ⟨g, 4, none⟩ (.int .i64 q)) base g gm gt d q st m vf vr vq vs recs := h.set 4 _ rfl
    have c0 := h1.blk.cell_of (i := 0) rfl
    have c1 := h1.blk.cell_of (i := 1) rfl
    have c2 := h1.blk.cell_of (i := 2) rfl
    have c5 := h1.blk.cell_of (i := 5) rfl
    have hg1 := h1.blk.lt
    have K1 := Lib.hid (BF.cell (i := 4) h.blk (by decide) h.low.1 hbw (.int .i64 (q : Int)))
    have H1 := Lib.hid h1
    clear hu hX h1 h hm hsq hst h0
    simp only [stepV] at HS
    obtain ⟨x, y, z⟩ := d
    go_enter Try.func77, Try.ntmps77
    go_wp2_with (fail)
    refine (HU.out _).mono ?_
    rintro e w1 ⟨rfl, rfl⟩
    clear HU
    go_upto_region 5 with (fail)
    clear c4 f4 hgl
    generalize hW1 : w1.setCell ⟨g, 4, none⟩ (.int .i64 q) = wr at *
    go_cut [9, 10, 11] from 27 (fun v9 v10 v11 wx => ∃ g1 : Nat, v9 = .pointer (some ⟨g1, 0, none⟩) ∧ wr.heap.size ≤ g1 ∧ Blk wx g1 117 [.bool e1, .bool e2, .bool e3, .bool e4, .bool e5, bv e6] ∧ v10 = .int .i64 t ∧ v11 = .int .i64 ((0 : Nat) : Int) ∧ Keeps [] wr wx)
    case first =>
      clear HF HB H1 K1 hW1 HT0
      go_region_law (first
        | (refine step_call (HS.out _) Try.func81 ⟨by kernel_rfl, by kernel_rfl⟩ _ _ rfl rfl rfl ?_; rintro e w1 ⟨rfl, k1⟩; refine ⟨_, rfl, ?_⟩; (first | ((with_reducible have hq := ((Blk.new wr 117 [.bool false, .bool false, .bool false, .bool false, .bool false, .int .u8 0]).drew).keep k1 (by simp)); have q0 := hq.cell_of (i := 0) rfl; have f0 := hq.frozen (i := 0) (by simp); have q1 := hq.cell_of (i := 1) rfl; have f1 := hq.frozen (i := 1) (by simp); have q2 := hq.cell_of (i := 2) rfl; have f2 := hq.frozen (i := 2) (by simp); have q3 := hq.cell_of (i := 3) rfl; have f3 := hq.frozen (i := 3) (by simp); have q4 := hq.cell_of (i := 4) rfl; have f4 := hq.frozen (i := 4) (by simp); have q5 := hq.cell_of (i := 5) rfl; have f5 := hq.frozen (i := 5) (by simp)) | skip)))
      all_goals (go_wp2_with (fail); go_meet)
      all_goals first
        | exact ⟨_, rfl, Nat.le_refl _, (((((hq.set_ 0 _).set_ 1 _).set_ 2 _).set_ 3 _).set_ 4 _).set_ 5 _, rfl, rfl, (((((((Keeps.alloc [] wr _).drew1.trans k1 (by simp)).setNew _ _ (Nat.le_refl _)).setNew _ _ (Nat.le_refl _)).setNew _ _ (Nat.le_refl _)).setNew _ _ (Nat.le_refl _)).setNew _ _ (Nat.le_refl _)).setNew _ _ (Nat.le_refl _)⟩
        | exact ⟨_, rfl, k1.size, Blk.new w1 117 _, rfl, rfl, ((Keeps.drew [] wr).trans k1 (by simp)).alloc1 _⟩
    case rest =>
      obtain ⟨g1, rfl, hg1, hbE, rfl, rfl, kx⟩ := hcut
      have h2 := H1.out.keep kx
      have kx1 := K1.out.trans (BF.of kx (Nat.le_trans hbw K1.out.size))
      have hgc := h2.blk.lt
      have hgx := hbE.lt
      have f5 := h2.blk.frozen (i := 5) (by simp)
      have c5 := h2.blk.cell_of (i := 5) rfl
      clear c0 c1 c2 HS hW1 K1 H1 HB
      have h3 : WAt (wc.setCell ⟨g, 5, none⟩ (.int .i64 t)) base g gm gt ⟨x, y, z⟩ q t m vf vr vq vs recs := h2.set 5 _ rfl
      have hE3 := hbE.far (p := ⟨g, 5, none⟩) (by show g1 ≠ g; omega) (.int .i64 t)
      have k3 := kx1.trans (BF.cell (i := 5) h2.blk (by decide) h2.low.1 (Nat.le_trans hbw kx1.size) (.int .i64 (t : Int)))
      have H3 := Lib.hid h3
      have K3 := Lib.hid k3
      have HX3 := Lib.hid hE3
      clear h2 hbE h3 hE3 k3 kx1
      go_upto_region 9 with (fail)
      generalize wc.setCell ⟨g, 5, none⟩ (.int .i64 t) = wy at *
      have c3 := H3.out.blk.cell_of (i := 3) rfl
      have q0 := HX3.out.cell_of (i := 0) rfl
      have q1 := HX3.out.cell_of (i := 1) rfl
      have q2 := HX3.out.cell_of (i := 2) rfl
      have q3 := HX3.out.cell_of (i := 3) rfl
      have q4 := HX3.out.cell_of (i := 4) rfl
      have q5 := HX3.out.cell_of (i := 5) rfl
      have h4 := H3.out.keep (Keeps.drew [] wy)
      have HT : Hid (Calls Try.prog 59 #[.pointer (some ⟨gm, 0, none⟩), evV ⟨e1, e2, e3, e4, e5, e6⟩] wy.drew (WGot wy.drew base g gm gt ⟨x, y, z⟩ q t (take m ⟨e1, e2, e3, e4, e5, e6⟩).1 (take m ⟨e1, e2, e3, e4, e5, e6⟩).2.1 vq vs recs)) :=
        Lib.hid ((take_c base gm 82 [] [] m vf vr ⟨e1, e2, e3, e4, e5, e6⟩ wy.drew h4.mka ⟨by decide, by decide, by decide⟩ HF.out).mono fun r w' hp => h4.take HT0.out hp)
      have HD := Lib.hid (show BF base wy wy.drew from BF.of (Keeps.drew [] wy) (Nat.le_trans hbw K3.out.size))
      clear h4
      go_region_law (first
        | (refine step_call HT.out Try.func59 ⟨by kernel_rfl, by kernel_rfl⟩ _ _ rfl rfl rfl ?_; rintro e w4 ⟨v, vf9, vr9, rfl, hg⟩; have HG := Lib.hid hg; clear hg; refine ⟨_, rfl, ?_⟩))
      all_goals
        go_wp2_with (fail)
        go_ret3
        go_simp
        exact WGot.after (K3.out.trans HD.out) ⟨v, vf9, vr9, rfl, HG.out⟩
end Go.Proofs.Ytbjejmdbpikgjaa.Wh
namespace Go.Proofs.Ytbjejmdbpikgjaa.Wh
set_option linter.unusedVariables false
set_option linter.unusedSimpArgs false
set_option maxRecDepth 100000
open Go.RowKit Q Mach Dia Scan Ref4 Fld
attribute [local go_sem ↓] Go.wp_at_zero Go.wp_at_succ
def exS : Bs := [97, 44, 34, 98, 34, 10]
def exD : Dia := ⟨44, 34, 1⟩
def exL : Lim := ⟨9, 9, 9, false⟩
set_option maxHeartbeats 400000 in
theorem hasPrefix_x (w : World) : Calls Try.prog 110 #[sv exS, .string ⟨#[239, 187, 191]⟩] w fun e w' => e = .returned (.bool false) ∧ Keeps [] w w' := by
  unfold exS
  go_enter Try.func110, Try.ntmps110
  go_wp2_with (fail)
  go_ret
  exact ⟨ret_bool (by decide +kernel), Keeps.refl _ _⟩
set_option maxHeartbeats 400000 in
theorem cutPrefix_x (w : World) : Calls Try.prog 106 #[sv exS, .string ⟨#[239, 187, 191]⟩] w fun e w' => e = .returned (.tuple #[sv exS, .bool false]) ∧ Keeps [] w w' := by
  have HP := Lib.hid hasPrefix_x
  generalize exS = s at *
  go_enter Try.func106, Try.ntmps106
  go_wp2_with (fail)
  refine (HP.out _).mono ?_
  rintro e w1 ⟨rfl, k1⟩
  go_wp2_with (fail)
  go_ret2
  exact ⟨rfl, k1⟩
set_option maxHeartbeats 400000 in
theorem cutPrefix_s (w : World) : Calls Try.prog 96 #[sv exS, .string ⟨#[239, 187, 191]⟩] w fun e w' => e = .returned (.tuple #[sv exS, .bool false]) ∧ Keeps [] w w' := by
  have HP := Lib.hid cutPrefix_x
  generalize exS = s at *
  go_enter Try.func96, Try.ntmps96
  go_wp2_with (fail)
  refine (HP.out _).mono ?_
  rintro e w1 ⟨rfl, k1⟩
  go_wp2_with (fail)
  go_ret2
  exact ⟨rfl, k1⟩
set_option maxHeartbeats 400000 in
theorem strip_x (w : World) : Calls Try.prog 76 #[sv exS] w fun e w' => e = .returned (.tuple #[sv exS, .bool false]) ∧ Keeps [] w w' := by
  have HP := Lib.hid cutPrefix_s
  generalize exS = s at *
  go_enter Try.func76, Try.ntmps76
  go_wp2_with (fail)
  refine (HP.out _).mono ?_
  rintro e w1 ⟨rfl, k1⟩
  go_wp2_with (fail)
  go_ret2
  exact ⟨rfl, k1⟩
set_option maxHeartbeats 4000000 in
/-- The closure puts a record behind the others. -/
theorem put_c (w : World) (base g gm gt : Nat) (d : Dia) (sq st : Nat) (m : Mk) (vf vr vq v : Value) (vs : List Value) (recs : Tb) (row : Row) (h : WAt w base g gm gt d sq st m vf vr vq vs recs) (hv : Own w base 9 1 v row.length (row.map sv)) (ha : ∀ k ∈ blkOf v, k ∉ blkOf vr) (hbw : base ≤ w.heap.size) (hl : recs.length ≤ 1000) :
    Calls Try.prog 53 #[v, .pointer (some ⟨gt, 0, none⟩)] w fun e w' => e = .returned (.bool true) ∧ ∃ vq', WAt w' base g gm gt d sq st m vf vr vq' (vs ++ [v]) (recs ++ [row]) ∧ BF base w w' := by
  obtain ⟨iS, hiS, hS0, hS1, hS2⟩ := info_parts Rd.infoStrs
  obtain ⟨vq', w5, hap, hq6, k6, n6⟩ := run_append1 (P := Try.prog) (t := 42) Try.underlying42 hiS hS0 hS1 hS2 rfl h.tab.2.1 (y := v) (by obtain ⟨a, b, rfl, _, _⟩ := hv.form; rfl) (by simp only [maxLen]; omega) (by omega) hbw 42
  have c0 := h.box.cell_of (i := 0) rfl
  have hgl := h.box.lt
  have hq := h.tab.2.1
  have hbx := h.box.keep k6 (fun hm => hq.apartBlk h.box (by decide) _ hm rfl)
  have hwk := h.blk.keep k6 (fun hm => hq.apartBlk h.blk (by decide) _ hm rfl)
  have hmk := h.mka.blk.keep k6 (fun hm => hq.apartBlk h.mka.blk (by decide) _ hm rfl)
  have hf := h.mka.fld.keep k6 (fun x hx hm => h.mka.fld.apart hq (by decide) x hx hm)
  have hr := h.mka.rcd.keep k6 (fun x hx hm => h.mka.rcd.apart hq (by decide) x hx hm)
  have ht := h.tab.push (by decide) hv hq6 k6
  have hb5 : BF base w w5 := ⟨k6.below hbw (fun x hx => (hq.lt x hx).1), fun r cs hb => hb.keep k6 (fun hm => hq.apartBlk hb (by decide) _ hm rfl)⟩
  have k7 := Keeps.setCell w5 ⟨gt, 0, none⟩ vq'
  have hA : WAt (w5.setCell ⟨gt, 0, none⟩ vq') base g gm gt d sq st m vf vr vq' (vs ++ [v]) (recs ++ [row]) := by
    refine ⟨hwk.keep k7 ?_, ⟨hmk.keep k7 ?_, h.mka.low, hf.keep k7 ?_, hr.keep k7 ?_⟩, ht.keep k7 ?_, ?_, hbx.set_ 0 vq', h.low⟩
    · intro hm; simp only [List.mem_singleton] at hm; exact hwk.ne_ hbx (by decide) hm
    · intro hm; simp only [List.mem_singleton] at hm; exact hmk.ne_ hbx (by decide) hm
    · intro x hx hm; simp only [List.mem_singleton] at hm; exact hf.apartBlk hbx (by decide) x hx hm
    · intro x hx hm; simp only [List.mem_singleton] at hm; exact hr.apartBlk hbx (by decide) x hx hm
    · intro x hx hm; simp only [List.mem_singleton] at hm; exact OTb.apartB ht hbx (by decide) (by decide) x hx hm
    · intro x hx
      simp only [List.flatMap_append, List.mem_append, List.flatMap_cons, List.flatMap_nil, List.append_nil] at hx
      rcases hx with hx | hx
      · exact h.ap x hx
      · exact ha x hx
  have hb6 : BF base w (w5.setCell ⟨gt, 0, none⟩ vq') := hb5.trans (BF.cell (i := 0) hbx (by decide) h.low.2 (Nat.le_trans hbw hb5.size) vq')
  have e0 := hbx.cell_of (i := 0) rfl
  have f0 := hbx.frozen (i := 0) (by simp)
  have hgx := hbx.lt
  obtain ⟨A8, c8, rfl, _, _⟩ := hq6.form
  obtain ⟨A9, c9, rfl, _, _⟩ := hv.form
  have HA := Lib.hid hA
  have HB := Lib.hid hb6
  clear hA hb6 hbx hwk hmk hf hr ht hb5 k7 k6 n6 hq6 h hv ha hq hiS hS0 hS1 hS2
  go_enter Try.func53, Try.ntmps53
  go_wp2_with (with_reducible refine wpList_append hap _ _ rfl rfl rfl rfl rfl ?_)
  go_ret
  exact ⟨rfl, _, HA.out, HB.out⟩
end Go.Proofs.Ytbjejmdbpikgjaa.Wh
namespace Go.Proofs.Ytbjejmdbpikgjaa.Wh
set_option linter.unusedVariables false
set_option linter.unusedSimpArgs false
set_option maxRecDepth 100000
open Go.RowKit Q Mach Dia Scan Ref4 Fld Limits
attribute [local go_sem ↓] Go.wp_at_zero Go.wp_at_succ
set_option maxHeartbeats 4000000 in
theorem end_c (w : World) (base g gm gt : Nat) (d : Dia) (st : Nat) (m : Mk) (vf vr vq : Value) (vs : List Value) (recs : Tb) (h : WAt w base g gm gt d 0 st m vf vr vq vs recs) (hm : Fine m) (hst : st ≤ 6) (hk : (closeEv st).2 = 0) (h0 : (take m (closeEv st).1).2.2 = 0) (hbw : base ≤ w.heap.size) :
    Calls Try.prog 78 #[.pointer (some ⟨g, 0, none⟩)] w (WGot w base g gm gt d 0 st (take m (closeEv st).1).1 (take m (closeEv st).1).2.1 vq vs recs) := by
  have HS := Lib.hid (fun w => Scan.close_c st hst w)
  have HF := Lib.hid hm
  have c4 := h.blk.cell_of (i := 4) rfl
  have c5 := h.blk.cell_of (i := 5) rfl
  have hgl := h.blk.lt
  have HB := Lib.hid h
  have HB0 := Lib.hid hbw
  obtain ⟨X, hX⟩ : ∃ X, closeEv st = X := ⟨_, rfl⟩
  rw [hX] at HS hk h0 ⊢
  obtain ⟨⟨e1, e2, e3, e4, e5, e6⟩, r⟩ := X
  dsimp only at hk h0 ⊢
  subst hk
  have HT0 := Lib.hid h0
  clear hX h hm hst h0 hbw
  simp only [closeV] at HS
  go_enter Try.func78, Try.ntmps78
  go_wp2_with (fail)
  refine (HS.out _).mono ?_
  rintro e w1 ⟨rfl, k1⟩
  have h1 := HB.out.keep k1
  have hE := Blk.new w1 117 [.bool e1, .bool e2, .bool e3, .bool e4, .bool e5, bv e6]
  have h2 := h1.keep (Keeps.alloc [] w1 (.cells #[.bool e1, .bool e2, .bool e3, .bool e4, .bool e5, bv e6] 117))
  have k2 := k1.alloc1 (.cells #[.bool e1, .bool e2, .bool e3, .bool e4, .bool e5, bv e6] 117)
  have H3 := Lib.hid h2
  have K3 := Lib.hid k2
  have HX3 := Lib.hid hE
  clear c4 c5 hgl h1 k1 HS h2 hE k2 HB
  go_upto_region 6 with (fail)
  generalize w1.alloc (.cells #[.bool e1, .bool e2, .bool e3, .bool e4, .bool e5, bv e6] 117) = wy at *
  generalize w1.heap.size = g1 at *
  have c3 := H3.out.blk.cell_of (i := 3) rfl
  have q0 := HX3.out.cell_of (i := 0) rfl
  have q1 := HX3.out.cell_of (i := 1) rfl
  have q2 := HX3.out.cell_of (i := 2) rfl
  have q3 := HX3.out.cell_of (i := 3) rfl
  have q4 := HX3.out.cell_of (i := 4) rfl
  have q5 := HX3.out.cell_of (i := 5) rfl
  have h4 := H3.out.keep (Keeps.drew [] wy)
  have HT : Hid (Calls Try.prog 59 #[.pointer (some ⟨gm, 0, none⟩), evV ⟨e1, e2, e3, e4, e5, e6⟩] wy.drew (WGot wy.drew base g gm gt d 0 st (take m ⟨e1, e2, e3, e4, e5, e6⟩).1 (take m ⟨e1, e2, e3, e4, e5, e6⟩).2.1 vq vs recs)) :=
    Lib.hid ((take_c base gm 82 [] [] m vf vr ⟨e1, e2, e3, e4, e5, e6⟩ wy.drew h4.mka ⟨by decide, by decide, by decide⟩ HF.out).mono fun r w' hp => h4.take HT0.out hp)
  have HD := Lib.hid (show BF base w wy.drew from BF.of K3.out.drew1 HB0.out)
  clear h4
  go_region_law (first
    | (refine step_call HT.out Try.func59 ⟨by kernel_rfl, by kernel_rfl⟩ _ _ rfl rfl rfl ?_; rintro e w4 ⟨v, vf9, vr9, rfl, hg⟩; have HG := Lib.hid hg; clear hg; refine ⟨_, rfl, ?_⟩))
  all_goals
    go_wp2_with (fail)
    go_ret3
    go_simp
    exact WGot.after HD.out ⟨v, vf9, vr9, rfl, HG.out⟩
/-! ### The example -/
def m6 : Mk := ⟨exL, [], [], 1, 1, 2, 0⟩
theorem ex_wk : Rdp.wk exD 0 0 (mk0 exL) exS 0 = ⟨0, 0, m6, [[[97], [98]]], 0, 0⟩ := by kernel_rfl
theorem wk_step {d : Dia} {sq st : Nat} {m : Mk} {c : UInt8} {r : Bs} {i : Nat} (h : (Rdp.wk d sq st m (c :: r) i).kind = 0) :
    (Rdp.stp d sq st m c).kind = 0 ∧ Rdp.wk d sq st m (c :: r) i = (Rdp.wk d (Rdp.stp d sq st m c).sq (Rdp.stp d sq st m c).st (Rdp.stp d sq st m c).mm r (i + 1)).pre (Rdp.stp d sq st m c).o.toList := by
  rw [Rdp.wk] at h ⊢
  split at h
  · rename_i h1; exact absurd h h1
  · rename_i h1
    rw [if_neg h1]
    exact ⟨by simpa using h1, rfl⟩
theorem fine_n {k : Nat} {m : Mk} (h : Upto k exL m) (hk : k ≤ 100) : Fine m := h.fine (by omega) (by decide) (by decide) (by decide)
structure XMid (w : World) (base g gm gt : Nat) (d : Dia) (k sq st : Nat) (m : Mk) (vf vr vq : Value) (vs : List Value) (rs : Tb) : Prop where
  a : WAt w base g gm gt d sq st m vf vr vq vs rs
  w : Rdp.wk d 0 0 (mk0 exL) exS 0 = (Rdp.wk d sq st m (exS.drop k) k).pre rs
  u : Upto k exL m
  q : sq ≤ 7
  t : st ≤ 6
  r : rs.length ≤ k
theorem XMid.next {w : World} {base g gm gt k sq st : Nat} {d : Dia} {m : Mk} {vf vr vq : Value} {vs : List Value} {rs : Tb} (hd : d = exD) (h : XMid w base g gm gt d k sq st m vf vr vq vs rs) (hk : k < exS.length) (x : Rdp.Sp) (hx : Rdp.stp d sq st m exS[k] = x) :
    x.kind = 0 ∧ ∀ w' vf' vr' vq' vs', WAt w' base g gm gt d x.sq x.st x.mm vf' vr' vq' vs' (rs ++ x.o.toList) → XMid w' base g gm gt d (k + 1) x.sq x.st x.mm vf' vr' vq' vs' (rs ++ x.o.toList) := by
  have h1 := h.w
  have h2 : (Rdp.wk d sq st m (exS.drop k) k).kind = 0 := by
    have h3 : ((Rdp.wk d sq st m (exS.drop k) k).pre rs).kind = 0 := by rw [← h1, hd, ex_wk]
    exact h3
  have h4 := Rd.stp_ok (d := d) exS[k] h.u h.q h.t
  rw [List.drop_eq_getElem_cons hk] at h1 h2
  obtain ⟨a, b⟩ := wk_step h2
  rw [b, Rdp.Wk.pre_pre] at h1
  rw [hx] at a h1 h4
  have h5 := h.r
  have h6 : x.o.toList.length ≤ 1 := by cases x.o <;> simp
  exact ⟨a, fun w' vf' vr' vq' vs' hA => ⟨hA, h1, h4.1, h4.2.1, h4.2.2, by rw [List.length_append]; omega⟩⟩
theorem XMid.done {w : World} {base g gm gt sq st : Nat} {d : Dia} {m : Mk} {vf vr vq : Value} {vs : List Value} {rs : Tb} (hd : d = exD) (h : XMid w base g gm gt d exS.length sq st m vf vr vq vs rs) : sq = 0 ∧ st = 0 ∧ m = m6 ∧ rs = [[[97], [98]]] := by
  have h1 := h.w
  rw [List.drop_length, hd, ex_wk, Rdp.wk] at h1
  simp only [Rdp.Wk.pre, List.append_nil] at h1
  injection h1 with a b c e
  exact ⟨a.symm, b.symm, c.symm, e.symm⟩
set_option maxHeartbeats 8000000 in
theorem walk_x (d : Dia) (hd : d = exD) (w : World) (base gt : Nat) (hbox : Blk w gt 42 [.slice none 0 0]) (hgt : base ≤ gt) (hbw : base ≤ w.heap.size) :
    Calls Try.prog 52 #[diaV d, limV 9 9 9 false, sv exS, .func (.func 53) #[] #[.pointer (some ⟨gt, 0, none⟩)]] w fun e w' => e = .returned (.agg #[.int .i64 0, .int .i64 0]) ∧ ∃ vq vs, OTb w' base 65 9 vq vs [[[97], [98]]] ∧ Blk w' gt 42 [vq] ∧ Below base w w' := by
  have HC := Lib.hid (fun w => check_c d w)
  have HN : Hid (∀ w, Calls Try.prog 33 #[limV 9 9 9 false] w (NewPost exL w)) := Lib.hid (fun w => Fld.new_c exL (by decide) (by decide) (by decide) w)
  have HST := Lib.hid strip_x
  have kp := ((Keeps.alloc [] w (.cells #[bv d.delim, bv d.quote, .int .i64 d.fin] 23)).alloc1 (.cells #[.int .i64 9, .int .i64 9, .int .i64 9, .bool false] 25)).alloc1 (.cells #[.int .i64 0, .int .i64 0] 35)
  have hb0 := ((Blk.new w 23 [bv d.delim, bv d.quote, .int .i64 d.fin]).alloc (.cells #[.int .i64 9, .int .i64 9, .int .i64 9, .bool false] 25)).alloc (.cells #[.int .i64 0, .int .i64 0] 35)
  have hb1 := (Blk.new (w.alloc (.cells #[bv d.delim, bv d.quote, .int .i64 d.fin] 23)) 25 [.int .i64 9, .int .i64 9, .int .i64 9, .bool false]).alloc (.cells #[.int .i64 0, .int .i64 0] 35)
  have hb2 := Blk.new ((w.alloc (.cells #[bv d.delim, bv d.quote, .int .i64 d.fin] 23)).alloc (.cells #[.int .i64 9, .int .i64 9, .int .i64 9, .bool false] 25)) 35 [.int .i64 0, .int .i64 0]
  simp only [World.size_alloc] at hb1 hb2
  have hbx := hbox.keep kp (by simp)
  have hr : d.right = true := by rw [hd]; decide
  rw [hr] at HC
  have HDX := Lib.hid hd
  clear hr hd hbox
  obtain ⟨x, y, z⟩ := d
  go_enter Try.func52, Try.ntmps52
  go_upto_region 1 with (fail)
  generalize ((w.alloc (.cells #[bv x, bv y, .int .i64 z] 23)).alloc (.cells #[.int .i64 9, .int .i64 9, .int .i64 9, .bool false] 25)).alloc (.cells #[.int .i64 0, .int .i64 0] 35) = w0 at *
  have c0 := hb0.cell_of (i := 0) rfl
  have c1 := hb0.cell_of (i := 1) rfl
  have c2 := hb0.cell_of (i := 2) rfl
  have H1 := Lib.hid hb1; have H2 := Lib.hid hb2; have HX := Lib.hid hbx; have KP := Lib.hid kp; have H0 := Lib.hid hb0
  clear hb1 hb2 hbx kp hb0
  go_step3
  go_wp2_with (fail)
  refine (HC.out _).mono ?_
  rintro e w1 ⟨rfl, k1⟩
  clear c0 c1 c2 HC
  have e0 := (H1.out.keep k1 (by simp)).cell_of (i := 0) rfl
  have e1 := (H1.out.keep k1 (by simp)).cell_of (i := 1) rfl
  have e2 := (H1.out.keep k1 (by simp)).cell_of (i := 2) rfl
  have e3 := (H1.out.keep k1 (by simp)).cell_of (i := 3) rfl
  go_wp2_with (fail)
  refine (HN.out _).mono ?_
  rintro e w2 ⟨gm, rfl, hM, k2⟩
  have k12 := k1.trans k2 (by simp)
  have hb0 := H0.out.keep k12 (by simp)
  have c0 := hb0.cell_of (i := 0) rfl
  have c1 := hb0.cell_of (i := 1) rfl
  have c2 := hb0.cell_of (i := 2) rfl
  have hs1 := k1.size
  have hs0 := KP.out.size
  have hbw2 : base ≤ w2.heap.size := by have := k2.size; omega
  have hblk := Blk.new w2 142 [bv x, bv y, .int .i64 z, .pointer (some ⟨gm, 0, none⟩), .int .i64 0, .int .i64 0]
  have ka := Keeps.alloc [] w2 (.cells #[bv x, bv y, .int .i64 z, .pointer (some ⟨gm, 0, none⟩), .int .i64 0, .int .i64 0] 142)
  have hA : WAt (w2.alloc (.cells #[bv x, bv y, .int .i64 z, .pointer (some ⟨gm, 0, none⟩), .int .i64 0, .int .i64 0] 142)) base w2.heap.size gm gt ⟨x, y, z⟩ 0 0 (mk0 exL) (.slice none 0 0) (.slice none 0 0) (.slice none 0 0) [] [] := by
    have hM2 := hM.keep ka
    exact ⟨hblk, ⟨hM2.blk, by have := hM.low; omega, hM2.fld.less (by omega), hM2.rcd.less (by omega)⟩, OTb.nil_ _ _ _ _, by simp, (HX.out.keep k12 (by simp)).keep ka (by simp), hbw2, hgt⟩
  have hbf := (H2.out.keep k12 (by simp)).keep ka (by simp)
  have kk := (KP.out.trans k12 (by simp)).trans ka (by simp)
  have hmid : XMid _ base w2.heap.size gm gt ⟨x, y, z⟩ 0 0 0 (mk0 exL) (.slice none 0 0) (.slice none 0 0) (.slice none 0 0) [] [] := ⟨hA, by simp [Rdp.Wk.pre_nil], upto0 exL, by omega, by omega, by simp⟩
  have HMID := Lib.hid hmid
  have HBF := Lib.hid hbf
  have KK := Lib.hid kk
  clear e0 e1 e2 e3 hblk ka hA hbf kk hM k12 hb0 k1 k2 HN H0 H1 H2 HX KP hmid hbw2 hs1 hs0
  go_wp2_with (fail)
  refine (HST.out _).mono ?_
  generalize w2.alloc (.cells #[bv x, bv y, .int .i64 z, .pointer (some ⟨gm, 0, none⟩), .int .i64 0, .int .i64 0] 142) = w3 at *
  generalize w2.heap.size = g at *
  rintro e w4 ⟨rfl, k4⟩
  have hmid := HMID.out
  have HMID4 := Lib.hid (show XMid w4 base g gm gt ⟨x, y, z⟩ 0 0 0 (mk0 exL) (.slice none 0 0) (.slice none 0 0) (.slice none 0 0) [] [] from ⟨hmid.a.keep k4, hmid.w, hmid.u, hmid.q, hmid.t, hmid.r⟩)
  have hbf := HBF.out.keep k4 (by simp)
  have hk4 := KK.out.trans k4 (by simp)
  have HBW := Lib.hid (show Below base w w4 from hk4.below hbw (by simp))
  have HBF4 := Lib.hid hbf
  clear hmid HMID HBF KK k4 HST c0 c1 c2 hbf hk4
  go_wp2_with (fail)
  go_step3
  go_wp2_with (fail)
  go_loopw [15, 16] (fun i e wr => ∃ (k sq st : Nat) (m : Mk) (vf vr vq : Value) (vs : List Value) (rs : Tb), k ≤ exS.length ∧ i = .int .i64 k ∧ e = .int .i64 0 ∧ XMid wr base g gm gt ⟨x, y, z⟩ k sq st m vf vr vq vs rs ∧ Blk wr (w.heap.size + 1 + 1) 35 [.int .i64 0, .int .i64 0] ∧ Below base w wr) (fun i _ _ => exS.length - (intOf i).toNat)
  case atStart => exact ⟨0, 0, 0, _, _, _, _, _, _, Nat.zero_le _, rfl, rfl, HMID4.out, HBF4.out, HBW.out⟩
  case round =>
    obtain ⟨k, sq, st, m, vf, vr, vq, vs, rs, hk, rfl, rfl, hX, hB, hW⟩ := hrel
    clear HMID4 HBF4 HBW
    by_cases hlt : k < exS.length
    · have hi := str_idx (P := Try.prog) Try.underlying9 exS k exS[k] (List.getElem?_eq_getElem hlt)
      obtain ⟨X, hX2⟩ : ∃ X, Rdp.stp ⟨x, y, z⟩ sq st m exS[k] = X := ⟨_, rfl⟩
      obtain ⟨hk0, hnx⟩ := XMid.next HDX.out hX hlt X hX2
      have hkl : (k : Int) < (exS.length : Int) := by omega
      have hk00 : (0 : Int) ≤ (k : Int) := by omega
      have hbwr : base ≤ wr.heap.size := Nat.le_trans hbw hW.size
      have hl6 : exS.length = 6 := rfl
      have hk6 : k < 6 := by omega
      have HS := Lib.hid (step_c wr base g gm gt ⟨x, y, z⟩ sq st m vf vr vq vs rs exS[k] hX.a (fine_n hX.u (by omega)) hX.q hX.t X hX2 hk0 hbwr)
      have HNX := Lib.hid hnx
      have hrl := hX.r
      have HB := Lib.hid hB
      have HW := Lib.hid hW
      clear hX2 hnx hX hB hW hl6
      generalize exS[k] = bk at *
      obtain ⟨q', t', m', o, r⟩ := X
      simp only at hk0 HS
      subst hk0
      go_wp2_with (fail)
      with_reducible refine HS.out.mono ?_
      rintro e w5 ⟨v, vf5, vr5, rfl, hv5, hn5, ha5, hA5, hB5⟩
      have hBr := hB5.f _ _ HB.out
      have hWr := HW.out.trans hB5.b
      have hbw5 : base ≤ w5.heap.size := Nat.le_trans hbwr hB5.size
      cases o with
      | none =>
        have HX9 := Lib.hid (HNX.out w5 vf5 vr5 vq vs (by simpa using hA5))
        have hv9 := hn5 rfl
        subst hv9
        have HB9 := Lib.hid hBr
        have HW9 := Lib.hid hWr
        clear hn5 hv5 ha5 hA5 hB5 hBr hWr
        go_wp2_with (fail)
        go_roundw
        case rel => exact ⟨k + 1, _, _, _, _, _, _, _, _, by omega, by go_num, rfl, HX9.out, HB9.out, HW9.out⟩
        case measure => simp [intOf]; omega
      | some row =>
        simp only [Option.getD_some] at hv5
        have HPT := Lib.hid (put_c w5 base g gm gt ⟨x, y, z⟩ q' t' m' vf5 vr5 vq v vs rs row hA5 hv5 ha5 hbw5 (by omega))
        have HB9 := Lib.hid hBr
        have HW9 := Lib.hid hWr
        obtain ⟨A9, c9, rfl, _, _⟩ := hv5.form
        clear hn5 hv5 ha5 hA5 hB5 hBr hWr
        go_wp2_with (fail)
        with_reducible refine HPT.out.mono ?_
        rintro e w6 ⟨rfl, vq9, hA6, hB6⟩
        have HX9 := Lib.hid (HNX.out w6 vf5 vr5 vq9 _ hA6)
        have HB8 := Lib.hid (hB6.f _ _ HB9.out)
        have HW8 := Lib.hid (HW9.out.trans hB6.b)
        clear hA6 hB6 HB9 HW9 HPT
        go_wp2_with (fail)
        go_roundw
        case rel => exact ⟨k + 1, _, _, _, _, _, _, _, _, by omega, by go_num, rfl, HX9.out, HB8.out, HW8.out⟩
        case measure => simp [intOf]; omega
    · obtain rfl : k = exS.length := by omega
      have hkl : ¬ ((exS.length : Int) < (exS.length : Int)) := by omega
      obtain ⟨rfl, rfl, rfl, rfl⟩ := XMid.done HDX.out hX
      have HE := Lib.hid (end_c wr base g gm gt ⟨x, y, z⟩ 0 m6 vf vr vq vs _ hX.a (fine_n hX.u (by decide)) (by omega) (by rfl) (by rfl) (Nat.le_trans hbw hW.size))
      have HB := Lib.hid hB
      have HW := Lib.hid hW
      clear hX hB hW
      go_wp2_with (fail)
      with_reducible refine HE.out.mono ?_
      rintro e w5 ⟨v, vf5, vr5, rfl, hv5, hn5, ha5, hA5, hB5⟩
      have hv9 := hn5 rfl
      subst hv9
      have hBr := hB5.f _ _ HB.out
      have r0 := hBr.cell_of (i := 0) rfl
      have r1 := hBr.cell_of (i := 1) rfl
      have s0 := hBr.frozen (i := 0) (by simp)
      have s1 := hBr.frozen (i := 1) (by simp)
      have hrl := hBr.lt
      have k6 := (Keeps.setCell w5 ⟨w.heap.size + 1 + 1, 0, none⟩ (.int .i64 0)).set1 ⟨w.heap.size + 1 + 1, 1, none⟩ (.int .i64 0) (by simp)
      have hT6 := hA5.tab.keep k6 (fun z hz hm => by simp only [List.mem_singleton] at hm; exact OTb.apartB hA5.tab hBr (by decide) (by decide) z hz hm)
      have hX6 := hA5.box.keep k6 (fun hm => by simp only [List.mem_singleton] at hm; exact hA5.box.ne_ hBr (by decide) hm)
      have HT6 := Lib.hid hT6
      have HX6 := Lib.hid hX6
      have HW6 := Lib.hid ((HW.out.trans hB5.b).trans (k6.below (Nat.le_trans hbw (Nat.le_trans HW.out.size hB5.size)) (by simp; omega)))
      clear hv5 hn5 ha5 hA5 hB5 hBr k6 hT6 hX6 HE HB HW
      go_wp2_with (fail)
      try rw [Exit.noGoto_ret]
      refine bodyPost_ret (v := .agg #[.int .i64 0, .int .i64 0]) (by simp [results, Try.results52, go_sem, r0, r1, s0, s1]) rfl ⟨rfl, vq, vs, ?_⟩
      exact ⟨HT6.out, HX6.out, HW6.out⟩
end Go.Proofs.Ytbjejmdbpikgjaa.Wh
namespace Go.Proofs.Ytbjejmdbpikgjaa.Wh
set_option linter.unusedVariables false
set_option linter.unusedSimpArgs false
set_option maxRecDepth 100000
open Go.RowKit Q Mach Dia Scan Ref4 Fld Limits
attribute [local go_sem ↓] Go.wp_at_zero Go.wp_at_succ
set_option maxHeartbeats 4000000 in
theorem parse_x (d : Dia) (hd : d = exD) (w : World) :
    Calls Try.prog 31 #[diaV d, limV 9 9 9 false, sv exS] w fun e w' => ∃ vq vs, e = .returned (.tuple #[vq, .agg #[.int .i64 0, .int .i64 0]]) ∧ OTb w' w.heap.size 65 9 vq vs [[[97], [98]]] ∧ Below w.heap.size w w' := by
  have HWX := Lib.hid (fun w base gt h1 h2 h3 => walk_x d hd w base gt h1 h2 h3)
  have kp := (((Keeps.alloc [] w (.cells #[bv d.delim, bv d.quote, .int .i64 d.fin] 23)).alloc1 (.cells #[.int .i64 9, .int .i64 9, .int .i64 9, .bool false] 25)).alloc1 (.cells #[.int .i64 0, .int .i64 0] 35)).alloc1 (.cells #[.slice none 0 0] 42)
  have hb0 := (((Blk.new w 23 [bv d.delim, bv d.quote, .int .i64 d.fin]).alloc (.cells #[.int .i64 9, .int .i64 9, .int .i64 9, .bool false] 25)).alloc (.cells #[.int .i64 0, .int .i64 0] 35)).alloc (.cells #[.slice none 0 0] 42)
  have hb1 := ((Blk.new (w.alloc (.cells #[bv d.delim, bv d.quote, .int .i64 d.fin] 23)) 25 [.int .i64 9, .int .i64 9, .int .i64 9, .bool false]).alloc (.cells #[.int .i64 0, .int .i64 0] 35)).alloc (.cells #[.slice none 0 0] 42)
  have hb2 := (Blk.new ((w.alloc (.cells #[bv d.delim, bv d.quote, .int .i64 d.fin] 23)).alloc (.cells #[.int .i64 9, .int .i64 9, .int .i64 9, .bool false] 25)) 35 [.int .i64 0, .int .i64 0]).alloc (.cells #[.slice none 0 0] 42)
  have hb3 := Blk.new (((w.alloc (.cells #[bv d.delim, bv d.quote, .int .i64 d.fin] 23)).alloc (.cells #[.int .i64 9, .int .i64 9, .int .i64 9, .bool false] 25)).alloc (.cells #[.int .i64 0, .int .i64 0] 35)) 42 [.slice none 0 0]
  simp only [World.size_alloc] at hb1 hb2 hb3
  have hsz : ((((w.alloc (.cells #[bv d.delim, bv d.quote, .int .i64 d.fin] 23)).alloc (.cells #[.int .i64 9, .int .i64 9, .int .i64 9, .bool false] 25)).alloc (.cells #[.int .i64 0, .int .i64 0] 35)).alloc (.cells #[.slice none 0 0] 42)).heap.size = w.heap.size + 4 := by simp
  clear hd
  obtain ⟨x, y, z⟩ := d
  go_enter Try.func31, Try.ntmps31
  go_upto_region 2 with (fail)
  generalize (((w.alloc (.cells #[bv x, bv y, .int .i64 z] 23)).alloc (.cells #[.int .i64 9, .int .i64 9, .int .i64 9, .bool false] 25)).alloc (.cells #[.int .i64 0, .int .i64 0] 35)).alloc (.cells #[.slice none 0 0] 42) = w0 at *
  have c0 := hb0.cell_of (i := 0) rfl
  have c1 := hb0.cell_of (i := 1) rfl
  have c2 := hb0.cell_of (i := 2) rfl
  have e0 := hb1.cell_of (i := 0) rfl
  have e1 := hb1.cell_of (i := 1) rfl
  have e2 := hb1.cell_of (i := 2) rfl
  have e3 := hb1.cell_of (i := 3) rfl
  have HW := Lib.hid (HWX.out w0 (w.heap.size + 3) (w.heap.size + 1 + 1 + 1) hb3 (by omega) (by omega))
  have HB2 := Lib.hid hb2
  have KP := Lib.hid kp
  have hmf : ∀ (fn : Fn) (first cap : Array Value) (w : World), (Instr.makeFunc fn first cap).run Try.prog w = .ok (.func fn first cap) w := fun _ _ _ _ => rfl
  have HSZ := Lib.hid hsz
  clear hb0 hb1 hb2 hb3 kp HWX hsz
  go_wp2_with (fail)
  clear hmf
  refine HW.out.mono ?_
  rintro e w1 ⟨rfl, vq, vs, hT, hX, hB⟩
  clear c0 c1 c2 e0 e1 e2 e3
  have ka := Keeps.alloc [] w1 (.cells #[.int .i64 0, .int .i64 0] 35)
  have hb9 := Blk.new w1 35 [.int .i64 0, .int .i64 0]
  have hT2 := hT.keep ka (by simp)
  have hX2 := hX.keep ka (by simp)
  have hb2 := (HB2.out.below hB (by omega)).keep ka (by simp)
  have hB2 := (KP.out.below (Nat.le_refl _) (by simp)).trans ((hB.mono (by omega)).trans (ka.below (by have := hB.size; have := HSZ.out; omega) (by simp)))
  have hl1 := hX2.lt
  have hl2 := hb2.lt
  have HT2 := Lib.hid hT2
  have HB3 := Lib.hid hB2
  have HN2 := Lib.hid (fun z (hz : z ∈ tblks vq vs) => OTb.apartB hT2 hb2 (by decide) (by decide) z hz)
  clear hT hX hB HB2 KP HSZ hT2 hB2 HW
  go_upto_region 3 with (fail)
  generalize w1.alloc (.cells #[.int .i64 0, .int .i64 0] 35) = w2 at *
  generalize w1.heap.size = r9 at *
  have d0 := hX2.cell_of (i := 0) rfl
  have q0 := hb9.cell_of (i := 0) rfl
  have q1 := hb9.cell_of (i := 1) rfl
  have r0 := hb2.cell_of (i := 0) rfl
  have r1 := hb2.cell_of (i := 1) rfl
  have s0 := hb2.frozen (i := 0) (by simp)
  have s1 := hb2.frozen (i := 1) (by simp)
  clear hX2 hb9 hb2 ka
  obtain ⟨A, c, rfl, hn, hm⟩ := HT2.out.2.1.form
  go_region
  all_goals
    go_wp2_with (fail)
    refine bodyPost_ret (v := .tuple #[.slice A 1 c, .agg #[.int .i64 0, .int .i64 0]]) (by simp [results, Try.results31, go_sem, r0, r1, s0, s1]) rfl ⟨_, vs, rfl, ?_, ?_⟩
    · exact (HT2.out.keep (((Keeps.setCell w2 ⟨w.heap.size + 1 + 1, 0, none⟩ (.int .i64 0)).set1 ⟨w.heap.size + 1 + 1, 1, none⟩ (.int .i64 0) (by simp)).drew1) (fun z hz hm => by simp only [List.mem_singleton] at hm; exact HN2.out z hz hm)).less (by omega)
    · exact HB3.out.trans ((((Keeps.setCell w2 ⟨w.heap.size + 1 + 1, 0, none⟩ (.int .i64 0)).set1 ⟨w.heap.size + 1 + 1, 1, none⟩ (.int .i64 0) (by simp)).drew1).below (by omega) (by simp; omega))
set_option maxHeartbeats 4000000 in
theorem alive_c (w : World) : Calls Try.prog 9 #[] w fun e w' => e = .returned (.bool true) ∧ Keeps [] w w' := by
  have HP : Hid (∀ w, Calls Try.prog 31 #[.agg #[.int .u8 44, .int .u8 34, .int .i64 1], .agg #[.int .i64 9, .int .i64 9, .int .i64 9, .bool false], .string ⟨#[97, 44, 34, 98, 34, 10]⟩] w fun e w' => ∃ vq vs, e = .returned (.tuple #[vq, .agg #[.int .i64 0, .int .i64 0]]) ∧ OTb w' w.heap.size 65 9 vq vs [[[97], [98]]] ∧ Below w.heap.size w w') :=
    Lib.hid (fun w => parse_x exD rfl w)
  go_enter Try.func9, Try.ntmps9
  go_wp2_with (fail)
  refine (HP.out _).mono ?_
  rintro e w1 ⟨vq, vs, rfl, hT, hB⟩
  have ht := (hT.tbl (Nat.le_refl _)).keepB (Keeps.alloc [] w1 (.cells #[.int .i64 0, .int .i64 0] 35)) (by simp)
  have hb := Blk.new w1 35 [.int .i64 0, .int .i64 0]
  have r0 := hb.cell_of (i := 0) rfl
  have r1 := hb.cell_of (i := 1) rfl
  obtain ⟨A, c, rfl, _, _⟩ := hT.2.1.form
  obtain ⟨b, o, A', c', rfl, hb1, hc1, hrd⟩ := ht.at_ (k := 0) (by decide)
  obtain ⟨b2, o2, u2, rfl, hb2, hu2, hc2⟩ := hrd.at_ (k := 1) (by decide)
  obtain rfl : u2 = sv [98] := (Option.some.inj hu2).symm
  rw [Nat.add_zero] at hc1
  have k := Keeps.of_below hB []
  have HK := Lib.hid (k.alloc1 (.cells #[.int .i64 0, .int .i64 0] 35))
  simp only [List.length_cons, List.length_nil, Nat.reduceAdd, List.getElem_cons_zero] at hc1
  clear hT hB ht hb hrd hu2 k HP
  go_wp2_with (fail)
  go_ret
  exact ⟨rfl, HK.out⟩
end Go.Proofs.Ytbjejmdbpikgjaa.Wh
namespace Go.Proofs.Ytbjejmdbpikgjaa.Rd
set_option linter.unusedVariables false
set_option linter.unusedSimpArgs false
set_option maxRecDepth 100000
open Mach Gram Par Fld
def rs0 (l : Lim) : Rs := ⟨Bom.s0, mk0 l, 0, 0, 0, [], 0, 0, 0, false⟩
theorem ok0 (l : Lim) : Ok l 0 (rs0 l) := ⟨Bom.s0_ok, fun _ => rfl, upto0 l, by simp [rs0, Bom.s0], by simp [rs0], by simp [rs0], fun _ => rfl, by simp [rs0]⟩
/-- The reader that was fed p at once. -/
def R (d : Dia) (l : Lim) (p : Bs) : Rs := feedS d (rs0 l) p
def W (d : Dia) (l : Lim) (p : Bs) : Rdp.Wk := Rdp.wk d 0 0 (mk0 l) (Bom.feedOut Bom.s0 p) (p.length - (Bom.feedOut Bom.s0 p).length)
theorem R_eq (d : Dia) (l : Lim) (p : Bs) : R d l p = ⟨Bom.feedSt Bom.s0 p, (W d l p).mm, (W d l p).sq, (W d l p).st, p.length, (W d l p).recs, 0, (W d l p).kind, (W d l p).pl, false⟩ := by
  unfold R feedS
  rw [if_neg (by simp [rs0])]
  simp [walkS, feedIn, rs0, W]
theorem out_past {p : Bs} (h : Bom.feedOut Bom.s0 p ≠ []) : (Bom.feedSt Bom.s0 p).past = true ∧ (Bom.feedSt Bom.s0 p).held = 0 ∧ (Bom.feedOut Bom.s0 p).length ≤ p.length := by
  have h2 := Bom.feedSt_ok Bom.s0_ok p
  have h3 := feed_len Bom.s0 p
  have hp : (Bom.feedSt Bom.s0 p).past = true := by
    cases hh : (Bom.feedSt Bom.s0 p).past
    · exfalso
      apply h
      unfold Bom.feedSt at hh
      unfold Bom.feedOut
      simp only [Bom.s0, Bool.false_eq_true, if_false] at hh ⊢
      exact ((Bom.go_append p [] 0).1 hh).2.1
    · rfl
  refine ⟨hp, h2.2.1 hp, ?_⟩
  have : Bom.s0.held = 0 := rfl
  omega
theorem feedSt_cl (p : Bs) : (Bom.feedSt Bom.s0 p).closed = false := Bom.feedSt_closed rfl p
/-- Two readers of which the same will be told. -/
def Sim (S T : Rs) : Prop := S = T ∨ (S.kind ≠ 0 ∧ S.kind = T.kind ∧ S.pl = T.pl ∧ S.recs = T.recs ∧ S.handed = T.handed ∧ S.cl = T.cl)
theorem W_append (d : Dia) (l : Lim) (p b : Bs) :
    (((W d l p).kind ≠ 0 → W d l (p ++ b) = W d l p)) ∧
    ((W d l p).kind = 0 → W d l (p ++ b) = (Rdp.wk d (W d l p).sq (W d l p).st (W d l p).mm (Bom.feedOut (Bom.feedSt Bom.s0 p) b) (p.length + b.length - (Bom.feedOut (Bom.feedSt Bom.s0 p) b).length)).pre (W d l p).recs) := by
  obtain ⟨h1, h2⟩ := Bom.feed_append p b
  have hw : W d l (p ++ b) = Rdp.wk d 0 0 (mk0 l) (Bom.feedOut Bom.s0 p ++ Bom.feedOut (Bom.feedSt Bom.s0 p) b) (p.length + b.length - ((Bom.feedOut Bom.s0 p).length + (Bom.feedOut (Bom.feedSt Bom.s0 p) b).length)) := by
    unfold W
    rw [← h2, List.length_append, List.length_append]
  rw [hw, Rdp.wk_append]
  by_cases ho : Bom.feedOut Bom.s0 p = []
  · have hW : W d l p = ⟨0, 0, mk0 l, [], 0, 0⟩ := by unfold W; rw [ho]; rfl
    rw [hW, ho]
    refine ⟨fun h => absurd rfl h, fun _ => ?_⟩
    simp [Rdp.wk]
  · obtain ⟨hp, hh, hl⟩ := out_past ho
    have ho2 : Bom.feedOut (Bom.feedSt Bom.s0 p) b = b := (Bom.out_past (feedSt_cl p) hp b).1
    rw [ho2]
    have e1 : p.length + b.length - ((Bom.feedOut Bom.s0 p).length + b.length) = p.length - (Bom.feedOut Bom.s0 p).length := by omega
    have e2 : p.length - (Bom.feedOut Bom.s0 p).length + (Bom.feedOut Bom.s0 p).length = p.length := by omega
    have e3 : p.length + b.length - b.length = p.length := by omega
    rw [e1, e2, e3]
    change (_ → (if (W d l p).kind ≠ 0 then W d l p else (Rdp.wk d (W d l p).sq (W d l p).st (W d l p).mm b p.length).pre (W d l p).recs) = _) ∧ (_ → (if (W d l p).kind ≠ 0 then W d l p else (Rdp.wk d (W d l p).sq (W d l p).st (W d l p).mm b p.length).pre (W d l p).recs) = _)
    exact ⟨fun h => if_pos h, fun h => if_neg (by simpa using h)⟩
theorem sim_feed (d : Dia) (l : Lim) {S : Rs} {p : Bs} (b : Bs) (h : Sim S (R d l p)) : Sim (feedS d S b) (R d l (p ++ b)) := by
  obtain ⟨hA, hB⟩ := W_append d l p b
  rcases h with rfl | ⟨h1, h2, h3, h4, h5, h6⟩
  · by_cases hk : (W d l p).kind = 0
    · left
      have hw := hB hk
      unfold feedS
      rw [if_neg (by rw [R_eq]; simp [hk]), R_eq d l (p ++ b), hw, R_eq d l p]
      obtain ⟨e1, e2⟩ := Bom.feed_append p b
      simp [walkS, feedIn, e1, Rdp.Wk.pre]
    · right
      have hw := hA hk
      have hf : feedS d (R d l p) b = R d l p := by unfold feedS; rw [if_pos (.inr (by rw [R_eq]; exact hk))]
      rw [hf, R_eq d l (p ++ b), hw, R_eq d l p]
      exact ⟨hk, rfl, rfl, rfl, rfl, rfl⟩
  · have hk : (W d l p).kind ≠ 0 := by rw [R_eq] at h2; rw [h2] at h1; exact h1
    have hw := hA hk
    have hf : feedS d S b = S := by unfold feedS; rw [if_pos (.inr h1)]
    rw [hf]
    right
    rw [R_eq] at h2 h3 h4 h5 h6
    rw [R_eq d l (p ++ b), hw]
    exact ⟨h1, h2, h3, h4, h5, h6⟩
theorem sim_close (d : Dia) (l : Lim) {S : Rs} {p : Bs} (h : Sim S (R d l p)) : (closeS d S).recs = (closeS d (R d l p)).recs ∧ (closeS d S).kind = (closeS d (R d l p)).kind ∧ (closeS d S).pl = (closeS d (R d l p)).pl := by
  rcases h with rfl | ⟨h1, h2, h3, h4, h5, h6⟩
  · exact ⟨rfl, rfl, rfl⟩
  · have e1 : closeS d S = { S with cl := true } := by unfold closeS; rw [if_pos (.inr h1)]
    have e2 : closeS d (R d l p) = { R d l p with cl := true } := by unfold closeS; rw [if_pos (.inr (by rw [← h2]; exact h1))]
    rw [e1, e2]
    exact ⟨h4, h2, h3⟩
/-- The document's answer. -/
theorem close_parse (d : Dia) (hd : d.right = true) (l : Lim) (hl : 1 ≤ l.fields) (p : Bs) :
    parseP d l p = ((closeS d (R d l p)).recs, (closeS d (R d l p)).kind, ((closeS d (R d l p)).pl : Int)) := by
  rw [Rdp.top_parse d hd l hl p]
  obtain ⟨f1, f2, f3, f4⟩ := Bom.feed_whole p
  have hoff := Rdp.off_le p
  have hlen := feed_len Bom.s0 p
  have hz : Bom.s0.held = 0 := rfl
  have hcl : (Bom.closeOut (Bom.feedSt Bom.s0 p)).length ≤ (Bom.feedSt Bom.s0 p).held := by unfold Bom.closeOut; rw [List.length_take]; omega
  have hsl := congrArg List.length f4
  rw [List.length_append] at hsl
  have hstrip : Rdp.wk d 0 0 (mk0 l) (Bom.strip p) (Rdp.off p) = if (W d l p).kind ≠ 0 then W d l p else
      (Rdp.wk d (W d l p).sq (W d l p).st (W d l p).mm (Bom.closeOut (Bom.feedSt Bom.s0 p)) (p.length - (Bom.closeOut (Bom.feedSt Bom.s0 p)).length)).pre (W d l p).recs := by
    rw [← f4, Rdp.wk_append]
    by_cases ho : Bom.feedOut Bom.s0 p = []
    · have hW : W d l p = ⟨0, 0, mk0 l, [], 0, 0⟩ := by unfold W; rw [ho]; rfl
      have e1 : Rdp.off p + 0 = p.length - (Bom.closeOut (Bom.feedSt Bom.s0 p)).length := by
        rw [ho] at hsl
        simp only [List.length_nil] at hsl
        omega
      rw [hW, ho]
      simp only [Rdp.wk, List.length_nil, e1]
    · obtain ⟨hp, hh, hl2⟩ := out_past ho
      have hc0 : Bom.closeOut (Bom.feedSt Bom.s0 p) = [] := by unfold Bom.closeOut; rw [hh]; rfl
      have e1 : Rdp.off p = p.length - (Bom.feedOut Bom.s0 p).length := by rw [hc0] at hsl; simp only [List.length_nil] at hsl; omega
      rw [hc0, e1]
      rfl
  rw [hstrip]
  by_cases hk : (W d l p).kind = 0
  · rw [if_neg (by simpa using hk)]
    have hpl : (W d l p).pl = 0 := wk_pl d _ _ _ _ _ hk
    have e0 : closeS d (R d l p) = if (walkS d (closeIn (R d l p)) (Bom.closeOut (R d l p).bs) ((R d l p).fed - (Bom.closeOut (R d l p).bs).length)).kind ≠ 0 then walkS d (closeIn (R d l p)) (Bom.closeOut (R d l p).bs) ((R d l p).fed - (Bom.closeOut (R d l p).bs).length)
        else endS (walkS d (closeIn (R d l p)) (Bom.closeOut (R d l p).bs) ((R d l p).fed - (Bom.closeOut (R d l p).bs).length)) := by
      unfold closeS; rw [if_neg (by rw [R_eq]; simp [hk])]
    rw [e0]
    have e1 : walkS d (closeIn (R d l p)) (Bom.closeOut (R d l p).bs) ((R d l p).fed - (Bom.closeOut (R d l p).bs).length) =
        ⟨Bom.closeSt (Bom.feedSt Bom.s0 p), (Rdp.wk d (W d l p).sq (W d l p).st (W d l p).mm (Bom.closeOut (Bom.feedSt Bom.s0 p)) (p.length - (Bom.closeOut (Bom.feedSt Bom.s0 p)).length)).mm, (Rdp.wk d (W d l p).sq (W d l p).st (W d l p).mm (Bom.closeOut (Bom.feedSt Bom.s0 p)) (p.length - (Bom.closeOut (Bom.feedSt Bom.s0 p)).length)).sq, (Rdp.wk d (W d l p).sq (W d l p).st (W d l p).mm (Bom.closeOut (Bom.feedSt Bom.s0 p)) (p.length - (Bom.closeOut (Bom.feedSt Bom.s0 p)).length)).st, p.length, (W d l p).recs ++ (Rdp.wk d (W d l p).sq (W d l p).st (W d l p).mm (Bom.closeOut (Bom.feedSt Bom.s0 p)) (p.length - (Bom.closeOut (Bom.feedSt Bom.s0 p)).length)).recs, 0, (Rdp.wk d (W d l p).sq (W d l p).st (W d l p).mm (Bom.closeOut (Bom.feedSt Bom.s0 p)) (p.length - (Bom.closeOut (Bom.feedSt Bom.s0 p)).length)).kind, (Rdp.wk d (W d l p).sq (W d l p).st (W d l p).mm (Bom.closeOut (Bom.feedSt Bom.s0 p)) (p.length - (Bom.closeOut (Bom.feedSt Bom.s0 p)).length)).pl, true⟩ := by
      rw [R_eq]; rfl
    rw [e1]
    have hpl2 := wk_pl d (Bom.closeOut (Bom.feedSt Bom.s0 p)) (W d l p).sq (W d l p).st (W d l p).mm (p.length - (Bom.closeOut (Bom.feedSt Bom.s0 p)).length)
    generalize Rdp.wk d (W d l p).sq (W d l p).st (W d l p).mm (Bom.closeOut (Bom.feedSt Bom.s0 p)) (p.length - (Bom.closeOut (Bom.feedSt Bom.s0 p)).length) = X at *
    dsimp only
    by_cases hx : X.kind = 0
    · rw [if_neg (by simpa using hx)]
      have hxp := hpl2 hx
      unfold Rdp.fin endS enp Rdp.Wk.pre
      dsimp only
      rw [if_neg (by simpa using hx)]
      by_cases h1 : X.sq = 0
      · rw [if_neg (by simpa using h1)]
        simp only [h1, ne_eq, not_true_eq_false, if_false]
        by_cases h2 : (closeEv X.st).2 = 0
        · simp only [h2, ne_eq, not_true_eq_false, if_false]
          by_cases h3 : (take X.mm (closeEv X.st).1).2.2 = 0
          · simp [h3, stepS, hx, hxp]
          · simp [h3, stepS]
        · simp [h2, stepS]
      · simp [h1, stepS]
    · rw [if_pos (by simpa using hx)]
      unfold Rdp.fin Rdp.Wk.pre
      dsimp only
      rw [if_pos hx]
  · rw [if_pos hk]
    have e0 : closeS d (R d l p) = { R d l p with cl := true } := by unfold closeS; rw [if_pos (.inr (by rw [R_eq]; exact hk))]
    rw [e0, R_eq]
    unfold Rdp.fin
    rw [if_pos hk]
end Go.Proofs.Ytbjejmdbpikgjaa.Rd
namespace Go.Proofs.Ytbjejmdbpikgjaa.Rd
set_option linter.unusedVariables false
set_option linter.unusedSimpArgs false
set_option maxRecDepth 100000
open Go.RowKit Q Mach Dia Scan Ref4 Fld Limits
attribute [local go_sem ↓] Go.wp_at_zero Go.wp_at_succ
abbrev wayV (d : Dia) (a b c : Int) (u : Bool) : Value := .agg #[bv d.delim, bv d.quote, .int .i64 d.fin, .int .i64 a, .int .i64 b, .int .i64 c, .bool u]
set_option maxHeartbeats 4000000 in
theorem right2_c (d : Dia) (a b c : Int) (u : Bool) (w : World) : Calls Try.prog 8 #[wayV d a b c u] w fun e w' => e = .returned (.bool (d.right && limOk a b c)) ∧ Keeps [] w w' := by
  have HR := Lib.hid (fun w => ref_c d w)
  have HRR := Lib.hid (fun w => right_c d w)
  have HL := Lib.hid (fun w => refLimits_c a b c u w)
  have HF := Lib.hid (fun n w => rfits_c a b c n w)
  have kp := Keeps.alloc [] w (.cells #[bv d.delim, bv d.quote, .int .i64 d.fin, .int .i64 a, .int .i64 b, .int .i64 c, .bool u] 27)
  have hb := Blk.new w 27 [bv d.delim, bv d.quote, .int .i64 d.fin, .int .i64 a, .int .i64 b, .int .i64 c, .bool u]
  obtain ⟨R, hR⟩ : ∃ R, d.right = R := ⟨_, rfl⟩
  rw [hR] at HRR ⊢
  clear hR
  obtain ⟨x, y, z⟩ := d
  go_enter Try.func8, Try.ntmps8
  go_upto_region 1 with (fail)
  generalize w.alloc (.cells #[bv x, bv y, .int .i64 z, .int .i64 a, .int .i64 b, .int .i64 c, .bool u] 27) = w0 at *
  have c0 := hb.cell_of (i := 0) rfl
  have c1 := hb.cell_of (i := 1) rfl
  have c2 := hb.cell_of (i := 2) rfl
  cases R
  · go_wp2_with (fail)
    refine (HR.out _).mono ?_
    rintro e w1 ⟨rfl, k1⟩
    go_wp2_with (fail)
    refine (HRR.out _).mono ?_
    rintro e w2 ⟨rfl, k2⟩
    go_wp2_with (fail)
    go_ret
    exact ⟨rfl, (kp.trans k1 (by simp)).trans k2 (by simp)⟩
  go_wp2_with (fail)
  refine (HR.out _).mono ?_
  rintro e w1 ⟨rfl, k1⟩
  go_wp2_with (fail)
  refine (HRR.out _).mono ?_
  rintro e w2 ⟨rfl, k2⟩
  have hb2 := (hb.keep k1 (by simp)).keep k2 (by simp)
  have c3 := hb2.cell_of (i := 3) rfl
  have c4 := hb2.cell_of (i := 4) rfl
  have c5 := hb2.cell_of (i := 5) rfl
  have c6 := hb2.cell_of (i := 6) rfl
  clear c0 c1 c2
  go_wp2_with (fail)
  refine (HL.out _).mono ?_
  rintro e w3 ⟨rfl, k3⟩
  go_wp2_with (fail)
  refine (HF.out _ _).mono ?_
  rintro e w4 ⟨rfl, k4⟩
  go_wp2_with (fail)
  go_ret
  exact ⟨rfl, (((kp.trans k1 (by simp)).trans k2 (by simp)).trans k3 (by simp)).trans k4 (by simp)⟩
def RNewP (d : Dia) (l : Lim) (w : World) (e : Ending) (w' : World) : Prop :=
  ∃ g, e = .returned (.tuple #[.pointer (some ⟨g, 0, none⟩), .int .i64 0]) ∧ RA w' w.heap.size g d (rs0 l) [] ∧ Keeps [] w w'
theorem new_end (x y : UInt8) (z : Int) (la lb lc : Nat) (lu : Bool) (w wa : World) (k : Keeps [] w wa) (g : Nat) (hg : g = wa.heap.size) :
    RNewP ⟨x, y, z⟩ ⟨la, lb, lc, lu⟩ w (.returned (.tuple #[.pointer (some ⟨g, 0, none⟩), .int .i64 0])) (wa.alloc (.cells #[bv x, bv y, .int .i64 z, .int .i64 0, .bool false, .bool false, .bool false, .int .i64 la, .int .i64 lb, .int .i64 lc, .bool lu, .slice none 0 0, .slice none 0 0, .int .i64 0, .int .i64 0, .int .i64 0, .int .i64 0, .int .i64 0, .int .i64 0, .int .i64 0, .slice none 0 0, .int .i64 0, .int .i64 0, .int .i64 0, .bool false] 84)).drew := by
  subst hg
  have hb := Blk.new wa 84 (rC ⟨x, y, z⟩ (rs0 ⟨la, lb, lc, lu⟩) (.slice none 0 0) (.slice none 0 0) (.slice none 0 0))
  refine ⟨wa.heap.size, rfl, ⟨.slice none 0 0, .slice none 0 0, .slice none 0 0, [], rfl, ⟨⟨hb, k.size, Own.nil_ _ _ _ _, Own.nil_ _ _ _ _⟩, OTb.nil_ _ _ _ _, by simp⟩⟩, (k.alloc1 _).drew1⟩
set_option maxHeartbeats 4000000 in
theorem new_c (d : Dia) (hd : d.right = true) (l : Lim) (ha : 1 ≤ l.field ∧ l.field ≤ 2147483648) (hb : 1 ≤ l.fields ∧ l.fields ≤ 2147483648) (hc : 1 ≤ l.records ∧ l.records ≤ 2147483648) (w : World) :
    Calls Try.prog 10 #[diaV d, limV l.field l.fields l.records l.uniform] w (RNewP d l w) := by
  have HC := Lib.hid (fun w => check_c d w)
  rw [hd] at HC
  have HN := Lib.hid (fun w => Fld.new_c l ha hb hc w)
  have HB : Hid (∀ w : World, Calls Try.prog 34 #[] w fun e w' => e = .returned (.pointer (some ⟨w.heap.size, 0, none⟩)) ∧ w.alloc (.cells #[.int .i64 0, .bool false, .bool false, .bool false] 78) = w') := Lib.hid Bom.new_c
  have kp := (Keeps.alloc [] w (.cells #[bv d.delim, bv d.quote, .int .i64 d.fin] 23)).alloc1 (.cells #[.int .i64 l.field, .int .i64 l.fields, .int .i64 l.records, .bool l.uniform] 25)
  have hb0 := (Blk.new w 23 [bv d.delim, bv d.quote, .int .i64 d.fin]).alloc (.cells #[.int .i64 l.field, .int .i64 l.fields, .int .i64 l.records, .bool l.uniform] 25)
  have hb1 := Blk.new (w.alloc (.cells #[bv d.delim, bv d.quote, .int .i64 d.fin] 23)) 25 [.int .i64 l.field, .int .i64 l.fields, .int .i64 l.records, .bool l.uniform]
  rw [World.size_alloc] at hb1
  clear hd ha hb hc
  obtain ⟨x, y, z⟩ := d
  obtain ⟨la, lb, lc, lu⟩ := l
  go_enter Try.func10, Try.ntmps10
  go_upto_region 1 with (fail)
  generalize (w.alloc (.cells #[bv x, bv y, .int .i64 z] 23)).alloc (.cells #[.int .i64 la, .int .i64 lb, .int .i64 lc, .bool lu] 25) = w0 at *
  have c0 := hb0.cell_of (i := 0) rfl
  have c1 := hb0.cell_of (i := 1) rfl
  have c2 := hb0.cell_of (i := 2) rfl
  go_wp2_with (fail)
  refine (HC.out _).mono ?_
  rintro e w1 ⟨rfl, k1⟩
  have hb1' := hb1.keep k1 (by simp)
  have e0 := hb1'.cell_of (i := 0) rfl
  have e1 := hb1'.cell_of (i := 1) rfl
  have e2 := hb1'.cell_of (i := 2) rfl
  have e3 := hb1'.cell_of (i := 3) rfl
  clear c0 c1 c2
  go_wp2_with (fail)
  refine (HN.out _).mono ?_
  rintro e w2 ⟨gm, rfl, hM, k2⟩
  have k02 := (kp.trans k1 (by simp)).trans k2 (by simp)
  have hb02 := (hb0.keep k1 (by simp)).keep k2 (by simp)
  clear e0 e1 e2 e3 hb1' hb1 hb0 k1 k2 kp HC HN
  go_upto_region 7 with (fail)
  have c0 := hb02.cell_of (i := 0) rfl
  have c1 := hb02.cell_of (i := 1) rfl
  have c2 := hb02.cell_of (i := 2) rfl
  have m0 := hM.c (i := 0) rfl
  have m1 := hM.c (i := 1) rfl
  have m2 := hM.c (i := 2) rfl
  have m3 := hM.c (i := 3) rfl
  have m4 := hM.c (i := 4) rfl
  have m5 := hM.c (i := 5) rfl
  have m6 := hM.c (i := 6) rfl
  have m7 := hM.c (i := 7) rfl
  have m8 := hM.c (i := 8) rfl
  have m9 := hM.c (i := 9) rfl
  simp only [List.length_nil, Nat.zero_add] at m0 m1 m2 m3 m4 m5 m6 m7 m8 m9
  have hl1 := hb02.lt
  have hl2 := hM.blk.lt
  clear hM hb02
  have K02 := Lib.hid k02
  have hsz2 := k02.size
  clear k02
  dsimp only [mk0] at m0 m1 m2 m3 m6 m7 m8 m9
  go_region_law (first
    | (refine step_call (HB.out _) Try.func34 ⟨by kernel_rfl, by kernel_rfl⟩ _ _ rfl rfl rfl ?_; rintro e w3 ⟨rfl, rfl⟩; refine ⟨_, rfl, ?_⟩))
  all_goals
    go_wp2_with (fail)
    go_ret2
    go_simp
    exact new_end x y z la lb lc lu w (w2.alloc (.cells #[.int .i64 0, .bool false, .bool false, .bool false] 78)) (K02.out.alloc1 _) (w2.heap.size + 1) (by simp)
end Go.Proofs.Ytbjejmdbpikgjaa.Rd
namespace Go.Proofs.Ytbjejmdbpikgjaa.Rd
set_option linter.unusedVariables false
set_option linter.unusedSimpArgs false
set_option maxRecDepth 100000
open Go.RowKit Q Mach Dia Scan Ref4 Fld
attribute [local go_sem ↓] Go.wp_at_zero Go.wp_at_succ
theorem OTb.tail_ {w w' : World} {base : Nat} {A : Option Addr} {n c : Nat} {u : Value} {vs : List Value} {r : Row} {t : Tb} (h : OTb w base 65 9 (.slice A n c) (u :: vs) (r :: t)) {vq' : Value} (ho : Own w' base 65 1 vq' t.length vs) (k : Keeps (blkOf (.slice A n c)) w w') :
    OTb w' base 65 9 vq' vs t ∧ Own w' base 9 1 u r.length (r.map sv) := by
  obtain ⟨h1, h2, h3⟩ := h
  have hk : ∀ (i : Nat) x y, (u :: vs)[i]? = some x → (r :: t)[i]? = some y → Own w' base 9 1 x y.length (y.map sv) := fun i x y hx hy => (h3 i x y hx hy).keep k (fun a ha hm => (h3 i x y hx hy).apart h2 (by decide) a ha hm)
  exact ⟨⟨by simpa using h1, ho, fun i x y hx hy => hk (i + 1) x y (by simpa using hx) (by simpa using hy)⟩, hk 0 u r rfl rfl⟩
set_option maxHeartbeats 400000 in
theorem next_nil (w : World) (base g : Nat) (d : Dia) (s : Rs) (O : List Nat) (h : RA w base g d s O) (hr : s.recs = []) : Calls Try.prog 40 #[.pointer (some ⟨g, 0, none⟩)] w fun e w' => e = .returned (.tuple #[.slice none 0 0, .bool false]) ∧ w' = w := by
  obtain ⟨vf, vr, vq, vs, rfl, h⟩ := h
  obtain ⟨A, c, rfl, hn1, hm1⟩ := h.tab.2.1.form
  have c20 := h.c (i := 20) rfl
  rw [hr] at c20
  simp only [List.length_nil] at c20
  clear h hn1 hm1
  go_enter Try.func40, Try.ntmps40
  go_wp2_with (fail)
  go_ret2
  exact ⟨rfl, rfl⟩
def NextP (w : World) (base g : Nat) (d : Dia) (s : Rs) (r : Row) (rest : Tb) (O : List Nat) (e : Ending) (w' : World) : Prop :=
  ∃ v O', e = .returned (.tuple #[v, .bool true]) ∧ Own w' base 9 1 v r.length (r.map sv) ∧ (∀ k ∈ blkOf v, k ∉ g :: O') ∧ RA w' base g d { s with recs := rest, handed := s.handed + 1 } O' ∧ Keeps (g :: O) w w' ∧ (∀ k ∈ O', k ∈ O) ∧ ∀ k ∈ blkOf v, k < w.heap.size
set_option maxHeartbeats 4000000 in
theorem next_c (w : World) (base g : Nat) (d : Dia) (s : Rs) (O : List Nat) (r : Row) (rest : Tb) (h : RA w base g d s O) (hr : s.recs = r :: rest) (hh : s.handed ≤ 1000000) (hl : rest.length ≤ 1000000) :
    Calls Try.prog 40 #[.pointer (some ⟨g, 0, none⟩)] w (NextP w base g d s r rest O) := by
  obtain ⟨iS, hiS, hS0, hS1, hS2⟩ := info_parts infoStrs
  obtain ⟨vf, vr, vq, vs, rfl, h⟩ := h
  have ht := h.tab
  rw [hr] at ht
  obtain ⟨A, c, rfl, hn1, hm1⟩ := ht.2.1.form
  obtain ⟨u, vs', rfl⟩ : ∃ u vs', vs = u :: vs' := by
    have := ht.1
    cases vs with
    | nil => simp at this
    | cons u vs' => exact ⟨u, vs', rfl⟩
  obtain ⟨bq, off, u0, rfl, hbq, hbl, hu0, cq, fq, hset⟩ := ht.2.1.at_ (k := 0) (by simp)
  obtain rfl : u = u0 := by simpa using hu0
  have hs1 := hset (.slice none 0 0)
  have hfr := hs1.from_ (k := 1) (by simp)
  simp only [List.set_cons_zero, List.drop_succ_cons, List.drop_zero, Nat.one_mul, List.length_cons, Nat.add_sub_cancel, Nat.add_zero] at hfr hs1 cq fq hn1
  have k1 := Keeps.setCell w ⟨bq, off, none⟩ (.slice none 0 0)
  have hgq : g ≠ bq := fun e => h.tabG bq (by simp [tblks, blkOf]) e.symm
  have hb1 := h.blk.keep k1 (by simpa using hgq)
  have hfrom := run_sliceFrom (P := Try.prog) (t := 42) Try.underlying42 hiS hS1 (some ⟨bq, off, none⟩) (rest.length + 1) c 1 (by omega)
  simp only [Nat.one_mul, Nat.add_sub_cancel] at hfrom
  obtain ⟨htt, huu⟩ := OTb.tail_ (w' := w.setCell ⟨bq, off, none⟩ (.slice none 0 0)) ht hfr (k1.sub (by simp [blkOf]))
  have hbf := blkOf_from (size := 1) (some ⟨bq, off, none⟩) (rest.length + 1) c 1 rest.length (c - 1)
  simp only [Nat.one_mul] at hbf
  generalize (Value.slice (if c = 1 then some ⟨bq, off, none⟩ else (some (⟨bq, off, none⟩ : Addr)).map (·.add 1)) rest.length (c - 1)) = v5 at hfrom hfr htt hbf
  obtain ⟨A5, c5, rfl, _, _⟩ := htt.2.1.form
  obtain ⟨Au, cu, rfl, _, _⟩ := huu.form
  have c20 := h.c (i := 20) rfl
  have e20 := hb1.cell_of (i := 20) rfl
  have e21 := hb1.cell_of (i := 21) rfl
  have f20 := hb1.frozen (i := 20) (by simp [rC, rP, rT, mkC, Bom.St.cells])
  have f21 := hb1.frozen (i := 21) (by simp [rC, rP, rT, mkC, Bom.St.cells])
  simp only [List.length_cons] at c20 e20
  have hgl := h.lt
  have hgl1 := hb1.lt
  have k2 := (Keeps.setCell (w.setCell ⟨bq, off, none⟩ (.slice none 0 0)) ⟨g, 20, none⟩ (.slice A5 rest.length c5)).set1 ⟨g, 21, none⟩ (.int .i64 ((s.handed : Int) + 1)) (by simp)
  have hfld := (h.mka.fld.keep k1 (fun a ha hm => by simp only [List.mem_singleton] at hm; exact h.mka.fld.apart h.tab.2.1 (by decide) a ha (by simp [blkOf, hm])))
  have hrcd := (h.mka.rcd.keep k1 (fun a ha hm => by simp only [List.mem_singleton] at hm; exact h.mka.rcd.apart h.tab.2.1 (by decide) a ha (by simp [blkOf, hm])))
  have hA : RAt (((w.setCell ⟨bq, off, none⟩ (.slice none 0 0)).setCell ⟨g, 20, none⟩ (.slice A5 rest.length c5)).setCell ⟨g, 21, none⟩ (.int .i64 ((s.handed : Int) + 1))) base g d { s with recs := rest, handed := s.handed + 1 } vf vr (.slice A5 rest.length c5) vs' := by
    refine ⟨⟨?_, h.mka.low, hfld.keep k2 ?_, hrcd.keep k2 ?_⟩, htt.keep k2 ?_, ?_⟩
    · have := (hb1.set_ 20 (.slice A5 rest.length c5)).set_ 21 (.int .i64 ((s.handed : Int) + 1))
      simpa [rC, rP, rT, mkC, Bom.St.cells] using this
    · intro a ha hm; simp only [List.mem_singleton] at hm; exact hfld.apartBlk hb1 (by decide) a ha hm
    · intro a ha hm; simp only [List.mem_singleton] at hm; exact hrcd.apartBlk hb1 (by decide) a ha hm
    · intro a ha hm
      simp only [List.mem_singleton] at hm
      obtain ⟨t1, t2, t3⟩ := htt
      simp only [tblks, List.mem_append, List.mem_flatMap] at ha
      rcases ha with hx | ⟨y, hy, hx⟩
      · exact t2.apartBlk hb1 (by decide) a hx hm
      · obtain ⟨j, hj, rfl⟩ := List.getElem_of_mem hy
        exact (t3 j _ _ (List.getElem?_eq_getElem hj) (List.getElem?_eq_getElem (by omega))).apartBlk hb1 (by decide) a hx hm
    · intro x hx
      exact h.ap x (by simp only [List.flatMap_cons, List.mem_append]; exact .inr hx)
  have huk := huu.keep k2 (fun a ha hm => by simp only [List.mem_singleton] at hm; exact huu.apartBlk hb1 (by decide) a ha hm)
  have hK : Keeps (g :: (blkOf vf ++ (blkOf vr ++ blkOf (.slice (some ⟨bq, off, none⟩) (r :: rest).length c)))) w (((w.setCell ⟨bq, off, none⟩ (.slice none 0 0)).setCell ⟨g, 20, none⟩ (.slice A5 rest.length c5)).setCell ⟨g, 21, none⟩ (.int .i64 ((s.handed : Int) + 1))) :=
    ((k1.sub (by simp [blkOf])).set1 _ _ (by simp)).set1 _ _ (by simp)
  have hap : ∀ k ∈ blkOf (.slice Au r.length cu), k ∉ g :: (blkOf vf ++ (blkOf vr ++ blkOf (.slice A5 rest.length c5))) := by
    intro k hk hm
    simp only [List.mem_cons, List.mem_append] at hm
    rcases hm with hm | hm | hm | hm
    · exact huu.apartBlk hb1 (by decide) k hk hm
    · exact huu.apart hfld (by decide) k hk hm
    · exact h.ap k (by simp only [List.flatMap_cons, List.mem_append]; exact .inl hk) hm
    · exact huu.apart htt.2.1 (by decide) k hk hm
  have hin : ∀ k ∈ blkOf vf ++ (blkOf vr ++ blkOf (.slice A5 rest.length c5)), k ∈ blkOf vf ++ (blkOf vr ++ blkOf (.slice (some ⟨bq, off, none⟩) (r :: rest).length c)) := by
    intro k hk
    simp only [List.mem_append] at hk ⊢
    rcases hk with hk | hk | hk
    · exact .inl hk
    · exact .inr (.inl hk)
    · exact .inr (.inr (by simpa [blkOf] using hbf k hk))
  have hsz : ∀ k ∈ blkOf (.slice Au r.length cu), k < w.heap.size := by
    intro k hk
    exact (h.tab.lt k (by simp only [tblks, List.flatMap_cons, List.mem_append]; exact .inr (.inl hk))).2
  have HA := Lib.hid hA; have HU := Lib.hid huk; have HK := Lib.hid hK; have HP := Lib.hid hap; have HI := Lib.hid hin; have HZ := Lib.hid hsz
  clear hA huk hK hap hin hsz hbf htt huu hfr hs1 hset ht h hb1 k1 k2 hfld hrcd hu0 hn1 hm1 hiS hS0 hS1 hS2 hr
  go_enter Try.func40, Try.ntmps40
  go_wp2_with (refine wpList_slice (hfrom _) _ _ _ _ rfl rfl rfl rfl rfl rfl ?_)
  go_ret2
  exact ⟨_, _, rfl, HU.out, HP.out, ⟨vf, vr, _, vs', rfl, HA.out⟩, HK.out, HI.out, HZ.out⟩
end Go.Proofs.Ytbjejmdbpikgjaa.Rd
namespace Go.Proofs.Ytbjejmdbpikgjaa.By
set_option linter.unusedVariables false
set_option linter.unusedSimpArgs false
set_option maxRecDepth 100000
open Go.RowKit Q Mach
attribute [local go_sem ↓] Go.wp_at_zero Go.wp_at_succ
theorem infoStr : (Try.prog.info? 9).map (fun i => (i.zero, i.size, i.bytes)) = some (some (.string ⟨#[]⟩), 1, 16) := by kernel_rfl
def heldI (n m : Int) : Int := if n < 0 then 0 else if m < n then m else n
theorem held_c (n m : Int) (w : World) : Calls Try.prog 60 #[.int .i64 n, .int .i64 m] w fun e w' => e = .returned (.int .i64 (heldI n m)) ∧ w' = w := by
  by_cases h1 : n < 0
  · have h2 : heldI n m = 0 := by unfold heldI; rw [if_pos h1]
    rw [h2]
    go_enter Try.func60, Try.ntmps60
    go_wp2_with (fail)
    go_ret
    exact ⟨rfl, rfl⟩
  · by_cases h2 : m < n
    · have h3 : heldI n m = m := by unfold heldI; rw [if_neg h1, if_pos h2]
      rw [h3]
      go_enter Try.func60, Try.ntmps60
      go_wp2_with (fail)
      go_ret
      exact ⟨rfl, rfl⟩
    · have h3 : heldI n m = n := by unfold heldI; rw [if_neg h1, if_neg h2]
      rw [h3]
      go_enter Try.func60, Try.ntmps60
      go_wp2_with (fail)
      go_ret
      exact ⟨rfl, rfl⟩
theorem held_nat (n : Int) (m : Nat) : ∃ h : Nat, heldI n m = h ∧ h ≤ m ∧ (0 < n → 0 < m → 0 < h) ∧ (n ≤ 0 → h = 0) := by
  refine ⟨(heldI n m).toNat, ?_, ?_, ?_, ?_⟩ <;> unfold heldI <;> (repeat' split) <;> omega
def any0 (l : List Int) : Bool := l.any fun n => decide (0 < n)
theorem any0_take (zs : List Int) (k : Nat) (h : k < zs.length) : any0 (zs.take (k + 1)) = (any0 (zs.take k) || decide (0 < zs[k])) := by
  unfold any0
  rw [List.take_succ_eq_append_getElem h, List.any_append]
  simp
def ByP (s : Bs) (w : World) (e : Ending) (w' : World) : Prop :=
  ∃ (v : Value) (ps : List Bs), e = .returned v ∧ Own w' w.heap.size 9 1 v ps.length (ps.map sv) ∧ ps.flatten = s ∧ Keeps [] w w' ∧ ps.length ≤ 20000000
set_option maxHeartbeats 8000000 in
theorem by_c (s : Bs) (A : Value) (zs : List Int) (w : World) (hz : Rd w w.heap.size 1 A zs.length (zs.map (Value.int .i64))) (hs : s.length ≤ 10000) (hl : zs.length ≤ 1000) :
    Calls Try.prog 39 #[sv s, A] w (ByP s w) := by
  obtain ⟨iS, hiS, hS0, hS1, hS2⟩ := info_parts infoStr
  obtain ⟨Z, cz, rfl, hz1, hz2⟩ := hz.form
  unfold maxLen at hz2
  have HZ := Lib.hid hz
  have HH := Lib.hid (fun n m w => held_c n m w)
  clear hz
  go_enter Try.func39, Try.ntmps39
  go_wp2_with (fail)
  go_loopw [5, 15] (fun v i wr => ∃ k : Nat, k ≤ zs.length ∧ i = .int .i64 k ∧ v = .bool (any0 (zs.take k)) ∧ wr = w) (fun _ i _ => zs.length - (intOf i).toNat)
  case atStart => exact ⟨0, Nat.zero_le _, rfl, rfl, rfl⟩
  case round =>
    obtain ⟨k, hk, rfl, rfl, rfl⟩ := hrel
    by_cases hlt : k < zs.length
    · obtain ⟨bZ, oZ, uZ, rfl, _, huZ, cZ⟩ := HZ.out.at_ hlt
      have e1 : uZ = .int .i64 zs[k] := by
        rw [List.getElem?_map, List.getElem?_eq_getElem hlt] at huZ
        exact (Option.some.inj huZ).symm
      subst e1
      have hk0 : (0 : Int) ≤ (k : Int) := by omega
      have hkl : (k : Int) < (zs.length : Int) := by omega
      have HT := Lib.hid (any0_take zs k hlt)
      generalize zs[k] = n at *
      clear huZ
      generalize any0 (zs.take k) = bb at *
      cases bb
      · by_cases hn : 0 < n
        · go_wp2_with (fail)
          go_roundw
          case rel => exact ⟨k + 1, by omega, by go_num, by rw [HT.out]; simp [hn], trivial⟩
          case measure => simp [intOf]; omega
        · go_wp2_with (fail)
          go_roundw
          case rel => exact ⟨k + 1, by omega, by go_num, by rw [HT.out]; simp [hn], trivial⟩
          case measure => simp [intOf]; omega
      · go_wp2_with (fail)
        go_roundw
        case rel => exact ⟨k + 1, by omega, by go_num, by rw [HT.out]; rfl, trivial⟩
        case measure => simp [intOf]; omega
    · obtain rfl : k = zs.length := by omega
      have hkl : ¬ ((zs.length : Int) < (zs.length : Int)) := by omega
      rw [List.take_length]
      generalize wr = w0 at *
      have hzr := HZ.out
      by_cases hse : s = []
      · have hs0 : (s == []) = true := by simp [hse]
        have HSE := Lib.hid hse
        clear hse hzr
        go_wp2_with (fail)
        go_ret
        have ho := own_lit w0 9 [sv s] (by simp [maxLen])
        exact ⟨_, [s], rfl, by simpa using ho, by simp, Keeps.alloc [] w0 _, by simp⟩
      have hs0 : (s == []) = false := by simpa using hse
      obtain ⟨ab, hab⟩ : ∃ ab, any0 zs = ab := ⟨_, rfl⟩
      rw [hab]
      cases ab
      · go_wp2_with (fail)
        go_ret
        have ho := own_lit w0 9 [sv s] (by simp [maxLen])
        exact ⟨_, [s], rfl, by simpa using ho, by simp, Keeps.alloc [] w0 _, by simp⟩
      have HAB := Lib.hid hab
      have HSE := Lib.hid hse
      clear hab hse
      go_wp2_with (fail)
      clear hlt hk hkl hzr
      have hspos : 0 < s.length := List.length_pos_iff.mpr HSE.out
      go_loopw [8, 9] (fun v a wx => ∃ (ps : List Bs) (at_ : Nat), a = .int .i64 at_ ∧ at_ ≤ s.length ∧ Own wx w0.heap.size 9 1 v ps.length (ps.map sv) ∧ ps.flatten = s.take at_ ∧ ps.length ≤ zs.length * at_ ∧ Keeps [] w0 wx) (fun _ a _ => s.length - (intOf a).toNat)
      case atStart => exact ⟨[], 0, rfl, Nat.zero_le _, Own.nil_ _ _ _ _, by simp, by simp, Keeps.refl _ _⟩
      case round =>
        obtain ⟨ps, a, rfl, ha, ho, hfl, hpl, hkw⟩ := hrel
        by_cases hlt : a < s.length
        · have hal : (a : Int) < (s.length : Int) := by omega
          have HFL := Lib.hid hfl
          have HO := Lib.hid ho
          have HKW := Lib.hid hkw
          clear hfl ho hkw
          go_wp2_with (fail)
          go_loopw [8, 9, 39] (fun v b i wy => ∃ (ps' : List Bs) (b' j : Nat), j ≤ zs.length ∧ i = .int .i64 j ∧ b = .int .i64 b' ∧ a ≤ b' ∧ b' ≤ s.length ∧ Own wy w0.heap.size 9 1 v ps'.length (ps'.map sv) ∧ ps'.flatten = s.take b' ∧ ps'.length ≤ zs.length * a + j ∧ Keeps [] w0 wy ∧ (a < b' ∨ (b' = a ∧ any0 (zs.take j) = false))) (fun _ _ i _ => zs.length - (intOf i).toNat)
          case atStart => exact ⟨ps, a, 0, Nat.zero_le _, rfl, rfl, Nat.le_refl _, ha, HO.out, HFL.out, by omega, HKW.out, .inr ⟨rfl, by simp [any0]⟩⟩
          case round =>
            obtain ⟨ps', b', j, hj, rfl, rfl, hab, hbl, hoy, hfy, hly, hky, hor⟩ := hrel
            by_cases hjl : j < zs.length
            · have hzy := (HZ.out.keepB hky (by simp))
              obtain ⟨bZ, oZ, uZ, rfl, _, huZ, cZ⟩ := hzy.at_ hjl
              have e1 : uZ = .int .i64 zs[j] := by
                rw [List.getElem?_map, List.getElem?_eq_getElem hjl] at huZ
                exact (Option.some.inj huZ).symm
              subst e1
              have hj0 : (0 : Int) ≤ (j : Int) := by omega
              have hji : (j : Int) < (zs.length : Int) := by omega
              have HT := Lib.hid (any0_take zs j hjl)
              clear huZ hzy
              generalize zs[j] = n at *
              by_cases hb : b' < s.length
              · obtain ⟨h, hh1, hh2, hh3, hh4⟩ := held_nat n (s.length - b')
                have hsub : ((s.length : Int) - (b' : Int)) = ((s.length - b' : Nat) : Int) := by omega
                have hbi : (b' : Int) < (s.length : Int) := by omega
                have HHC := Lib.hid (HH.out n ((s.length - b' : Nat) : Int) wr)
                rw [hh1] at HHC
                have hmid := run_strMid (P := Try.prog) Try.underlying9 s b' (b' + h) (by omega) (by omega)
                have hsum : ((b' + h : Nat) : Int) = (b' : Int) + (h : Int) := by omega
                rw [hsum] at hmid
                have hlz : zs.length * a ≤ 1000 * 10000 := Nat.mul_le_mul hl (by omega)
                obtain ⟨v', w5, hap, hq6, k6, n6⟩ := run_append1 (P := Try.prog) (w := wr) (t := 65) (y := sv ((s.take (b' + h)).drop b')) Try.underlying65 hiS hS0 hS1 hS2 rfl hoy rfl (by simp only [maxLen]; omega) (by omega) hky.size 65
                have hk5 : Keeps [] w0 w5 := hky.trans k6 (fun z hz hzl => by have := (hoy.lt z hz).1; omega)
                have hfl5 : (ps' ++ [(s.take (b' + h)).drop b']).flatten = s.take (b' + h) := by
                  rw [List.flatten_append, hfy]
                  simp only [List.flatten_cons, List.flatten_nil, List.append_nil]
                  have := List.take_append_drop b' (s.take (b' + h))
                  rw [List.take_take, Nat.min_eq_left (by omega)] at this
                  exact this
                obtain ⟨A8, c8, rfl, _, _⟩ := hq6.form
                have hor5 : a < b' + h ∨ (b' + h = a ∧ any0 (zs.take (j + 1)) = false) := by
                  rcases hor with h1 | ⟨h1, h2⟩
                  · exact .inl (by omega)
                  · by_cases hn : 0 < n
                    · have := hh3 hn (by omega)
                      exact .inl (by omega)
                    · refine .inr ⟨by have := hh4 (by omega); omega, ?_⟩
                      rw [HT.out, h2]
                      simpa using hn
                have HF5 := Lib.hid hfl5
                have HO5 := Lib.hid hq6
                have HK5 := Lib.hid hk5
                have HR5 := Lib.hid hor5
                have HLY := Lib.hid hly
                clear hfl5 hq6 hk5 hor5 k6 n6 hoy hfy hor hh3 hh4 hly hlz hh1 HT hky
                clear hsum
                go_wp2_with (fail)
                with_reducible refine HHC.out.mono ?_
                rintro e w3 ⟨rfl, rfl⟩
                clear hsub HHC
                go_wp2_with (first | (with_reducible refine wpList_slice (hmid _) _ _ _ _ rfl rfl rfl rfl rfl rfl ?_) | (with_reducible refine wpList_append hap _ _ rfl rfl rfl rfl rfl ?_))
                go_roundw
                case rel => exact ⟨ps' ++ [(s.take (b' + h)).drop b'], b' + h, j + 1, by omega, by go_num, by go_num, by omega, by omega, by simpa using HO5.out, HF5.out, by have := HLY.out; simp; omega, HK5.out, HR5.out⟩
                case measure => simp [intOf]; omega
              · have hbi : ¬ ((b' : Int) < (s.length : Int)) := by omega
                have HO5 := Lib.hid hoy
                have HF5 := Lib.hid hfy
                have HK5 := Lib.hid hky
                have HLY := Lib.hid hly
                clear hoy hfy hky hly hor HT
                go_wp2_with (fail)
                go_roundw
                case rel => exact ⟨ps', b', j + 1, by omega, by go_num, rfl, hab, hbl, HO5.out, HF5.out, by have := HLY.out; omega, HK5.out, .inl (by omega)⟩
                case measure => simp [intOf]; omega
            · obtain rfl : j = zs.length := by omega
              have hji : ¬ ((zs.length : Int) < (zs.length : Int)) := by omega
              have hab2 : a < b' := by
                rcases hor with h1 | ⟨_, h2⟩
                · exact h1
                · rw [List.take_length, HAB.out] at h2; cases h2
              have hlen : ps'.length ≤ zs.length * b' := by
                have h1 : zs.length * (a + 1) ≤ zs.length * b' := Nat.mul_le_mul_left _ (by omega)
                rw [Nat.mul_add, Nat.mul_one] at h1
                omega
              have HO5 := Lib.hid hoy
              have HF5 := Lib.hid hfy
              have HK5 := Lib.hid hky
              have HLY := Lib.hid hlen
              clear hoy hfy hky hly hor hlen
              go_wp2_with (fail)
              go_roundw
              case rel => exact ⟨ps', b', rfl, hbl, HO5.out, HF5.out, HLY.out, HK5.out⟩
              case measure => simp [intOf]; omega
        · obtain rfl : a = s.length := by omega
          have hal : ¬ ((s.length : Int) < (s.length : Int)) := by omega
          rw [List.take_length] at hfl
          have hlz : zs.length * s.length ≤ 1000 * 10000 := Nat.mul_le_mul hl hs
          have HO5 := Lib.hid ho
          have HF5 := Lib.hid hfl
          have HK5 := Lib.hid hkw
          have HLY := Lib.hid (show ps.length ≤ 20000000 by omega)
          clear ho hfl hkw hpl hlz
          go_wp2_with (fail)
          go_ret
          exact ⟨_, ps, rfl, HO5.out, HF5.out, HK5.out, HLY.out⟩
end Go.Proofs.Ytbjejmdbpikgjaa.By
namespace Go.Proofs.Ytbjejmdbpikgjaa.Rd
set_option linter.unusedVariables false
set_option linter.unusedSimpArgs false
set_option maxRecDepth 100000
open Go.RowKit Q Mach Dia Scan Ref4 Fld Limits
attribute [local go_sem ↓] Go.wp_at_zero Go.wp_at_succ
theorem RA.notF {w : World} {base g r : Nat} {cs : List Value} {d : Dia} {s : Rs} {O : List Nat} (h : RA w base g d s O) (hb : Blk w r 35 cs) : r ∉ g :: O := by
  obtain ⟨vf, vr, vq, vs, rfl, h⟩ := h
  exact h.notIn hb ⟨by decide, by decide, by decide, by decide⟩
/-- A slice of rows of the caller's is written. -/
theorem RA.keepT {w w' : World} {base b2 g n : Nat} {d : Dia} {s : Rs} {O : List Nat} {vt : Value} {xs : List Value} (h : RA w base g d s O) (ho : Own w b2 65 1 vt n xs) (ha : ∀ x ∈ blkOf vt, x ∉ g :: O) (k : Keeps (blkOf vt) w w') : RA w' base g d s O := by
  obtain ⟨vf, vr, vq, vs, rfl, h⟩ := h
  refine ⟨vf, vr, vq, vs, rfl, h.keepF k ?_ ?_ ?_ ?_⟩
  · intro hm; exact ha g hm (by simp)
  · intro x hx hm; exact h.mka.fld.apart ho (by decide) x hx hm
  · intro x hx hm; exact h.mka.rcd.apart ho (by decide) x hx hm
  · intro x hx hm
    obtain ⟨t1, t2, t3⟩ := h.tab
    simp only [tblks, List.mem_append, List.mem_flatMap] at hx
    rcases hx with hx | ⟨y, hy, hx⟩
    · exact ha x hm (by simp only [List.mem_cons, List.mem_append]; exact .inr (.inr (.inr hx)))
    · obtain ⟨j, hj, rfl⟩ := List.getElem_of_mem hy
      exact (t3 j _ _ (List.getElem?_eq_getElem hj) (List.getElem?_eq_getElem (by omega))).apart ho (by decide) x hx hm
theorem RP.below2 {w w' : World} {base g : Nat} {d : Dia} {s s' : Rs} {O : List Nat} (h : RA w base g d s O) (hb : base ≤ w.heap.size) (hp : RP w base g d s' O w') : Below base w w' := by
  obtain ⟨O', h1, k1, n1⟩ := hp
  obtain ⟨l1, l2, l3⟩ := h.lt
  refine k1.below hb ?_
  intro x hx
  simp only [List.mem_cons] at hx
  rcases hx with rfl | hx
  · exact l1
  · exact (l3 x hx).1
theorem R0 (d : Dia) (l : Lim) : Sim (rs0 l) (R d l []) := by
  left
  rw [R_eq]
  have hW : W d l [] = ⟨0, 0, mk0 l, [], 0, 0⟩ := rfl
  rw [hW]
  rfl
theorem feedS_keep (d : Dia) (S : Rs) (b : Bs) : (feedS d S b).cl = S.cl ∧ (feedS d S b).handed = S.handed ∧ (feedS d S b).fed ≤ S.fed + b.length := by
  unfold feedS
  split <;> simp [walkS, feedIn]
/-- In the midst of the feeding. -/
structure FM (w0 w : World) (g r9 : Nat) (d : Dia) (l : Lim) (p : Bs) (S : Rs) (O : List Nat) (vp : Value) (ps : List Bs) : Prop where
  a : RA w w0.heap.size g d S O
  s : Sim S (R d l p)
  o : ∃ n, Ok l n S
  f : S.fed ≤ p.length
  c : S.cl = false
  h : S.handed = 0
  v : Own w w0.heap.size 9 1 vp ps.length (ps.map sv)
  n : ∀ x ∈ blkOf vp, x ∉ g :: O
  r : Blk w r9 35 [.int .i64 0, .int .i64 0]
  w : Below w0.heap.size w0 w
theorem FM.feed {w0 w w1 : World} {g r9 : Nat} {d : Dia} {l : Lim} {p b : Bs} {S : Rs} {O : List Nat} {vp : Value} {ps : List Bs} (h : FM w0 w g r9 d l p S O vp ps) (hp : RP w w0.heap.size g d (feedS d S b) O w1) : ∃ O', FM w0 w1 g r9 d l (p ++ b) (feedS d S b) O' vp ps := by
  have hB := RP.below2 h.a h.w.size hp
  obtain ⟨O', h1, k1, n1⟩ := hp
  obtain ⟨n, ho⟩ := h.o
  obtain ⟨e1, e2, e3⟩ := feedS_keep d S b
  refine ⟨O', h1, sim_feed d l b h.s, feed_ok ho b, by have := h.f; rw [List.length_append]; omega, e1.trans h.c, e2.trans h.h, h.v.keep k1 h.n, ?_, h.r.keep k1 (h.a.notF h.r), h.w.trans hB⟩
  intro x hx hm
  simp only [List.mem_cons] at hm
  rcases hm with hm | hm
  · exact h.n x hx (by rw [hm]; simp)
  · rcases n1 x hm with h2 | h2
    · exact h.n x hx (List.mem_cons_of_mem _ h2)
    · have := (h.v.lt x hx).2; omega
theorem FM.keep {w0 w w1 : World} {g r9 : Nat} {d : Dia} {l : Lim} {p : Bs} {S : Rs} {O : List Nat} {vp : Value} {ps : List Bs} (h : FM w0 w g r9 d l p S O vp ps) (k : Keeps [] w w1) : FM w0 w1 g r9 d l p S O vp ps :=
  ⟨h.a.keep k, h.s, h.o, h.f, h.c, h.h, h.v.keep k (by simp), h.n, h.r.keep k (by simp), h.w.trans (k.below h.w.size (by simp))⟩
def lenV : Value → Nat | .slice _ n _ => n | _ => 0
/-- In the midst of the fetching. -/
structure NM (w0 w : World) (g r9 r15 : Nat) (d : Dia) (K P : Int) (all : Tb) (done rest : Tb) (S : Rs) (O : List Nat) (vt : Value) (vs : List Value) : Prop where
  a : RA w w0.heap.size g d S O
  r : S.recs = rest
  e : done ++ rest = all
  h : S.handed = done.length
  t : OTb w w0.heap.size 65 9 vt vs done
  n : ∀ x ∈ tblks vt vs, x ∉ g :: O
  f : Blk w r9 35 [.int .i64 0, .int .i64 0]
  f2 : Blk w r15 35 [.int .i64 K, .int .i64 P]
  w : Below w0.heap.size w0 w
theorem NM.next {w0 w w1 w2 : World} {g r9 r15 : Nat} {d : Dia} {K P : Int} {all done rest : Tb} {S : Rs} {O O' : List Nat} {vt v vt' : Value} {vs : List Value} {r : Row} (h : NM w0 w g r9 r15 d K P all done (r :: rest) S O vt vs)
    (hv : Own w1 w0.heap.size 9 1 v r.length (r.map sv)) (hn : ∀ k ∈ blkOf v, k ∉ g :: O') (ha : RA w1 w0.heap.size g d { S with recs := rest, handed := S.handed + 1 } O') (k1 : Keeps (g :: O) w w1) (hin : ∀ k ∈ O', k ∈ O)
    (hv2 : Own w2 w0.heap.size 65 1 vt' (done.length + 1) (vs ++ [v])) (k2 : Keeps (blkOf vt) w1 w2) (hb2 : ∀ k ∈ blkOf vt', k ∈ blkOf vt ∨ w1.heap.size ≤ k) :
    NM w0 w2 g r9 r15 d K P all (done ++ [r]) rest { S with recs := rest, handed := S.handed + 1 } O' vt' (vs ++ [v]) := by
  have ht1 := h.t.keep k1 h.n
  have hvt : ∀ x ∈ blkOf vt, x ∉ g :: O' := by
    intro x hx hm
    simp only [List.mem_cons] at hm
    rcases hm with hm | hm
    · exact h.n x (by simp only [tblks, List.mem_append]; exact .inl hx) (by rw [hm]; simp)
    · exact h.n x (by simp only [tblks, List.mem_append]; exact .inl hx) (List.mem_cons_of_mem _ (hin x hm))
  have hf1 := h.f.keep k1 (h.a.notF h.f)
  have hf2 := h.f2.keep k1 (h.a.notF h.f2)
  have hB1 : Below w0.heap.size w0 w1 := h.w.trans (k1.below h.w.size (fun x hx => by
    simp only [List.mem_cons] at hx
    rcases hx with rfl | hx
    · exact h.a.lt.1
    · exact (h.a.lt.2.2 x hx).1))
  refine ⟨ha.keepT ht1.2.1 hvt k2, rfl, by rw [← h.e]; simp, by simp [h.h], ht1.push (by decide) hv hv2 k2, ?_, hf1.keep k2 (fun hm => ht1.2.1.apartBlk hf1 (by decide) _ hm rfl), hf2.keep k2 (fun hm => ht1.2.1.apartBlk hf2 (by decide) _ hm rfl), hB1.trans (k2.below hB1.size (fun x hx => (ht1.2.1.lt x hx).1))⟩
  intro x hx hm
  simp only [tblks, List.mem_append, List.flatMap_append, List.flatMap_cons, List.flatMap_nil, List.append_nil] at hx
  rcases hx with hx | hx | hx
  · rcases hb2 x hx with h2 | h2
    · exact hvt x h2 hm
    · obtain ⟨l1, l2, l3⟩ := ha.lt
      simp only [List.mem_cons] at hm
      rcases hm with hm | hm
      · omega
      · have := (l3 x hm).2; omega
  · refine h.n x (by simp only [tblks, List.mem_append]; exact .inr hx) ?_
    simp only [List.mem_cons] at hm ⊢
    rcases hm with hm | hm
    · exact .inl hm
    · exact .inr (hin x hm)
  · exact hn x hx hm
theorem closeS_keep (d : Dia) (S : Rs) : (closeS d S).handed = S.handed ∧ (closeS d S).recs.length ≤ S.recs.length + 3 + S.bs.held := by
  have h1 : (Bom.closeOut S.bs).length ≤ S.bs.held := by unfold Bom.closeOut; rw [List.length_take]; omega
  have h2 := wk_recs d (Bom.closeOut S.bs) S.sq S.st S.mm (S.fed - (Bom.closeOut S.bs).length)
  have h3 : ∀ q : Option Row, q.toList.length ≤ 1 := fun q => by cases q <;> simp
  unfold closeS
  split
  · exact ⟨rfl, by dsimp only; omega⟩
  · split
    · refine ⟨rfl, ?_⟩
      simp only [walkS, closeIn, List.length_append]; omega
    · unfold endS
      split
      · refine ⟨rfl, ?_⟩
        simp only [stepS, walkS, closeIn, List.length_append]; omega
      · refine ⟨rfl, ?_⟩
        have := h3 (enp (walkS d (closeIn S) (Bom.closeOut S.bs) (S.fed - (Bom.closeOut S.bs).length)).sq (walkS d (closeIn S) (Bom.closeOut S.bs) (S.fed - (Bom.closeOut S.bs).length)).st (walkS d (closeIn S) (Bom.closeOut S.bs) (S.fed - (Bom.closeOut S.bs).length)).mm).o
        simp only [List.length_append]
        have h5 : (walkS d (closeIn S) (Bom.closeOut S.bs) (S.fed - (Bom.closeOut S.bs).length)).recs.length ≤ S.recs.length + S.bs.held := by
          simp only [walkS, closeIn, List.length_append]; omega
        omega
def FedP (x : Tb × Nat × Int) (w : World) (e : Ending) (w' : World) : Prop :=
  ∃ v, e = .returned (.tuple #[v, .agg #[.int .i64 x.2.1, .int .i64 x.2.2], .bool true]) ∧ Tbl w' w'.heap.size v x.1 ∧ Keeps [] w w'
set_option maxHeartbeats 8000000 in
theorem fed_c (d : Dia) (hd : d.right = true) (l : Lim) (ha : 1 ≤ l.field ∧ l.field ≤ 2147483648) (hb : 1 ≤ l.fields ∧ l.fields ≤ 2147483648) (hc : 1 ≤ l.records ∧ l.records ≤ 2147483648) (s : Bs) (hs : s.length ≤ 4000) (A : Value) (zs : List Int) (w : World)
    (hz : Rd w w.heap.size 1 A zs.length (zs.map (Value.int .i64))) (hl : zs.length ≤ 1000) :
    Calls Try.prog 16 #[diaV d, limV l.field l.fields l.records l.uniform, sv s, A] w (FedP (Par.parseP d l s) w) := by
  obtain ⟨iS, hiS, hS0, hS1, hS2⟩ := info_parts infoStrs
  have HN := Lib.hid (fun w => new_c d hd l ha hb hc w)
  have HCP := Lib.hid (close_parse d hd l hb.1 s)
  have HR0 := Lib.hid (R0 d l)
  have HL := Lib.hid (And.intro ha.2 (And.intro hb.2 hc.2))
  have HOK := Lib.hid (ok0 l)
  have HZ := Lib.hid hz
  obtain ⟨Z, cz, rfl, hz1, hz2⟩ := hz.form
  unfold maxLen at hz2
  have HBY := Lib.hid (fun w h => By.by_c s (.slice Z zs.length cz) zs w h (by omega) hl)
  have kp := ((Keeps.alloc [] w (.cells #[bv d.delim, bv d.quote, .int .i64 d.fin] 23)).alloc1 (.cells #[.int .i64 l.field, .int .i64 l.fields, .int .i64 l.records, .bool l.uniform] 25)).alloc1 (.cells #[.int .i64 0, .int .i64 0] 35)
  have hb0 := ((Blk.new w 23 [bv d.delim, bv d.quote, .int .i64 d.fin]).alloc (.cells #[.int .i64 l.field, .int .i64 l.fields, .int .i64 l.records, .bool l.uniform] 25)).alloc (.cells #[.int .i64 0, .int .i64 0] 35)
  have hb1 := (Blk.new (w.alloc (.cells #[bv d.delim, bv d.quote, .int .i64 d.fin] 23)) 25 [.int .i64 l.field, .int .i64 l.fields, .int .i64 l.records, .bool l.uniform]).alloc (.cells #[.int .i64 0, .int .i64 0] 35)
  have hb2 := Blk.new ((w.alloc (.cells #[bv d.delim, bv d.quote, .int .i64 d.fin] 23)).alloc (.cells #[.int .i64 l.field, .int .i64 l.fields, .int .i64 l.records, .bool l.uniform] 25)) 35 [.int .i64 0, .int .i64 0]
  simp only [World.size_alloc] at hb1 hb2
  obtain ⟨D, hD⟩ : ∃ D : Dia, D = d := ⟨_, rfl⟩
  obtain ⟨L, hLL⟩ : ∃ L : Lim, L = l := ⟨_, rfl⟩
  rw [← hD, ← hLL] at HN HCP HR0
  rw [← hLL] at HOK HL
  rw [← hD, ← hLL] at ⊢
  rw [← hD, ← hLL] at kp hb0 hb1 hb2
  clear hz hd ha hb hc hD hLL d l
  obtain ⟨x, y, z⟩ := D
  obtain ⟨la, lb, lc, lu⟩ := L
  go_enter Try.func16, Try.ntmps16
  go_upto_region 1 with (fail)
  generalize ((w.alloc (.cells #[bv x, bv y, .int .i64 z] 23)).alloc (.cells #[.int .i64 la, .int .i64 lb, .int .i64 lc, .bool lu] 25)).alloc (.cells #[.int .i64 0, .int .i64 0] 35) = w0 at *
  have c0 := hb0.cell_of (i := 0) rfl
  have c1 := hb0.cell_of (i := 1) rfl
  have c2 := hb0.cell_of (i := 2) rfl
  have e0 := hb1.cell_of (i := 0) rfl
  have e1 := hb1.cell_of (i := 1) rfl
  have e2 := hb1.cell_of (i := 2) rfl
  have e3 := hb1.cell_of (i := 3) rfl
  go_wp2_with (fail)
  refine (HN.out _).mono ?_
  rintro e w1 ⟨g, rfl, hRA, k1⟩
  have hr9 := hb2.keep k1 (by simp)
  have k01 := kp.trans k1 (by simp)
  have hsz := kp.size
  have HRA := Lib.hid hRA
  have HR9 := Lib.hid hr9
  have K01 := Lib.hid k01
  clear c0 c1 c2 e0 e1 e2 e3 hb0 hb1 hb2 hRA hr9 k1 kp HN
  have HBY1 := Lib.hid (HBY.out w1 (HZ.out.keepB k01 (by simp) |>.more k01.size))
  clear k01 HBY
  go_wp2_with (fail)
  refine HBY1.out.mono ?_
  rintro e w2 ⟨vp, ps, rfl, ho2, hfl, k2, hpl⟩
  have hg1 := HRA.out.lt
  have k02 := K01.out.trans k2 (by simp)
  have hFM : FM w w2 g (w.heap.size + 1 + 1) ⟨x, y, z⟩ ⟨la, lb, lc, lu⟩ [] (rs0 ⟨la, lb, lc, lu⟩) [] vp ps := by
    refine ⟨(HRA.out.keep k2).less hsz, HR0.out, ⟨0, HOK.out⟩, by simp [rs0], rfl, rfl, ho2.less (by have := K01.out.size; omega), ?_, HR9.out.keep k2 (by simp), k02.below (Nat.le_refl _) (by simp)⟩
    intro q hq hm
    rw [List.mem_singleton] at hm
    have := (ho2.lt q hq).1
    omega
  obtain ⟨Ap, cp, rfl, hp1, hp2⟩ := ho2.form
  unfold maxLen at hp2
  have HFM := Lib.hid hFM
  have HFL := Lib.hid hfl
  clear hFM hfl ho2 k2 k02 hg1 HRA HR9 K01 HBY1 HR0 HOK
  go_wp2_with (fail)
  go_loopw [36] (fun i wr => ∃ (k : Nat) (S : Rs) (O : List Nat), k ≤ ps.length ∧ i = .int .i64 k ∧ FM w wr g (w.heap.size + 1 + 1) ⟨x, y, z⟩ ⟨la, lb, lc, lu⟩ (ps.take k).flatten S O (.slice Ap ps.length cp) ps) (fun i _ => ps.length - (intOf i).toNat)
  case atStart => exact ⟨0, _, _, Nat.zero_le _, rfl, HFM.out⟩
  case round =>
    obtain ⟨k, S, O, hk, rfl, hF⟩ := hrel
    clear HFM
    by_cases hlt : k < ps.length
    · have hfl2 : ((ps.take k).flatten).length + ps[k].length ≤ s.length := by
        have h1 : ((ps.take (k + 1)).flatten).length ≤ ps.flatten.length := by
          rw [← List.take_append_drop (k + 1) ps, List.flatten_append, List.length_append, List.take_append_drop]
          omega
        rw [HFL.out, List.take_succ_eq_append_getElem hlt, List.flatten_append, List.length_append] at h1
        simpa using h1
      obtain ⟨gp, op, up, rfl, _, _, hup, cup, _, _⟩ := hF.v.at_ hlt
      have e1 : up = sv ps[k] := by
        rw [List.getElem?_map, List.getElem?_eq_getElem hlt] at hup
        exact (Option.some.inj hup).symm
      subst e1
      have hk0 : (0 : Int) ≤ (k : Int) := by omega
      have hki : (k : Int) < (ps.length : Int) := by omega
      obtain ⟨v1, w3, hcv, ho3, k3, hbl3⟩ := run_toBytes (P := Try.prog) wr ps[k] Try.underlying9 Try.underlying37 Try.underlying5 (by simp only [maxLen]; omega)
      have hF3 := hF.keep k3
      obtain ⟨n, hok⟩ := hF.o
      have hgv : ps[k] = [] ∨ ∀ q ∈ blkOf v1, q ∉ g :: O := by
        right
        intro q hq hm
        obtain ⟨l1, l2, l3⟩ := hF.a.lt
        rw [hbl3, List.mem_singleton] at hq
        rw [List.mem_cons] at hm
        rcases hm with hm | hm
        · omega
        · have := (l3 q hm).2; omega
      have HFD := Lib.hid (feed_c w3 w.heap.size g n w3.heap.size ⟨x, y, z⟩ ⟨la, lb, lc, lu⟩ S O v1 ps[k] hF3.w.size hF3.a hok HL.out.1 HL.out.2.1 HL.out.2.2 (ho3.rd (Nat.le_refl _)) hgv (by have := hF.f; omega))
      have HF3 := Lib.hid hF3
      have hsplit : (ps.take (k + 1)).flatten = (ps.take k).flatten ++ ps[k] := by rw [List.take_succ_eq_append_getElem hlt, List.flatten_append]; simp
      have HSP := Lib.hid hsplit
      obtain ⟨A1, cp1, rfl, _, _⟩ := ho3.form
      clear hF hF3 hok hgv ho3 k3 hbl3 hup hfl2 hsplit
      generalize ps[k] = pk at *
      go_wp2_with (with_reducible refine wpList_convert hcv _ rfl rfl rfl ?_)
      with_reducible refine HFD.out.mono ?_
      rintro e w4 ⟨rfl, hp4⟩
      obtain ⟨O4, hF4⟩ := HF3.out.feed hp4
      rw [← HSP.out] at hF4
      have HF4 := Lib.hid hF4
      clear hp4 hF4 hcv cup
      go_wp2_with (fail)
      go_roundw
      case rel => exact ⟨k + 1, _, _, by omega, by go_num, HF4.out⟩
      case measure => simp [intOf]; omega
    · obtain rfl : k = ps.length := by omega
      have hki : ¬ ((ps.length : Int) < (ps.length : Int)) := by omega
      have hF := hF
      rw [List.take_length, HFL.out] at hF
      obtain ⟨n, hok⟩ := hF.o
      have HCL := Lib.hid (close_c wr w.heap.size g n ⟨x, y, z⟩ ⟨la, lb, lc, lu⟩ S O hF.w.size hF.a hok HL.out.1 HL.out.2.1 HL.out.2.2 (by have := hF.f; omega))
      obtain ⟨q1, q2, q3⟩ := sim_close ⟨x, y, z⟩ ⟨la, lb, lc, lu⟩ hF.s
      have hcp := HCP.out
      rw [← q1, ← q2, ← q3] at hcp
      obtain ⟨t1, t2⟩ := closeS_keep ⟨x, y, z⟩ S
      have t3 := hok.r
      have t4 := hok.f
      have t5 := hF.f
      have t6 := hF.h
      have HX := Lib.hid hcp
      have HF := Lib.hid hF
      clear hF hok q1 q2 q3 hcp HCP
      generalize hT : closeS ⟨x, y, z⟩ S = T at *
      have hTl : T.recs.length ≤ 9000 := by omega
      have hTh : T.handed = 0 := by omega
      have HTT := Lib.hid hT
      simp only [fltV] at HCL
      clear hT t1 t2 t3 t4 t5 t6
      go_wp2_with (fail)
      with_reducible refine HCL.out.mono ?_
      rintro e w4 ⟨rfl, hp4⟩
      have hB4 := HF.out.w.trans (RP.below2 HF.out.a HF.out.w.size hp4)
      obtain ⟨O4, h4, k4, n4⟩ := hp4
      have hr4 := HF.out.r.keep k4 (HF.out.a.notF HF.out.r)
      have ka := Keeps.alloc [] w4 (.cells #[.int .i64 T.kind, .int .i64 T.pl] 35)
      have hNM : NM w (w4.alloc (.cells #[.int .i64 T.kind, .int .i64 T.pl] 35)) g (w.heap.size + 1 + 1) w4.heap.size ⟨x, y, z⟩ T.kind T.pl T.recs [] T.recs T O4 (.slice none 0 0) [] :=
        ⟨h4.keep ka, rfl, by simp, by simp [hTh], OTb.nil_ _ _ _ _, by simp [tblks, blkOf], hr4.keep ka (by simp), Blk.new w4 35 _, hB4.trans (ka.below hB4.size (by simp))⟩
      have HNM := Lib.hid hNM
      clear hB4 h4 k4 n4 hr4 ka hNM HF HCL
      go_wp2_with (fail)
      generalize w4.alloc (.cells #[.int .i64 T.kind, .int .i64 T.pl] 35) = w5 at *
      generalize w4.heap.size = r15 at *
      go_loopw [16] (fun v wx => ∃ (done rest : Tb) (S' : Rs) (O : List Nat) (vs : List Value), NM w wx g (w.heap.size + 1 + 1) r15 ⟨x, y, z⟩ T.kind T.pl T.recs done rest S' O v vs) (fun v _ => T.recs.length - lenV v)
      case atStart => exact ⟨[], T.recs, T, O4, [], HNM.out⟩
      case round =>
        obtain ⟨done, rest, S', O', vs, hN⟩ := hrel
        clear HNM
        obtain ⟨At, ct, rfl, hn1, hm1⟩ := hN.t.2.1.form
        have hlen := congrArg List.length hN.e
        rw [List.length_append] at hlen
        cases rest with
        | nil =>
          have HNX := Lib.hid (next_nil wr w.heap.size g ⟨x, y, z⟩ S' O' hN.a hN.r)
          have HN2 := Lib.hid hN
          clear hN
          go_wp2_with (fail)
          with_reducible refine HNX.out.mono ?_
          rintro e w6 ⟨rfl, rfl⟩
          go_upto_region 13 with (fail)
          have r0 := HN2.out.f.cell_of (i := 0) rfl
          have r1 := HN2.out.f.cell_of (i := 1) rfl
          have s0 := HN2.out.f.frozen (i := 0) (by simp)
          have s1 := HN2.out.f.frozen (i := 1) (by simp)
          have q0 := HN2.out.f2.cell_of (i := 0) rfl
          have q1 := HN2.out.f2.cell_of (i := 1) rfl
          have hl9 := HN2.out.f.lt
          have hl15 := HN2.out.f2.lt
          have hdone : done = T.recs := by have := HN2.out.e; simpa using this
          have HDN := Lib.hid hdone
          clear hdone hF
          go_region
          all_goals
            go_wp2_with (fail)
            have k9 := ((Keeps.setCell w6 ⟨w.heap.size + 1 + 1, 0, none⟩ (.int .i64 T.kind)).set1 ⟨w.heap.size + 1 + 1, 1, none⟩ (.int .i64 T.pl) (by simp)).drew1
            have hT9 := HN2.out.t.keep k9 (fun q hq hm => by rw [List.mem_singleton] at hm; exact Wh.OTb.apartB HN2.out.t HN2.out.f (by decide) (by decide) q hq hm)
            have hB9 := HN2.out.w.trans (k9.below HN2.out.w.size (by simp; omega))
            refine bodyPost_ret (v := .tuple #[.slice At done.length ct, .agg #[.int .i64 T.kind, .int .i64 T.pl], .bool true]) (by simp [results, Try.results16, go_sem, r0, r1, s0, s1]) rfl ⟨.slice At done.length ct, ?_, ?_, Keeps.of_below hB9 []⟩
            · rw [HX.out]
            · rw [HX.out]
              have := hT9.tbl (Nat.le_refl _)
              rw [HDN.out] at this
              rw [HDN.out]
              exact this
        | cons r rest =>
          have HNX := Lib.hid (next_c wr w.heap.size g ⟨x, y, z⟩ S' O' r rest hN.a hN.r (by have := hN.h; simp at hlen; omega) (by simp at hlen; omega))
          have HN2 := Lib.hid hN
          have hlen2 : done.length < T.recs.length := by simp at hlen; omega
          clear hN hF hlen
          go_wp2_with (fail)
          with_reducible refine HNX.out.mono ?_
          rintro e w6 ⟨v, O6, rfl, hv, hnv, ha6, k6, hin6, hlt6⟩
          have ht6 := HN2.out.t.keep k6 HN2.out.n
          have hb6 : w.heap.size ≤ w6.heap.size := Nat.le_trans HN2.out.w.size k6.size
          obtain ⟨vt', w7, hap, hq7, k7, n7⟩ := run_append1 (P := Try.prog) (t := 42) Try.underlying42 hiS hS0 hS1 hS2 rfl ht6.2.1 (y := v) (by obtain ⟨a, b, rfl, _, _⟩ := hv.form; rfl) (by simp only [maxLen]; omega) (by omega) hb6 42
          have hN7 := HN2.out.next hv hnv ha6 k6 hin6 hq7 k7 n7
          obtain ⟨A9, c9, rfl, _, _⟩ := hv.form
          obtain ⟨A8, c8, rfl, _, _⟩ := hq7.form
          have HN7 := Lib.hid hN7
          clear hN7 hv hnv ha6 k6 hin6 hlt6 ht6 hq7 k7 n7 HN2 HNX
          go_wp2_with (with_reducible refine wpList_append hap _ _ rfl rfl rfl rfl rfl ?_)
          go_roundw
          case rel => exact ⟨done ++ [r], rest, _, _, _, by simpa using HN7.out⟩
          case measure => simp [lenV]; omega
end Go.Proofs.Ytbjejmdbpikgjaa.Rd
