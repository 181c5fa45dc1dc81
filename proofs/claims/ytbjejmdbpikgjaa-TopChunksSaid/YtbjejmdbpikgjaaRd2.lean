/- The contracts of package read: what a byte comes to, what the end comes to. -/
import Derived.Test.YtbjejmdbpikgjaaRd1
import Derived.Deep.RegionLaw
import Derived.BigRegion
namespace Go.Proofs.Ytbjejmdbpikgjaa.Rd
set_option linter.unusedVariables false
set_option linter.unusedSimpArgs false
set_option maxRecDepth 100000
open Go.RowKit Q Mach Dia Scan Ref4 Fld
attribute [local go_sem ↓] Go.wp_at_zero Go.wp_at_succ
/-- What step and end hand back. -/
def GotP (w : World) (base g : Nat) (d : Dia) (s' : Rs) (o : Option Row) (k : Nat) (O : List Nat) (e : Ending) (w' : World) : Prop :=
  ∃ v O', e = .returned (.tuple #[v, .bool o.isSome, .int .i64 k]) ∧ Own w' base 9 1 v (o.getD []).length ((o.getD []).map sv) ∧ (o = none → v = .slice none 0 0) ∧ (∀ k ∈ blkOf v, k ∉ O') ∧
    RA w' base g d s' O' ∧ Keeps (g :: O) w w' ∧ ∀ k ∈ O', k ∈ O ∨ w.heap.size ≤ k
theorem GotP.nil {w w' : World} {base g : Nat} {d : Dia} {s' : Rs} {k : Nat} {O : List Nat} (h : RP w base g d s' O w') : GotP w base g d s' none k O (.returned (.tuple #[.slice none 0 0, .bool false, .int .i64 k])) w' := by
  obtain ⟨O', h1, h2, h3⟩ := h
  exact ⟨_, O', rfl, Own.nil_ _ _ _ _, fun _ => rfl, by simp [blkOf], h1, h2, h3⟩
theorem RAt.take {w w' : World} {base g : Nat} {d : Dia} {s : Rs} {vf vr vq : Value} {vs : List Value} {ev : Ev} {r : Ending} (h : RAt w base g d s vf vr vq vs) (hp : TakePost w base g 84 (rP d s) (rT s vq) s.mm ev vf vr r w') :
    GotP w base g d { s with mm := (take s.mm ev).1 } (take s.mm ev).2.1 (take s.mm ev).2.2 (blkOf vf ++ (blkOf vr ++ blkOf vq)) r w' := by
  obtain ⟨v, hr, hown, hn, hv, vf', vr', hM, hap, hK, hF, hR⟩ := hp
  have hin : ∀ x ∈ tblks vq vs, x ∉ g :: (blkOf vf ++ blkOf vr) := by
    intro x hx hm
    simp only [List.mem_cons, List.mem_append] at hm
    rcases hm with hm | hm | hm
    · exact h.tabG x hx hm
    · exact h.tabF x hx hm
    · exact h.tabR x hx hm
  have htab := h.tab.keep hK hin
  refine ⟨v, blkOf vf' ++ (blkOf vr' ++ blkOf vq), hr, hown, hn, ?_, ⟨vf', vr', vq, vs, rfl, ⟨hM, htab, ?_⟩⟩, hK.sub ?_, ?_⟩
  · intro k hk hm
    simp only [List.mem_append] at hm
    rcases hm with hm | hm | hm
    · exact hown.apart hM.fld (by decide) k hk hm
    · exact hap k hk hm
    · exact hown.apart htab.2.1 (by decide) k hk hm
  · intro x hx hm
    rcases hR x hm with h1 | h1
    · exact h.ap x hx h1
    · have := (h.tab.lt x (by simp only [tblks, List.mem_append]; exact .inr hx)).2
      omega
  · intro x hx _
    simp only [List.mem_cons, List.mem_append] at hx ⊢
    rcases hx with hx | hx | hx
    · exact .inl hx
    · exact .inr (.inl hx)
    · exact .inr (.inr (.inl hx))
  · intro k hk
    simp only [List.mem_append] at hk ⊢
    rcases hk with hk | hk | hk
    · exact (hF k hk).imp (fun h => .inl h) id
    · exact (hR k hk).imp (fun h => .inr (.inl h)) id
    · exact .inl (.inr (.inr hk))
theorem GotP.after {w w1 w' : World} {base g : Nat} {d : Dia} {s' : Rs} {o : Option Row} {k : Nat} {O : List Nat} {e : Ending} (k1 : Keeps (g :: O) w w1) (h : GotP w1 base g d s' o k O e w') : GotP w base g d s' o k O e w' := by
  obtain ⟨v, O', h1, h2, h3, h4, h5, h6, h7⟩ := h
  exact ⟨v, O', h1, h2, h3, h4, h5, k1.trans h6 (fun x hx _ => hx), fun k hk => (h7 k hk).imp id (by intro h; have := k1.size; omega)⟩
def stepS (s : Rs) (x : Rdp.Sp) : Rs := { s with sq := x.sq, st := x.st, mm := x.mm }
set_option maxHeartbeats 4000000 in
theorem step_c (w : World) (base g n : Nat) (d : Dia) (l : Lim) (s : Rs) (O : List Nat) (b : UInt8) (h : RA w base g d s O) (hU : Upto n l s.mm) (hn : n ≤ 10000) (ha : l.field ≤ 2147483648) (hb : l.fields ≤ 2147483648) (hc : l.records ≤ 2147483648) (hsq : s.sq ≤ 7) (hst : s.st ≤ 6) :
    Calls Try.prog 57 #[.pointer (some ⟨g, 0, none⟩), bv b] w (GotP w base g d (stepS s (Rdp.stp d s.sq s.st s.mm b)) (Rdp.stp d s.sq s.st s.mm b).o (Rdp.stp d s.sq s.st s.mm b).kind O) := by
  obtain ⟨vf, vr, vq, vs, rfl, h⟩ := h
  have HU := Lib.hid (fun w => UtfS.step_c s.sq hsq b w)
  have HS := Lib.hid (fun w => Scan.step_c d s.st hst b w)
  have HF := Lib.hid (hU.fine hn ha hb hc)
  have c17 := h.c (i := 17) rfl
  have f17 := h.f (i := 17) (by omega)
  have hgl := h.lt
  have HB := Lib.hid h
  clear hU ha hb hc hsq hst hn h
  cases hu : Utf.ustep s.sq b.toNat with
  | none =>
    have e1 : Rdp.stp d s.sq s.st s.mm b = ⟨s.sq, s.st, s.mm, none, 3⟩ := by unfold Rdp.stp; rw [hu]
    have HE := Lib.hid e1
    rw [hu] at HU
    simp only [UtfS.ustepV] at HU
    clear hu e1
    go_enter Try.func57, Try.ntmps57
    go_wp2_with (fail)
    refine (HU.out _).mono ?_
    rintro e w1 ⟨rfl, rfl⟩
    go_wp2_with (fail)
    go_ret3
    rw [HE.out]
    exact GotP.nil (RP.refl ⟨vf, vr, vq, vs, rfl, HB.out⟩)
  | some q =>
    rw [hu] at HU
    simp only [UtfS.ustepV] at HU
    have h1 : RAt (w.setCell ⟨g, 17, none⟩ (.int .i64 q)) base g d { s with sq := q } vf vr vq vs := HB.out.set 17 _ rfl rfl rfl
    have c0 := h1.c (i := 0) rfl
    have c1 := h1.c (i := 1) rfl
    have c2 := h1.c (i := 2) rfl
    have c18 := h1.c (i := 18) rfl
    have hg1 := h1.lt
    have K1 := Lib.hid (Keeps.setCell w ⟨g, 17, none⟩ (.int .i64 (q : Int)))
    have H1 := Lib.hid h1
    obtain ⟨X, hX⟩ : ∃ X, Mach.step d s.st b = X := ⟨_, rfl⟩
    have e1 : Rdp.stp d s.sq s.st s.mm b = if X.2.2 ≠ 0 then ⟨q, s.st, s.mm, none, X.2.2⟩ else ⟨q, X.2.1, (take s.mm X.1).1, (take s.mm X.1).2.1, (take s.mm X.1).2.2⟩ := by unfold Rdp.stp; rw [hu, hX]
    have HE := Lib.hid e1
    rw [hX] at HS
    clear hX hu e1 h1
    obtain ⟨⟨e1, e2, e3, e4, e5, e6⟩, t, r⟩ := X
    simp only [stepV] at HS
    obtain ⟨x, y, z⟩ := d
    go_enter Try.func57, Try.ntmps57
    go_wp2_with (fail)
    refine (HU.out _).mono ?_
    rintro e w1 ⟨rfl, rfl⟩
    clear HU
    go_upto_region 5 with (fail)
    clear c17 f17 hgl
    generalize hW1 : w1.setCell ⟨g, 17, none⟩ (.int .i64 q) = wr at *
    have hgr : g < wr.heap.size := hg1
    go_cut [9, 10, 11] from 27 (fun v9 v10 v11 wx => ∃ g1 : Nat, v9 = .pointer (some ⟨g1, 0, none⟩) ∧ wr.heap.size ≤ g1 ∧ Blk wx g1 117 [.bool e1, .bool e2, .bool e3, .bool e4, .bool e5, bv e6] ∧ v10 = .int .i64 t ∧ v11 = .int .i64 r ∧ Keeps [] wr wx)
    case first =>
      clear HF HE HB H1 K1 hW1
      go_region_law (first
        | (refine step_call (HS.out _) Try.func81 ⟨by kernel_rfl, by kernel_rfl⟩ _ _ rfl rfl rfl ?_; rintro e w1 ⟨rfl, k1⟩; refine ⟨_, rfl, ?_⟩; (first | ((with_reducible have hq := ((Blk.new wr 117 [.bool false, .bool false, .bool false, .bool false, .bool false, .int .u8 0]).drew).keep k1 (by simp)); have q0 := hq.cell_of (i := 0) rfl; have f0 := hq.frozen (i := 0) (by simp); have q1 := hq.cell_of (i := 1) rfl; have f1 := hq.frozen (i := 1) (by simp); have q2 := hq.cell_of (i := 2) rfl; have f2 := hq.frozen (i := 2) (by simp); have q3 := hq.cell_of (i := 3) rfl; have f3 := hq.frozen (i := 3) (by simp); have q4 := hq.cell_of (i := 4) rfl; have f4 := hq.frozen (i := 4) (by simp); have q5 := hq.cell_of (i := 5) rfl; have f5 := hq.frozen (i := 5) (by simp)) | skip)))
      all_goals (go_wp2_with (fail); go_meet)
      all_goals first
        | exact ⟨_, rfl, Nat.le_refl _, (((((hq.set_ 0 _).set_ 1 _).set_ 2 _).set_ 3 _).set_ 4 _).set_ 5 _, rfl, rfl, (((((((Keeps.alloc [] wr _).drew1.trans k1 (by simp)).setNew _ _ (Nat.le_refl _)).setNew _ _ (Nat.le_refl _)).setNew _ _ (Nat.le_refl _)).setNew _ _ (Nat.le_refl _)).setNew _ _ (Nat.le_refl _)).setNew _ _ (Nat.le_refl _)⟩
        | exact ⟨_, rfl, k1.size, Blk.new w1 117 _, rfl, rfl, ((Keeps.drew [] wr).trans k1 (by simp)).alloc1 _⟩
    case rest =>
      obtain ⟨g1, rfl, hg1, hbE, rfl, rfl, kx⟩ := hcut
      have h2 := H1.out.keep kx
      have kx1 := K1.out.trans kx (F' := []) (by simp)
      have hgc := h2.lt
      have hgx := hbE.lt
      have f18 := h2.f (i := 18) (by omega)
      have c18 := h2.c (i := 18) rfl
      clear c0 c1 c2 HS
      by_cases hr0 : r = 0
      rotate_left
      · have hr : ((r : Int) != 0) = true := by simpa using hr0
        have HR := Lib.hid hr0
        have H2 := Lib.hid h2
        clear hr0 hbE h2
        go_wp2_with (fail)
        go_ret3
        rw [HE.out, if_pos HR.out]
        exact GotP.nil ⟨_, ⟨vf, vr, vq, vs, rfl, H2.out⟩, kx1.sub (by simp), fun k hk => .inl hk⟩
      subst hr0
      have h3 : RAt (wc.setCell ⟨g, 18, none⟩ (.int .i64 t)) base g ⟨x, y, z⟩ { s with sq := q, st := t } vf vr vq vs := h2.set 18 _ rfl rfl rfl
      have hE3 := hbE.far (p := ⟨g, 18, none⟩) (by show g1 ≠ g; omega) (.int .i64 t)
      have k3 := kx1.set1 ⟨g, 18, none⟩ (.int .i64 t) (by simp)
      have H3 := Lib.hid h3
      have K3 := Lib.hid k3
      have HX3 := Lib.hid hE3
      clear h2 hbE h3 hE3 k3 kx1
      rw [if_neg (by simp)] at HE
      go_upto_region 9 with (fail)
      generalize wc.setCell ⟨g, 18, none⟩ (.int .i64 t) = wy at *
      have q0 := HX3.out.cell_of (i := 0) rfl
      have q1 := HX3.out.cell_of (i := 1) rfl
      have q2 := HX3.out.cell_of (i := 2) rfl
      have q3 := HX3.out.cell_of (i := 3) rfl
      have q4 := HX3.out.cell_of (i := 4) rfl
      have q5 := HX3.out.cell_of (i := 5) rfl
      have h4 := H3.out.keep (Keeps.drew [] wy)
      have HT : Hid (Calls Try.prog 59 #[.pointer (some ⟨g, 7, none⟩), evV ⟨e1, e2, e3, e4, e5, e6⟩] wy.drew (GotP wy.drew base g ⟨x, y, z⟩ { s with sq := q, st := t, mm := (take s.mm ⟨e1, e2, e3, e4, e5, e6⟩).1 } (take s.mm ⟨e1, e2, e3, e4, e5, e6⟩).2.1 (take s.mm ⟨e1, e2, e3, e4, e5, e6⟩).2.2 (blkOf vf ++ (blkOf vr ++ blkOf vq)))) :=
        Lib.hid ((take_c base g 84 _ _ s.mm vf vr ⟨e1, e2, e3, e4, e5, e6⟩ wy.drew h4.mka ⟨by decide, by decide, by decide⟩ HF.out).mono fun r w' hp => h4.take hp)
      clear h4
      go_region_law (first
        | (refine step_call HT.out Try.func59 ⟨by kernel_rfl, by kernel_rfl⟩ _ _ rfl rfl rfl ?_; rintro e w4 ⟨v, O', rfl, hg⟩; refine ⟨_, rfl, ?_⟩))
      all_goals
        go_wp2_with (fail)
        go_ret3
        rw [HE.out]
        exact GotP.after (K3.out.drew1.sub (by simp)) ⟨v, O', rfl, hg⟩
end Go.Proofs.Ytbjejmdbpikgjaa.Rd
