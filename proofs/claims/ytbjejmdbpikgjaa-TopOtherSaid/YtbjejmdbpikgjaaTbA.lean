/- Melted of the texts Rd1 Rd2 Rd3 Rd4 Rd5 Rd6. -/
import Derived.Test.YtbjejmdbpikgjaaFld4
import Derived.Test.YtbjejmdbpikgjaaUpto
import Derived.Test.YtbjejmdbpikgjaaBom
import Derived.Test.YtbjejmdbpikgjaaUtfS
import Derived.Test.YtbjejmdbpikgjaaRdp
import Derived.Test.YtbjejmdbpikgjaaStep
import Derived.Deep.RegionLaw
import Derived.BigRegion
namespace Go.Proofs.Ytbjejmdbpikgjaa.Rd
set_option linter.unusedVariables false
set_option linter.unusedSimpArgs false
set_option maxRecDepth 100000
open Go.RowKit Q Mach Dia Scan Ref4 Fld
attribute [local go_sem ↓] Go.wp_at_zero Go.wp_at_succ
structure Rs where
  bs : Bom.St
  mm : Mk
  sq : Nat
  st : Nat
  fed : Nat
  recs : Tb
  handed : Nat
  kind : Nat
  pl : Nat
  cl : Bool
def rP (d : Dia) (s : Rs) : List Value := [bv d.delim, bv d.quote, .int .i64 d.fin] ++ Bom.St.cells s.bs
def rT (s : Rs) (vq : Value) : List Value := [.int .i64 s.sq, .int .i64 s.st, .int .i64 s.fed, vq, .int .i64 s.handed, .int .i64 s.kind, .int .i64 s.pl, .bool s.cl]
def rC (d : Dia) (s : Rs) (vf vr vq : Value) : List Value := rP d s ++ mkC s.mm vf vr ++ rT s vq
/-- A reader, its own cells and slices. -/
structure RAt (w : World) (base g : Nat) (d : Dia) (s : Rs) (vf vr vq : Value) (vs : List Value) : Prop where
  mka : MkAt w base g 84 (rP d s) (rT s vq) s.mm vf vr
  tab : OTb w base 65 9 vq vs s.recs
  ap : ∀ x ∈ vs.flatMap blkOf, x ∉ blkOf vr
section at_
variable {w w' : World} {base g : Nat} {d : Dia} {s s' : Rs} {vf vr vq : Value} {vs : List Value}
theorem RAt.blk (h : RAt w base g d s vf vr vq vs) : Blk w g 84 (rC d s vf vr vq) := h.mka.blk
theorem RAt.c (h : RAt w base g d s vf vr vq vs) {i : Nat} {u : Value} (hi : (rC d s vf vr vq)[i]? = some u) : w.cell? ⟨g, i, none⟩ = some u := h.mka.blk.cell_of hi
theorem RAt.f (h : RAt w base g d s vf vr vq vs) {i : Nat} (hi : i < 25) : w.frozen? ⟨g, i, none⟩ = false := h.mka.blk.frozen (by simpa [rP, rT, mkC, Bom.St.cells] using hi)
theorem RAt.lt (h : RAt w base g d s vf vr vq vs) : g < w.heap.size := h.mka.blk.lt
theorem RAt.keepF (h : RAt w base g d s vf vr vq vs) {F : List Nat} (k : Keeps F w w') (hF : g ∉ F) (h1 : ∀ x ∈ blkOf vf, x ∉ F) (h2 : ∀ x ∈ blkOf vr, x ∉ F) (h3 : ∀ x ∈ tblks vq vs, x ∉ F) : RAt w' base g d s vf vr vq vs :=
  ⟨⟨h.mka.blk.keep k hF, h.mka.low, h.mka.fld.keep k h1, h.mka.rcd.keep k h2⟩, h.tab.keep k h3, h.ap⟩
theorem RAt.keep (h : RAt w base g d s vf vr vq vs) (k : Keeps [] w w') : RAt w' base g d s vf vr vq vs := h.keepF k (by simp) (by simp) (by simp) (by simp)
theorem RAt.less (h : RAt w base g d s vf vr vq vs) {b : Nat} (hb : b ≤ base) : RAt w b g d s vf vr vq vs :=
  ⟨⟨h.mka.blk, Nat.le_trans hb h.mka.low, h.mka.fld.less hb, h.mka.rcd.less hb⟩, h.tab.less hb, h.ap⟩
theorem RAt.tabG (h : RAt w base g d s vf vr vq vs) : ∀ x ∈ tblks vq vs, x ≠ g := by
  obtain ⟨h1, h2, h3⟩ := h.tab
  intro x hx
  simp only [tblks, List.mem_append, List.mem_flatMap] at hx
  rcases hx with hx | ⟨u, hu, hx⟩
  · exact h2.apartBlk h.mka.blk (by decide) x hx
  · obtain ⟨i, hi, rfl⟩ := List.getElem_of_mem hu
    exact (h3 i _ _ (List.getElem?_eq_getElem hi) (List.getElem?_eq_getElem (by omega))).apartBlk h.mka.blk (by decide) x hx
theorem RAt.tabF (h : RAt w base g d s vf vr vq vs) : ∀ x ∈ tblks vq vs, x ∉ blkOf vf := by
  obtain ⟨h1, h2, h3⟩ := h.tab
  intro x hx
  simp only [tblks, List.mem_append, List.mem_flatMap] at hx
  rcases hx with hx | ⟨u, hu, hx⟩
  · exact h2.apart h.mka.fld (by decide) x hx
  · obtain ⟨i, hi, rfl⟩ := List.getElem_of_mem hu
    exact (h3 i _ _ (List.getElem?_eq_getElem hi) (List.getElem?_eq_getElem (by omega))).apart h.mka.fld (by decide) x hx
theorem RAt.tabR (h : RAt w base g d s vf vr vq vs) : ∀ x ∈ tblks vq vs, x ∉ blkOf vr := by
  intro x hx
  simp only [tblks, List.mem_append] at hx
  rcases hx with hx | hx
  · exact h.tab.2.1.apart h.mka.rcd (by decide) x hx
  · exact h.ap x hx
/-- One of the reader's cells is stored. -/
theorem RAt.set (h : RAt w base g d s vf vr vq vs) (i : Nat) (u : Value) (hi : (rC d s vf vr vq).set i u = rC d s' vf vr vq) (hm : s'.mm = s.mm) (hr : s'.recs = s.recs) : RAt (w.setCell ⟨g, i, none⟩ u) base g d s' vf vr vq vs := by
  have k := Keeps.setCell w ⟨g, i, none⟩ u
  refine ⟨⟨?_, h.mka.low, ?_, ?_⟩, ?_, h.ap⟩
  · have h1 := h.blk.set_ i u
    rw [hi] at h1
    exact h1
  · rw [hm]; exact h.mka.fld.keep k (fun a ha hm => by simp at hm; exact h.mka.fld.apartBlk h.mka.blk (by decide) a ha hm)
  · rw [hm]; exact h.mka.rcd.keep k (fun a ha hm => by simp at hm; exact h.mka.rcd.apartBlk h.mka.blk (by decide) a ha hm)
  · rw [hr]; exact h.tab.keep k (fun a ha hm => by simp at hm; exact h.tabG a ha hm)
end at_
/-- The reader and the blocks that it may write. -/
def RA (w : World) (base g : Nat) (d : Dia) (s : Rs) (O : List Nat) : Prop := ∃ vf vr vq vs, O = blkOf vf ++ (blkOf vr ++ blkOf vq) ∧ RAt w base g d s vf vr vq vs
def RP (w : World) (base g : Nat) (d : Dia) (s' : Rs) (O : List Nat) (w' : World) : Prop :=
  ∃ O', RA w' base g d s' O' ∧ Keeps (g :: O) w w' ∧ ∀ k ∈ O', k ∈ O ∨ w.heap.size ≤ k
section ra
variable {w w' w'' : World} {base g : Nat} {d : Dia} {s s' : Rs} {O : List Nat}
theorem RA.keep (h : RA w base g d s O) (k : Keeps [] w w') : RA w' base g d s O := by
  obtain ⟨vf, vr, vq, vs, h1, h2⟩ := h
  exact ⟨vf, vr, vq, vs, h1, h2.keep k⟩
theorem RA.less (h : RA w base g d s O) {b : Nat} (hb : b ≤ base) : RA w b g d s O := by
  obtain ⟨vf, vr, vq, vs, h1, h2⟩ := h
  exact ⟨vf, vr, vq, vs, h1, h2.less hb⟩
theorem RA.lt (h : RA w base g d s O) : base ≤ g ∧ g < w.heap.size ∧ ∀ k ∈ O, base ≤ k ∧ k < w.heap.size := by
  obtain ⟨vf, vr, vq, vs, rfl, h2⟩ := h
  refine ⟨h2.mka.low, h2.lt, fun k hk => ?_⟩
  simp only [List.mem_append] at hk
  rcases hk with hk | hk | hk
  · exact h2.mka.fld.lt k hk
  · exact h2.mka.rcd.lt k hk
  · exact h2.tab.2.1.lt k hk
theorem RP.refl (h : RA w base g d s O) : RP w base g d s O w := ⟨O, h, Keeps.refl _ _, fun k hk => .inl hk⟩
theorem RP.of (h : RA w base g d s O) (k : Keeps [] w w') : RP w base g d s O w' := ⟨O, h.keep k, k.sub (by simp), fun k hk => .inl hk⟩
theorem RP.trans (h : RP w base g d s O w') (h2 : ∀ O', RA w' base g d s O' → RP w' base g d s' O' w'') : RP w base g d s' O w'' := by
  obtain ⟨O', h1, k1, n1⟩ := h
  obtain ⟨O2, h3, k3, n3⟩ := h2 O' h1
  refine ⟨O2, h3, k1.trans k3 ?_, fun k hk => ?_⟩
  · intro x hx hl
    simp only [List.mem_cons] at hx ⊢
    rcases hx with rfl | hx
    · exact .inl rfl
    · rcases n1 x hx with h | h
      · exact .inr h
      · omega
  · rcases n3 k hk with h | h
    · exact n1 k h
    · exact .inr (by have := k1.size; omega)
theorem RP.keep (h : RP w base g d s O w') (k : Keeps [] w' w'') : RP w base g d s O w'' := h.trans fun O' h' => RP.of h' k
theorem RP.below (h : RP w base g d s O w') (hw : RA w base g d s' O) : Below base w w' := by
  obtain ⟨O', h1, k1, n1⟩ := h
  obtain ⟨l1, l2, l3⟩ := hw.lt
  refine k1.below (by omega) ?_
  intro x hx
  simp only [List.mem_cons] at hx
  rcases hx with rfl | hx
  · exact l1
  · exact (l3 x hx).1
end ra
end Go.Proofs.Ytbjejmdbpikgjaa.Rd
namespace Go.Proofs.Ytbjejmdbpikgjaa.Rd
set_option linter.unusedVariables false
set_option linter.unusedSimpArgs false
set_option maxRecDepth 100000
open Go.RowKit Q Mach Dia Scan Ref4 Fld
attribute [local go_sem ↓] Go.wp_at_zero Go.wp_at_succ
/-- What step and end hand back. -/
def GotP (w : World) (base g : Nat) (d : Dia) (s' : Rs) (o : Option Row) (k : Nat) (O : List Nat) (e : Ending) (w' : World) : Prop :=
  ∃ v O', e = .returned (.tuple #[v, .bool o.isSome, .int .i64 k]) ∧ Own w' base 9 1 v (o.getD []).length ((o.getD []).map sv) ∧ (o = none → v = .slice none 0 0) ∧ (∀ k ∈ blkOf v, k ∉ O') ∧
    RA w' base g d s' O' ∧ Keeps (g :: O) w w' ∧ ∀ k ∈ O', k ∈ O ∨ w.heap.size ≤ k
theorem GotP.nil {w w' : World} {base g : Nat} {d : Dia} {s' : Rs} {k : Nat} {O : List Nat} (h : RP w base g d s' O w') : GotP w base g d s' none k O (.returned (.tuple #[.slice none 0 0, .bool false, .int .i64 k])) w' := by
  obtain ⟨O', h1, h2, h3⟩ := h
  exact ⟨_, O', rfl, Own.nil_ _ _ _ _, fun _ => rfl, by simp [blkOf], h1, h2, h3⟩
theorem RAt.take {w w' : World} {base g : Nat} {d : Dia} {s : Rs} {vf vr vq : Value} {vs : List Value} {ev : Ev} {r : Ending} (h : RAt w base g d s vf vr vq vs) (hp : TakePost w base g 84 (rP d s) (rT s vq) s.mm ev vf vr r w') :
    GotP w base g d { s with mm := (take s.mm ev).1 } (take s.mm ev).2.1 (take s.mm ev).2.2 (blkOf vf ++ (blkOf vr ++ blkOf vq)) r w' := by
  obtain ⟨v, hr, hown, hn, hv, vf', vr', hM, hap, hK, hF, hR⟩ := hp
  have hin : ∀ x ∈ tblks vq vs, x ∉ g :: (blkOf vf ++ blkOf vr) := by
    intro x hx hm
    simp only [List.mem_cons, List.mem_append] at hm
    rcases hm with hm | hm | hm
    · exact h.tabG x hx hm
    · exact h.tabF x hx hm
    · exact h.tabR x hx hm
  have htab := h.tab.keep hK hin
  refine ⟨v, blkOf vf' ++ (blkOf vr' ++ blkOf vq), hr, hown, hn, ?_, ⟨vf', vr', vq, vs, rfl, ⟨hM, htab, ?_⟩⟩, hK.sub ?_, ?_⟩
  · intro k hk hm
    simp only [List.mem_append] at hm
    rcases hm with hm | hm | hm
    · exact hown.apart hM.fld (by decide) k hk hm
    · exact hap k hk hm
    · exact hown.apart htab.2.1 (by decide) k hk hm
  · intro x hx hm
    rcases hR x hm with h1 | h1
    · exact h.ap x hx h1
    · have := (h.tab.lt x (by simp only [tblks, List.mem_append]; exact .inr hx)).2
      omega
  · intro x hx _
    simp only [List.mem_cons, List.mem_append] at hx ⊢
    rcases hx with hx | hx | hx
    · exact .inl hx
    · exact .inr (.inl hx)
    · exact .inr (.inr (.inl hx))
  · intro k hk
    simp only [List.mem_append] at hk ⊢
    rcases hk with hk | hk | hk
    · exact (hF k hk).imp (fun h => .inl h) id
    · exact (hR k hk).imp (fun h => .inr (.inl h)) id
    · exact .inl (.inr (.inr hk))
theorem GotP.after {w w1 w' : World} {base g : Nat} {d : Dia} {s' : Rs} {o : Option Row} {k : Nat} {O : List Nat} {e : Ending} (k1 : Keeps (g :: O) w w1) (h : GotP w1 base g d s' o k O e w') : GotP w base g d s' o k O e w' := by
  obtain ⟨v, O', h1, h2, h3, h4, h5, h6, h7⟩ := h
  exact ⟨v, O', h1, h2, h3, h4, h5, k1.trans h6 (fun x hx _ => hx), fun k hk => (h7 k hk).imp id (by intro h; have := k1.size; omega)⟩
def stepS (s : Rs) (x : Rdp.Sp) : Rs := { s with sq := x.sq, st := x.st, mm := x.mm }
set_option maxHeartbeats 4000000 in
theorem step_c (w : World) (base g n : Nat) (d : Dia) (l : Lim) (s : Rs) (O : List Nat) (b : UInt8) (h : RA w base g d s O) (hU : Upto n l s.mm) (hn : n ≤ 10000) (ha : l.field ≤ 2147483648) (hb : l.fields ≤ 2147483648) (hc : l.records ≤ 2147483648) (hsq : s.sq ≤ 7) (hst : s.st ≤ 6) :
    Calls Try.prog 57 #[.pointer (some ⟨g, 0, none⟩), bv b] w (GotP w base g d (stepS s (Rdp.stp d s.sq s.st s.mm b)) (Rdp.stp d s.sq s.st s.mm b).o (Rdp.stp d s.sq s.st s.mm b).kind O) := by
  obtain ⟨vf, vr, vq, vs, rfl, h⟩ := h
  have HU := Lib.hid (fun w => UtfS.step_c s.sq hsq b w)
  have HS := Lib.hid (fun w => Scan.step_c d s.st hst b w)
  have HF := Lib.hid (hU.fine hn ha hb hc)
  have c17 := h.c (i := 17) rfl
  have f17 := h.f (i := 17) (by omega)
  have hgl := h.lt
  have HB := Lib.hid h
  clear hU ha hb hc hsq hst hn h
  cases hu : Utf.ustep s.sq b.toNat with
  | none =>
    have e1 : Rdp.stp d s.sq s.st s.mm b = ⟨s.sq, s.st, s.mm, none, 3⟩ := by unfold Rdp.stp; rw [hu]
    have HE := Lib.hid e1
    rw [hu] at HU
    simp only [UtfS.ustepV] at HU
    clear hu e1
    go_enter Try.func57, Try.ntmps57
    go_wp2_with (fail)
    refine (HU.out _).mono ?_
    rintro e w1 ⟨rfl, rfl⟩
    go_wp2_with (fail)
    go_ret3
    rw [HE.out]
    exact GotP.nil (RP.refl ⟨vf, vr, vq, vs, rfl, HB.out⟩)
  | some q =>
    rw [hu] at HU
    simp only [UtfS.ustepV] at HU
    have h1 : RAt (w.setCell ⟨g, 17, none⟩ (.int .i64 q)) base g d { s with sq := q } vf vr vq vs := HB.out.set 17 _ rfl rfl rfl
    have c0 := h1.c (i := 0) rfl
    have c1 := h1.c (i := 1) rfl
    have c2 := h1.c (i := 2) rfl
    have c18 := h1.c (i := 18) rfl
    have hg1 := h1.lt
    have K1 := Lib.hid (Keeps.setCell w ⟨g, 17, none⟩ (.int .i64 (q : Int)))
    have H1 := Lib.hid h1
    obtain ⟨X, hX⟩ : ∃ X, Mach.step d s.st b = X := ⟨_, rfl⟩
    have e1 : Rdp.stp d s.sq s.st s.mm b = if X.2.2 ≠ 0 then ⟨q, s.st, s.mm, none, X.2.2⟩ else ⟨q, X.2.1, (take s.mm X.1).1, (take s.mm X.1).2.1, (take s.mm X.1).2.2⟩ := by unfold Rdp.stp; rw [hu, hX]
    have HE := Lib.hid e1
    rw [hX] at HS
    clear hX hu e1 h1
    obtain ⟨⟨e1, e2, e3, e4, e5, e6⟩, t, r⟩ := X
    simp only [stepV] at HS
    obtain ⟨x, y, z⟩ := d
    go_enter Try.func57, Try.ntmps57
    go_wp2_with (fail)
    refine (HU.out _).mono ?_
    rintro e w1 ⟨rfl, rfl⟩
    clear HU
    go_upto_region 5 with (fail)
    clear c17 f17 hgl
    generalize hW1 : w1.setCell ⟨g, 17, none⟩ (.int .i64 q) = wr at *
    have hgr : g < wr.heap.size := hg1
    go_cut [9, 10, 11] from 27 (fun v9 v10 v11 wx => ∃ g1 : Nat, v9 = .pointer (some ⟨g1, 0, none⟩) ∧ wr.heap.size ≤ g1 ∧ Blk wx g1 117 [.bool e1, .bool e2, .bool e3, .bool e4, .bool e5, bv e6] ∧ v10 = .int .i64 t ∧ v11 = .int .i64 r ∧ Keeps [] wr wx)
    case first =>
      clear HF HE HB H1 K1 hW1
      go_region_law (first
        | (refine step_call (HS.out _) Try.func81 ⟨by kernel_rfl, by kernel_rfl⟩ _ _ rfl rfl rfl ?_; rintro e w1 ⟨rfl, k1⟩; refine ⟨_, rfl, ?_⟩; (first | ((with_reducible have hq := ((Blk.new wr 117 [.bool false, .bool false, .bool false, .bool false, .bool false, .int .u8 0]).drew).keep k1 (by simp)); have q0 := hq.cell_of (i := 0) rfl; have f0 := hq.frozen (i := 0) (by simp); have q1 := hq.cell_of (i := 1) rfl; have f1 := hq.frozen (i := 1) (by simp); have q2 := hq.cell_of (i := 2) rfl; have f2 := hq.frozen (i := 2) (by simp); have q3 := hq.cell_of (i := 3) rfl; have f3 := hq.frozen (i := 3) (by simp); have q4 := hq.cell_of (i := 4) rfl; have f4 := hq.frozen (i := 4) (by simp); have q5 := hq.cell_of (i := 5) rfl; have f5 := hq.frozen (i := 5) (by simp)) | skip)))
      all_goals (go_wp2_with (fail); go_meet)
      all_goals first
        | exact ⟨_, rfl, Nat.le_refl _, (((((hq.set_ 0 _).set_ 1 _).set_ 2 _).set_ 3 _).set_ 4 _).set_ 5 _, rfl, rfl, (((((((Keeps.alloc [] wr _).drew1.trans k1 (by simp)).setNew _ _ (Nat.le_refl _)).setNew _ _ (Nat.le_refl _)).setNew _ _ (Nat.le_refl _)).setNew _ _ (Nat.le_refl _)).setNew _ _ (Nat.le_refl _)).setNew _ _ (Nat.le_refl _)⟩
        | exact ⟨_, rfl, k1.size, Blk.new w1 117 _, rfl, rfl, ((Keeps.drew [] wr).trans k1 (by simp)).alloc1 _⟩
    case rest =>
      obtain ⟨g1, rfl, hg1, hbE, rfl, rfl, kx⟩ := hcut
      have h2 := H1.out.keep kx
      have kx1 := K1.out.trans kx (F' := []) (by simp)
      have hgc := h2.lt
      have hgx := hbE.lt
      have f18 := h2.f (i := 18) (by omega)
      have c18 := h2.c (i := 18) rfl
      clear c0 c1 c2 HS
      by_cases hr0 : r = 0
      rotate_left
      · have hr : ((r : Int) != 0) = true := by simpa using hr0
        have HR := Lib.hid hr0
        have H2 := Lib.hid h2
        clear hr0 hbE h2
        go_wp2_with (fail)
        go_ret3
        rw [HE.out, if_pos HR.out]
        exact GotP.nil ⟨_, ⟨vf, vr, vq, vs, rfl, H2.out⟩, kx1.sub (by simp), fun k hk => .inl hk⟩
      subst hr0
      have h3 : RAt (wc.setCell ⟨g, 18, none⟩ (.int .i64 t)) base g ⟨x, y, z⟩ { s with sq := q, st := t } vf vr vq vs := h2.set 18 _ rfl rfl rfl
      have hE3 := hbE.far (p := ⟨g, 18, none⟩) (by show g1 ≠ g; omega) (.int .i64 t)
      have k3 := kx1.set1 ⟨g, 18, none⟩ (.int .i64 t) (by simp)
      have H3 := Lib.hid h3
      have K3 := Lib.hid k3
      have HX3 := Lib.hid hE3
      clear h2 hbE h3 hE3 k3 kx1
      rw [if_neg (by simp)] at HE
      go_upto_region 9 with (fail)
      generalize wc.setCell ⟨g, 18, none⟩ (.int .i64 t) = wy at *
      have q0 := HX3.out.cell_of (i := 0) rfl
      have q1 := HX3.out.cell_of (i := 1) rfl
      have q2 := HX3.out.cell_of (i := 2) rfl
      have q3 := HX3.out.cell_of (i := 3) rfl
      have q4 := HX3.out.cell_of (i := 4) rfl
      have q5 := HX3.out.cell_of (i := 5) rfl
      have h4 := H3.out.keep (Keeps.drew [] wy)
      have HT : Hid (Calls Try.prog 59 #[.pointer (some ⟨g, 7, none⟩), evV ⟨e1, e2, e3, e4, e5, e6⟩] wy.drew (GotP wy.drew base g ⟨x, y, z⟩ { s with sq := q, st := t, mm := (take s.mm ⟨e1, e2, e3, e4, e5, e6⟩).1 } (take s.mm ⟨e1, e2, e3, e4, e5, e6⟩).2.1 (take s.mm ⟨e1, e2, e3, e4, e5, e6⟩).2.2 (blkOf vf ++ (blkOf vr ++ blkOf vq)))) :=
        Lib.hid ((take_c base g 84 _ _ s.mm vf vr ⟨e1, e2, e3, e4, e5, e6⟩ wy.drew h4.mka ⟨by decide, by decide, by decide⟩ HF.out).mono fun r w' hp => h4.take hp)
      clear h4
      go_region_law (first
        | (refine step_call HT.out Try.func59 ⟨by kernel_rfl, by kernel_rfl⟩ _ _ rfl rfl rfl ?_; rintro e w4 ⟨v, O', rfl, hg⟩; refine ⟨_, rfl, ?_⟩))
      all_goals
        go_wp2_with (fail)
        go_ret3
        rw [HE.out]
        exact GotP.after (K3.out.drew1.sub (by simp)) ⟨v, O', rfl, hg⟩
end Go.Proofs.Ytbjejmdbpikgjaa.Rd
namespace Go.Proofs.Ytbjejmdbpikgjaa.Rd
set_option linter.unusedVariables false
set_option linter.unusedSimpArgs false
set_option maxRecDepth 100000
open Go.RowKit Q Mach Dia Scan Ref4 Fld
attribute [local go_sem ↓] Go.wp_at_zero Go.wp_at_succ
def enp (sq st : Nat) (m : Mk) : Rdp.Sp :=
  if sq ≠ 0 then ⟨sq, st, m, none, 12⟩ else if (closeEv st).2 ≠ 0 then ⟨sq, st, m, none, (closeEv st).2⟩
  else ⟨sq, st, (take m (closeEv st).1).1, (take m (closeEv st).1).2.1, (take m (closeEv st).1).2.2⟩
set_option maxHeartbeats 4000000 in
theorem end_c (w : World) (base g n : Nat) (d : Dia) (l : Lim) (s : Rs) (O : List Nat) (h : RA w base g d s O) (hU : Upto n l s.mm) (hn : n ≤ 10000) (ha : l.field ≤ 2147483648) (hb : l.fields ≤ 2147483648) (hc : l.records ≤ 2147483648) (hst : s.st ≤ 6) :
    Calls Try.prog 38 #[.pointer (some ⟨g, 0, none⟩)] w (GotP w base g d (stepS s (enp s.sq s.st s.mm)) (enp s.sq s.st s.mm).o (enp s.sq s.st s.mm).kind O) := by
  obtain ⟨vf, vr, vq, vs, rfl, h⟩ := h
  have HS := Lib.hid (fun w => Scan.close_c s.st hst w)
  have HF := Lib.hid (hU.fine hn ha hb hc)
  have c17 := h.c (i := 17) rfl
  have c18 := h.c (i := 18) rfl
  have hgl := h.lt
  have HB := Lib.hid h
  clear hU ha hb hc hst hn h
  by_cases hq : s.sq = 0
  rotate_left
  · have hq' : ((s.sq : Int) != 0) = true := by simpa using hq
    have HQ := Lib.hid hq
    clear hq
    go_enter Try.func38, Try.ntmps38
    go_wp2_with (fail)
    go_ret3
    have e1 : enp s.sq s.st s.mm = ⟨s.sq, s.st, s.mm, none, 12⟩ := by unfold enp; rw [if_pos HQ.out]
    rw [e1]
    exact GotP.nil (RP.refl ⟨vf, vr, vq, vs, rfl, HB.out⟩)
  have hq' : ((s.sq : Int) != 0) = false := by simpa using hq
  obtain ⟨X, hX⟩ : ∃ X, closeEv s.st = X := ⟨_, rfl⟩
  have e1 : enp s.sq s.st s.mm = if X.2 ≠ 0 then ⟨s.sq, s.st, s.mm, none, X.2⟩ else ⟨s.sq, s.st, (take s.mm X.1).1, (take s.mm X.1).2.1, (take s.mm X.1).2.2⟩ := by unfold enp; rw [if_neg (by simpa using hq), hX]
  have HE := Lib.hid e1
  rw [hX] at HS
  clear hX e1 hq
  obtain ⟨⟨e1, e2, e3, e4, e5, e6⟩, r⟩ := X
  simp only [closeV] at HS
  go_enter Try.func38, Try.ntmps38
  go_wp2_with (fail)
  refine (HS.out _).mono ?_
  rintro e w1 ⟨rfl, k1⟩
  have h1 := HB.out.keep k1
  have hE := Blk.new w1 117 [.bool e1, .bool e2, .bool e3, .bool e4, .bool e5, bv e6]
  have h2 := h1.keep (Keeps.alloc [] w1 (.cells #[.bool e1, .bool e2, .bool e3, .bool e4, .bool e5, bv e6] 117))
  have k2 := k1.alloc1 (.cells #[.bool e1, .bool e2, .bool e3, .bool e4, .bool e5, bv e6] 117)
  clear c17 c18 hgl h1 k1 HS
  by_cases hr0 : r = 0
  rotate_left
  · have hr : ((r : Int) != 0) = true := by simpa using hr0
    have HR := Lib.hid hr0
    have H2 := Lib.hid h2
    clear hr0 h2 hE
    go_wp2_with (fail)
    go_ret3
    rw [HE.out, if_pos HR.out]
    exact GotP.nil (RP.of ⟨vf, vr, vq, vs, rfl, HB.out⟩ k2)
  subst hr0
  rw [if_neg (by simp)] at HE
  have H3 := Lib.hid h2
  have K3 := Lib.hid k2
  have HX3 := Lib.hid hE
  clear h2 hE k2
  go_upto_region 6 with (fail)
  generalize hWY : w1.alloc (.cells #[.bool e1, .bool e2, .bool e3, .bool e4, .bool e5, bv e6] 117) = wy at *
  generalize hG : w1.heap.size = g1 at *
  have q0 := HX3.out.cell_of (i := 0) rfl
  have q1 := HX3.out.cell_of (i := 1) rfl
  have q2 := HX3.out.cell_of (i := 2) rfl
  have q3 := HX3.out.cell_of (i := 3) rfl
  have q4 := HX3.out.cell_of (i := 4) rfl
  have q5 := HX3.out.cell_of (i := 5) rfl
  clear hWY hG
  have h4 := H3.out.keep (Keeps.drew [] wy)
  have HT : Hid (Calls Try.prog 59 #[.pointer (some ⟨g, 7, none⟩), evV ⟨e1, e2, e3, e4, e5, e6⟩] wy.drew (GotP wy.drew base g d { s with mm := (take s.mm ⟨e1, e2, e3, e4, e5, e6⟩).1 } (take s.mm ⟨e1, e2, e3, e4, e5, e6⟩).2.1 (take s.mm ⟨e1, e2, e3, e4, e5, e6⟩).2.2 (blkOf vf ++ (blkOf vr ++ blkOf vq)))) :=
    Lib.hid ((take_c base g 84 _ _ s.mm vf vr ⟨e1, e2, e3, e4, e5, e6⟩ wy.drew h4.mka ⟨by decide, by decide, by decide⟩ HF.out).mono fun r w' hp => h4.take hp)
  clear h4
  go_region_law (first
    | (refine step_call HT.out Try.func59 ⟨by kernel_rfl, by kernel_rfl⟩ _ _ rfl rfl rfl ?_; rintro e w4 ⟨v, O', rfl, hg⟩; refine ⟨_, rfl, ?_⟩))
  all_goals
    go_wp2_with (fail)
    go_ret3
    rw [HE.out]
    exact GotP.after (K3.out.drew1.sub (by simp)) ⟨v, O', rfl, hg⟩
/-! ### The numbers of a reader -/
section num
variable {w : World} {base g : Nat} {d : Dia} {s : Rs} {O : List Nat}
set_option maxHeartbeats 400000 in
theorem count_c (h : RA w base g d s O) (h1 : s.handed ≤ 1000000) (h2 : s.recs.length ≤ 1000000) : Calls Try.prog 12 #[.pointer (some ⟨g, 0, none⟩)] w fun e w' => e = .returned (.int .i64 ((s.handed + s.recs.length : Nat) : Int)) ∧ Keeps [] w w' := by
  obtain ⟨vf, vr, vq, vs, rfl, h⟩ := h
  obtain ⟨A, c, rfl, hn1, hm1⟩ := h.tab.2.1.form
  have c20 := h.c (i := 20) rfl
  have c21 := h.c (i := 21) rfl
  clear h
  go_enter Try.func12, Try.ntmps12
  go_wp2_with (fail)
  go_region
  all_goals
    go_wp2_with (fail)
    go_ret
    exact ⟨by go_num, Keeps.drew [] _⟩
set_option maxHeartbeats 400000 in
theorem offset_c (h : RA w base g d s O) : Calls Try.prog 13 #[.pointer (some ⟨g, 0, none⟩)] w fun e w' => e = .returned (.int .i64 (if s.kind ≠ 0 then (s.pl : Int) else (s.fed : Int))) ∧ w' = w := by
  obtain ⟨vf, vr, vq, vs, rfl, h⟩ := h
  have c19 := h.c (i := 19) rfl
  have c22 := h.c (i := 22) rfl
  have c23 := h.c (i := 23) rfl
  clear h
  by_cases hk : s.kind = 0
  · have hk' : ((s.kind : Int) != 0) = false := by simpa using hk
    have HK := Lib.hid hk
    clear hk
    go_enter Try.func13, Try.ntmps13
    go_wp2_with (fail)
    go_ret
    exact ⟨rfl, rfl⟩
  · have hk' : ((s.kind : Int) != 0) = true := by simpa using hk
    have HK := Lib.hid hk
    clear hk
    go_enter Try.func13, Try.ntmps13
    go_wp2_with (fail)
    go_ret
    exact ⟨rfl, rfl⟩
/-- The fault's value. -/
def fltV (s : Rs) : Value := .agg #[.int .i64 s.kind, .int .i64 s.pl]
set_option maxHeartbeats 400000 in
theorem fault_c (h : RA w base g d s O) : Calls Try.prog 15 #[.pointer (some ⟨g, 0, none⟩)] w fun e w' => e = .returned (fltV s) ∧ Keeps [] w w' := by
  obtain ⟨vf, vr, vq, vs, rfl, h⟩ := h
  have hgl := h.lt
  have hne : g ≠ w.heap.size := by omega
  have c22 := h.c (i := 22) rfl
  have c23 := h.c (i := 23) rfl
  clear h
  go_enter Try.func15, Try.ntmps15
  go_wp2_with (fail)
  exact bodyPost_ret (v := fltV s) (by simp [results, Try.results15, go_sem, fltV]) rfl ⟨rfl, Keeps.alloc [] w _⟩
end num
end Go.Proofs.Ytbjejmdbpikgjaa.Rd
namespace Go.Proofs.Ytbjejmdbpikgjaa.Rd
set_option linter.unusedVariables false
set_option linter.unusedSimpArgs false
set_option maxRecDepth 100000
open Go.RowKit Q Mach Dia Scan Ref4 Fld
attribute [local go_sem ↓] Go.wp_at_zero Go.wp_at_succ
theorem infoStrs : (Try.prog.info? 65).map (fun i => (i.zero, i.size, i.bytes)) = some (some (.slice none 0 0), 1, 24) := by kernel_rfl
theorem step_le (d : Dia) (st : Nat) (b : UInt8) (h : st ≤ 6) : (Mach.step d st b).2.1 ≤ 6 := by
  unfold Mach.step atStart inRecord
  repeat' split
  all_goals simp
theorem Upto.mono' {n k : Nat} {l : Lim} {m : Mk} (h : Upto n l m) (hk : n ≤ k) : Upto k l m := ⟨h.l, Nat.le_trans h.f hk, by have := h.r; omega, Nat.le_trans h.b hk, Nat.le_trans h.k hk⟩
theorem stp_ok {n : Nat} {l : Lim} {d : Dia} {sq st : Nat} {m : Mk} (b : UInt8) (hU : Upto n l m) (hq : sq ≤ 7) (hs : st ≤ 6) :
    Upto (n + 1) l (Rdp.stp d sq st m b).mm ∧ (Rdp.stp d sq st m b).sq ≤ 7 ∧ (Rdp.stp d sq st m b).st ≤ 6 := by
  unfold Rdp.stp
  cases hu : Utf.ustep sq b.toNat with
  | none => exact ⟨Upto.mono' hU (by omega), hq, hs⟩
  | some q =>
    have hq2 := Utf.ustep_lt hu
    have hs2 := step_le d st b hs
    dsimp only
    split
    · exact ⟨Upto.mono' hU (by omega), hq2, hs⟩
    · exact ⟨hU.take _, hq2, hs2⟩
theorem stp_none {d : Dia} {sq st : Nat} {m : Mk} {b : UInt8} (h : (Rdp.stp d sq st m b).kind ≠ 0) : (Rdp.stp d sq st m b).o = none := by
  unfold Rdp.stp at h ⊢
  cases hu : Utf.ustep sq b.toNat with
  | none => rfl
  | some q =>
    rw [hu] at h
    dsimp only at h ⊢
    split at h
    · rename_i h1; rw [if_pos h1]
    · rename_i h1
      rw [if_neg h1]
      dsimp only at h ⊢
      rw [take_eq] at h ⊢
      repeat' split at h
      all_goals simp_all
theorem wk_ok {l : Lim} {d : Dia} : ∀ (b : Bs) (n sq st : Nat) (m : Mk) (i : Nat), Upto n l m → sq ≤ 7 → st ≤ 6 → Upto (n + b.length) l (Rdp.wk d sq st m b i).mm ∧ (Rdp.wk d sq st m b i).sq ≤ 7 ∧ (Rdp.wk d sq st m b i).st ≤ 6
  | [], n, sq, st, m, i, h1, h2, h3 => ⟨h1, h2, h3⟩
  | c :: b, n, sq, st, m, i, h1, h2, h3 => by
    have h := stp_ok (d := d) c h1 h2 h3
    unfold Rdp.wk
    dsimp only
    split
    · exact ⟨Upto.mono' h.1 (by simp), h.2.1, h.2.2⟩
    · have := wk_ok (d := d) b (n + 1) _ _ _ (i + 1) h.1 h.2.1 h.2.2
      simp only [Rdp.Wk.pre, List.length_cons]
      rw [show n + (b.length + 1) = n + 1 + b.length by omega]
      exact this
/-- A record is put behind those that are ready. -/
theorem RAt.push {w w2 : World} {base g : Nat} {d : Dia} {s : Rs} {vf vr vq v v' : Value} {vs : List Value} {r : Row} (h : RAt w base g d s vf vr vq vs) (hu : Own w base 9 1 v r.length (r.map sv)) (ha : ∀ k ∈ blkOf v, k ∉ blkOf vr)
    (hv : Own w2 base 65 1 v' (s.recs.length + 1) (vs ++ [v])) (k : Keeps (blkOf vq) w w2) : RAt (w2.setCell ⟨g, 20, none⟩ v') base g d { s with recs := s.recs ++ [r] } vf vr v' (vs ++ [v]) := by
  have hq := h.tab.2.1
  have hgq : g ∉ blkOf vq := fun hm => h.tabG g (by simp only [tblks, List.mem_append]; exact .inl hm) rfl
  have hb := h.blk.keep k hgq
  have ht := h.tab.push (by decide) hu hv k
  have hf := h.mka.fld.keep k (fun x hx hm => h.mka.fld.apart hq (by decide) x hx hm)
  have hr := h.mka.rcd.keep k (fun x hx hm => h.mka.rcd.apart hq (by decide) x hx hm)
  have k2 := Keeps.setCell w2 ⟨g, 20, none⟩ v'
  have hM : MkAt w2 base g 84 (rP d s) (rT s vq) s.mm vf vr := ⟨hb, h.mka.low, hf, hr⟩
  refine ⟨⟨hb.set_ 20 v', h.mka.low, ?_, ?_⟩, ?_, ?_⟩
  · exact hf.keep k2 (fun a ha hm => by simp at hm; exact hf.apartBlk hb (by decide) a ha hm)
  · exact hr.keep k2 (fun a ha hm => by simp at hm; exact hr.apartBlk hb (by decide) a ha hm)
  · refine ht.keep k2 (fun a ha hm => ?_)
    simp only [List.mem_singleton] at hm
    obtain ⟨t1, t2, t3⟩ := ht
    simp only [tblks, List.mem_append, List.mem_flatMap] at ha
    rcases ha with hx | ⟨u, hu, hx⟩
    · exact t2.apartBlk hb (by decide) a hx hm
    · obtain ⟨i, hi, rfl⟩ := List.getElem_of_mem (List.mem_append.mpr hu)
      exact (t3 i _ _ (List.getElem?_eq_getElem hi) (List.getElem?_eq_getElem (by omega))).apartBlk hb (by decide) a hx hm
  · intro x hx
    simp only [List.flatMap_append, List.mem_append, List.flatMap_cons, List.flatMap_nil, List.append_nil] at hx
    rcases hx with hx | hx
    · exact h.ap x hx
    · exact ha x hx
def walkS (d : Dia) (s : Rs) (b : Bs) (i : Nat) : Rs :=
  { s with sq := (Rdp.wk d s.sq s.st s.mm b i).sq, st := (Rdp.wk d s.sq s.st s.mm b i).st, mm := (Rdp.wk d s.sq s.st s.mm b i).mm, recs := s.recs ++ (Rdp.wk d s.sq s.st s.mm b i).recs, kind := (Rdp.wk d s.sq s.st s.mm b i).kind, pl := (Rdp.wk d s.sq s.st s.mm b i).pl }
/-- What is known in the midst of a walk. -/
structure Mid (d : Dia) (l : Lim) (n : Nat) (b : Bs) (i : Nat) (s s' : Rs) (k : Nat) (rs : Tb) : Prop where
  e : s' = { s with sq := s'.sq, st := s'.st, mm := s'.mm, recs := s.recs ++ rs }
  u : Upto (n + k) l s'.mm
  q : s'.sq ≤ 7
  t : s'.st ≤ 6
  w : Rdp.wk d s.sq s.st s.mm b i = (Rdp.wk d s'.sq s'.st s'.mm (b.drop k) (i + k)).pre rs
  r : rs.length ≤ k
theorem Mid.step {d : Dia} {l : Lim} {n : Nat} {b : Bs} {i : Nat} {s s' : Rs} {k : Nat} {rs : Tb} (h : Mid d l n b i s s' k rs) (hk : k < b.length) (x : Rdp.Sp) (hx : Rdp.stp d s'.sq s'.st s'.mm b[k] = x) (h0 : x.kind = 0) :
    Mid d l n b i s { stepS s' x with recs := s'.recs ++ x.o.toList } (k + 1) (rs ++ x.o.toList) := by
  have h1 := stp_ok (d := d) b[k] h.u h.q h.t
  rw [hx] at h1
  refine ⟨?_, h1.1, h1.2.1, h1.2.2, ?_, ?_⟩
  · rw [h.e]; simp [stepS]
  · rw [h.w, List.drop_eq_getElem_cons hk]
    have e2 : Rdp.wk d s'.sq s'.st s'.mm (b[k] :: b.drop (k + 1)) (i + k) = (Rdp.wk d x.sq x.st x.mm (b.drop (k + 1)) (i + k + 1)).pre x.o.toList := by
      rw [Rdp.wk]
      simp only [hx]
      rw [if_neg (by simpa using h0)]
    rw [e2, Rdp.Wk.pre_pre]
    rfl
  · have := h.r
    have : x.o.toList.length ≤ 1 := by cases x.o <;> simp
    simp; omega
theorem Mid.bad {d : Dia} {l : Lim} {n : Nat} {b : Bs} {i : Nat} {s s' : Rs} {k : Nat} {rs : Tb} (h : Mid d l n b i s s' k rs) (hk : k < b.length) (x : Rdp.Sp) (hx : Rdp.stp d s'.sq s'.st s'.mm b[k] = x) (h0 : x.kind ≠ 0) :
    walkS d s b i = { stepS s' x with kind := x.kind, pl := i + k } := by
  have e2 : Rdp.wk d s.sq s.st s.mm b i = ⟨x.sq, x.st, x.mm, rs, x.kind, i + k⟩ := by
    rw [h.w, List.drop_eq_getElem_cons hk, Rdp.wk]
    simp only [hx]
    rw [if_pos h0]
    simp [Rdp.Wk.pre]
  unfold walkS
  rw [e2, h.e]
  simp [stepS]
theorem Mid.all {d : Dia} {l : Lim} {n : Nat} {b : Bs} {i : Nat} {s s' : Rs} {rs : Tb} (h : Mid d l n b i s s' b.length rs) (hk : s.kind = 0 ∧ s.pl = 0) : walkS d s b i = s' := by
  have e2 : Rdp.wk d s.sq s.st s.mm b i = ⟨s'.sq, s'.st, s'.mm, rs, 0, 0⟩ := by
    rw [h.w, List.drop_length, Rdp.wk]
    simp [Rdp.Wk.pre]
  unfold walkS
  rw [e2, h.e]
  simp [hk.1, hk.2]
set_option maxHeartbeats 8000000 in
theorem walk_c (w : World) (base g n B : Nat) (d : Dia) (l : Lim) (s : Rs) (O : List Nat) (v : Value) (b : Bs) (hbw : base ≤ w.heap.size) (h : RA w base g d s O) (hU : Upto n l s.mm) (hn : n + b.length ≤ 10000) (ha : l.field ≤ 2147483648) (hb : l.fields ≤ 2147483648) (hc : l.records ≤ 2147483648) (hsq : s.sq ≤ 7) (hst : s.st ≤ 6) (hk : s.kind = 0 ∧ s.pl = 0)
    (hv : Rd w B 1 v b.length (b.map bv)) (hd : b = [] ∨ ∀ x ∈ blkOf v, x ∉ g :: O) (hf : b.length ≤ s.fed) (hf2 : s.fed ≤ 10000) (hrl : s.recs.length ≤ 10000) :
    Calls Try.prog 35 #[.pointer (some ⟨g, 0, none⟩), v] w fun e w' => e = .returned (.tuple #[]) ∧ RP w base g d (walkS d s b (s.fed - b.length)) O w' := by
  obtain ⟨iS, hiS, hS0, hS1, hS2⟩ := info_parts infoStrs
  obtain ⟨A, cv, rfl, hv1, hv2⟩ := hv.form
  unfold maxLen at hv2
  have HV := Lib.hid hv
  have HD := Lib.hid hd
  have h0 := h
  obtain ⟨vf, vr, vq, vs, hO, h1⟩ := h
  have c19 := h1.c (i := 19) rfl
  have hgl := h1.lt
  have hfi : ((s.fed : Int) - (b.length : Int)) = ((s.fed - b.length : Nat) : Int) := by omega
  have hfw : wrap64 ((s.fed : Int) - (b.length : Int)) = ((s.fed - b.length : Nat) : Int) := by rw [hfi]; exact IntWalk.wrap64_in _ (by omega)
  obtain ⟨i0, hi0⟩ : ∃ i0, s.fed - b.length = i0 := ⟨_, rfl⟩
  rw [hi0] at hfi hfw ⊢
  have hi1 : i0 ≤ 10000 := by omega
  have H0 := Lib.hid h0
  have HN := Lib.hid (show Mid d l n b i0 s s 0 [] from ⟨by simp, hU, hsq, hst, by simp [Rdp.Wk.pre_nil], by simp⟩)
  have HK := Lib.hid hk
  clear h1 h0 hU hsq hst hv hd hk
  go_enter Try.func35, Try.ntmps35
  go_wp2_with (fail)
  go_step3
  go_wp2_with (fail)
  go_step3
  go_wp2_with (fail)
  clear c19 hgl hfw hfi
  go_loopw [19] (fun i wr => ∃ (k : Nat) (s' : Rs) (rs : Tb), k ≤ b.length ∧ i = .int .i64 k ∧ RP w base g d s' O wr ∧ Mid d l n b i0 s s' k rs) (fun i _ => b.length - (intOf i).toNat)
  case atStart => exact ⟨0, s, [], Nat.zero_le _, rfl, RP.refl H0.out, HN.out⟩
  case round =>
    obtain ⟨k, s', rs, hkb, rfl, hR, hM⟩ := hrel
    clear HN
    by_cases hlt : k < b.length
    · obtain ⟨O2, h2, k2, n2⟩ := hR
      have hvr : Rd wr B 1 (.slice A b.length cv) b.length (b.map bv) := HV.out.keepE k2 (by
        rcases HD.out with h | h
        · exact .inl (by rw [h]; rfl)
        · exact .inr h)
      obtain ⟨bZ, oZ, uZ, rfl, _, huZ, cZ⟩ := hvr.at_ hlt
      have e1 : uZ = bv b[k] := by
        rw [List.getElem?_map, List.getElem?_eq_getElem hlt] at huZ
        exact (Option.some.inj huZ).symm
      subst e1
      have HX := Lib.hid (step_c wr base g (n + k) d l s' O2 b[k] h2 hM.u (by omega) ha hb hc hM.q hM.t)
      have hk0 : (0 : Int) ≤ (k : Int) := by omega
      have hkl : (k : Int) < (b.length : Int) := by omega
      have HM := Lib.hid (fun x hx h0 => hM.step hlt x hx h0)
      have HMB := Lib.hid (fun x hx h0 => hM.bad hlt x hx h0)
      have hrr := hM.r
      have hre : s'.recs = s.recs ++ rs := by rw [hM.e]
      have HON := Lib.hid (fun (h : (Rdp.stp d s'.sq s'.st s'.mm b[k]).kind ≠ 0) => stp_none h)
      obtain ⟨x, hx⟩ : ∃ x, Rdp.stp d s'.sq s'.st s'.mm b[k] = x := ⟨_, rfl⟩
      rw [hx] at HX HON
      have HXX := Lib.hid hx
      have K2 := Lib.hid k2
      have N2 := Lib.hid n2
      clear hx huZ hvr hM h2 k2 n2 hi0
      obtain ⟨q, t, m, o, r⟩ := x
      simp only at HX HON
      generalize b[k] = bk at *
      go_wp2_with (fail)
      with_reducible refine HX.out.mono ?_
      rintro e w3 ⟨v, O3, rfl, hv3, hn3, ha3, h3, k3, n3⟩
      have K23 := Lib.hid (K2.out.trans k3 (fun z hz hl => by
        simp only [List.mem_cons] at hz ⊢
        rcases hz with hz | hz
        · exact .inl hz
        · exact .inr ((N2.out z hz).resolve_right (by omega))))
      have N23 := Lib.hid (fun z (hz : z ∈ O3) => (n3 z hz).elim (fun h => N2.out z h) (fun h => .inr (Nat.le_trans K2.out.size h)))
      have hb3 : base ≤ w3.heap.size := Nat.le_trans hbw (Nat.le_trans K2.out.size k3.size)
      clear HX k3 n3
      obtain ⟨vf3, vr3, vq3, vs3, rfl, h4⟩ := h3
      by_cases hr0 : r = 0
      rotate_left
      · have hr : ((r : Int) != 0) = true := by simpa using hr0
        obtain rfl := HON.out hr0
        have c22 := h4.c (i := 22) rfl
        have c23 := h4.c (i := 23) rfl
        have f22 := h4.f (i := 22) (by omega)
        have f23 := h4.f (i := 23) (by omega)
        have hg3 := h4.lt
        have H4 := Lib.hid h4
        have HR0 := Lib.hid hr0
        have hA : RAt ((w3.setCell ⟨g, 22, none⟩ (.int .i64 r)).setCell ⟨g, 23, none⟩ (.int .i64 ((i0 : Int) + (k : Int)))) base g d { stepS s' ⟨q, t, m, none, r⟩ with kind := r, pl := i0 + k } vf3 vr3 vq3 vs3 :=
          (h4.set (s' := { stepS s' ⟨q, t, m, none, r⟩ with kind := r }) 22 _ rfl rfl rfl).set 23 _ (by simp [rC, rP, rT, mkC, Bom.St.cells]) rfl rfl
        have HAF := Lib.hid hA
        clear h4 hr0 hv3 hn3 ha3 cZ hA
        go_wp2_with (fail)
        rw [Exit.noGoto_normal]
        go_end0
        refine ⟨rfl, ?_⟩
        rw [HMB.out _ HXX.out HR0.out]
        exact ⟨_, ⟨vf3, vr3, vq3, vs3, rfl, HAF.out⟩, (K23.out.set1 _ _ (by simp)).set1 _ _ (by simp), N23.out⟩
      subst hr0
      have hr : (((0 : Nat) : Int) != 0) = false := by decide
      cases o with
      | none =>
        have hr9 : RP w base g d { stepS s' ⟨q, t, m, none, 0⟩ with recs := s'.recs ++ (none : Option Row).toList } O w3 := by
          rw [Option.toList_none, List.append_nil]
          exact ⟨_, ⟨vf3, vr3, vq3, vs3, rfl, h4⟩, K23.out, N23.out⟩
        have HR9 := Lib.hid hr9
        have HM9 := Lib.hid (HM.out ⟨q, t, m, none, 0⟩ HXX.out rfl)
        clear h4 hr9 hv3 ha3
        have hv9 := hn3 rfl
        subst hv9
        clear hn3
        go_wp2_with (fail)
        go_roundw
        case rel => exact ⟨k + 1, _, _, by omega, by go_num, HR9.out, HM9.out⟩
        case measure => simp [intOf]; omega
      | some row =>
        simp only [Option.getD_some] at hv3
        have htl := h4.tab.2.1
        have hrl2 : s'.recs.length ≤ 20000 := by rw [hre, List.length_append]; omega
        obtain ⟨vq', w4, hap, hq4, k4, n4⟩ := run_append1 (P := Try.prog) (t := 42) Try.underlying42 hiS hS0 hS1 hS2 rfl htl (y := v) (by obtain ⟨a, b, rfl, _, _⟩ := hv3.form; rfl) (by simp only [maxLen]; simp [stepS]; omega) (by simp [stepS]; omega) hb3 42
        have c20 := h4.c (i := 20) rfl
        have hA := h4.push (r := row) hv3 (fun z hz hm => ha3 z hz (by simp only [List.mem_append]; exact .inr (.inl hm))) hq4 k4
        obtain ⟨A9, c9, rfl, _, _⟩ := hv3.form
        obtain ⟨A8, c8, rfl, _, _⟩ := hq4.form
        have hgq : g ∉ blkOf vq3 := fun hm => h4.tabG g (by simp only [tblks, List.mem_append]; exact .inl hm) rfl
        have hb4 := h4.blk.keep k4 hgq
        have e20 := hb4.cell_of (i := 20) rfl
        have f20 := hb4.frozen (i := 20) (by simp [rC, rP, rT, mkC, Bom.St.cells])
        have hg4 := hb4.lt
        have hO4 : ∀ z ∈ blkOf vf3 ++ (blkOf vr3 ++ blkOf (.slice A8 ((stepS s' ⟨q, t, m, some row, 0⟩).recs.length + 1) c8)), z ∈ O ∨ w.heap.size ≤ z := by
          intro z hz
          simp only [List.mem_append] at hz
          rcases hz with hz | hz | hz
          · exact N23.out z (by simp only [List.mem_append]; exact .inl hz)
          · exact N23.out z (by simp only [List.mem_append]; exact .inr (.inl hz))
          · rcases n4 z hz with h | h
            · exact N23.out z (by simp only [List.mem_append]; exact .inr (.inr h))
            · exact .inr (Nat.le_trans K23.out.size h)
        have hk4 : Keeps (g :: O) w (w4.setCell ⟨g, 20, none⟩ (.slice A8 ((stepS s' ⟨q, t, m, some row, 0⟩).recs.length + 1) c8)) :=
          (K23.out.trans k4 (fun z hz hl => by
            rcases N23.out z (by simp only [List.mem_append]; exact .inr (.inr hz)) with h | h
            · exact List.mem_cons_of_mem _ h
            · omega)).set1 _ _ (by simp)
        have HAF := Lib.hid hA
        have HO4 := Lib.hid hO4
        have HK4 := Lib.hid hk4
        have HM9 := Lib.hid (HM.out ⟨q, t, m, some row, 0⟩ HXX.out rfl)
        clear h4 hA hb4 hO4 hk4 hgq n4 k4 hq4 htl ha3 hn3 hv3 cZ hre hrr hrl2
        go_wp2_with (with_reducible refine wpList_append hap _ _ rfl rfl rfl rfl rfl ?_)
        go_roundw
        case rel => exact ⟨k + 1, _, _, by omega, by go_num, ⟨_, ⟨vf3, vr3, _, _, rfl, HAF.out⟩, HK4.out, HO4.out⟩, HM9.out⟩
        case measure => simp [intOf]; omega
    · obtain rfl : k = b.length := by omega
      have e1 := Lib.hid (hM.all HK.out)
      have HR := Lib.hid hR
      have hkl : ¬ ((b.length : Int) < (b.length : Int)) := by omega
      clear hM hR
      go_wp2_with (fail)
      try rw [Exit.noGoto_normal]
      go_end0
      rw [e1.out]
      exact ⟨rfl, HR.out⟩
end Go.Proofs.Ytbjejmdbpikgjaa.Rd
namespace Go.Proofs.Ytbjejmdbpikgjaa.Rd
set_option linter.unusedVariables false
set_option linter.unusedSimpArgs false
set_option maxRecDepth 100000
open Go.RowKit Q Mach Dia Scan Ref4 Fld
attribute [local go_sem ↓] Go.wp_at_zero Go.wp_at_succ
theorem go_len2 : ∀ (l : List UInt8) (h : Nat), (Bom.go h l).2.2.2.length + (Bom.go h l).1 ≤ h + l.length
  | [], h => by simp [Bom.go]
  | b :: l, h => by
    unfold Bom.go
    split
    · split
      · simp; omega
      · have := go_len2 l (h + 1)
        simp only [List.length_cons]; omega
    · simp only [List.length_append, List.length_take, List.length_cons]
      omega
theorem feed_len (s : Bom.St) (l : Bs) : (Bom.feedOut s l).length + (Bom.feedSt s l).held ≤ l.length + s.held := by
  unfold Bom.feedOut Bom.feedSt
  split
  · simp
  · split
    · simp
    · have := go_len2 l s.held
      simp only; omega
/-- What holds of a reader between two calls. -/
structure Ok (l : Lim) (n : Nat) (s : Rs) : Prop where
  b : s.bs.ok
  c : s.cl = false → s.bs.closed = false
  u : Upto n l s.mm
  f : n + s.bs.held ≤ s.fed
  q : s.sq ≤ 7
  t : s.st ≤ 6
  k : s.kind = 0 → s.pl = 0
  r : s.recs.length ≤ n
def feedIn (s : Rs) (b : Bs) : Rs := { s with fed := s.fed + b.length, bs := Bom.feedSt s.bs b }
def feedS (d : Dia) (s : Rs) (b : Bs) : Rs :=
  if s.cl = true ∨ s.kind ≠ 0 then s else walkS d (feedIn s b) (Bom.feedOut s.bs b) (s.fed + b.length - (Bom.feedOut s.bs b).length)
theorem wk_recs (d : Dia) : ∀ (b : Bs) (sq st : Nat) (m : Mk) (i : Nat), (Rdp.wk d sq st m b i).recs.length ≤ b.length
  | [], sq, st, m, i => by simp [Rdp.wk]
  | c :: b, sq, st, m, i => by
    unfold Rdp.wk
    dsimp only
    split
    · simp
    · have := wk_recs d b (Rdp.stp d sq st m c).sq (Rdp.stp d sq st m c).st (Rdp.stp d sq st m c).mm (i + 1)
      have h2 : (Rdp.stp d sq st m c).o.toList.length ≤ 1 := by cases (Rdp.stp d sq st m c).o <;> simp
      simp only [Rdp.Wk.pre, List.length_append, List.length_cons]
      omega
theorem wk_pl (d : Dia) : ∀ (b : Bs) (sq st : Nat) (m : Mk) (i : Nat), (Rdp.wk d sq st m b i).kind = 0 → (Rdp.wk d sq st m b i).pl = 0
  | [], sq, st, m, i, _ => rfl
  | c :: b, sq, st, m, i, h => by
    unfold Rdp.wk at h ⊢
    dsimp only at h ⊢
    split at h
    · rename_i h1; exact absurd h h1
    · rename_i h1
      rw [if_neg h1]
      exact wk_pl d b _ _ _ _ h
theorem walk_ok {l : Lim} {n : Nat} {d : Dia} {s : Rs} (h : Ok l n s) (b : Bs) (i : Nat) (hn : n + b.length + s.bs.held ≤ s.fed) : Ok l (n + b.length) (walkS d s b i) := by
  have h1 := wk_ok (d := d) b n s.sq s.st s.mm i h.u h.q h.t
  have h2 := wk_recs d b s.sq s.st s.mm i
  refine ⟨h.b, h.c, h1.1, hn, h1.2.1, h1.2.2, fun hk => wk_pl d b _ _ _ _ hk, ?_⟩
  simp only [walkS, List.length_append]
  have := h.r
  omega
theorem feedIn_ok {l : Lim} {n : Nat} {s : Rs} (h : Ok l n s) (hc : s.cl = false) (b : Bs) : Ok l n (feedIn s b) ∧ n + (Bom.feedOut s.bs b).length + (feedIn s b).bs.held ≤ (feedIn s b).fed := by
  have h1 := feed_len s.bs b
  have h2 := h.f
  refine ⟨⟨Bom.feedSt_ok h.b b, fun _ => Bom.feedSt_closed (h.c hc) b, h.u, ?_, h.q, h.t, h.k, h.r⟩, ?_⟩
  · simp only [feedIn]; omega
  · simp only [feedIn]; omega
theorem feed_ok {l : Lim} {n : Nat} {d : Dia} {s : Rs} (h : Ok l n s) (b : Bs) : ∃ n', Ok l n' (feedS d s b) := by
  unfold feedS
  split
  · exact ⟨n, h⟩
  · rename_i hc
    have hc' : s.cl = false := by
      cases hh : s.cl
      · rfl
      · exact absurd (.inl hh) hc
    obtain ⟨h1, h2⟩ := feedIn_ok h hc' b
    exact ⟨_, walk_ok h1 _ _ h2⟩
/-- The stripper within. -/
theorem RAt.bomAt {w : World} {base g : Nat} {d : Dia} {s : Rs} {vf vr vq : Value} {vs : List Value} (h : RAt w base g d s vf vr vq vs) : Bom.StAt w g 84 [bv d.delim, bv d.quote, .int .i64 d.fin] (mkC s.mm vf vr ++ rT s vq) s.bs :=
  ⟨by have := h.blk; simpa [rC, rP, List.append_assoc] using this⟩
theorem RAt.bom {w w' : World} {base g : Nat} {d : Dia} {s : Rs} {vf vr vq : Value} {vs : List Value} (h : RAt w base g d s vf vr vq vs) {b' : Bom.St} (hs : Bom.StAt w' g 84 [bv d.delim, bv d.quote, .int .i64 d.fin] (mkC s.mm vf vr ++ rT s vq) b') (k : Keeps [g] w w') :
    RAt w' base g d { s with bs := b' } vf vr vq vs := by
  refine ⟨⟨?_, h.mka.low, ?_, ?_⟩, ?_, h.ap⟩
  · have := hs.blk; simpa [rC, rP, rT, List.append_assoc] using this
  · exact h.mka.fld.keep k (fun a ha hm => by simp at hm; exact h.mka.fld.apartBlk h.mka.blk (by decide) a ha hm)
  · exact h.mka.rcd.keep k (fun a ha hm => by simp at hm; exact h.mka.rcd.apartBlk h.mka.blk (by decide) a ha hm)
  · exact h.tab.keep k (fun a ha hm => by simp at hm; exact h.tabG a ha hm)
theorem RAt.far {w : World} {base g r : Nat} {e : TypeId} {cs : List Value} {d : Dia} {s : Rs} {vf vr vq : Value} {vs : List Value} (h : RAt w base g d s vf vr vq vs) (hb : Blk w r e cs) (he : 84 ≠ e ∧ 5 ≠ e ∧ 9 ≠ e ∧ 65 ≠ e) (i : Nat) (u : Value) : RAt (w.setCell ⟨r, i, none⟩ u) base g d s vf vr vq vs := by
  refine h.keepF (Keeps.setCell w ⟨r, i, none⟩ u) ?_ ?_ ?_ ?_
  · intro hm
    simp only [List.mem_singleton] at hm
    exact h.mka.blk.ne_ hb he.1 hm
  · intro x hx hm
    simp only [List.mem_singleton] at hm
    exact h.mka.fld.apartBlk hb he.2.1 x hx hm
  · intro x hx hm
    simp only [List.mem_singleton] at hm
    exact h.mka.rcd.apartBlk hb he.2.2.1 x hx hm
  · intro x hx hm
    simp only [List.mem_singleton] at hm
    obtain ⟨t1, t2, t3⟩ := h.tab
    simp only [tblks, List.mem_append, List.mem_flatMap] at hx
    rcases hx with hx | ⟨y, hy, hx⟩
    · exact t2.apartBlk hb he.2.2.2 x hx hm
    · obtain ⟨j, hj, rfl⟩ := List.getElem_of_mem hy
      exact (t3 j _ _ (List.getElem?_eq_getElem hj) (List.getElem?_eq_getElem (by omega))).apartBlk hb he.2.2.1 x hx hm
set_option maxHeartbeats 8000000 in
theorem feed_c (w : World) (base g n B : Nat) (d : Dia) (l : Lim) (s : Rs) (O : List Nat) (v : Value) (b : Bs) (hbw : base ≤ w.heap.size) (h : RA w base g d s O) (hOk : Ok l n s) (ha : l.field ≤ 2147483648) (hb : l.fields ≤ 2147483648) (hc : l.records ≤ 2147483648)
    (hv : Rd w B 1 v b.length (b.map bv)) (hd : b = [] ∨ ∀ x ∈ blkOf v, x ∉ g :: O) (hf : s.fed + b.length ≤ 5000) :
    Calls Try.prog 11 #[.pointer (some ⟨g, 0, none⟩), v] w fun e w' => e = .returned (fltV (feedS d s b)) ∧ RP w base g d (feedS d s b) O w' := by
  obtain ⟨l1, l2, l3⟩ := h.lt
  obtain ⟨A, cv, rfl, hv1, hv2⟩ := hv.form
  unfold maxLen at hv2
  have kp := Keeps.alloc [] w (.cells #[.int .i64 0, .int .i64 0] 35)
  have hre := Blk.new w 35 [.int .i64 0, .int .i64 0]
  have h0 := h.keep kp
  have hrg : w.heap.size ∉ g :: O := by
    intro hm
    simp only [List.mem_cons] at hm
    rcases hm with hm | hm
    · omega
    · have := (l3 _ hm).2; omega
  have hne : g ≠ w.heap.size := by omega
  have hv0 := hv.keepE kp (.inr (by simp))
  obtain ⟨vf, vr, vq, vs, hO, h1⟩ := h0
  have c24 := h1.c (i := 24) rfl
  have c22 := h1.c (i := 22) rfl
  have c23 := h1.c (i := 23) rfl
  have hl0 := h1.lt
  have r0 := hre.cell_of (i := 0) rfl
  have r1 := hre.cell_of (i := 1) rfl
  have s0 := hre.frozen (i := 0) (by simp)
  have s1 := hre.frozen (i := 1) (by simp)
  have H0 := Lib.hid h
  have KP := Lib.hid kp
  clear h hv
  cases hcl : s.cl
  rotate_left
  · rw [hcl] at c24
    have hF : feedS d s b = s := by unfold feedS; rw [if_pos (.inl hcl)]
    have HF := Lib.hid hF
    clear hF hcl h1 hre
    go_enter Try.func11, Try.ntmps11
    go_wp2_with (fail)
    refine bodyPost_ret (v := fltV s) (by simp [results, Try.results11, go_sem, fltV]) rfl ⟨by rw [HF.out], ?_⟩
    rw [HF.out]
    exact RP.of H0.out (Keeps.alloc [] w _)
  rw [hcl] at c24
  by_cases hk : s.kind = 0
  rotate_left
  · have hk' : ((s.kind : Int) != 0) = true := by simpa using hk
    have hF : feedS d s b = s := by unfold feedS; rw [if_pos (.inr hk)]
    have HF := Lib.hid hF
    clear hF hcl h1 hre hk
    go_enter Try.func11, Try.ntmps11
    go_wp2_with (fail)
    refine bodyPost_ret (v := fltV s) (by simp [results, Try.results11, go_sem, fltV]) rfl ⟨by rw [HF.out], ?_⟩
    rw [HF.out]
    exact RP.of H0.out (Keeps.alloc [] w _)
  have hk' : ((s.kind : Int) != 0) = false := by simpa using hk
  have hF : feedS d s b = walkS d (feedIn s b) (Bom.feedOut s.bs b) (s.fed + b.length - (Bom.feedOut s.bs b).length) := by
    unfold feedS; rw [if_neg (by rw [hcl]; simp [hk])]
  have HF := Lib.hid hF
  go_enter Try.func11, Try.ntmps11
  go_upto_region 1 with (fail)
  have hz0 : w.heap.size < (w.alloc (.cells #[.int .i64 0, .int .i64 0] 35)).heap.size := by simp
  generalize w.alloc (.cells #[.int .i64 0, .int .i64 0] 35) = w0 at *
  have c19 := h1.c (i := 19) rfl
  have f19 := h1.f (i := 19) (by omega)
  have h2 : RAt (w0.setCell ⟨g, 19, none⟩ (.int .i64 ((s.fed : Int) + (b.length : Int)))) base g d { s with fed := s.fed + b.length } vf vr vq vs :=
    h1.set 19 _ (by simp [rC, rP, rT, mkC, Bom.St.cells]) rfl rfl
  have hv2 := hv0.keepE (Keeps.setCell w0 ⟨g, 19, none⟩ (.int .i64 ((s.fed : Int) + (b.length : Int)))) (by
    rcases hd with h | h
    · exact .inl (by rw [h]; rfl)
    · exact .inr fun x hx hm => by simp only [List.mem_singleton] at hm; exact h x hx (by rw [hm]; simp))
  have hr2 := hre.far (p := ⟨g, 19, none⟩) (by show w.heap.size ≠ g; omega) (.int .i64 ((s.fed : Int) + (b.length : Int)))
  have k2 : Keeps (g :: O) w (w0.setCell ⟨g, 19, none⟩ (.int .i64 ((s.fed : Int) + (b.length : Int)))) := (kp.sub (by simp)).set1 _ _ (by simp)
  obtain ⟨h3, h3b⟩ := feedIn_ok hOk hcl b
  have hdg : b = [] ∨ ∀ x ∈ blkOf (.slice A b.length cv), x ≠ g := hd.imp id (fun h x hx e => h x hx (by rw [e]; simp))
  have HFD := Lib.hid (Bom.feed_open g 84 _ _ s.bs hOk.b B (.slice A b.length cv) b _ h2.bomAt (hOk.c hcl) hv2 hdg (by omega))
  have H2 := Lib.hid h2
  have HR2 := Lib.hid hr2
  have K2 := Lib.hid k2
  have HOK := Lib.hid hOk
  have H3 := Lib.hid h3
  have H3B := Lib.hid h3b
  have HKK := Lib.hid hk
  have hsz : w.heap.size < (w0.setCell ⟨g, 19, none⟩ (.int .i64 ((s.fed : Int) + (b.length : Int)))).heap.size := by simp; omega
  have hgz : g < (w0.setCell ⟨g, 19, none⟩ (.int .i64 ((s.fed : Int) + (b.length : Int)))).heap.size := by simp; omega
  have HSZ := Lib.hid (And.intro hsz hgz)
  clear hF h1 h2 hv2 hv0 hr2 k2 h3 h3b hdg hre hOk hk hd kp r0 r1 s0 s1 hsz hgz
  go_wp2_with (fail)
  clear c19 c22 c23 c24 f19
  refine HFD.out.mono ?_
  generalize w0.setCell ⟨g, 19, none⟩ (.int .i64 ((s.fed : Int) + (b.length : Int))) = w1 at *
  rintro e w2 ⟨v', rfl, ho2, hs2, k12⟩
  have h4 := H2.out.bom hs2 k12
  have hO2 : ∀ x ∈ blkOf v', x ∉ g :: O := by
    intro x hx hm
    have := (ho2.lt x hx).1
    simp only [List.mem_cons] at hm
    rcases hm with rfl | hm
    · have := HSZ.out.2; omega
    · have := (l3 x hm).2; have := HSZ.out.1; omega
  have K2' := Lib.hid (K2.out.trans k12 (fun x hx hl => by simp only [List.mem_singleton] at hx; subst hx; simp))
  have hr3 := HR2.out.keep k12 (fun hm => hrg (by simp only [List.mem_singleton] at hm; rw [hm]; simp))
  have hnb := HOK.out.f
  have h3f := H3B.out
  have h3r := HOK.out.r
  have HW := Lib.hid (walk_c w2 base g n w2.heap.size d l (feedIn s b) O v' (Bom.feedOut s.bs b) (Nat.le_trans hbw K2'.out.size) ⟨vf, vr, vq, vs, hO, h4⟩ H3.out.u (by simp only [feedIn] at h3f; omega) ha hb hc H3.out.q H3.out.t ⟨HKK.out, H3.out.k HKK.out⟩
    (ho2.rd (Nat.le_refl _)) (.inr hO2) (by omega) (by simp only [feedIn]; omega) (by simp only [feedIn]; omega))
  have HR3 := Lib.hid hr3
  have he : (feedIn s b).fed - (Bom.feedOut s.bs b).length = s.fed + b.length - (Bom.feedOut s.bs b).length := rfl
  rw [he, ← HF.out] at HW
  clear h4 hO2 k12 hs2 ho2 hr3 HFD H2 K2 HR2 hnb h3f h3r he HF
  generalize hS : feedS d s b = S at *
  have HS := Lib.hid hS
  clear hS
  go_wp2_with (fail)
  refine HW.out.mono ?_
  rintro e w3 ⟨rfl, hp⟩
  obtain ⟨O3, h5, k3, n3⟩ := hp
  have hr4 := HR3.out.keep k3 hrg
  obtain ⟨vf3, vr3, vq3, vs3, rfl, h6⟩ := h5
  have c22 := h6.c (i := 22) rfl
  have c23 := h6.c (i := 23) rfl
  have r0 := hr4.cell_of (i := 0) rfl
  have r1 := hr4.cell_of (i := 1) rfl
  have s0 := hr4.frozen (i := 0) (by simp)
  have s1 := hr4.frozen (i := 1) (by simp)
  have hg6 := h6.lt
  have hr6 := hr4.lt
  have H6 := Lib.hid h6
  have K3 := Lib.hid (K2'.out.trans k3 (fun x hx _ => hx))
  have N3 := Lib.hid n3
  have h7 := h6.far hr4 ⟨by decide, by decide, by decide, by decide⟩ 0 (.int .i64 S.kind)
  have hr5 := hr4.set_ 0 (.int .i64 S.kind)
  have h8 := h7.far hr5 ⟨by decide, by decide, by decide, by decide⟩ 1 (.int .i64 S.pl)
  have H8 := Lib.hid h8
  clear h6 h7 h8 k3 n3 hr4 hr5 HW
  go_wp2_with (fail)
  refine bodyPost_ret (v := fltV S) (by simp [results, Try.results11, go_sem, fltV, r0, r1, s0, s1]) rfl ⟨by rw [HS.out], ?_⟩
  rw [HS.out]
  exact ⟨_, ⟨vf3, vr3, vq3, vs3, rfl, H8.out⟩, (K3.out.setNew _ _ (Nat.le_refl _)).setNew _ _ (Nat.le_refl _), fun k hk => (N3.out k hk).elim (fun h => .inl h) (fun h => .inr (Nat.le_trans K2'.out.size h))⟩
end Go.Proofs.Ytbjejmdbpikgjaa.Rd
namespace Go.Proofs.Ytbjejmdbpikgjaa.Rd
set_option linter.unusedVariables false
set_option linter.unusedSimpArgs false
set_option maxRecDepth 100000
open Go.RowKit Q Mach Dia Scan Ref4 Fld
attribute [local go_sem ↓] Go.wp_at_zero Go.wp_at_succ
def closeIn (s : Rs) : Rs := { s with cl := true, bs := Bom.closeSt s.bs }
def endS (s1 : Rs) : Rs :=
  if (enp s1.sq s1.st s1.mm).kind ≠ 0 then { stepS s1 (enp s1.sq s1.st s1.mm) with kind := (enp s1.sq s1.st s1.mm).kind, pl := s1.fed }
  else { stepS s1 (enp s1.sq s1.st s1.mm) with recs := s1.recs ++ (enp s1.sq s1.st s1.mm).o.toList }
def closeS (d : Dia) (s : Rs) : Rs :=
  if s.cl = true ∨ s.kind ≠ 0 then { s with cl := true }
  else if (walkS d (closeIn s) (Bom.closeOut s.bs) (s.fed - (Bom.closeOut s.bs).length)).kind ≠ 0 then walkS d (closeIn s) (Bom.closeOut s.bs) (s.fed - (Bom.closeOut s.bs).length)
  else endS (walkS d (closeIn s) (Bom.closeOut s.bs) (s.fed - (Bom.closeOut s.bs).length))
theorem enp_none {sq st : Nat} {m : Mk} (h : (enp sq st m).kind ≠ 0) : (enp sq st m).o = none := by
  unfold enp at h ⊢
  split at h
  · rename_i h1; rw [if_pos h1]
  · rename_i h0
    rw [if_neg h0]
    split at h
    · rename_i h1; rw [if_pos h1]
    · rename_i h1
      rw [if_neg h1]
      dsimp only at h ⊢
      rw [take_eq] at h ⊢
      repeat' split at h
      all_goals simp_all
theorem RAt.notIn {w : World} {base g r : Nat} {e : TypeId} {cs : List Value} {d : Dia} {s : Rs} {vf vr vq : Value} {vs : List Value} (h : RAt w base g d s vf vr vq vs) (hb : Blk w r e cs) (he : 84 ≠ e ∧ 5 ≠ e ∧ 9 ≠ e ∧ 65 ≠ e) : r ∉ g :: (blkOf vf ++ (blkOf vr ++ blkOf vq)) := by
  intro hm
  simp only [List.mem_cons, List.mem_append] at hm
  rcases hm with hm | hm | hm | hm
  · exact h.mka.blk.ne_ hb he.1 hm.symm
  · exact h.mka.fld.apartBlk hb he.2.1 _ hm rfl
  · exact h.mka.rcd.apartBlk hb he.2.2.1 _ hm rfl
  · exact h.tab.2.1.apartBlk hb he.2.2.2 _ hm rfl
/-- The result's cell is written. -/
theorem RAt.last {w0 w w3 : World} {base g : Nat} {d : Dia} {S : Rs} {O : List Nat} {vf vr vq : Value} {vs cs : List Value} {r : Nat} (h : RAt w3 base g d S vf vr vq vs) (hr : Blk w3 r 35 cs) (K : Keeps (g :: O) w w3) (hw : w.heap.size ≤ r)
    (N : ∀ k ∈ blkOf vf ++ (blkOf vr ++ blkOf vq), k ∈ O ∨ w.heap.size ≤ k) (a b : Value) : RP w base g d S O ((w3.setCell ⟨r, 0, none⟩ a).setCell ⟨r, 1, none⟩ b) := by
  have h7 := h.far hr ⟨by decide, by decide, by decide, by decide⟩ 0 a
  have h8 := h7.far (hr.set_ 0 a) ⟨by decide, by decide, by decide, by decide⟩ 1 b
  exact ⟨_, ⟨vf, vr, vq, vs, rfl, h8⟩, (K.setNew _ _ hw).setNew _ _ hw, N⟩
set_option maxHeartbeats 8000000 in
theorem close_c (w : World) (base g n : Nat) (d : Dia) (l : Lim) (s : Rs) (O : List Nat) (hbw : base ≤ w.heap.size) (h : RA w base g d s O) (hOk : Ok l n s) (ha : l.field ≤ 2147483648) (hb : l.fields ≤ 2147483648) (hc : l.records ≤ 2147483648)
    (hf : s.fed ≤ 5000) :
    Calls Try.prog 14 #[.pointer (some ⟨g, 0, none⟩)] w fun e w' => e = .returned (fltV (closeS d s)) ∧ RP w base g d (closeS d s) O w' := by
  obtain ⟨iS, hiS, hS0, hS1, hS2⟩ := info_parts infoStrs
  obtain ⟨l1, l2, l3⟩ := h.lt
  have kp := Keeps.alloc [] w (.cells #[.int .i64 0, .int .i64 0] 35)
  have hre := Blk.new w 35 [.int .i64 0, .int .i64 0]
  have h0 := h.keep kp
  have hrg : w.heap.size ∉ g :: O := by
    intro hm
    simp only [List.mem_cons] at hm
    rcases hm with hm | hm
    · omega
    · have := (l3 _ hm).2; omega
  have hne : g ≠ w.heap.size := by omega
  obtain ⟨vf, vr, vq, vs, hO, h1⟩ := h0
  have HN0 := Lib.hid (show ∀ k ∈ blkOf vf ++ (blkOf vr ++ blkOf vq), k ∈ O ∨ w.heap.size ≤ k from fun k hk => .inl (by rw [hO]; exact hk))
  have c24 := h1.c (i := 24) rfl
  have f24 := h1.f (i := 24) (by omega)
  have c22 := h1.c (i := 22) rfl
  have c23 := h1.c (i := 23) rfl
  have hl0 := h1.lt
  have H0 := Lib.hid h
  clear h
  have r0 := hre.cell_of (i := 0) rfl
  have r1 := hre.cell_of (i := 1) rfl
  have s0 := hre.frozen (i := 0) (by simp)
  have s1 := hre.frozen (i := 1) (by simp)
  have hA : RAt ((w.alloc (.cells #[.int .i64 0, .int .i64 0] 35)).setCell ⟨g, 24, none⟩ (.bool true)) base g d { s with cl := true } vf vr vq vs := h1.set 24 _ rfl rfl rfl
  have hr2 := hre.far (p := ⟨g, 24, none⟩) (by show w.heap.size ≠ g; omega) (.bool true)
  have k2 : Keeps (g :: O) w ((w.alloc (.cells #[.int .i64 0, .int .i64 0] 35)).setCell ⟨g, 24, none⟩ (.bool true)) := (kp.sub (by simp)).set1 _ _ (by simp)
  have hz0 : w.heap.size < (w.alloc (.cells #[.int .i64 0, .int .i64 0] 35)).heap.size := by simp
  have HAH := Lib.hid hA; have HR2 := Lib.hid hr2; have K2 := Lib.hid k2
  clear hA hr2 k2 kp hre h1
  have HZ := Lib.hid hz0
  by_cases hyes : s.cl = true ∨ s.kind ≠ 0
  · have hF : closeS d s = { s with cl := true } := by unfold closeS; rw [if_pos hyes]
    have HF := Lib.hid hF
    clear hF
    cases hcl : s.cl
    · have hk' : ((s.kind : Int) != 0) = true := by
        rcases hyes with h | h
        · rw [hcl] at h; cases h
        · simpa using h
      rw [hcl] at c24
      clear hyes hcl
      go_enter Try.func14, Try.ntmps14
      go_upto_region 1 with (fail)
      generalize w.alloc (.cells #[.int .i64 0, .int .i64 0] 35) = w0 at *
      go_wp2_with (fail)
      refine bodyPost_ret (v := fltV s) (by simp [results, Try.results14, go_sem, fltV, r0, r1, s0, s1]) rfl ⟨by rw [HF.out]; rfl, ?_⟩
      rw [HF.out]
      exact HAH.out.last (w0 := w) HR2.out K2.out (Nat.le_refl _) HN0.out _ _
    · rw [hcl] at c24
      clear hyes hcl
      go_enter Try.func14, Try.ntmps14
      go_upto_region 1 with (fail)
      generalize w.alloc (.cells #[.int .i64 0, .int .i64 0] 35) = w0 at *
      go_wp2_with (fail)
      refine bodyPost_ret (v := fltV s) (by simp [results, Try.results14, go_sem, fltV, r0, r1, s0, s1]) rfl ⟨by rw [HF.out]; rfl, ?_⟩
      rw [HF.out]
      exact HAH.out.last (w0 := w) HR2.out K2.out (Nat.le_refl _) HN0.out _ _
  have hcl : s.cl = false := by
    cases hh : s.cl
    · rfl
    · exact absurd (.inl hh) hyes
  have hk : s.kind = 0 := by
    rcases Nat.eq_zero_or_pos s.kind with h | h
    · exact h
    · exact absurd (.inr (by omega)) hyes
  have hF : closeS d s = if (walkS d (closeIn s) (Bom.closeOut s.bs) (s.fed - (Bom.closeOut s.bs).length)).kind ≠ 0 then walkS d (closeIn s) (Bom.closeOut s.bs) (s.fed - (Bom.closeOut s.bs).length)
      else endS (walkS d (closeIn s) (Bom.closeOut s.bs) (s.fed - (Bom.closeOut s.bs).length)) := by
    unfold closeS; rw [if_neg hyes]
  have HF := Lib.hid hF
  have hk' : ((s.kind : Int) != 0) = false := by simpa using hk
  rw [hcl] at c24
  have hlen : (Bom.closeOut s.bs).length ≤ s.bs.held := by unfold Bom.closeOut; rw [List.length_take]; omega
  have hnf := hOk.f
  have HOK := Lib.hid hOk
  have hci : Ok l n (closeIn s) := ⟨⟨by simp [closeIn, Bom.closeSt], by simp [closeIn, Bom.closeSt], hOk.b.2.2⟩, fun h => by simp [closeIn] at h, hOk.u, by simp [closeIn, Bom.closeSt]; omega, hOk.q, hOk.t, hOk.k, hOk.r⟩
  have hciw : n + (Bom.closeOut s.bs).length + (closeIn s).bs.held ≤ (closeIn s).fed := by simp [closeIn, Bom.closeSt]; omega
  have HWO := Lib.hid (walk_ok (d := d) hci (Bom.closeOut s.bs) (s.fed - (Bom.closeOut s.bs).length) hciw)
  have HCI := Lib.hid hci
  have HKK := Lib.hid hk
  have hgz : g < ((w.alloc (.cells #[.int .i64 0, .int .i64 0] 35)).setCell ⟨g, 24, none⟩ (.bool true)).heap.size := by simp; omega
  have HBC := Lib.hid (Bom.close_c g 84 _ _ s.bs hOk.b _ HAH.out.bomAt)
  have hrec := hOk.r
  clear hyes hcl hk hF hOk hci hciw
  go_enter Try.func14, Try.ntmps14
  go_upto_region 1 with (fail)
  generalize w.alloc (.cells #[.int .i64 0, .int .i64 0] 35) = w0 at *
  have hsz1 : w.heap.size < (w0.setCell ⟨g, 24, none⟩ (.bool true)).heap.size := by simp; omega
  have HS1 := Lib.hid (And.intro hsz1 hgz)
  clear hsz1 hgz hz0
  go_wp2_with (fail)
  clear c22 c23 c24 f24 r0 r1 s0 s1 hl0
  refine HBC.out.mono ?_
  generalize w0.setCell ⟨g, 24, none⟩ (.bool true) = w1 at *
  rintro e w2 ⟨v', rfl, ho2, hs2, k12⟩
  have h4 := HAH.out.bom hs2 k12
  have hO2 : ∀ x ∈ blkOf v', x ∉ g :: O := by
    intro x hx hm
    have := (ho2.lt x hx).1
    simp only [List.mem_cons] at hm
    rcases hm with rfl | hm
    · have := HS1.out.2; omega
    · have := (l3 x hm).2; have := HS1.out.1; omega
  have K2' := Lib.hid (K2.out.trans k12 (fun x hx hl => by simp only [List.mem_singleton] at hx; subst hx; simp))
  have hr3 := HR2.out.keep k12 (fun hm => hrg (by simp only [List.mem_singleton] at hm; rw [hm]; simp))
  have HW := Lib.hid (walk_c w2 base g n w2.heap.size d l (closeIn s) O v' (Bom.closeOut s.bs) (Nat.le_trans hbw K2'.out.size) ⟨vf, vr, vq, vs, hO, h4⟩ HCI.out.u (by omega) ha hb hc HCI.out.q HCI.out.t ⟨HKK.out, HCI.out.k HKK.out⟩
    (ho2.rd (Nat.le_refl _)) (.inr hO2) (by simp only [closeIn]; omega) (by simp only [closeIn]; omega) (by simp only [closeIn]; omega))
  have HR3 := Lib.hid hr3
  have he : (closeIn s).fed - (Bom.closeOut s.bs).length = s.fed - (Bom.closeOut s.bs).length := rfl
  rw [he] at HW
  have hfed : (walkS d (closeIn s) (Bom.closeOut s.bs) (s.fed - (Bom.closeOut s.bs).length)).fed = s.fed := rfl
  clear h4 hO2 k12 hs2 ho2 hr3 HBC HAH K2 HR2 he HCI
  generalize walkS d (closeIn s) (Bom.closeOut s.bs) (s.fed - (Bom.closeOut s.bs).length) = S at *
  have hSf : S.fed ≤ 5000 := by omega
  clear hfed
  go_wp2_with (fail)
  refine HW.out.mono ?_
  rintro e w3 ⟨rfl, hp⟩
  have hnr := HWO.out.r
  have hnn : n + (Bom.closeOut s.bs).length ≤ 6000 := by omega
  obtain ⟨O3, h5, k3, n3⟩ := hp
  have hr4 := HR3.out.keep k3 hrg
  have hb3 : base ≤ w3.heap.size := Nat.le_trans hbw (Nat.le_trans K2'.out.size k3.size)
  have H5 := Lib.hid h5
  obtain ⟨vf3, vr3, vq3, vs3, hO3, h6⟩ := h5
  have c22 := h6.c (i := 22) rfl
  have c23 := h6.c (i := 23) rfl
  have r0 := hr4.cell_of (i := 0) rfl
  have r1 := hr4.cell_of (i := 1) rfl
  have s0 := hr4.frozen (i := 0) (by simp)
  have s1 := hr4.frozen (i := 1) (by simp)
  have hg6 := h6.lt
  have hr6 := hr4.lt
  have H6 := Lib.hid h6
  have HR4 := Lib.hid hr4
  have K3 := Lib.hid (K2'.out.trans k3 (fun x hx _ => hx))
  have N3 := Lib.hid (fun k (hk : k ∈ O3) => (n3 k hk).elim (fun h => (show k ∈ O ∨ w.heap.size ≤ k from .inl h)) (fun h => .inr (Nat.le_trans K2'.out.size h)))
  clear h6 k3 n3 hr4 HW
  by_cases hk3 : S.kind = 0
  rotate_left
  · have hk3' : ((S.kind : Int) != 0) = true := by simpa using hk3
    have HF2 := Lib.hid (HF.out.trans (if_pos hk3))
    clear hk3
    go_wp2_with (fail)
    refine bodyPost_ret (v := fltV S) (by simp [results, Try.results14, go_sem, fltV, r0, r1, s0, s1]) rfl ⟨by rw [HF2.out], ?_⟩
    rw [HF2.out]
    subst hO3
    exact H6.out.last (w0 := w) HR4.out K3.out (Nat.le_refl _) N3.out _ _
  have hk3' : ((S.kind : Int) != 0) = false := by simpa using hk3
  have HF2 := Lib.hid (HF.out.trans (if_neg (by simpa using hk3)))
  have HE := Lib.hid (end_c w3 base g (n + (Bom.closeOut s.bs).length) d l S O3 H5.out HWO.out.u (by omega) ha hb hc HWO.out.t)
  obtain ⟨x, hx⟩ : ∃ x, enp S.sq S.st S.mm = x := ⟨_, rfl⟩
  have hES : endS S = if x.kind ≠ 0 then { stepS S x with kind := x.kind, pl := S.fed } else { stepS S x with recs := S.recs ++ x.o.toList } := by unfold endS; rw [hx]
  rw [hES] at HF2
  have hon : x.kind ≠ 0 → x.o = none := by rw [← hx]; exact enp_none
  rw [hx] at HE
  clear hx hES hk3 HF
  obtain ⟨q, t, m, o, r⟩ := x
  simp only at HE hon
  have HON := Lib.hid hon
  clear hon r0 r1 s0 s1
  go_wp2_with (fail)
  clear c22 c23
  refine HE.out.mono ?_
  rintro e w4 ⟨v, O4, rfl, hv3, hn3, ha3, h3, k4, n4⟩
  have hr5 := HR4.out.keep k4 (by rw [hO3]; exact H6.out.notIn HR4.out ⟨by decide, by decide, by decide, by decide⟩)
  have K5 := Lib.hid (K3.out.trans k4 (fun z hz hl => by
    simp only [List.mem_cons] at hz ⊢
    rcases hz with hz | hz
    · exact .inl hz
    · exact .inr ((N3.out z hz).resolve_right (by omega))))
  have N5 := Lib.hid (fun z (hz : z ∈ O4) => (n4 z hz).elim (fun h => N3.out z h) (fun h => (show z ∈ O ∨ w.heap.size ≤ z from .inr (Nat.le_trans (Nat.le_of_lt hr6) h))))
  have hb5 : base ≤ w4.heap.size := Nat.le_trans hb3 k4.size
  clear HE k4 n4 HR4 H6 H5 N3 K3 hO3
  obtain ⟨vf5, vr5, vq5, vs5, rfl, h5⟩ := h3
  have r0 := hr5.cell_of (i := 0) rfl
  have r1 := hr5.cell_of (i := 1) rfl
  have s0 := hr5.frozen (i := 0) (by simp)
  have s1 := hr5.frozen (i := 1) (by simp)
  have hr5l := hr5.lt
  by_cases hr0 : r = 0
  rotate_left
  · have hr : ((r : Int) != 0) = true := by simpa using hr0
    obtain rfl := HON.out hr0
    have c22 := h5.c (i := 22) rfl
    have c23 := h5.c (i := 23) rfl
    have c19 := h5.c (i := 19) rfl
    have f22 := h5.f (i := 22) (by omega)
    have f23 := h5.f (i := 23) (by omega)
    have hg5 := h5.lt
    have hA : RAt ((w4.setCell ⟨g, 22, none⟩ (.int .i64 r)).setCell ⟨g, 23, none⟩ (.int .i64 S.fed)) base g d { stepS S ⟨q, t, m, none, r⟩ with kind := r, pl := S.fed } vf5 vr5 vq5 vs5 :=
      (h5.set (s' := { stepS S ⟨q, t, m, none, r⟩ with kind := r }) 22 _ rfl rfl rfl).set 23 _ rfl rfl rfl
    have hr6' := (hr5.far (p := ⟨g, 22, none⟩) (Ne.symm hne) (.int .i64 r)).far (p := ⟨g, 23, none⟩) (Ne.symm hne) (.int .i64 S.fed)
    have HAF := Lib.hid hA
    have HRF := Lib.hid hr6'
    have HF3 := Lib.hid (HF2.out.trans (if_pos hr0))
    clear h5 hr0 hv3 hn3 ha3 hA hr5 hr6' HF2
    go_wp2_with (fail)
    refine bodyPost_ret (v := .agg #[.int .i64 r, .int .i64 S.fed]) (by simp [results, Try.results14, go_sem, fltV, r0, r1, s0, s1, stepS]) rfl ⟨by rw [HF3.out]; rfl, ?_⟩
    rw [HF3.out]
    exact HAF.out.last (w0 := w) HRF.out ((K5.out.set1 _ _ (by simp)).set1 _ _ (by simp)) (Nat.le_refl _) N5.out _ _
  subst hr0
  have hr : (((0 : Nat) : Int) != 0) = false := by decide
  have HF3 := Lib.hid (HF2.out.trans (if_neg (by simp)))
  cases o with
  | none =>
    have c22 := h5.c (i := 22) rfl
    have c23 := h5.c (i := 23) rfl
    have hg5 := h5.lt
    have HAF := Lib.hid h5
    have HRF := Lib.hid hr5
    have hv9 := hn3 rfl
    subst hv9
    clear hn3 hv3 ha3 h5 hr5 HF2
    go_wp2_with (fail)
    refine bodyPost_ret (v := .agg #[.int .i64 S.kind, .int .i64 S.pl]) (by simp [results, Try.results14, go_sem, fltV, r0, r1, s0, s1, stepS]) rfl ⟨by rw [HF3.out]; rfl, ?_⟩
    rw [HF3.out]
    have := HAF.out.last (w0 := w) HRF.out K5.out (Nat.le_refl _) N5.out (.int .i64 S.kind) (.int .i64 S.pl)
    simpa [stepS] using this
  | some row =>
    simp only [Option.getD_some] at hv3
    have htl := h5.tab.2.1
    obtain ⟨vq', w5, hap, hq6, k6, n6⟩ := run_append1 (P := Try.prog) (t := 42) Try.underlying42 hiS hS0 hS1 hS2 rfl htl (y := v) (by obtain ⟨a, b, rfl, _, _⟩ := hv3.form; rfl) (by simp only [maxLen]; simp [stepS]; omega) (by simp [stepS]; omega) hb5 42
    have c20 := h5.c (i := 20) rfl
    have hA := h5.push (r := row) hv3 (fun z hz hm => ha3 z hz (by simp only [List.mem_append]; exact .inr (.inl hm))) hq6 k6
    obtain ⟨A9, c9, rfl, _, _⟩ := hv3.form
    obtain ⟨A8, c8, rfl, _, _⟩ := hq6.form
    have hgq : g ∉ blkOf vq5 := fun hm => h5.tabG g (by simp only [tblks, List.mem_append]; exact .inl hm) rfl
    have hb6 := h5.blk.keep k6 hgq
    have e20 := hb6.cell_of (i := 20) rfl
    have e22 := hb6.cell_of (i := 22) rfl
    have e23 := hb6.cell_of (i := 23) rfl
    have f20 := hb6.frozen (i := 20) (by simp [rC, rP, rT, mkC, Bom.St.cells])
    have hg6 := hb6.lt
    have hr7 := hr5.keep k6 (fun hm => h5.notIn hr5 ⟨by decide, by decide, by decide, by decide⟩ (by simp only [List.mem_cons, List.mem_append]; exact .inr (.inr (.inr hm))))
    have t0 := hr7.cell_of (i := 0) rfl
    have t1 := hr7.cell_of (i := 1) rfl
    have u0 := hr7.frozen (i := 0) (by simp)
    have u1 := hr7.frozen (i := 1) (by simp)
    have hr7l := hr7.lt
    have hr8 := hr7.far (p := ⟨g, 20, none⟩) (Ne.symm hne) (.slice A8 ((stepS S ⟨q, t, m, some row, 0⟩).recs.length + 1) c8)
    have hO4 : ∀ z ∈ blkOf vf5 ++ (blkOf vr5 ++ blkOf (.slice A8 ((stepS S ⟨q, t, m, some row, 0⟩).recs.length + 1) c8)), z ∈ O ∨ w.heap.size ≤ z := by
      intro z hz
      simp only [List.mem_append] at hz
      rcases hz with hz | hz | hz
      · exact N5.out z (by simp only [List.mem_append]; exact .inl hz)
      · exact N5.out z (by simp only [List.mem_append]; exact .inr (.inl hz))
      · rcases n6 z hz with h | h
        · exact N5.out z (by simp only [List.mem_append]; exact .inr (.inr h))
        · exact .inr (Nat.le_trans K5.out.size h)
    have hk4 : Keeps (g :: O) w (w5.setCell ⟨g, 20, none⟩ (.slice A8 ((stepS S ⟨q, t, m, some row, 0⟩).recs.length + 1) c8)) :=
      (K5.out.trans k6 (fun z hz hl => by
        rcases N5.out z (by simp only [List.mem_append]; exact .inr (.inr hz)) with h | h
        · exact List.mem_cons_of_mem _ h
        · omega)).set1 _ _ (by simp)
    have HAF := Lib.hid hA
    have HRF := Lib.hid hr8
    have HO4 := Lib.hid hO4
    have HK4 := Lib.hid hk4
    clear h5 hA hb6 hO4 hk4 hgq n6 k6 hq6 htl ha3 hn3 hv3 hr5 hr7 hr8 r0 r1 s0 s1 HF2
    go_wp2_with (with_reducible refine wpList_append hap _ _ rfl rfl rfl rfl rfl ?_)
    refine bodyPost_ret (v := .agg #[.int .i64 S.kind, .int .i64 S.pl]) (by simp [results, Try.results14, go_sem, fltV, t0, t1, u0, u1, stepS]) rfl ⟨by rw [HF3.out]; rfl, ?_⟩
    rw [HF3.out]
    exact HAF.out.last (w0 := w) HRF.out HK4.out (Nat.le_refl _) HO4.out _ _
end Go.Proofs.Ytbjejmdbpikgjaa.Rd
