/- The contracts of package read: Close. -/
import Derived.Test.YtbjejmdbpikgjaaRd5
namespace Go.Proofs.Ytbjejmdbpikgjaa.Rd
set_option linter.unusedVariables false
set_option linter.unusedSimpArgs false
set_option maxRecDepth 100000
open Go.RowKit Q Mach Dia Scan Ref4 Fld
attribute [local go_sem ↓] Go.wp_at_zero Go.wp_at_succ
def closeIn (s : Rs) : Rs := { s with cl := true, bs := Bom.closeSt s.bs }
def endS (s1 : Rs) : Rs :=
  if (enp s1.sq s1.st s1.mm).kind ≠ 0 then { stepS s1 (enp s1.sq s1.st s1.mm) with kind := (enp s1.sq s1.st s1.mm).kind, pl := s1.fed }
  else { stepS s1 (enp s1.sq s1.st s1.mm) with recs := s1.recs ++ (enp s1.sq s1.st s1.mm).o.toList }
def closeS (d : Dia) (s : Rs) : Rs :=
  if s.cl = true ∨ s.kind ≠ 0 then { s with cl := true }
  else if (walkS d (closeIn s) (Bom.closeOut s.bs) (s.fed - (Bom.closeOut s.bs).length)).kind ≠ 0 then walkS d (closeIn s) (Bom.closeOut s.bs) (s.fed - (Bom.closeOut s.bs).length)
  else endS (walkS d (closeIn s) (Bom.closeOut s.bs) (s.fed - (Bom.closeOut s.bs).length))
theorem enp_none {sq st : Nat} {m : Mk} (h : (enp sq st m).kind ≠ 0) : (enp sq st m).o = none := by
  unfold enp at h ⊢
  split at h
  · rename_i h1; rw [if_pos h1]
  · rename_i h0
    rw [if_neg h0]
    split at h
    · rename_i h1; rw [if_pos h1]
    · rename_i h1
      rw [if_neg h1]
      dsimp only at h ⊢
      rw [take_eq] at h ⊢
      repeat' split at h
      all_goals simp_all
theorem RAt.notIn {w : World} {base g r : Nat} {e : TypeId} {cs : List Value} {d : Dia} {s : Rs} {vf vr vq : Value} {vs : List Value} (h : RAt w base g d s vf vr vq vs) (hb : Blk w r e cs) (he : 84 ≠ e ∧ 5 ≠ e ∧ 9 ≠ e ∧ 65 ≠ e) : r ∉ g :: (blkOf vf ++ (blkOf vr ++ blkOf vq)) := by
  intro hm
  simp only [List.mem_cons, List.mem_append] at hm
  rcases hm with hm | hm | hm | hm
  · exact h.mka.blk.ne_ hb he.1 hm.symm
  · exact h.mka.fld.apartBlk hb he.2.1 _ hm rfl
  · exact h.mka.rcd.apartBlk hb he.2.2.1 _ hm rfl
  · exact h.tab.2.1.apartBlk hb he.2.2.2 _ hm rfl
/-- The result's cell is written. -/
theorem RAt.last {w0 w w3 : World} {base g : Nat} {d : Dia} {S : Rs} {O : List Nat} {vf vr vq : Value} {vs cs : List Value} {r : Nat} (h : RAt w3 base g d S vf vr vq vs) (hr : Blk w3 r 35 cs) (K : Keeps (g :: O) w w3) (hw : w.heap.size ≤ r)
    (N : ∀ k ∈ blkOf vf ++ (blkOf vr ++ blkOf vq), k ∈ O ∨ w.heap.size ≤ k) (a b : Value) : RP w base g d S O ((w3.setCell ⟨r, 0, none⟩ a).setCell ⟨r, 1, none⟩ b) := by
  have h7 := h.far hr ⟨by decide, by decide, by decide, by decide⟩ 0 a
  have h8 := h7.far (hr.set_ 0 a) ⟨by decide, by decide, by decide, by decide⟩ 1 b
  exact ⟨_, ⟨vf, vr, vq, vs, rfl, h8⟩, (K.setNew _ _ hw).setNew _ _ hw, N⟩
set_option maxHeartbeats 8000000 in
theorem close_c (w : World) (base g n : Nat) (d : Dia) (l : Lim) (s : Rs) (O : List Nat) (hbw : base ≤ w.heap.size) (h : RA w base g d s O) (hOk : Ok l n s) (ha : l.field ≤ 2147483648) (hb : l.fields ≤ 2147483648) (hc : l.records ≤ 2147483648)
    (hf : s.fed ≤ 5000) :
    Calls Try.prog 14 #[.pointer (some ⟨g, 0, none⟩)] w fun e w' => e = .returned (fltV (closeS d s)) ∧ RP w base g d (closeS d s) O w' := by
  obtain ⟨iS, hiS, hS0, hS1, hS2⟩ := info_parts infoStrs
  obtain ⟨l1, l2, l3⟩ := h.lt
  have kp := Keeps.alloc [] w (.cells #[.int .i64 0, .int .i64 0] 35)
  have hre := Blk.new w 35 [.int .i64 0, .int .i64 0]
  have h0 := h.keep kp
  have hrg : w.heap.size ∉ g :: O := by
    intro hm
    simp only [List.mem_cons] at hm
    rcases hm with hm | hm
    · omega
    · have := (l3 _ hm).2; omega
  have hne : g ≠ w.heap.size := by omega
  obtain ⟨vf, vr, vq, vs, hO, h1⟩ := h0
  have HN0 := Lib.hid (show ∀ k ∈ blkOf vf ++ (blkOf vr ++ blkOf vq), k ∈ O ∨ w.heap.size ≤ k from fun k hk => .inl (by rw [hO]; exact hk))
  have c24 := h1.c (i := 24) rfl
  have f24 := h1.f (i := 24) (by omega)
  have c22 := h1.c (i := 22) rfl
  have c23 := h1.c (i := 23) rfl
  have hl0 := h1.lt
  have H0 := Lib.hid h
  clear h
  have r0 := hre.cell_of (i := 0) rfl
  have r1 := hre.cell_of (i := 1) rfl
  have s0 := hre.frozen (i := 0) (by simp)
  have s1 := hre.frozen (i := 1) (by simp)
  have hA : RAt ((w.alloc (.cells #[.int .i64 0, .int .i64 0] 35)).setCell ⟨g, 24, none⟩ (.bool true)) base g d { s with cl := true } vf vr vq vs := h1.set 24 _ rfl rfl rfl
  have hr2 := hre.far (p := ⟨g, 24, none⟩) (by show w.heap.size ≠ g; omega) (.bool true)
  have k2 : Keeps (g :: O) w ((w.alloc (.cells #[.int .i64 0, .int .i64 0] 35)).setCell ⟨g, 24, none⟩ (.bool true)) := (kp.sub (by simp)).set1 _ _ (by simp)
  have hz0 : w.heap.size < (w.alloc (.cells #[.int .i64 0, .int .i64 0] 35)).heap.size := by simp
  have HAH := Lib.hid hA; have HR2 := Lib.hid hr2; have K2 := Lib.hid k2
  clear hA hr2 k2 kp hre h1
  have HZ := Lib.hid hz0
  by_cases hyes : s.cl = true ∨ s.kind ≠ 0
  · have hF : closeS d s = { s with cl := true } := by unfold closeS; rw [if_pos hyes]
    have HF := Lib.hid hF
    clear hF
    cases hcl : s.cl
    · have hk' : ((s.kind : Int) != 0) = true := by
        rcases hyes with h | h
        · rw [hcl] at h; cases h
        · simpa using h
      rw [hcl] at c24
      clear hyes hcl
      go_enter Try.func14, Try.ntmps14
      go_upto_region 1 with (fail)
      generalize w.alloc (.cells #[.int .i64 0, .int .i64 0] 35) = w0 at *
      go_wp2_with (fail)
      refine bodyPost_ret (v := fltV s) (by simp [results, Try.results14, go_sem, fltV, r0, r1, s0, s1]) rfl ⟨by rw [HF.out]; rfl, ?_⟩
      rw [HF.out]
      exact HAH.out.last (w0 := w) HR2.out K2.out (Nat.le_refl _) HN0.out _ _
    · rw [hcl] at c24
      clear hyes hcl
      go_enter Try.func14, Try.ntmps14
      go_upto_region 1 with (fail)
      generalize w.alloc (.cells #[.int .i64 0, .int .i64 0] 35) = w0 at *
      go_wp2_with (fail)
      refine bodyPost_ret (v := fltV s) (by simp [results, Try.results14, go_sem, fltV, r0, r1, s0, s1]) rfl ⟨by rw [HF.out]; rfl, ?_⟩
      rw [HF.out]
      exact HAH.out.last (w0 := w) HR2.out K2.out (Nat.le_refl _) HN0.out _ _
  have hcl : s.cl = false := by
    cases hh : s.cl
    · rfl
    · exact absurd (.inl hh) hyes
  have hk : s.kind = 0 := by
    rcases Nat.eq_zero_or_pos s.kind with h | h
    · exact h
    · exact absurd (.inr (by omega)) hyes
  have hF : closeS d s = if (walkS d (closeIn s) (Bom.closeOut s.bs) (s.fed - (Bom.closeOut s.bs).length)).kind ≠ 0 then walkS d (closeIn s) (Bom.closeOut s.bs) (s.fed - (Bom.closeOut s.bs).length)
      else endS (walkS d (closeIn s) (Bom.closeOut s.bs) (s.fed - (Bom.closeOut s.bs).length)) := by
    unfold closeS; rw [if_neg hyes]
  have HF := Lib.hid hF
  have hk' : ((s.kind : Int) != 0) = false := by simpa using hk
  rw [hcl] at c24
  have hlen : (Bom.closeOut s.bs).length ≤ s.bs.held := by unfold Bom.closeOut; rw [List.length_take]; omega
  have hnf := hOk.f
  have HOK := Lib.hid hOk
  have hci : Ok l n (closeIn s) := ⟨⟨by simp [closeIn, Bom.closeSt], by simp [closeIn, Bom.closeSt], hOk.b.2.2⟩, fun h => by simp [closeIn] at h, hOk.u, by simp [closeIn, Bom.closeSt]; omega, hOk.q, hOk.t, hOk.k, hOk.r⟩
  have hciw : n + (Bom.closeOut s.bs).length + (closeIn s).bs.held ≤ (closeIn s).fed := by simp [closeIn, Bom.closeSt]; omega
  have HWO := Lib.hid (walk_ok (d := d) hci (Bom.closeOut s.bs) (s.fed - (Bom.closeOut s.bs).length) hciw)
  have HCI := Lib.hid hci
  have HKK := Lib.hid hk
  have hgz : g < ((w.alloc (.cells #[.int .i64 0, .int .i64 0] 35)).setCell ⟨g, 24, none⟩ (.bool true)).heap.size := by simp; omega
  have HBC := Lib.hid (Bom.close_c g 84 _ _ s.bs hOk.b _ HAH.out.bomAt)
  have hrec := hOk.r
  clear hyes hcl hk hF hOk hci hciw
  go_enter Try.func14, Try.ntmps14
  go_upto_region 1 with (fail)
  generalize w.alloc (.cells #[.int .i64 0, .int .i64 0] 35) = w0 at *
  have hsz1 : w.heap.size < (w0.setCell ⟨g, 24, none⟩ (.bool true)).heap.size := by simp; omega
  have HS1 := Lib.hid (And.intro hsz1 hgz)
  clear hsz1 hgz hz0
  go_wp2_with (fail)
  clear c22 c23 c24 f24 r0 r1 s0 s1 hl0
  refine HBC.out.mono ?_
  generalize w0.setCell ⟨g, 24, none⟩ (.bool true) = w1 at *
  rintro e w2 ⟨v', rfl, ho2, hs2, k12⟩
  have h4 := HAH.out.bom hs2 k12
  have hO2 : ∀ x ∈ blkOf v', x ∉ g :: O := by
    intro x hx hm
    have := (ho2.lt x hx).1
    simp only [List.mem_cons] at hm
    rcases hm with rfl | hm
    · have := HS1.out.2; omega
    · have := (l3 x hm).2; have := HS1.out.1; omega
  have K2' := Lib.hid (K2.out.trans k12 (fun x hx hl => by simp only [List.mem_singleton] at hx; subst hx; simp))
  have hr3 := HR2.out.keep k12 (fun hm => hrg (by simp only [List.mem_singleton] at hm; rw [hm]; simp))
  have HW := Lib.hid (walk_c w2 base g n w2.heap.size d l (closeIn s) O v' (Bom.closeOut s.bs) (Nat.le_trans hbw K2'.out.size) ⟨vf, vr, vq, vs, hO, h4⟩ HCI.out.u (by omega) ha hb hc HCI.out.q HCI.out.t ⟨HKK.out, HCI.out.k HKK.out⟩
    (ho2.rd (Nat.le_refl _)) (.inr hO2) (by simp only [closeIn]; omega) (by simp only [closeIn]; omega) (by simp only [closeIn]; omega))
  have HR3 := Lib.hid hr3
  have he : (closeIn s).fed - (Bom.closeOut s.bs).length = s.fed - (Bom.closeOut s.bs).length := rfl
  rw [he] at HW
  have hfed : (walkS d (closeIn s) (Bom.closeOut s.bs) (s.fed - (Bom.closeOut s.bs).length)).fed = s.fed := rfl
  clear h4 hO2 k12 hs2 ho2 hr3 HBC HAH K2 HR2 he HCI
  generalize walkS d (closeIn s) (Bom.closeOut s.bs) (s.fed - (Bom.closeOut s.bs).length) = S at *
  have hSf : S.fed ≤ 5000 := by omega
  clear hfed
  go_wp2_with (fail)
  refine HW.out.mono ?_
  rintro e w3 ⟨rfl, hp⟩
  have hnr := HWO.out.r
  have hnn : n + (Bom.closeOut s.bs).length ≤ 6000 := by omega
  obtain ⟨O3, h5, k3, n3⟩ := hp
  have hr4 := HR3.out.keep k3 hrg
  have hb3 : base ≤ w3.heap.size := Nat.le_trans hbw (Nat.le_trans K2'.out.size k3.size)
  have H5 := Lib.hid h5
  obtain ⟨vf3, vr3, vq3, vs3, hO3, h6⟩ := h5
  have c22 := h6.c (i := 22) rfl
  have c23 := h6.c (i := 23) rfl
  have r0 := hr4.cell_of (i := 0) rfl
  have r1 := hr4.cell_of (i := 1) rfl
  have s0 := hr4.frozen (i := 0) (by simp)
  have s1 := hr4.frozen (i := 1) (by simp)
  have hg6 := h6.lt
  have hr6 := hr4.lt
  have H6 := Lib.hid h6
  have HR4 := Lib.hid hr4
  have K3 := Lib.hid (K2'.out.trans k3 (fun x hx _ => hx))
  have N3 := Lib.hid (fun k (hk : k ∈ O3) => (n3 k hk).elim (fun h => (show k ∈ O ∨ w.heap.size ≤ k from .inl h)) (fun h => .inr (Nat.le_trans K2'.out.size h)))
  clear h6 k3 n3 hr4 HW
  by_cases hk3 : S.kind = 0
  rotate_left
  · have hk3' : ((S.kind : Int) != 0) = true := by simpa using hk3
    have HF2 := Lib.hid (HF.out.trans (if_pos hk3))
    clear hk3
    go_wp2_with (fail)
    refine bodyPost_ret (v := fltV S) (by simp [results, Try.results14, go_sem, fltV, r0, r1, s0, s1]) rfl ⟨by rw [HF2.out], ?_⟩
    rw [HF2.out]
    subst hO3
    exact H6.out.last (w0 := w) HR4.out K3.out (Nat.le_refl _) N3.out _ _
  have hk3' : ((S.kind : Int) != 0) = false := by simpa using hk3
  have HF2 := Lib.hid (HF.out.trans (if_neg (by simpa using hk3)))
  have HE := Lib.hid (end_c w3 base g (n + (Bom.closeOut s.bs).length) d l S O3 H5.out HWO.out.u (by omega) ha hb hc HWO.out.t)
  obtain ⟨x, hx⟩ : ∃ x, enp S.sq S.st S.mm = x := ⟨_, rfl⟩
  have hES : endS S = if x.kind ≠ 0 then { stepS S x with kind := x.kind, pl := S.fed } else { stepS S x with recs := S.recs ++ x.o.toList } := by unfold endS; rw [hx]
  rw [hES] at HF2
  have hon : x.kind ≠ 0 → x.o = none := by rw [← hx]; exact enp_none
  rw [hx] at HE
  clear hx hES hk3 HF
  obtain ⟨q, t, m, o, r⟩ := x
  simp only at HE hon
  have HON := Lib.hid hon
  clear hon r0 r1 s0 s1
  go_wp2_with (fail)
  clear c22 c23
  refine HE.out.mono ?_
  rintro e w4 ⟨v, O4, rfl, hv3, hn3, ha3, h3, k4, n4⟩
  have hr5 := HR4.out.keep k4 (by rw [hO3]; exact H6.out.notIn HR4.out ⟨by decide, by decide, by decide, by decide⟩)
  have K5 := Lib.hid (K3.out.trans k4 (fun z hz hl => by
    simp only [List.mem_cons] at hz ⊢
    rcases hz with hz | hz
    · exact .inl hz
    · exact .inr ((N3.out z hz).resolve_right (by omega))))
  have N5 := Lib.hid (fun z (hz : z ∈ O4) => (n4 z hz).elim (fun h => N3.out z h) (fun h => (show z ∈ O ∨ w.heap.size ≤ z from .inr (Nat.le_trans (Nat.le_of_lt hr6) h))))
  have hb5 : base ≤ w4.heap.size := Nat.le_trans hb3 k4.size
  clear HE k4 n4 HR4 H6 H5 N3 K3 hO3
  obtain ⟨vf5, vr5, vq5, vs5, rfl, h5⟩ := h3
  have r0 := hr5.cell_of (i := 0) rfl
  have r1 := hr5.cell_of (i := 1) rfl
  have s0 := hr5.frozen (i := 0) (by simp)
  have s1 := hr5.frozen (i := 1) (by simp)
  have hr5l := hr5.lt
  by_cases hr0 : r = 0
  rotate_left
  · have hr : ((r : Int) != 0) = true := by simpa using hr0
    obtain rfl := HON.out hr0
    have c22 := h5.c (i := 22) rfl
    have c23 := h5.c (i := 23) rfl
    have c19 := h5.c (i := 19) rfl
    have f22 := h5.f (i := 22) (by omega)
    have f23 := h5.f (i := 23) (by omega)
    have hg5 := h5.lt
    have hA : RAt ((w4.setCell ⟨g, 22, none⟩ (.int .i64 r)).setCell ⟨g, 23, none⟩ (.int .i64 S.fed)) base g d { stepS S ⟨q, t, m, none, r⟩ with kind := r, pl := S.fed } vf5 vr5 vq5 vs5 :=
      (h5.set (s' := { stepS S ⟨q, t, m, none, r⟩ with kind := r }) 22 _ rfl rfl rfl).set 23 _ rfl rfl rfl
    have hr6' := (hr5.far (p := ⟨g, 22, none⟩) (Ne.symm hne) (.int .i64 r)).far (p := ⟨g, 23, none⟩) (Ne.symm hne) (.int .i64 S.fed)
    have HAF := Lib.hid hA
    have HRF := Lib.hid hr6'
    have HF3 := Lib.hid (HF2.out.trans (if_pos hr0))
    clear h5 hr0 hv3 hn3 ha3 hA hr5 hr6' HF2
    go_wp2_with (fail)
    refine bodyPost_ret (v := .agg #[.int .i64 r, .int .i64 S.fed]) (by simp [results, Try.results14, go_sem, fltV, r0, r1, s0, s1, stepS]) rfl ⟨by rw [HF3.out]; rfl, ?_⟩
    rw [HF3.out]
    exact HAF.out.last (w0 := w) HRF.out ((K5.out.set1 _ _ (by simp)).set1 _ _ (by simp)) (Nat.le_refl _) N5.out _ _
  subst hr0
  have hr : (((0 : Nat) : Int) != 0) = false := by decide
  have HF3 := Lib.hid (HF2.out.trans (if_neg (by simp)))
  cases o with
  | none =>
    have c22 := h5.c (i := 22) rfl
    have c23 := h5.c (i := 23) rfl
    have hg5 := h5.lt
    have HAF := Lib.hid h5
    have HRF := Lib.hid hr5
    have hv9 := hn3 rfl
    subst hv9
    clear hn3 hv3 ha3 h5 hr5 HF2
    go_wp2_with (fail)
    refine bodyPost_ret (v := .agg #[.int .i64 S.kind, .int .i64 S.pl]) (by simp [results, Try.results14, go_sem, fltV, r0, r1, s0, s1, stepS]) rfl ⟨by rw [HF3.out]; rfl, ?_⟩
    rw [HF3.out]
    have := HAF.out.last (w0 := w) HRF.out K5.out (Nat.le_refl _) N5.out (.int .i64 S.kind) (.int .i64 S.pl)
    simpa [stepS] using this
  | some row =>
    simp only [Option.getD_some] at hv3
    have htl := h5.tab.2.1
    obtain ⟨vq', w5, hap, hq6, k6, n6⟩ := run_append1 (P := Try.prog) (t := 42) Try.underlying42 hiS hS0 hS1 hS2 rfl htl (y := v) (by obtain ⟨a, b, rfl, _, _⟩ := hv3.form; rfl) (by simp only [maxLen]; simp [stepS]; omega) (by simp [stepS]; omega) hb5 42
    have c20 := h5.c (i := 20) rfl
    have hA := h5.push (r := row) hv3 (fun z hz hm => ha3 z hz (by simp only [List.mem_append]; exact .inr (.inl hm))) hq6 k6
    obtain ⟨A9, c9, rfl, _, _⟩ := hv3.form
    obtain ⟨A8, c8, rfl, _, _⟩ := hq6.form
    have hgq : g ∉ blkOf vq5 := fun hm => h5.tabG g (by simp only [tblks, List.mem_append]; exact .inl hm) rfl
    have hb6 := h5.blk.keep k6 hgq
    have e20 := hb6.cell_of (i := 20) rfl
    have e22 := hb6.cell_of (i := 22) rfl
    have e23 := hb6.cell_of (i := 23) rfl
    have f20 := hb6.frozen (i := 20) (by simp [rC, rP, rT, mkC, Bom.St.cells])
    have hg6 := hb6.lt
    have hr7 := hr5.keep k6 (fun hm => h5.notIn hr5 ⟨by decide, by decide, by decide, by decide⟩ (by simp only [List.mem_cons, List.mem_append]; exact .inr (.inr (.inr hm))))
    have t0 := hr7.cell_of (i := 0) rfl
    have t1 := hr7.cell_of (i := 1) rfl
    have u0 := hr7.frozen (i := 0) (by simp)
    have u1 := hr7.frozen (i := 1) (by simp)
    have hr7l := hr7.lt
    have hr8 := hr7.far (p := ⟨g, 20, none⟩) (Ne.symm hne) (.slice A8 ((stepS S ⟨q, t, m, some row, 0⟩).recs.length + 1) c8)
    have hO4 : ∀ z ∈ blkOf vf5 ++ (blkOf vr5 ++ blkOf (.slice A8 ((stepS S ⟨q, t, m, some row, 0⟩).recs.length + 1) c8)), z ∈ O ∨ w.heap.size ≤ z := by
      intro z hz
      simp only [List.mem_append] at hz
      rcases hz with hz | hz | hz
      · exact N5.out z (by simp only [List.mem_append]; exact .inl hz)
      · exact N5.out z (by simp only [List.mem_append]; exact .inr (.inl hz))
      · rcases n6 z hz with h | h
        · exact N5.out z (by simp only [List.mem_append]; exact .inr (.inr h))
        · exact .inr (Nat.le_trans K5.out.size h)
    have hk4 : Keeps (g :: O) w (w5.setCell ⟨g, 20, none⟩ (.slice A8 ((stepS S ⟨q, t, m, some row, 0⟩).recs.length + 1) c8)) :=
      (K5.out.trans k6 (fun z hz hl => by
        rcases N5.out z (by simp only [List.mem_append]; exact .inr (.inr hz)) with h | h
        · exact List.mem_cons_of_mem _ h
        · omega)).set1 _ _ (by simp)
    have HAF := Lib.hid hA
    have HRF := Lib.hid hr8
    have HO4 := Lib.hid hO4
    have HK4 := Lib.hid hk4
    clear h5 hA hb6 hO4 hk4 hgq n6 k6 hq6 htl ha3 hn3 hv3 hr5 hr7 hr8 r0 r1 s0 s1 HF2
    go_wp2_with (with_reducible refine wpList_append hap _ _ rfl rfl rfl rfl rfl ?_)
    refine bodyPost_ret (v := .agg #[.int .i64 S.kind, .int .i64 S.pl]) (by simp [results, Try.results14, go_sem, fltV, t0, t1, u0, u1, stepS]) rfl ⟨by rw [HF3.out]; rfl, ?_⟩
    rw [HF3.out]
    exact HAF.out.last (w0 := w) HRF.out HK4.out (Nat.le_refl _) HO4.out _ _
end Go.Proofs.Ytbjejmdbpikgjaa.Rd
