/- The contracts of package read: what the end comes to. -/
import Derived.Test.YtbjejmdbpikgjaaRd2
namespace Go.Proofs.Ytbjejmdbpikgjaa.Rd
set_option linter.unusedVariables false
set_option linter.unusedSimpArgs false
set_option maxRecDepth 100000
open Go.RowKit Q Mach Dia Scan Ref4 Fld
attribute [local go_sem ↓] Go.wp_at_zero Go.wp_at_succ
def enp (sq st : Nat) (m : Mk) : Rdp.Sp :=
  if sq ≠ 0 then ⟨sq, st, m, none, 12⟩ else if (closeEv st).2 ≠ 0 then ⟨sq, st, m, none, (closeEv st).2⟩
  else ⟨sq, st, (take m (closeEv st).1).1, (take m (closeEv st).1).2.1, (take m (closeEv st).1).2.2⟩
set_option maxHeartbeats 4000000 in
theorem end_c (w : World) (base g n : Nat) (d : Dia) (l : Lim) (s : Rs) (O : List Nat) (h : RA w base g d s O) (hU : Upto n l s.mm) (hn : n ≤ 10000) (ha : l.field ≤ 2147483648) (hb : l.fields ≤ 2147483648) (hc : l.records ≤ 2147483648) (hst : s.st ≤ 6) :
    Calls Try.prog 38 #[.pointer (some ⟨g, 0, none⟩)] w (GotP w base g d (stepS s (enp s.sq s.st s.mm)) (enp s.sq s.st s.mm).o (enp s.sq s.st s.mm).kind O) := by
  obtain ⟨vf, vr, vq, vs, rfl, h⟩ := h
  have HS := Lib.hid (fun w => Scan.close_c s.st hst w)
  have HF := Lib.hid (hU.fine hn ha hb hc)
  have c17 := h.c (i := 17) rfl
  have c18 := h.c (i := 18) rfl
  have hgl := h.lt
  have HB := Lib.hid h
  clear hU ha hb hc hst hn h
  by_cases hq : s.sq = 0
  rotate_left
  · have hq' : ((s.sq : Int) != 0) = true := by simpa using hq
    have HQ := Lib.hid hq
    clear hq
    go_enter Try.func38, Try.ntmps38
    go_wp2_with (fail)
    go_ret3
    have e1 : enp s.sq s.st s.mm = ⟨s.sq, s.st, s.mm, none, 12⟩ := by unfold enp; rw [if_pos HQ.out]
    rw [e1]
    exact GotP.nil (RP.refl ⟨vf, vr, vq, vs, rfl, HB.out⟩)
  have hq' : ((s.sq : Int) != 0) = false := by simpa using hq
  obtain ⟨X, hX⟩ : ∃ X, closeEv s.st = X := ⟨_, rfl⟩
  have e1 : enp s.sq s.st s.mm = if X.2 ≠ 0 then ⟨s.sq, s.st, s.mm, none, X.2⟩ else ⟨s.sq, s.st, (take s.mm X.1).1, (take s.mm X.1).2.1, (take s.mm X.1).2.2⟩ := by unfold enp; rw [if_neg (by simpa using hq), hX]
  have HE := Lib.hid e1
  rw [hX] at HS
  clear hX e1 hq
  obtain ⟨⟨e1, e2, e3, e4, e5, e6⟩, r⟩ := X
  simp only [closeV] at HS
  go_enter Try.func38, Try.ntmps38
  go_wp2_with (fail)
  refine (HS.out _).mono ?_
  rintro e w1 ⟨rfl, k1⟩
  have h1 := HB.out.keep k1
  have hE := Blk.new w1 117 [.bool e1, .bool e2, .bool e3, .bool e4, .bool e5, bv e6]
  have h2 := h1.keep (Keeps.alloc [] w1 (.cells #[.bool e1, .bool e2, .bool e3, .bool e4, .bool e5, bv e6] 117))
  have k2 := k1.alloc1 (.cells #[.bool e1, .bool e2, .bool e3, .bool e4, .bool e5, bv e6] 117)
  clear c17 c18 hgl h1 k1 HS
  by_cases hr0 : r = 0
  rotate_left
  · have hr : ((r : Int) != 0) = true := by simpa using hr0
    have HR := Lib.hid hr0
    have H2 := Lib.hid h2
    clear hr0 h2 hE
    go_wp2_with (fail)
    go_ret3
    rw [HE.out, if_pos HR.out]
    exact GotP.nil (RP.of ⟨vf, vr, vq, vs, rfl, HB.out⟩ k2)
  subst hr0
  rw [if_neg (by simp)] at HE
  have H3 := Lib.hid h2
  have K3 := Lib.hid k2
  have HX3 := Lib.hid hE
  clear h2 hE k2
  go_upto_region 6 with (fail)
  generalize hWY : w1.alloc (.cells #[.bool e1, .bool e2, .bool e3, .bool e4, .bool e5, bv e6] 117) = wy at *
  generalize hG : w1.heap.size = g1 at *
  have q0 := HX3.out.cell_of (i := 0) rfl
  have q1 := HX3.out.cell_of (i := 1) rfl
  have q2 := HX3.out.cell_of (i := 2) rfl
  have q3 := HX3.out.cell_of (i := 3) rfl
  have q4 := HX3.out.cell_of (i := 4) rfl
  have q5 := HX3.out.cell_of (i := 5) rfl
  clear hWY hG
  have h4 := H3.out.keep (Keeps.drew [] wy)
  have HT : Hid (Calls Try.prog 59 #[.pointer (some ⟨g, 7, none⟩), evV ⟨e1, e2, e3, e4, e5, e6⟩] wy.drew (GotP wy.drew base g d { s with mm := (take s.mm ⟨e1, e2, e3, e4, e5, e6⟩).1 } (take s.mm ⟨e1, e2, e3, e4, e5, e6⟩).2.1 (take s.mm ⟨e1, e2, e3, e4, e5, e6⟩).2.2 (blkOf vf ++ (blkOf vr ++ blkOf vq)))) :=
    Lib.hid ((take_c base g 84 _ _ s.mm vf vr ⟨e1, e2, e3, e4, e5, e6⟩ wy.drew h4.mka ⟨by decide, by decide, by decide⟩ HF.out).mono fun r w' hp => h4.take hp)
  clear h4
  go_region_law (first
    | (refine step_call HT.out Try.func59 ⟨by kernel_rfl, by kernel_rfl⟩ _ _ rfl rfl rfl ?_; rintro e w4 ⟨v, O', rfl, hg⟩; refine ⟨_, rfl, ?_⟩))
  all_goals
    go_wp2_with (fail)
    go_ret3
    rw [HE.out]
    exact GotP.after (K3.out.drew1.sub (by simp)) ⟨v, O', rfl, hg⟩
/-! ### The numbers of a reader -/
section num
variable {w : World} {base g : Nat} {d : Dia} {s : Rs} {O : List Nat}
set_option maxHeartbeats 400000 in
theorem count_c (h : RA w base g d s O) (h1 : s.handed ≤ 1000000) (h2 : s.recs.length ≤ 1000000) : Calls Try.prog 12 #[.pointer (some ⟨g, 0, none⟩)] w fun e w' => e = .returned (.int .i64 ((s.handed + s.recs.length : Nat) : Int)) ∧ Keeps [] w w' := by
  obtain ⟨vf, vr, vq, vs, rfl, h⟩ := h
  obtain ⟨A, c, rfl, hn1, hm1⟩ := h.tab.2.1.form
  have c20 := h.c (i := 20) rfl
  have c21 := h.c (i := 21) rfl
  clear h
  go_enter Try.func12, Try.ntmps12
  go_wp2_with (fail)
  go_region
  all_goals
    go_wp2_with (fail)
    go_ret
    exact ⟨by go_num, Keeps.drew [] _⟩
set_option maxHeartbeats 400000 in
theorem offset_c (h : RA w base g d s O) : Calls Try.prog 13 #[.pointer (some ⟨g, 0, none⟩)] w fun e w' => e = .returned (.int .i64 (if s.kind ≠ 0 then (s.pl : Int) else (s.fed : Int))) ∧ w' = w := by
  obtain ⟨vf, vr, vq, vs, rfl, h⟩ := h
  have c19 := h.c (i := 19) rfl
  have c22 := h.c (i := 22) rfl
  have c23 := h.c (i := 23) rfl
  clear h
  by_cases hk : s.kind = 0
  · have hk' : ((s.kind : Int) != 0) = false := by simpa using hk
    have HK := Lib.hid hk
    clear hk
    go_enter Try.func13, Try.ntmps13
    go_wp2_with (fail)
    go_ret
    exact ⟨rfl, rfl⟩
  · have hk' : ((s.kind : Int) != 0) = true := by simpa using hk
    have HK := Lib.hid hk
    clear hk
    go_enter Try.func13, Try.ntmps13
    go_wp2_with (fail)
    go_ret
    exact ⟨rfl, rfl⟩
/-- The fault's value. -/
def fltV (s : Rs) : Value := .agg #[.int .i64 s.kind, .int .i64 s.pl]
set_option maxHeartbeats 400000 in
theorem fault_c (h : RA w base g d s O) : Calls Try.prog 15 #[.pointer (some ⟨g, 0, none⟩)] w fun e w' => e = .returned (fltV s) ∧ Keeps [] w w' := by
  obtain ⟨vf, vr, vq, vs, rfl, h⟩ := h
  have hgl := h.lt
  have hne : g ≠ w.heap.size := by omega
  have c22 := h.c (i := 22) rfl
  have c23 := h.c (i := 23) rfl
  clear h
  go_enter Try.func15, Try.ntmps15
  go_wp2_with (fail)
  exact bodyPost_ret (v := fltV s) (by simp [results, Try.results15, go_sem, fltV]) rfl ⟨rfl, Keeps.alloc [] w _⟩
end num
end Go.Proofs.Ytbjejmdbpikgjaa.Rd
