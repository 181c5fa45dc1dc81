/- The contracts of package whole: the end; the example. -/
import Derived.Test.YtbjejmdbpikgjaaWh2
namespace Go.Proofs.Ytbjejmdbpikgjaa.Wh
set_option linter.unusedVariables false
set_option linter.unusedSimpArgs false
set_option maxRecDepth 100000
open Go.RowKit Q Mach Dia Scan Ref4 Fld Limits
attribute [local go_sem ↓] Go.wp_at_zero Go.wp_at_succ
set_option maxHeartbeats 4000000 in
theorem end_c (w : World) (base g gm gt : Nat) (d : Dia) (st : Nat) (m : Mk) (vf vr vq : Value) (vs : List Value) (recs : Tb) (h : WAt w base g gm gt d 0 st m vf vr vq vs recs) (hm : Fine m) (hst : st ≤ 6) (hk : (closeEv st).2 = 0) (h0 : (take m (closeEv st).1).2.2 = 0) (hbw : base ≤ w.heap.size) :
    Calls Try.prog 78 #[.pointer (some ⟨g, 0, none⟩)] w (WGot w base g gm gt d 0 st (take m (closeEv st).1).1 (take m (closeEv st).1).2.1 vq vs recs) := by
  have HS := Lib.hid (fun w => Scan.close_c st hst w)
  have HF := Lib.hid hm
  have c4 := h.blk.cell_of (i := 4) rfl
  have c5 := h.blk.cell_of (i := 5) rfl
  have hgl := h.blk.lt
  have HB := Lib.hid h
  have HB0 := Lib.hid hbw
  obtain ⟨X, hX⟩ : ∃ X, closeEv st = X := ⟨_, rfl⟩
  rw [hX] at HS hk h0 ⊢
  obtain ⟨⟨e1, e2, e3, e4, e5, e6⟩, r⟩ := X
  dsimp only at hk h0 ⊢
  subst hk
  have HT0 := Lib.hid h0
  clear hX h hm hst h0 hbw
  simp only [closeV] at HS
  go_enter Try.func78, Try.ntmps78
  go_wp2_with (fail)
  refine (HS.out _).mono ?_
  rintro e w1 ⟨rfl, k1⟩
  have h1 := HB.out.keep k1
  have hE := Blk.new w1 117 [.bool e1, .bool e2, .bool e3, .bool e4, .bool e5, bv e6]
  have h2 := h1.keep (Keeps.alloc [] w1 (.cells #[.bool e1, .bool e2, .bool e3, .bool e4, .bool e5, bv e6] 117))
  have k2 := k1.alloc1 (.cells #[.bool e1, .bool e2, .bool e3, .bool e4, .bool e5, bv e6] 117)
  have H3 := Lib.hid h2
  have K3 := Lib.hid k2
  have HX3 := Lib.hid hE
  clear c4 c5 hgl h1 k1 HS h2 hE k2 HB
  go_upto_region 6 with (fail)
  generalize w1.alloc (.cells #[.bool e1, .bool e2, .bool e3, .bool e4, .bool e5, bv e6] 117) = wy at *
  generalize w1.heap.size = g1 at *
  have c3 := H3.out.blk.cell_of (i := 3) rfl
  have q0 := HX3.out.cell_of (i := 0) rfl
  have q1 := HX3.out.cell_of (i := 1) rfl
  have q2 := HX3.out.cell_of (i := 2) rfl
  have q3 := HX3.out.cell_of (i := 3) rfl
  have q4 := HX3.out.cell_of (i := 4) rfl
  have q5 := HX3.out.cell_of (i := 5) rfl
  have h4 := H3.out.keep (Keeps.drew [] wy)
  have HT : Hid (Calls Try.prog 59 #[.pointer (some ⟨gm, 0, none⟩), evV ⟨e1, e2, e3, e4, e5, e6⟩] wy.drew (WGot wy.drew base g gm gt d 0 st (take m ⟨e1, e2, e3, e4, e5, e6⟩).1 (take m ⟨e1, e2, e3, e4, e5, e6⟩).2.1 vq vs recs)) :=
    Lib.hid ((take_c base gm 82 [] [] m vf vr ⟨e1, e2, e3, e4, e5, e6⟩ wy.drew h4.mka ⟨by decide, by decide, by decide⟩ HF.out).mono fun r w' hp => h4.take HT0.out hp)
  have HD := Lib.hid (show BF base w wy.drew from BF.of K3.out.drew1 HB0.out)
  clear h4
  go_region_law (first
    | (refine step_call HT.out Try.func59 ⟨by kernel_rfl, by kernel_rfl⟩ _ _ rfl rfl rfl ?_; rintro e w4 ⟨v, vf9, vr9, rfl, hg⟩; have HG := Lib.hid hg; clear hg; refine ⟨_, rfl, ?_⟩))
  all_goals
    go_wp2_with (fail)
    go_ret3
    go_simp
    exact WGot.after HD.out ⟨v, vf9, vr9, rfl, HG.out⟩
/-! ### The example -/
def m6 : Mk := ⟨exL, [], [], 1, 1, 2, 0⟩
theorem ex_wk : Rdp.wk exD 0 0 (mk0 exL) exS 0 = ⟨0, 0, m6, [[[97], [98]]], 0, 0⟩ := by kernel_rfl
theorem wk_step {d : Dia} {sq st : Nat} {m : Mk} {c : UInt8} {r : Bs} {i : Nat} (h : (Rdp.wk d sq st m (c :: r) i).kind = 0) :
    (Rdp.stp d sq st m c).kind = 0 ∧ Rdp.wk d sq st m (c :: r) i = (Rdp.wk d (Rdp.stp d sq st m c).sq (Rdp.stp d sq st m c).st (Rdp.stp d sq st m c).mm r (i + 1)).pre (Rdp.stp d sq st m c).o.toList := by
  rw [Rdp.wk] at h ⊢
  split at h
  · rename_i h1; exact absurd h h1
  · rename_i h1
    rw [if_neg h1]
    exact ⟨by simpa using h1, rfl⟩
theorem fine_n {k : Nat} {m : Mk} (h : Upto k exL m) (hk : k ≤ 100) : Fine m := h.fine (by omega) (by decide) (by decide) (by decide)
structure XMid (w : World) (base g gm gt : Nat) (d : Dia) (k sq st : Nat) (m : Mk) (vf vr vq : Value) (vs : List Value) (rs : Tb) : Prop where
  a : WAt w base g gm gt d sq st m vf vr vq vs rs
  w : Rdp.wk d 0 0 (mk0 exL) exS 0 = (Rdp.wk d sq st m (exS.drop k) k).pre rs
  u : Upto k exL m
  q : sq ≤ 7
  t : st ≤ 6
  r : rs.length ≤ k
theorem XMid.next {w : World} {base g gm gt k sq st : Nat} {d : Dia} {m : Mk} {vf vr vq : Value} {vs : List Value} {rs : Tb} (hd : d = exD) (h : XMid w base g gm gt d k sq st m vf vr vq vs rs) (hk : k < exS.length) (x : Rdp.Sp) (hx : Rdp.stp d sq st m exS[k] = x) :
    x.kind = 0 ∧ ∀ w' vf' vr' vq' vs', WAt w' base g gm gt d x.sq x.st x.mm vf' vr' vq' vs' (rs ++ x.o.toList) → XMid w' base g gm gt d (k + 1) x.sq x.st x.mm vf' vr' vq' vs' (rs ++ x.o.toList) := by
  have h1 := h.w
  have h2 : (Rdp.wk d sq st m (exS.drop k) k).kind = 0 := by
    have h3 : ((Rdp.wk d sq st m (exS.drop k) k).pre rs).kind = 0 := by rw [← h1, hd, ex_wk]
    exact h3
  have h4 := Rd.stp_ok (d := d) exS[k] h.u h.q h.t
  rw [List.drop_eq_getElem_cons hk] at h1 h2
  obtain ⟨a, b⟩ := wk_step h2
  rw [b, Rdp.Wk.pre_pre] at h1
  rw [hx] at a h1 h4
  have h5 := h.r
  have h6 : x.o.toList.length ≤ 1 := by cases x.o <;> simp
  exact ⟨a, fun w' vf' vr' vq' vs' hA => ⟨hA, h1, h4.1, h4.2.1, h4.2.2, by rw [List.length_append]; omega⟩⟩
theorem XMid.done {w : World} {base g gm gt sq st : Nat} {d : Dia} {m : Mk} {vf vr vq : Value} {vs : List Value} {rs : Tb} (hd : d = exD) (h : XMid w base g gm gt d exS.length sq st m vf vr vq vs rs) : sq = 0 ∧ st = 0 ∧ m = m6 ∧ rs = [[[97], [98]]] := by
  have h1 := h.w
  rw [List.drop_length, hd, ex_wk, Rdp.wk] at h1
  simp only [Rdp.Wk.pre, List.append_nil] at h1
  injection h1 with a b c e
  exact ⟨a.symm, b.symm, c.symm, e.symm⟩
set_option maxHeartbeats 8000000 in
theorem walk_x (d : Dia) (hd : d = exD) (w : World) (base gt : Nat) (hbox : Blk w gt 42 [.slice none 0 0]) (hgt : base ≤ gt) (hbw : base ≤ w.heap.size) :
    Calls Try.prog 52 #[diaV d, limV 9 9 9 false, sv exS, .func (.func 53) #[] #[.pointer (some ⟨gt, 0, none⟩)]] w fun e w' => e = .returned (.agg #[.int .i64 0, .int .i64 0]) ∧ ∃ vq vs, OTb w' base 65 9 vq vs [[[97], [98]]] ∧ Blk w' gt 42 [vq] ∧ Below base w w' := by
  have HC := Lib.hid (fun w => check_c d w)
  have HN : Hid (∀ w, Calls Try.prog 33 #[limV 9 9 9 false] w (NewPost exL w)) := Lib.hid (fun w => Fld.new_c exL (by decide) (by decide) (by decide) w)
  have HST := Lib.hid strip_x
  have kp := ((Keeps.alloc [] w (.cells #[bv d.delim, bv d.quote, .int .i64 d.fin] 23)).alloc1 (.cells #[.int .i64 9, .int .i64 9, .int .i64 9, .bool false] 25)).alloc1 (.cells #[.int .i64 0, .int .i64 0] 35)
  have hb0 := ((Blk.new w 23 [bv d.delim, bv d.quote, .int .i64 d.fin]).alloc (.cells #[.int .i64 9, .int .i64 9, .int .i64 9, .bool false] 25)).alloc (.cells #[.int .i64 0, .int .i64 0] 35)
  have hb1 := (Blk.new (w.alloc (.cells #[bv d.delim, bv d.quote, .int .i64 d.fin] 23)) 25 [.int .i64 9, .int .i64 9, .int .i64 9, .bool false]).alloc (.cells #[.int .i64 0, .int .i64 0] 35)
  have hb2 := Blk.new ((w.alloc (.cells #[bv d.delim, bv d.quote, .int .i64 d.fin] 23)).alloc (.cells #[.int .i64 9, .int .i64 9, .int .i64 9, .bool false] 25)) 35 [.int .i64 0, .int .i64 0]
  simp only [World.size_alloc] at hb1 hb2
  have hbx := hbox.keep kp (by simp)
  have hr : d.right = true := by rw [hd]; decide
  rw [hr] at HC
  have HDX := Lib.hid hd
  clear hr hd hbox
  obtain ⟨x, y, z⟩ := d
  go_enter Try.func52, Try.ntmps52
  go_upto_region 1 with (fail)
  generalize ((w.alloc (.cells #[bv x, bv y, .int .i64 z] 23)).alloc (.cells #[.int .i64 9, .int .i64 9, .int .i64 9, .bool false] 25)).alloc (.cells #[.int .i64 0, .int .i64 0] 35) = w0 at *
  have c0 := hb0.cell_of (i := 0) rfl
  have c1 := hb0.cell_of (i := 1) rfl
  have c2 := hb0.cell_of (i := 2) rfl
  have H1 := Lib.hid hb1; have H2 := Lib.hid hb2; have HX := Lib.hid hbx; have KP := Lib.hid kp; have H0 := Lib.hid hb0
  clear hb1 hb2 hbx kp hb0
  go_step3
  go_wp2_with (fail)
  refine (HC.out _).mono ?_
  rintro e w1 ⟨rfl, k1⟩
  clear c0 c1 c2 HC
  have e0 := (H1.out.keep k1 (by simp)).cell_of (i := 0) rfl
  have e1 := (H1.out.keep k1 (by simp)).cell_of (i := 1) rfl
  have e2 := (H1.out.keep k1 (by simp)).cell_of (i := 2) rfl
  have e3 := (H1.out.keep k1 (by simp)).cell_of (i := 3) rfl
  go_wp2_with (fail)
  refine (HN.out _).mono ?_
  rintro e w2 ⟨gm, rfl, hM, k2⟩
  have k12 := k1.trans k2 (by simp)
  have hb0 := H0.out.keep k12 (by simp)
  have c0 := hb0.cell_of (i := 0) rfl
  have c1 := hb0.cell_of (i := 1) rfl
  have c2 := hb0.cell_of (i := 2) rfl
  have hs1 := k1.size
  have hs0 := KP.out.size
  have hbw2 : base ≤ w2.heap.size := by have := k2.size; omega
  have hblk := Blk.new w2 142 [bv x, bv y, .int .i64 z, .pointer (some ⟨gm, 0, none⟩), .int .i64 0, .int .i64 0]
  have ka := Keeps.alloc [] w2 (.cells #[bv x, bv y, .int .i64 z, .pointer (some ⟨gm, 0, none⟩), .int .i64 0, .int .i64 0] 142)
  have hA : WAt (w2.alloc (.cells #[bv x, bv y, .int .i64 z, .pointer (some ⟨gm, 0, none⟩), .int .i64 0, .int .i64 0] 142)) base w2.heap.size gm gt ⟨x, y, z⟩ 0 0 (mk0 exL) (.slice none 0 0) (.slice none 0 0) (.slice none 0 0) [] [] := by
    have hM2 := hM.keep ka
    exact ⟨hblk, ⟨hM2.blk, by have := hM.low; omega, hM2.fld.less (by omega), hM2.rcd.less (by omega)⟩, OTb.nil_ _ _ _ _, by simp, (HX.out.keep k12 (by simp)).keep ka (by simp), hbw2, hgt⟩
  have hbf := (H2.out.keep k12 (by simp)).keep ka (by simp)
  have kk := (KP.out.trans k12 (by simp)).trans ka (by simp)
  have hmid : XMid _ base w2.heap.size gm gt ⟨x, y, z⟩ 0 0 0 (mk0 exL) (.slice none 0 0) (.slice none 0 0) (.slice none 0 0) [] [] := ⟨hA, by simp [Rdp.Wk.pre_nil], upto0 exL, by omega, by omega, by simp⟩
  have HMID := Lib.hid hmid
  have HBF := Lib.hid hbf
  have KK := Lib.hid kk
  clear e0 e1 e2 e3 hblk ka hA hbf kk hM k12 hb0 k1 k2 HN H0 H1 H2 HX KP hmid hbw2 hs1 hs0
  go_wp2_with (fail)
  refine (HST.out _).mono ?_
  generalize w2.alloc (.cells #[bv x, bv y, .int .i64 z, .pointer (some ⟨gm, 0, none⟩), .int .i64 0, .int .i64 0] 142) = w3 at *
  generalize w2.heap.size = g at *
  rintro e w4 ⟨rfl, k4⟩
  have hmid := HMID.out
  have HMID4 := Lib.hid (show XMid w4 base g gm gt ⟨x, y, z⟩ 0 0 0 (mk0 exL) (.slice none 0 0) (.slice none 0 0) (.slice none 0 0) [] [] from ⟨hmid.a.keep k4, hmid.w, hmid.u, hmid.q, hmid.t, hmid.r⟩)
  have hbf := HBF.out.keep k4 (by simp)
  have hk4 := KK.out.trans k4 (by simp)
  have HBW := Lib.hid (show Below base w w4 from hk4.below hbw (by simp))
  have HBF4 := Lib.hid hbf
  clear hmid HMID HBF KK k4 HST c0 c1 c2 hbf hk4
  go_wp2_with (fail)
  go_step3
  go_wp2_with (fail)
  go_loopw [15, 16] (fun i e wr => ∃ (k sq st : Nat) (m : Mk) (vf vr vq : Value) (vs : List Value) (rs : Tb), k ≤ exS.length ∧ i = .int .i64 k ∧ e = .int .i64 0 ∧ XMid wr base g gm gt ⟨x, y, z⟩ k sq st m vf vr vq vs rs ∧ Blk wr (w.heap.size + 1 + 1) 35 [.int .i64 0, .int .i64 0] ∧ Below base w wr) (fun i _ _ => exS.length - (intOf i).toNat)
  case atStart => exact ⟨0, 0, 0, _, _, _, _, _, _, Nat.zero_le _, rfl, rfl, HMID4.out, HBF4.out, HBW.out⟩
  case round =>
    obtain ⟨k, sq, st, m, vf, vr, vq, vs, rs, hk, rfl, rfl, hX, hB, hW⟩ := hrel
    clear HMID4 HBF4 HBW
    by_cases hlt : k < exS.length
    · have hi := str_idx (P := Try.prog) Try.underlying9 exS k exS[k] (List.getElem?_eq_getElem hlt)
      obtain ⟨X, hX2⟩ : ∃ X, Rdp.stp ⟨x, y, z⟩ sq st m exS[k] = X := ⟨_, rfl⟩
      obtain ⟨hk0, hnx⟩ := XMid.next HDX.out hX hlt X hX2
      have hkl : (k : Int) < (exS.length : Int) := by omega
      have hk00 : (0 : Int) ≤ (k : Int) := by omega
      have hbwr : base ≤ wr.heap.size := Nat.le_trans hbw hW.size
      have hl6 : exS.length = 6 := rfl
      have hk6 : k < 6 := by omega
      have HS := Lib.hid (step_c wr base g gm gt ⟨x, y, z⟩ sq st m vf vr vq vs rs exS[k] hX.a (fine_n hX.u (by omega)) hX.q hX.t X hX2 hk0 hbwr)
      have HNX := Lib.hid hnx
      have hrl := hX.r
      have HB := Lib.hid hB
      have HW := Lib.hid hW
      clear hX2 hnx hX hB hW hl6
      generalize exS[k] = bk at *
      obtain ⟨q', t', m', o, r⟩ := X
      simp only at hk0 HS
      subst hk0
      go_wp2_with (fail)
      with_reducible refine HS.out.mono ?_
      rintro e w5 ⟨v, vf5, vr5, rfl, hv5, hn5, ha5, hA5, hB5⟩
      have hBr := hB5.f _ _ HB.out
      have hWr := HW.out.trans hB5.b
      have hbw5 : base ≤ w5.heap.size := Nat.le_trans hbwr hB5.size
      cases o with
      | none =>
        have HX9 := Lib.hid (HNX.out w5 vf5 vr5 vq vs (by simpa using hA5))
        have hv9 := hn5 rfl
        subst hv9
        have HB9 := Lib.hid hBr
        have HW9 := Lib.hid hWr
        clear hn5 hv5 ha5 hA5 hB5 hBr hWr
        go_wp2_with (fail)
        go_roundw
        case rel => exact ⟨k + 1, _, _, _, _, _, _, _, _, by omega, by go_num, rfl, HX9.out, HB9.out, HW9.out⟩
        case measure => simp [intOf]; omega
      | some row =>
        simp only [Option.getD_some] at hv5
        have HPT := Lib.hid (put_c w5 base g gm gt ⟨x, y, z⟩ q' t' m' vf5 vr5 vq v vs rs row hA5 hv5 ha5 hbw5 (by omega))
        have HB9 := Lib.hid hBr
        have HW9 := Lib.hid hWr
        obtain ⟨A9, c9, rfl, _, _⟩ := hv5.form
        clear hn5 hv5 ha5 hA5 hB5 hBr hWr
        go_wp2_with (fail)
        with_reducible refine HPT.out.mono ?_
        rintro e w6 ⟨rfl, vq9, hA6, hB6⟩
        have HX9 := Lib.hid (HNX.out w6 vf5 vr5 vq9 _ hA6)
        have HB8 := Lib.hid (hB6.f _ _ HB9.out)
        have HW8 := Lib.hid (HW9.out.trans hB6.b)
        clear hA6 hB6 HB9 HW9 HPT
        go_wp2_with (fail)
        go_roundw
        case rel => exact ⟨k + 1, _, _, _, _, _, _, _, _, by omega, by go_num, rfl, HX9.out, HB8.out, HW8.out⟩
        case measure => simp [intOf]; omega
    · obtain rfl : k = exS.length := by omega
      have hkl : ¬ ((exS.length : Int) < (exS.length : Int)) := by omega
      obtain ⟨rfl, rfl, rfl, rfl⟩ := XMid.done HDX.out hX
      have HE := Lib.hid (end_c wr base g gm gt ⟨x, y, z⟩ 0 m6 vf vr vq vs _ hX.a (fine_n hX.u (by decide)) (by omega) (by rfl) (by rfl) (Nat.le_trans hbw hW.size))
      have HB := Lib.hid hB
      have HW := Lib.hid hW
      clear hX hB hW
      go_wp2_with (fail)
      with_reducible refine HE.out.mono ?_
      rintro e w5 ⟨v, vf5, vr5, rfl, hv5, hn5, ha5, hA5, hB5⟩
      have hv9 := hn5 rfl
      subst hv9
      have hBr := hB5.f _ _ HB.out
      have r0 := hBr.cell_of (i := 0) rfl
      have r1 := hBr.cell_of (i := 1) rfl
      have s0 := hBr.frozen (i := 0) (by simp)
      have s1 := hBr.frozen (i := 1) (by simp)
      have hrl := hBr.lt
      have k6 := (Keeps.setCell w5 ⟨w.heap.size + 1 + 1, 0, none⟩ (.int .i64 0)).set1 ⟨w.heap.size + 1 + 1, 1, none⟩ (.int .i64 0) (by simp)
      have hT6 := hA5.tab.keep k6 (fun z hz hm => by simp only [List.mem_singleton] at hm; exact OTb.apartB hA5.tab hBr (by decide) (by decide) z hz hm)
      have hX6 := hA5.box.keep k6 (fun hm => by simp only [List.mem_singleton] at hm; exact hA5.box.ne_ hBr (by decide) hm)
      have HT6 := Lib.hid hT6
      have HX6 := Lib.hid hX6
      have HW6 := Lib.hid ((HW.out.trans hB5.b).trans (k6.below (Nat.le_trans hbw (Nat.le_trans HW.out.size hB5.size)) (by simp; omega)))
      clear hv5 hn5 ha5 hA5 hB5 hBr k6 hT6 hX6 HE HB HW
      go_wp2_with (fail)
      try rw [Exit.noGoto_ret]
      refine bodyPost_ret (v := .agg #[.int .i64 0, .int .i64 0]) (by simp [results, Try.results52, go_sem, r0, r1, s0, s1]) rfl ⟨rfl, vq, vs, ?_⟩
      exact ⟨HT6.out, HX6.out, HW6.out⟩
end Go.Proofs.Ytbjejmdbpikgjaa.Wh
