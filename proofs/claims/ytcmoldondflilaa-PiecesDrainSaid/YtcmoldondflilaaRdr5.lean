/- The document's reader of layer 6: a line. -/
import Derived.Test.YtcmoldondflilaaRdr4
import Derived.Deep.RegionHeld3
import Derived.Deep.DeepCutAuto
namespace Go.Proofs.Ytcmoldondflilaa.Rdr
set_option linter.unusedVariables false
set_option linter.unusedSimpArgs false
set_option maxRecDepth 100000
open Go.RowKit Q Mach Dia Gram
attribute [local go_sem ↓] Go.wp_at_zero Go.wp_at_succ
section push
variable {w w2 : World} {base g : Nat} {d : Dia} {l : Lim} {s : Bs} {st : R6} {vr vR vE v' : Value} {vs : List Value}
/-- The record has one field more. -/
theorem RP.push (h : RP w base g d l s st vr vR vs vE) (f : Bs) (hown : Own w2 base 9 1 v' (st.row.length + 1) (st.row.map sv ++ [sv f])) (k : Keeps (blkOf vr) w w2) (hb : ∀ x ∈ blkOf v', x ∈ blkOf vr ∨ w.heap.size ≤ x) :
    (w2.cell? ⟨g, 10, none⟩ = some vr ∧ w2.frozen? ⟨g, 10, none⟩ = false ∧ g < w2.heap.size) ∧ RP (w2.setCell ⟨g, 10, none⟩ v') base g d l s { st with row := st.row ++ [f] } v' vR vs vE ∧ Below base w (w2.setCell ⟨g, 10, none⟩ v') := by
  have hg := h.rowG
  have hlow := h.low
  have hblk := h.blk.keep k (fun hm => hg _ hm rfl)
  have hv := h.row.lt
  have hlt := h.recs.lt
  have hvE := h.ends.lt
  have k2 : Keeps [g] w2 (w2.setCell ⟨g, 10, none⟩ v') := Keeps.setCell w2 ⟨g, 10, none⟩ v'
  have hgl := h.blk.lt
  have hnew : ∀ x ∈ blkOf v', x ≠ g := by
    intro x hx
    rcases hb x hx with h1 | h1
    · exact hg x h1
    · omega
  refine ⟨⟨hblk.cell_of (i := 10) rfl, hblk.frozen (i := 10) (by simp [r6C]), hblk.lt⟩, ⟨?_, hlow, ?_, ?_, ?_, ?_⟩, ?_⟩
  · have := hblk.set_ 10 v'
    exact this
  · have := hown.keep k2 (fun x hx hm => by simp at hm; exact hnew x hx hm)
    simpa using this
  · refine (h.recs.keep k ?_).keep k2 (fun x hx hm => by simp at hm; exact h.recG x hx hm)
    intro x hx hm
    simp only [tblks, List.mem_append] at hx
    rcases hx with hx | hx
    · exact h.row.apart h.recs.2.1 (by decide) x hm hx
    · exact h.ap x hm hx
  · exact (h.ends.keep k (fun x hx hm => h.row.apart h.ends (by decide) x hm hx)).keep k2 (fun x hx hm => by simp at hm; exact h.endG x hx hm)
  · intro x hx hm
    rcases hb x hx with h1 | h1
    · exact h.ap x h1 hm
    · have hm' : x ∈ tblks vR vs := by simp only [tblks, List.mem_append]; exact .inr hm
      have := (hlt x hm').2
      omega
  · exact (k.below (by omega) (fun x hx => (hv x hx).1)).trans (k2.below (by have := hblk.lt; omega) (by simpa using hlow))
end push
/-- What a line leaves. -/
def LPost (st st' : R6) : LO → Prop
  | .bad k p => st'.kind = k ∧ st'.pl = p ∧ st'.recs = st.recs ∧ st'.ends = st.ends
  | .ok row e i => st' = { st with i := i, begun := st.begun + 1, row := [], recs := st.recs ++ [row], ends := st.ends ++ [e] }
/-- What is left of a line, behind its fields. -/
def TPost (st st' : R6) : LO → Prop
  | .bad k p => st'.kind = k ∧ st'.pl = p ∧ st'.recs = st.recs ∧ st'.ends = st.ends
  | .ok row e i => row = st.row ∧ st' = { st.whole e with i := i }
theorem tail4_st {st st4 : R6} {i : Nat} {row : Row} (h : st4 = { st with i := i, begun := st.begun + 1, row := row }) : ∀ o st', TPost st4 st' o → LPost st st' o := by
  subst h
  intro o st' h
  cases o with
  | bad k p => exact h
  | ok row e i => obtain ⟨rfl, rfl⟩ := h; rfl
theorem feed_tail {d : Dia} {s : Bs} {st : R6} {u : Option Nat} {O : LO} (h : st.i ≠ s.length) (hO : tailG d u s st.row st.i = O) :
    ((feedP d s st).2 = 0 ∧ (feedP d s st).1 = st.wr 6 st.i ∧ O = .bad 6 st.i) ∨ ∃ N : Nat, (N = 1 ∨ N = 2) ∧ (feedP d s st).2 = (N : Int) ∧ (feedP d s st).1 = st ∧
      O = (if bad u st.row.length then .bad 10 st.i else if N == 2 && !atB s (st.i + 1) 10 then .bad 6 (st.i + 1) else .ok st.row (st.i + N - 1) (st.i + N)) := by
  subst hO
  unfold feedP tailG
  rw [if_neg h]
  cases atB s st.i 10
  · cases (d.fin == 1)
    · refine .inr ⟨2, .inr rfl, rfl, rfl, ?_⟩
      cases bad u st.row.length
      · cases atB s (st.i + 1) 10 <;> rfl
      · rfl
    · exact .inl ⟨rfl, rfl, rfl⟩
  · cases (d.fin == 2)
    · refine .inr ⟨1, .inl rfl, rfl, rfl, ?_⟩
      cases bad u st.row.length <;> rfl
    · exact .inl ⟨rfl, rfl, rfl⟩
def EndL (base g : Nat) (d : Dia) (l : Lim) (s : Bs) (st : R6) (o : LO) (w : World) (r : Ending) (w' : World) : Prop :=
  (∃ b, r = .returned (.bool b)) ∧ ∃ st', Post base g d l s st' w w' ∧ LPost st st' o

set_option maxRecDepth 100000 in
set_option maxHeartbeats 8000000 in
theorem line_c (w : World) (base g : Nat) (d : Dia) (l : Lim) (s : Bs) (st : R6) (h : RAt w base g d l s st) (hs : s.length ≤ 100000) (hi : st.i ≤ s.length) (hk : st.kind = 0) (hrow : st.row = [])
    (hrl : st.recs.length ≤ 200000) (hel : st.ends.length ≤ 200000) (hbg : st.begun ≤ 200000) :
    Calls Try.prog 71 #[.pointer (some ⟨g, 0, none⟩)] w (EndL base g d l s st (lineG d l (st.u l) st.begun s st.i) w) := by
  obtain ⟨O, hO⟩ : ∃ O, lineG d l (st.u l) st.begun s st.i = O := ⟨_, rfl⟩
  rw [hO]
  have hl := h.lt
  have h' := h
  obtain ⟨vr, vR, vs, vE, hP⟩ := h'
  have c5 := hP.c (i := 5) rfl
  have c8 := hP.c (i := 8) rfl
  have c9 := hP.c (i := 9) rfl
  have f9 := hP.f (i := 9) (by omega)
  have hgl := hP.blk.lt
  have hlow := hP.low
  have hbe : ((st.begun : Int) == (l.records : Int)) = (st.begun == l.records) := by rw [Bool.eq_iff_iff, beq_iff_eq, beq_iff_eq]; omega
  unfold lineG at hO
  go_enter Try.func71, Try.ntmps71
  cases hbr : (st.begun == l.records)
  rotate_left
  · rw [hbr] at hbe hO
    simp only [if_true] at hO
    have HWR := Lib.hid (fun m => wrong_c (w.drewN m) base g d l s st (h.keep (Keeps.drewN [] w m)) hk 9 st.i 9 st.i rfl rfl)
    have HX := Lib.hid hO
    clear hbr hO hP h hrow
    go_wp2_with (fail)
    go_quiet (fail)
    go_wp2_with (fail)
    refine (HWR.out _).mono ?_
    rintro r w2 ⟨rfl, hp⟩
    go_wp2_with (fail)
    go_ret
    rw [← HX.out]
    exact ⟨⟨_, rfl⟩, _, ⟨hp.1, (below_of_drewN _ _ _).trans hp.2⟩, rfl, rfl, rfl, rfl⟩
  rw [hbr] at hbe hO
  simp only [Bool.false_eq_true, if_false] at hO
  have hwi : IntKind.i64.wrap ((st.begun : Int) + 1) = (st.begun : Int) + 1 := IntWalk.i64_in _ (by omega)
  obtain ⟨F, hF⟩ : ∃ F, fieldsG d l (st.u l) ((s.drop st.i).length + 1) (s.drop st.i) st.i [] = F := ⟨_, rfl⟩
  rw [hF] at hO
  have HO := Lib.hid hO
  have HF := Lib.hid hF
  have HK := Lib.hid hk
  have HR := Lib.hid hrow
  clear hO hbr hF
  go_wp2_with (fail)
  go_quiet (fail)
  have hPn := hP.keep (Keeps.drewN [] w nq)
  have hBn := below_of_drewN base w nq
  clear hP h c5 c8 c9 f9 hgl hbe
  have HBW := Lib.hid hBn
  clear hBn
  have HW : Hid (Below base w (w.drewN nq)) := HBW
  generalize hwx : w.drewN nq = wx at *
  have HWX := Lib.hid hwx
  clear hwx
  have c9 := hPn.c (i := 9) rfl
  have f9 := hPn.f (i := 9) (by omega)
  have hgl := hPn.blk.lt
  have hP3 := hPn.set (st' := { st with begun := st.begun + 1 }) 9 (.int .i64 ((st.begun : Int) + 1)) rfl rfl rfl rfl
  have HB3 := Lib.hid (HW.out.trans (hPn.below 9 (.int .i64 ((st.begun : Int) + 1))))
  clear hPn
  have h0 : RAt (wx.setCell ⟨g, 9, none⟩ (.int .i64 ((st.begun : Int) + 1))) base g d l s { st with begun := st.begun + 1, row := [] } := by
    rw [← HR.out]
    exact ⟨_, _, _, _, hP3⟩
  clear hP3 HW HBW HWX hrow hk
  go_wp2_with (fail)
  go_loopw [] (fun wr => ∃ (n i : Nat) (row : Row), i ≤ s.length ∧ row.length ≤ i ∧ (s.drop i).length < n ∧ RAt wr base g d l s { st with i := i, begun := st.begun + 1, row := row } ∧ Below base w wr ∧ fieldsG d l (st.u l) n (s.drop i) i row = F) (fun wr => s.length + 1 - cellI wr g 8)
  case atStart => exact ⟨_, st.i, [], hi, by simp, Nat.lt_succ_self _, h0, HB3.out, HF.out⟩
  case round =>
    obtain ⟨n, i, row, hil, hrl2, hn, hR, hB, hq⟩ := hrel
    have HQ := Lib.hid hq
    clear hq h0 HB3 HF hi
    obtain ⟨n, rfl⟩ : ∃ m, n = m + 1 := ⟨n - 1, by omega⟩
    obtain ⟨X, hX⟩ : ∃ X, fieldG d l.field (s.drop i) i = X := ⟨_, rfl⟩
    have hR' := hR
    obtain ⟨vr, vR, vs, vE, hP⟩ := hR'
    have c1 := hP.c (i := 1) rfl
    have c8 := hP.c (i := 8) rfl
    have HCI : Hid (cellI wr g 8 = i) := Lib.hid (cellI_of c8)
    have hgl := hP.blk.lt
    clear hP c8
    have HIQ := Lib.hid (is_k wr base g d l s { st with i := i, begun := st.begun + 1, row := row } hR hs (by simp only; omega) d.quote d.quote.toNat rfl _ rfl wr (Below.refl _ _))
    dsimp only at HIQ
    obtain ⟨e, he⟩ : ∃ e, atB s i d.quote = e := ⟨_, rfl⟩
    rw [he] at HIQ
    go_wp2_with (fail)
    refine HIQ.out.mono ?_
    rintro r w1 ⟨rfl, k1⟩
    have hR1 := hR.keep k1
    have hB1 := hB.trans (k1.below (B := base) (by omega) (by simp))
    have hk1 : ({ st with i := i, begun := st.begun + 1, row := row } : R6).kind = 0 := HK.out
    clear hR hB k1 HIQ c1 hgl
    go_upto_if 35 with (fail)
    go_cut [3, 4] (fun v3 v4 wx => v3 = sv X.f ∧ v4 = .bool (X.kind == 0) ∧ ∃ i', Post base g d l s (({ st with i := i, begun := st.begun + 1, row := row } : R6).to X i') w1 wx)
    case first =>
      cases e
      · have HB := Lib.hid (bare_c w1 base g d l s _ hR1 hs hil hk1)
        dsimp only at HB
        rw [← field_b he, hX] at HB
        go_wp2_with (fail)
        refine HB.out.mono ?_
        rintro r w2 ⟨rfl, hp⟩
        go_wp2_with (fail)
        go_meet
        exact ⟨rfl, rfl, hp⟩
      · have hlt := at_lt he
        have hR1' := hR1
        obtain ⟨vr1, vR1, vs1, vE1, hP1⟩ := hR1'
        have c8 := hP1.c (i := 8) rfl
        have f8 := hP1.f (i := 8) (by omega)
        have hgl := hP1.blk.lt
        have hP3 := hP1.set (st' := { st with i := i + 1, begun := st.begun + 1, row := row }) 8 (.int .i64 ((i : Int) + 1)) rfl rfl rfl rfl
        have HB3 := Lib.hid (hP1.below 8 (.int .i64 ((i : Int) + 1)))
        have HB := Lib.hid (quoted_c _ base g d l s _ ⟨_, _, _, _, hP3⟩ hs (by simp only; omega) hk1)
        dsimp only at HB
        rw [← field_q he, hX] at HB
        have hwi2 : IntKind.i64.wrap ((i : Int) + 1) = (i : Int) + 1 := IntWalk.i64_in _ (by clear hwi; omega)
        clear hP1 hP3
        go_wp2_with (fail)
        refine HB.out.mono ?_
        rintro r w2 ⟨rfl, i', hp⟩
        clear c8 f8
        go_wp2_with (fail)
        go_meet
        refine ⟨rfl, rfl, i', ?_, HB3.out.trans hp.2⟩
        have h1 := hp.1
        revert h1
        unfold R6.to
        cases X.kind <;> exact id
    case rest =>
      obtain ⟨rfl, rfl, i', hR2, hB2⟩ := hcut
      have hB2 := hB1.trans hB2
      clear hB1 hR1 hk1 he
      unfold R6.to at hR2
      by_cases hk0 : X.kind = 0
      rotate_left
      · have hkb : (X.kind == 0) = false := by simpa using hk0
        have HX := Lib.hid ((fs_bad (u := st.u l) (n := n) (row := row) hX hk0).symm.trans HQ.out)
        rw [if_neg hk0] at hR2
        go_wp2_with (fail)
        go_ret
        have hO := HO.out
        rw [← HX.out] at hO
        rw [if_pos (by simpa using hk0)] at hO
        rw [← hO]
        exact ⟨⟨_, rfl⟩, _, ⟨hR2, hB2⟩, rfl, rfl, rfl, rfl⟩
      have hkb : (X.kind == 0) = true := by simpa using hk0
      rw [if_pos hk0] at hR2
      obtain ⟨hr, hi1, hi2⟩ := field_to (d := d) (lm := l.field) hil (by rw [hX]; exact hk0)
      rw [hX] at hr hi1 hi2
      have HX := Lib.hid ((fs_ok (u := st.u l) (n := n) (row := row) hX hk0 hr).symm.trans HQ.out)
      clear hr HQ hX hk0
      obtain ⟨vr2, vR2, vs2, vE2, hP2⟩ := hR2
      obtain ⟨A2, cr2, rfl, hn2, hx2⟩ := hP2.row.form
      obtain ⟨iS, hiS, hS0, hS1, hS2⟩ := info_parts infoStr
      obtain ⟨v', w3, hap, hown3, k3, hb3⟩ := run_append1 (P := Try.prog) (w := wc) (y := sv X.f) Try.underlying24 hiS hS0 hS1 hS2 rfl hP2.row rfl (by simp only [maxLen]; clear hwi; omega) (by clear hwi; simp only; omega) (by have := hP2.low; have := hP2.blk.lt; omega) 24
      obtain ⟨A3, cr3, rfl, hn3, hx3⟩ := hown3.form
      have c10 := hP2.c (i := 10) rfl
      have g2l := hP2.blk.lt
      obtain ⟨⟨d10, e10, g3l⟩, hP3, hb4⟩ := hP2.push X.f hown3 k3 hb3
      have c0 := hP3.c (i := 0) rfl
      have HB3 := Lib.hid (hB2.trans hb4)
      have hR3 : RAt (w3.setCell ⟨g, 10, none⟩ (.slice A3 (row.length + 1) cr3)) base g d l s { st with i := X.i, begun := st.begun + 1, row := row ++ [X.f] } := ⟨_, _, _, _, hP3⟩
      have HR3 := Lib.hid hR3
      clear hR3 hP3 hb4 hown3 k3 hb3 hiS hS0 hS1 hS2 hP2 hB2
      have HIQ := Lib.hid (is_k _ base g d l s _ HR3.out hs (by simp only; clear hwi; omega) d.delim d.delim.toNat rfl _ rfl _ (Below.refl _ _))
      dsimp only at HIQ
      have hrl3 : row.length ≤ 100000 := by clear hwi; omega
      obtain ⟨ed, hed⟩ : ∃ e, atB s X.i d.delim = e := ⟨_, rfl⟩
      rw [hed] at HIQ HX
      go_wp2_with (refine wpList_append hap _ _ rfl rfl rfl rfl rfl ?_)
      refine HIQ.out.mono ?_
      rintro r w4 ⟨rfl, k4⟩
      clear c10 g2l c0 hap d10 e10
      have hR4 := HR3.out.keep k4
      have hB4 := HB3.out.trans (k4.below (B := base) (by simp; clear hwi; omega) (by simp))
      clear HR3 HB3 HIQ k4 g3l
      cases ed
      · simp only [Bool.false_eq_true, if_false] at HX
        have hRw := hR4
        obtain ⟨st4, hst⟩ : ∃ st4 : R6, st4 = { st with i := X.i, begun := st.begun + 1, row := row ++ [X.f] } := ⟨_, rfl⟩
        have HST := Lib.hid hst
        have hR5 : RAt w4 base g d l s st4 := by rw [hst]; exact hR4
        have hO := HO.out
        rw [← HX.out] at hO
        have hk4 : st4.kind = 0 := by rw [hst]; exact HK.out
        have hi4 : st4.i = X.i := by rw [hst]
        have hu4 : st4.u l = st.u l := by rw [hst]; rfl
        have hrow4 : st4.row = row ++ [X.f] := by rw [hst]
        have hrl4 : st4.recs.length ≤ 200000 := by rw [hst]; exact hrl
        have hel4 : st4.ends.length ≤ 200000 := by rw [hst]; exact hel
        simp only [bne_self_eq_false, Bool.false_eq_true, if_false] at hO
        rw [← hi4, ← hu4, ← hrow4] at hO
        have HO4 := Lib.hid hO
        have HT := Lib.hid (tail4_st hst)
        clear hst hR4 hRw hO HO HX hu4 hrow4 HCI hlow hn hrl2 hil hi1 hkb hed hrl3 hrl hel hbg hl hwi
        obtain ⟨vr5, vR5, vs5, vE5, hP5⟩ := hR5
        have c7 := hP5.c (i := 7) rfl
        have c8 := hP5.c (i := 8) rfl
        have g5 := hP5.blk.lt
        have hR5 : RAt w4 base g d l s st4 := ⟨_, _, _, _, hP5⟩
        have HEND : Hid (∀ st' w' b, Post base g d l s st' w4 w' → TPost st4 st' O → EndL base g d l s st O w (.returned (.bool b)) w') := Lib.hid (fun st' w' b hp ht => ⟨⟨b, rfl⟩, st', ⟨hp.1, hB4.trans hp.2⟩, HT.out _ _ ht⟩)
        clear hP5 hB4 HT
        have hile : st4.i ≤ s.length := by rw [hi4]; exact hi2
        clear hi2
        by_cases hend : st4.i = s.length
        · have he : ((st4.i : Int) == (s.length : Int)) = true := by rw [beq_iff_eq]; omega
          have hO := HO4.out
          unfold tailG at hO
          rw [if_pos hend] at hO
          have HWD := Lib.hid (fun m => width_c (w4.drewN m) base g d l s st4 (hR5.keep (Keeps.drewN [] w4 m)) hk4 st4.i st4.i rfl)
          have HR5 := Lib.hid (fun m => hR5.keep (Keeps.drewN [] w4 m))
          have HS := Lib.hid hs
          clear HO4 hR5 hs hi4 hend
          go_wp2_with (fail)
          go_quiet (fail)
          have c8n : (w4.drewN nq).cell? _ = _ := c8
          have g5n : g < (w4.drewN nq).heap.size := g5
          clear c7 c8 g5
          have HWD2 := Lib.hid (HWD.out nq)
          have HR5n := Lib.hid (HR5.out nq)
          have HB5 := Lib.hid (below_of_drewN base w4 nq)
          clear HWD HR5
          generalize w4.drewN nq = w5 at *
          go_wp2_with (fail)
          refine HWD2.out.mono ?_
          unfold widP
          cases hb : bad (st4.u l) st4.row.length
          · simp only [Bool.false_eq_true, if_false]
            rw [hb] at hO
            rintro r w6 ⟨rfl, hp, hq⟩
            obtain ⟨vr6, vR6, vs6, vE6, hP6⟩ := hp.1
            have c8 := hP6.c (i := 8) rfl
            have g6 := hP6.blk.lt
            have HWH := Lib.hid (whole_c w6 base g d l s st4 hp.1 hrl4 hel4 st4.i st4.i rfl)
            have HB6 := Lib.hid (HB5.out.trans hp.2)
            clear hP6 hp hq c8n g5n HWD2 HR5n
            go_wp2_with (fail)
            refine HWH.out.mono ?_
            rintro r w7 ⟨rfl, hp⟩
            go_wp2_with (fail)
            go_ret
            refine HEND.out _ _ _ ⟨hp.1, HB6.out.trans hp.2⟩ ?_
            rw [← hO]
            exact ⟨rfl, rfl⟩
          · simp only [if_true]
            rw [hb] at hO
            rintro r w6 ⟨rfl, hp, hq⟩
            clear c8n g5n HWD2 HR5n
            go_wp2_with (fail)
            go_ret
            refine HEND.out _ _ _ ⟨hp.1, HB5.out.trans hp.2⟩ ?_
            rw [← hO]
            exact ⟨rfl, rfl, rfl, rfl⟩
        have he : ((st4.i : Int) == (s.length : Int)) = false := by rw [beq_eq_false_iff_ne]; omega
        have HFD := Lib.hid (fun m => feed_c (w4.drewN m) base g d l s st4 (hR5.keep (Keeps.drewN [] w4 m)) hs (by omega) hk4)
        have HFT := Lib.hid (feed_tail hend HO4.out)
        have HS := Lib.hid hs
        clear HO4 hi4 hR5 hend
        go_wp2_with (fail)
        go_quiet (fail)
        have g5n : g < (w4.drewN nq).heap.size := g5
        clear c7 c8 g5 he
        have HFD2 := Lib.hid (HFD.out nq)
        have HB5 := Lib.hid (below_of_drewN base w4 nq)
        clear HFD
        generalize w4.drewN nq = w5 at *
        go_wp2_with (fail)
        refine HFD2.out.mono ?_
        rintro r w6 ⟨rfl, hp⟩
        rcases HFT.out with ⟨h1, h2, h3⟩ | ⟨N, hN, h1, h2, h3⟩
        · rw [h1]
          rw [h2] at hp
          clear HFD2 HFT h1 h2
          go_wp2_with (fail)
          go_ret
          refine HEND.out (st4.wr 6 st4.i) _ _ ⟨hp.1, HB5.out.trans hp.2⟩ ?_
          rw [h3]
          exact ⟨rfl, rfl, rfl, rfl⟩
        rw [h1]
        rw [h2] at hp
        have HB6 := Lib.hid (HB5.out.trans hp.2)
        have hR6 := hp.1
        clear HFD2 HFT h1 h2 hp HB5 g5n
        have hR6' := hR6
        obtain ⟨vr6, vR6, vs6, vE6, hP6⟩ := hR6'
        have c8 := hP6.c (i := 8) rfl
        have g6 := hP6.blk.lt
        have HWD := Lib.hid (width_c w6 base g d l s st4 hR6 hk4 st4.i st4.i rfl)
        have HN := Lib.hid hN
        have HK4 := Lib.hid hk4
        have HIL := Lib.hid hile
        have hN0 : ((N : Int) == 0) = false := by rw [beq_eq_false_iff_ne]; omega
        have hN2 : ((N : Int) == 2) = (N == 2) := by rw [Bool.eq_iff_iff, beq_iff_eq, beq_iff_eq]; omega
        clear hP6 hR6 hN hk4 hile hs
        obtain ⟨N2, hN2'⟩ : ∃ b, (N == 2) = b := ⟨_, rfl⟩
        rw [hN2'] at hN2 h3
        have HN2 := Lib.hid hN2'
        clear hN2'
        have HO := Lib.hid h3
        clear h3
        go_wp2_with (fail)
        with_reducible refine HWD.out.mono ?_
        unfold widP
        cases hb : bad (st4.u l) st4.row.length
        rotate_left
        · have hO := HO.out
          rw [hb] at hO
          simp only [if_true] at hO ⊢
          rintro r w7 ⟨rfl, hp, hq⟩
          clear HWD HO c8 g6
          go_wp2_with (fail)
          go_ret
          refine HEND.out _ _ _ ⟨hp.1, HB6.out.trans hp.2⟩ ?_
          rw [hO]
          exact ⟨rfl, rfl, rfl, rfl⟩
        have hO := HO.out
        rw [hb] at hO
        simp only [Bool.false_eq_true, if_false] at hO ⊢
        rintro r w7 ⟨rfl, hp, hq⟩
        have hR7 := hp.1
        have HB7 := Lib.hid (HB6.out.trans hp.2)
        have HO := Lib.hid hO
        clear HWD c8 g6 hb hp hq HB6 hO
        have hR7' := hR7
        obtain ⟨vr7, vR7, vs7, vE7, hP7⟩ := hR7'
        have c8 := hP7.c (i := 8) rfl
        have g7 := hP7.blk.lt
        have HSC := Lib.hid (second_c w7 base g d l s st4 hR7 HS.out (by have := HIL.out; have := HS.out; omega) HK4.out)
        clear hP7
        cases N2
        · simp only [Bool.false_and, Bool.false_eq_true, if_false] at HO
          clear HSC
          have hw1 : IntKind.i64.wrap ((st4.i : Int) + (N : Int)) = (st4.i : Int) + (N : Int) := IntWalk.i64_in _ (by have := HIL.out; have := HS.out; have := HN.out; omega)
          have hw2 : IntKind.i64.wrap ((st4.i : Int) + (N : Int) - 1) = (st4.i : Int) + (N : Int) - 1 := IntWalk.i64_in _ (by clear hw1; have := HIL.out; have := HS.out; have := HN.out; omega)
          have HWH := Lib.hid (whole_c w7 base g d l s st4 hR7 hrl4 hel4 (st4.i + N - 1) ((st4.i : Int) + (N : Int) - 1) (by clear hw1 hw2; have := HN.out; omega))
          go_wp2_with (fail)
          with_reducible refine HWH.out.mono ?_
          rintro r w9 ⟨rfl, hp⟩
          have hR9 := hp.1
          have hB9 := HB7.out.trans hp.2
          clear HWH hp hw2 c8 g7
          obtain ⟨vr9, vR9, vs9, vE9, hP9⟩ := hR9
          have c8 := hP9.c (i := 8) (u := .int .i64 (st4.i : Int)) rfl
          have f8 := hP9.f (i := 8) (by clear hw1; omega)
          have g9 := hP9.blk.lt
          have HP := Lib.hid (hP9.set (st' := { st4.whole (st4.i + N - 1) with i := st4.i + N }) 8 (.int .i64 ((st4.i : Int) + (N : Int))) (by simp [r6C]) rfl rfl rfl)
          have HB := Lib.hid (hB9.trans (hP9.below 8 (.int .i64 ((st4.i : Int) + (N : Int)))))
          clear hP9 hB9
          go_wp2_with (fail)
          go_ret
          refine HEND.out _ _ _ ⟨⟨_, _, _, _, HP.out⟩, HB.out⟩ ?_
          rw [HO.out]
          exact ⟨rfl, rfl⟩
        · simp only [Bool.true_and] at HO
          go_wp2_with (fail)
          with_reducible refine HSC.out.mono ?_
          unfold secP
          cases ha : atB s (st4.i + 1) 10
          · have hO := HO.out
            rw [ha] at hO
            simp only [Bool.not_false, if_true] at hO
            simp only [Bool.false_eq_true, if_false]
            rintro r w8 ⟨rfl, hp, hq⟩
            clear HSC HO c8 g7
            go_wp2_with (fail)
            go_ret
            refine HEND.out _ _ _ ⟨hp.1, HB7.out.trans hp.2⟩ ?_
            rw [hO]
            exact ⟨rfl, rfl, rfl, rfl⟩
          · have hO := HO.out
            rw [ha] at hO
            simp only [Bool.not_true, Bool.false_eq_true, if_false] at hO
            simp only [if_true]
            rintro r w8 ⟨rfl, hp, hq⟩
            have hR8 := hp.1
            have HB8 := Lib.hid (HB7.out.trans hp.2)
            have HO := Lib.hid hO
            clear HSC c8 g7 hR7 hp hq hO ha
            have hR8' := hR8
            obtain ⟨vr8, vR8, vs8, vE8, hP8⟩ := hR8'
            have c8 := hP8.c (i := 8) rfl
            have g7 := hP8.blk.lt
            clear hP8
            have hw1 : IntKind.i64.wrap ((st4.i : Int) + (N : Int)) = (st4.i : Int) + (N : Int) := IntWalk.i64_in _ (by have := HIL.out; have := HS.out; have := HN.out; omega)
            have hw2 : IntKind.i64.wrap ((st4.i : Int) + (N : Int) - 1) = (st4.i : Int) + (N : Int) - 1 := IntWalk.i64_in _ (by clear hw1; have := HIL.out; have := HS.out; have := HN.out; omega)
            have HWH := Lib.hid (whole_c w8 base g d l s st4 hR8 hrl4 hel4 (st4.i + N - 1) ((st4.i : Int) + (N : Int) - 1) (by clear hw1 hw2; have := HN.out; omega))
            go_wp2_with (fail)
            with_reducible refine HWH.out.mono ?_
            rintro r w9 ⟨rfl, hp⟩
            have hR9 := hp.1
            have hB9 := HB8.out.trans hp.2
            clear HWH hp hw2 c8 g7
            obtain ⟨vr9, vR9, vs9, vE9, hP9⟩ := hR9
            have c8 := hP9.c (i := 8) (u := .int .i64 (st4.i : Int)) rfl
            have f8 := hP9.f (i := 8) (by clear hw1; omega)
            have g9 := hP9.blk.lt
            have HP := Lib.hid (hP9.set (st' := { st4.whole (st4.i + N - 1) with i := st4.i + N }) 8 (.int .i64 ((st4.i : Int) + (N : Int))) (by simp [r6C]) rfl rfl rfl)
            have HB := Lib.hid (hB9.trans (hP9.below 8 (.int .i64 ((st4.i : Int) + (N : Int)))))
            clear hP9 hB9
            go_wp2_with (fail)
            go_ret
            refine HEND.out _ _ _ ⟨⟨_, _, _, _, HP.out⟩, HB.out⟩ ?_
            rw [HO.out]
            exact ⟨rfl, rfl⟩
      · have hlt := at_lt hed
        simp only [if_true] at HX
        have hR4' := hR4
        obtain ⟨vr4, vR4, vs4, vE4, hP4⟩ := hR4'
        have c4 := hP4.c (i := 4) rfl
        have c8 := hP4.c (i := 8) rfl
        have c10 := hP4.c (i := 10) rfl
        have g4 := hP4.blk.lt
        obtain ⟨A4, cr4, rfl, hn4, hx4⟩ := hP4.row.form
        have HWR := Lib.hid (fun m => wrong_c (w4.drewN m) base g d l s _ (hR4.keep (Keeps.drewN [] w4 m)) HK.out 8 X.i 8 X.i rfl rfl)
        have hcf : (((row ++ [X.f]).length : Int) == (l.fields : Int)) = ((row ++ [X.f]).length == l.fields) := by rw [Bool.eq_iff_iff, beq_iff_eq, beq_iff_eq]; clear hwi; omega
        dsimp only at c10 c4
        clear hP4
        cases hf : ((row ++ [X.f]).length == l.fields)
        rotate_left
        · rw [hf] at hcf HX
          simp only [if_true] at HX
          have HX2 := Lib.hid (HX.out.symm)
          clear hR4 HX
          generalize (row ++ [X.f]).length = rn at *
          go_wp2_with (fail)
          go_quiet (fail)
          go_wp2_with (fail)
          refine (HWR.out _).mono ?_
          rintro r w5 ⟨rfl, hp⟩
          go_wp2_with (fail)
          go_ret
          have hO := HO.out
          rw [HX2.out] at hO
          rw [← hO]
          exact ⟨⟨_, rfl⟩, _, ⟨hp.1, (hB4.trans (below_of_drewN _ _ _)).trans hp.2⟩, rfl, rfl, rfl, rfl⟩
        · rw [hf] at hcf HX
          simp only [Bool.false_eq_true, if_false] at HX
          have HR4 := Lib.hid hR4
          generalize hrn : (row ++ [X.f]).length = rn at *
          clear hR4 HWR
          go_wp2_with (fail)
          go_quiet (fail)
          have hR5 := HR4.out.keep (Keeps.drewN [] w4 nq)
          have hB5 := hB4.trans (below_of_drewN base w4 nq)
          clear HR4 hB4 c4 c8 c10 g4 hcf hf
          generalize w4.drewN nq = w5 at *
          go_upto_region 15 with (fail)
          obtain ⟨U, hU⟩ : ∃ U, (st.u l == some rn) = U := ⟨_, rfl⟩
          rw [hU] at HX
          go_cut [120] (fun v wx => v = .bool U ∧ ∃ m, wx = w5.drewN m)
          case first =>
            have hR5' := hR5
            obtain ⟨vr5, vR5, vs5, vE5, hP5⟩ := hR5'
            obtain ⟨A5, cr5, rfl, hn5, hx5⟩ := hP5.row.form
            have ht := hP5.recs.tbl (B := w5.heap.size) (Nat.le_refl _)
            obtain ⟨AR, cR, rfl, hn6, hx6⟩ := ht.form
            have c6 := hP5.c (i := 6) rfl
            have c10 := hP5.c (i := 10) rfl
            have c11 := hP5.c (i := 11) rfl
            have g5 := hP5.blk.lt
            dsimp only at c10 c11 ht hn6 hx6 hn5 hx5
            rw [hrn] at c10
            unfold maxLen at hx5 hx6
            unfold limC at c6
            clear hP5 hR5 hB5 HX
            cases hu : l.uniform
            · rw [hu] at c6
              obtain rfl : U = false := by rw [← hU]; simp [R6.u, uni, hu]
              simp only [Bool.false_eq_true, if_false] at c6
              clear hu hU ht
              go_quiet (fail)
              go_wp2_with (fail)
              go_meet
              exact ⟨rfl, _, rfl⟩
            rw [hu] at c6
            simp only [if_true] at c6
            cases hrec : st.recs with
            | nil =>
              obtain rfl : U = false := by rw [← hU]; simp [R6.u, uni, hu, hrec]
              rw [hrec] at c11 hn6 ht
              have hd : decide (0 < (([] : Tb).length : Int)) = false := by decide
              have hd2 : decide (0 < ([] : Tb).length) = false := by decide
              clear ht hrec hu hU
              go_quiet (fail)
              go_wp2_with (fail)
              go_meet
              exact ⟨rfl, _, rfl⟩
            | cons r0 rest =>
              have hX2 : (r0.length == rn) = U := by rw [← hU]; simp [R6.u, uni, hu, hrec]
              rw [hrec] at c11 hn6 ht
              obtain ⟨b1, o1, A', c', rfl, hb1, hc1, _⟩ := ht.at_ (k := 0) (by simp)
              simp only [List.getElem_cons_zero, Nat.add_zero] at hc1
              have hd : decide (0 < (((r0 :: rest) : Tb).length : Int)) = true := by simp
              have hd2 : decide (0 < ((r0 :: rest) : Tb).length) = true := by simp
              have hlen : (0 : Int) < (((r0 :: rest) : Tb).length : Int) := by simp
              have he : ((rn : Int) == (r0.length : Int)) = U := by rw [← hX2, Bool.eq_iff_iff, beq_iff_eq, beq_iff_eq]; clear hwi; omega
              generalize hls : ((r0 :: rest) : Tb).length = ln at *
              clear ht hrec hls hX2 hu hU
              go_quiet (fail)
              go_wp2_with (fail)
              go_meet
              exact ⟨rfl, _, rfl⟩
          case rest =>
            obtain ⟨rfl, m, rfl⟩ := hcut
            have hR6 := hR5.keep (Keeps.drewN [] w5 m)
            have hB6 := hB5.trans (below_of_drewN base w5 m)
            clear hR5 hB5 hU
            generalize w5.drewN m = w6 at *
            have hR6' := hR6
            obtain ⟨vr6, vR6, vs6, vE6, hP6⟩ := hR6'
            have c8 := hP6.c (i := 8) rfl
            have f8 := hP6.f (i := 8) (by clear hwi; omega)
            have g6 := hP6.blk.lt
            dsimp only at c8
            cases U
            · have hwx : IntKind.i64.wrap ((X.i : Int) + 1) = (X.i : Int) + 1 := IntWalk.i64_in _ (by clear hwi; omega)
              have HP7 := Lib.hid (hP6.set (st' := { st with i := X.i + 1, begun := st.begun + 1, row := row ++ [X.f] }) 8 (.int .i64 ((X.i : Int) + 1)) rfl rfl rfl rfl)
              have HB7 := Lib.hid (hB6.trans (hP6.below 8 (.int .i64 ((X.i : Int) + 1))))
              have hlen : (row ++ [X.f]).length ≤ X.i + 1 := by simp; clear hwi hwx; omega
              have hdr : (s.drop (X.i + 1)).length < n := by simp at hn ⊢; clear hwi hwx; omega
              clear hP6 hR6 hB6
              simp only [Bool.false_eq_true, if_false] at HX
              have HX2 := Lib.hid HX.out.symm
              clear HX
              go_wp2_with (fail)
              refine ⟨⟨n, X.i + 1, row ++ [X.f], hlt, hlen, hdr, ⟨_, _, _, _, HP7.out⟩, HB7.out, HX2.out.symm⟩, ?_⟩
              rw [HCI.out, cellI_of (HP7.out.c (i := 8) rfl)]
              show s.length + 1 - (X.i + 1) < s.length + 1 - i
              clear hwi hwx
              omega
            · have HWR := Lib.hid (wrong_c w6 base g d l s _ hR6 HK.out 10 X.i 10 X.i rfl rfl)
              simp only [if_true] at HX
              have HX2 := Lib.hid HX.out.symm
              clear hP6 hR6 HX
              go_wp2_with (fail)
              refine HWR.out.mono ?_
              rintro r w7 ⟨rfl, hp⟩
              go_wp2_with (fail)
              go_ret
              have hO := HO.out
              rw [HX2.out] at hO
              rw [← hO]
              exact ⟨⟨_, rfl⟩, _, ⟨hp.1, hB6.trans hp.2⟩, rfl, rfl, rfl, rfl⟩
end Go.Proofs.Ytcmoldondflilaa.Rdr
