/- The document's reader of layer 6: a quoted field. -/
import Derived.Test.YtcmoldondflilaaRdr2
import Derived.Deep.RegionHeld3
import Derived.Deep.DeepCutAuto
namespace Go.Proofs.Ytcmoldondflilaa.Rdr
set_option linter.unusedVariables false
set_option linter.unusedSimpArgs false
set_option maxRecDepth 100000
open Go.RowKit Q Mach Dia Gram
attribute [local go_sem ↓] Go.wp_at_zero Go.wp_at_succ

def cellI (w : World) (g j : Nat) : Nat := match w.cell? ⟨g, j, none⟩ with | some v => (intOf v).toNat | none => 0
theorem cellI_of {w : World} {g j i : Nat} (h : w.cell? ⟨g, j, none⟩ = some (.int .i64 (i : Int))) : cellI w g j = i := by unfold cellI; rw [h]; simp [intOf]
/-- What is left of a field's reading. -/
def R6.to (st : R6) (x : FR) (i' : Nat) : R6 := if x.kind = 0 then { st with i := x.i } else ({ st with i := i' }).wr x.kind x.pl
def EndP (base g : Nat) (d : Dia) (l : Lim) (s : Bs) (st : R6) (x : FR) (w : World) (r : Ending) (w' : World) : Prop :=
  r = .returned (.tuple #[sv x.f, .bool (x.kind == 0)]) ∧ ∃ i', Post base g d l s (st.to x i') w w'
section plain
variable {d : Dia} {lm : Nat} {s f : Bs} {i : Nat}
theorem drop_last (h : i + 1 = s.length) : s.drop i = [s[i]] := by rw [List.drop_eq_getElem_cons (by omega), List.drop_eq_nil_of_le (by omega)]
theorem drop_two (h : i + 1 < s.length) : s.drop i = s[i] :: s[i + 1] :: s.drop (i + 2) := by rw [List.drop_eq_getElem_cons (by omega), List.drop_eq_getElem_cons (by omega)]
theorem q_end (h : i = s.length) : quotedG d lm (s.drop i) i f = ⟨f, [], i, 11, i⟩ := by rw [List.drop_eq_nil_of_le (by omega)]; rfl
theorem q_next (h : i < s.length) (hb : (s[i] == d.quote) = false) (hf : (f.length == lm) = false) : quotedG d lm (s.drop i) i f = quotedG d lm (s.drop (i + 1)) (i + 1) (f ++ [s[i]]) := by
  by_cases h2 : i + 1 = s.length
  · rw [drop_last h2, List.drop_eq_nil_of_le (by omega)]
    simp only [quotedG, hb, hf, Bool.false_eq_true, if_false]
  · rw [drop_two (by omega), show s.drop (i + 1) = s[i + 1] :: s.drop (i + 2) from List.drop_eq_getElem_cons (by omega)]
    simp only [quotedG, hb, hf, Bool.false_eq_true, if_false]
theorem q_full (h : i < s.length) (hb : (s[i] == d.quote) = false) (hf : (f.length == lm) = true) : ∃ r, quotedG d lm (s.drop i) i f = ⟨f, r, i, 7, i⟩ := by
  by_cases h2 : i + 1 = s.length
  · rw [drop_last h2]
    simp only [quotedG, hb, hf, Bool.false_eq_true, if_false, if_true]
    exact ⟨_, rfl⟩
  · rw [drop_two (by omega)]
    simp only [quotedG, hb, hf, Bool.false_eq_true, if_false, if_true]
    exact ⟨_, rfl⟩
theorem q_two (h : i + 1 < s.length) (hb : (s[i] == d.quote) = true) (hc : (s[i + 1] == d.quote) = true) (hf : (f.length == lm) = false) : quotedG d lm (s.drop i) i f = quotedG d lm (s.drop (i + 2)) (i + 2) (f ++ [s[i + 1]]) := by
  rw [drop_two h]
  simp only [quotedG, hb, hc, hf, Bool.false_eq_true, if_false, if_true]
theorem q_two_full (h : i + 1 < s.length) (hb : (s[i] == d.quote) = true) (hc : (s[i + 1] == d.quote) = true) (hf : (f.length == lm) = true) : ∃ r, quotedG d lm (s.drop i) i f = ⟨f, r, i, 7, i + 1⟩ := by
  rw [drop_two h]
  simp only [quotedG, hb, hc, hf, if_true]
  exact ⟨_, rfl⟩
theorem q_close_end (h : i + 1 = s.length) (hb : (s[i] == d.quote) = true) : quotedG d lm (s.drop i) i f = ⟨f, [], i + 1, 0, 0⟩ := by
  rw [drop_last h]
  simp only [quotedG, hb, if_true]
theorem q_close (h : i + 1 < s.length) (hb : (s[i] == d.quote) = true) (hc : (s[i + 1] == d.quote) = false) (hs : sepB d s[i + 1] = true) : ∃ r, quotedG d lm (s.drop i) i f = ⟨f, r, i + 1, 0, 0⟩ := by
  rw [drop_two h]
  simp only [quotedG, hb, hc, hs, Bool.false_eq_true, if_false, if_true]
  exact ⟨_, rfl⟩
theorem q_after (h : i + 1 < s.length) (hb : (s[i] == d.quote) = true) (hc : (s[i + 1] == d.quote) = false) (hs : sepB d s[i + 1] = false) : ∃ r, quotedG d lm (s.drop i) i f = ⟨f, r, i + 1, 5, i + 1⟩ := by
  rw [drop_two h]
  simp only [quotedG, hb, hc, hs, Bool.false_eq_true, if_false, if_true]
  exact ⟨_, rfl⟩
end plain
/-- 'is', in whatever world that keeps the reader. -/
theorem is_k (w : World) (base g : Nat) (d : Dia) (l : Lim) (s : Bs) (st : R6) (h : RAt w base g d l s st) (hs : s.length ≤ 100000) (hi : st.i ≤ 100002) (b : UInt8) (c : Int) (hc : (b.toNat : Int) = c) (e : Bool) (he : atB s st.i b = e) (w' : World) (hb : Below w.heap.size w w') :
    Calls Try.prog 68 #[.pointer (some ⟨g, 0, none⟩), .int .i64 c] w' fun r w'' => r = .returned (.bool e) ∧ Keeps [] w' w'' := by
  subst he
  refine (is_c w' base g d l s st (h.keep (Keeps.of_below hb [])) hs hi b c hc).mono ?_
  rintro r w'' ⟨h1, m, rfl⟩
  exact ⟨h1, Keeps.drewN [] w' m⟩
/-- 'is', in a region that only reads. -/
theorem is_q (w : World) (base g : Nat) (d : Dia) (l : Lim) (s : Bs) (st : R6) (h : RAt w base g d l s st) (hs : s.length ≤ 100000) (hi : st.i ≤ 100002) (b : UInt8) (c : Int) (hc : (b.toNat : Int) = c) (e : Bool) (he : atB s st.i b = e) (n : Nat) :
    Calls Try.prog 68 #[.pointer (some ⟨g, 0, none⟩), .int .i64 c] (w.drewN n) fun r w'' => r = .returned (.bool e) ∧ ∃ m, w'' = w.drewN m := by
  subst he
  exact Calls.quiet_of (is_c (w.drewN n) base g d l s st (h.keep (Keeps.drewN [] w n)) hs hi b c hc)

set_option maxRecDepth 100000 in
set_option maxHeartbeats 4000000 in
theorem quoted_c (w : World) (base g : Nat) (d : Dia) (l : Lim) (s : Bs) (st : R6) (h : RAt w base g d l s st) (hs : s.length ≤ 100000) (hi : st.i ≤ s.length) (hk : st.kind = 0) :
    Calls Try.prog 79 #[.pointer (some ⟨g, 0, none⟩)] w (EndP base g d l s st (quotedG d l.field (s.drop st.i) st.i []) w) := by
  obtain ⟨X, hX⟩ : ∃ X, quotedG d l.field (s.drop st.i) st.i [] = X := ⟨_, rfl⟩
  rw [hX]
  have HX0 := Lib.hid hX
  have HST : st = { st with i := st.i } := rfl
  have h0 : RAt w base g d l s { st with i := st.i } := h
  have hkk : ∀ i, ({ st with i := i } : R6).kind = 0 := fun _ => hk
  have HK := Lib.hid hkk
  have hl := h.lt
  clear hX h HST hk hkk
  go_enter Try.func79, Try.ntmps79
  go_wp2_with (fail)
  go_loopw [4] (fun v wr => ∃ (i : Nat) (f : Bs), i ≤ s.length ∧ f.length ≤ i ∧ v = sv f ∧ RAt wr base g d l s { st with i := i } ∧ Below base w wr ∧ quotedG d l.field (s.drop i) i f = X) (fun v wr => s.length + 1 - cellI wr g 8)
  case atStart => exact ⟨st.i, [], hi, by simp, rfl, h0, Below.refl _ _, HX0.out⟩
  case round =>
    obtain ⟨i, f, hil, hfl, rfl, hR, hB, hq⟩ := hrel
    have HQ := Lib.hid hq
    clear hq h0 HX0 hi
    have hR' := hR
    obtain ⟨vr, vR, vs, vE, hP⟩ := hR'
    have c1 := hP.c (i := 1) rfl
    have c7 := hP.c (i := 7) rfl
    have c8 := hP.c (i := 8) rfl
    have HCI : Hid (cellI wr g 8 = i) := Lib.hid (cellI_of c8)
    have hgl := hP.blk.lt
    clear hP
    by_cases hend : i = s.length
    · have he : ((i : Int) == (s.length : Int)) = true := by rw [beq_iff_eq]; omega
      have HX := Lib.hid ((q_end hend).symm.trans HQ.out)
      have HWR := Lib.hid (fun m => wrong_c (wr.drewN m) base g d l s { st with i := i } (hR.keep (Keeps.drewN [] wr m)) (HK.out i) 11 i 11 i rfl rfl)
      clear HQ hend
      go_wp2_with (fail)
      go_quiet (fail)
      go_wp2_with (fail)
      refine (HWR.out _).mono ?_
      rintro r w2 ⟨rfl, hp⟩
      go_wp2_with (fail)
      go_ret2
      rw [← HX.out]
      exact ⟨rfl, i, hp.1, (hB.trans (below_of_drewN _ _ _)).trans hp.2⟩
    have hlt : i < s.length := by omega
    have he : ((i : Int) == (s.length : Int)) = false := by rw [beq_eq_false_iff_ne]; omega
    have HIQ := Lib.hid (fun w' hb => is_k wr base g d l s { st with i := i } hR hs (by simp only; omega) d.quote d.quote.toNat rfl _ (atB_lt hlt d.quote) w' hb)
    have hi' := str_idx (P := Try.prog) Try.underlying9 s i s[i] (List.getElem?_eq_getElem hlt)
    clear hend
    go_wp2_with (fail)
    go_quiet (fail)
    have hRn := hR.keep (Keeps.drewN [] wr nq)
    have hBn := hB.trans (below_of_drewN base wr nq)
    have c1n : (wr.drewN nq).cell? _ = _ := c1
    have c7n : (wr.drewN nq).cell? _ = _ := c7
    have c8n : (wr.drewN nq).cell? _ = _ := c8
    have HIQ2 := Lib.hid (HIQ.out _ (below_of_drewN _ wr nq))
    have hgln : g < (wr.drewN nq).heap.size := hgl
    clear HIQ hR hB c1 c7 c8 hgl
    generalize wr.drewN nq = wx at *
    go_wp2_with (fail)
    refine HIQ2.out.mono ?_
    rintro r w1 ⟨rfl, k1⟩
    have hR1 := hRn.keep k1
    have hB1 := hBn.trans (k1.below (B := base) (by omega) (by simp))
    clear hRn hBn k1 HIQ2 c1n c7n c8n hgln
    have hR1' := hR1
    obtain ⟨vr1, vR1, vs1, vE1, hP⟩ := hR1'
    have c1 := hP.c (i := 1) rfl
    have c7 := hP.c (i := 7) rfl
    have c8 := hP.c (i := 8) rfl
    have f8 := hP.f (i := 8) (by omega)
    have hgl := hP.blk.lt
    have hlow := hP.low
    cases hb : (s[i] == d.quote)
    · -- a byte of the field
      have HA := Lib.hid (add_c w1 base g d l s { st with i := i } hR1 hs (HK.out i) f (by omega) i hlt i rfl)
      have hgd : s.getD i 0 = s[i] := by simp [List.getD, List.getElem?_eq_getElem hlt]
      unfold addP at HA
      rw [hgd] at HA
      clear hP c1 c7 hi'
      cases hf : (f.length == l.field)
      · rw [hf] at HA
        have HN := Lib.hid ((q_next hlt hb hf).symm.trans HQ.out)
        clear hb HQ hf hgd
        generalize s[i] = b at *
        simp only [Bool.false_eq_true, if_false] at HA
        go_wp2_with (fail)
        refine HA.out.mono ?_
        rintro r w2 ⟨rfl, hR2, hB2⟩
        have hR2' := hR2
        obtain ⟨vr2, vR2, vs2, vE2, hP2⟩ := hR2'
        have d8 := hP2.c (i := 8) rfl
        have e8 := hP2.f (i := 8) (by omega)
        have HP3 := Lib.hid (hP2.set (st' := { st with i := i + 1 }) 8 (.int .i64 ((i : Int) + 1)) rfl rfl rfl rfl)
        have HB3 := Lib.hid ((hB1.trans hB2).trans (hP2.below 8 (.int .i64 ((i : Int) + 1))))
        clear hP2 hR2 hB2 hR1 hB1 c8 f8
        go_wp2_with (fail)
        refine ⟨⟨i + 1, f ++ [b], by omega, by simp; omega, rfl, ⟨_, _, _, _, HP3.out⟩, HB3.out, HN.out⟩, ?_⟩
        rw [HCI.out, cellI_of (HP3.out.c (i := 8) rfl)]
        show s.length + 1 - (i + 1) < s.length + 1 - i
        omega
      · rw [hf] at HA
        obtain ⟨r, hr⟩ := q_full hlt hb hf
        have HX := Lib.hid (hr.symm.trans HQ.out)
        clear hb HQ hf hgd hr
        simp only [if_true] at HA
        go_wp2_with (fail)
        refine HA.out.mono ?_
        rintro r w2 ⟨rfl, hR2, hB2⟩
        go_wp2_with (fail)
        go_ret2
        rw [← HX.out]
        exact ⟨rfl, i, hR2, hB1.trans hB2⟩
    · -- a quote
      have hkl0 : (0 : Int) ≤ (i : Int) + 1 := by omega
      have hi1 : (i : Int) ≤ 100000 := by omega
      by_cases h2 : i + 1 = s.length
      · have he1 : ((i : Int) + 1 == (s.length : Int)) = true := by rw [beq_iff_eq]; omega
        have hwi : IntKind.i64.wrap ((i : Int) + 1) = (i : Int) + 1 := IntWalk.i64_in _ (by omega)
        have HX := Lib.hid ((q_close_end h2 hb).symm.trans HQ.out)
        have hge : decide ((i : Int) + 1 < (s.length : Int)) = false := by simp; omega
        clear hb HQ h2 hi'
        go_wp2_with (fail)
        go_quiet (fail)
        have hPn := hP.keep (Keeps.drewN [] w1 nq)
        have hBn := hB1.trans (below_of_drewN base w1 nq)
        clear hP hR1 hB1 c1 c7 c8 f8 hgl hwi
        generalize w1.drewN nq = wx at *
        have c8 := hPn.c (i := 8) rfl
        have f8 := hPn.f (i := 8) (by omega)
        have hgl := hPn.blk.lt
        have hP3 := hPn.set (st' := { st with i := i + 1 }) 8 (.int .i64 ((i : Int) + 1)) rfl rfl rfl rfl
        have HB3 := Lib.hid (hBn.trans (hPn.below 8 (.int .i64 ((i : Int) + 1))))
        clear hPn hBn
        go_upto_region 14 with (fail)
        have c7' := hP3.c (i := 7) rfl
        have c8' : (wx.setCell ⟨g, 8, none⟩ (.int .i64 ((i : Int) + 1))).cell? ⟨g, 8, none⟩ = some (.int .i64 ((i : Int) + 1)) := hP3.c (i := 8) rfl
        have HP3 := Lib.hid hP3
        have HR3 : Hid (RAt (wx.setCell ⟨g, 8, none⟩ (.int .i64 ((i : Int) + 1))) base g d l s { st with i := i + 1 }) := Lib.hid ⟨_, _, _, _, hP3⟩
        clear hP3 c8 f8
        generalize wx.setCell ⟨g, 8, none⟩ (.int .i64 ((i : Int) + 1)) = wy at *
        go_quiet (fail)
        go_wp2_with (fail)
        go_ret2
        rw [← HX.out]
        exact ⟨rfl, 0, HR3.out.keep (Keeps.drewN [] _ _), HB3.out.trans (below_of_drewN _ _ _)⟩
      · have h3 : i + 1 < s.length := by omega
        have he1 : ((i : Int) + 1 == (s.length : Int)) = false := by rw [beq_eq_false_iff_ne]; omega
        have hi2 : ∀ w, (Instr.index 9 (.string ⟨s.toArray⟩) (.int .i64 ((i : Int) + 1))).run Try.prog w = .ok (bv s[i + 1]) w := str_idx (P := Try.prog) Try.underlying9 s (i + 1) s[i + 1] (List.getElem?_eq_getElem h3)
        have hkl1 : (i : Int) + 1 < (s.length : Int) := by omega
        have hq1 := u8_beq s[i + 1] d.quote
        have hq1' : ((s[i + 1].toNat : Int) != (d.quote.toNat : Int)) = !(s[i + 1] == d.quote) := by rw [bne, hq1]
        have hwc := wrap_u8 s[i + 1]
        have hwk : IntKind.i64.wrap (s[i + 1].toNat : Int) = (s[i + 1].toNat : Int) := IntWalk.i64_in _ (by omega)
        have hl1 : decide ((i : Int) + 1 < (s.length : Int)) = true := by simp; omega
        cases hc : (s[i + 1] == d.quote)
        · -- behind the closing quote
          rw [hc] at hq1 hq1'
          have hwi : IntKind.i64.wrap ((i : Int) + 1) = (i : Int) + 1 := IntWalk.i64_in _ (by clear hwk; omega)
          have HXs := Lib.hid (fun hs => (q_close (d := d) (lm := l.field) (f := f) h3 hb hc hs))
          have HXn := Lib.hid (fun hs => (q_after (d := d) (lm := l.field) (f := f) h3 hb hc hs))
          have HE1 := Lib.hid (atB_lt h3 d.delim)
          have HE2 := Lib.hid (atB_lt h3 10)
          have HE3 := Lib.hid (atB_lt h3 13)
          have hsep : sepB d s[i + 1] = (s[i + 1] == d.delim || s[i + 1] == 10 || s[i + 1] == 13) := rfl
          rw [hsep] at HXs HXn
          clear hb hi' hc h2 hsep
          go_wp2_with (fail)
          go_quiet (fail)
          clear hq1 hq1' hwk hi2
          have hPn := hP.keep (Keeps.drewN [] w1 nq)
          have hBn := hB1.trans (below_of_drewN base w1 nq)
          clear hP hR1 hB1 c1 c7 c8 f8 hgl hwi
          generalize w1.drewN nq = wx at *
          have c8 := hPn.c (i := 8) rfl
          have f8 := hPn.f (i := 8) (by omega)
          have hgl := hPn.blk.lt
          have hP3 := hPn.set (st' := { st with i := i + 1 }) 8 (.int .i64 ((i : Int) + 1)) rfl rfl rfl rfl
          have HB3 := Lib.hid (hBn.trans (hPn.below 8 (.int .i64 ((i : Int) + 1))))
          clear hPn hBn
          clear hwc
          go_upto_region 14 with (fail)
          have c7 := hP3.c (i := 7) rfl
          have c0 := hP3.c (i := 0) rfl
          have c8' : (wx.setCell ⟨g, 8, none⟩ (.int .i64 ((i : Int) + 1))).cell? ⟨g, 8, none⟩ = some (.int .i64 ((i : Int) + 1)) := hP3.c (i := 8) rfl
          have hgy := hP3.blk.lt
          have hRy : RAt (wx.setCell ⟨g, 8, none⟩ (.int .i64 ((i : Int) + 1))) base g d l s { st with i := i + 1 } := ⟨_, _, _, _, hP3⟩
          clear hP3 c8 f8 hgl
          generalize wx.setCell ⟨g, 8, none⟩ (.int .i64 ((i : Int) + 1)) = wy at *
          have HL1 := Lib.hid (fun n => is_q wy base g d l s { st with i := i + 1 } hRy hs (by simp only; omega) d.delim d.delim.toNat rfl _ (atB_lt h3 d.delim) n)
          have HL2 := Lib.hid (fun n => is_q wy base g d l s { st with i := i + 1 } hRy hs (by simp only; omega) 10 10 rfl _ (atB_lt h3 10) n)
          have HL3 := Lib.hid (fun n => is_q wy base g d l s { st with i := i + 1 } hRy hs (by simp only; omega) 13 13 rfl _ (atB_lt h3 13) n)
          generalize (s[i + 1] == d.delim) = e1 at *
          generalize (s[i + 1] == 10) = e2 at *
          generalize (s[i + 1] == 13) = e3 at *
          have HRY := Lib.hid hRy
          clear HE1 HE2 HE3 hRy
          have HEND : Hid (∀ n r, (⟨f, r, i + 1, 0, 0⟩ : FR) = X → EndP base g d l s st X w (.returned (.tuple #[sv f, .bool true])) (wy.drewN n)) := Lib.hid (by
            rintro n r rfl
            exact ⟨rfl, 0, HRY.out.keep (Keeps.drewN [] _ _), HB3.out.trans (below_of_drewN _ _ _)⟩)
          obtain ⟨e, he⟩ : ∃ e, (e1 || e2 || e3) = e := ⟨_, rfl⟩
          rw [he] at HXs HXn
          cases e
          · obtain ⟨r, hr⟩ := HXn.out rfl
            have HX := Lib.hid (hr.symm.trans HQ.out)
            have HWR := Lib.hid (fun m => wrong_c (wy.drewN m) base g d l s { st with i := i + 1 } (HRY.out.keep (Keeps.drewN [] wy m)) (HK.out (i + 1)) 5 (i + 1) 5 ((i : Int) + 1) rfl (by push_cast; rfl))
            clear HXs HXn HQ hr HEND
            obtain ⟨rfl, rfl, rfl⟩ : e1 = false ∧ e2 = false ∧ e3 = false := by revert he; cases e1 <;> cases e2 <;> cases e3 <;> decide
            clear he
            go_quiet ((first | (go_at_call 68; with_reducible exact HL1.out _) | (go_at_call 68; with_reducible exact HL2.out _) | (go_at_call 68; with_reducible exact HL3.out _)))
            go_wp2_with (fail)
            refine (HWR.out _).mono ?_
            rintro r w2 ⟨rfl, hp⟩
            go_wp2_with (fail)
            go_ret2
            rw [← HX.out]
            exact ⟨rfl, i + 1, hp.1, (HB3.out.trans (below_of_drewN _ _ _)).trans hp.2⟩
          · obtain ⟨r, hr⟩ := HXs.out rfl
            have HX := Lib.hid (hr.symm.trans HQ.out)
            clear HXs HXn HQ hr
            cases e1
            · cases e2
              · obtain rfl : e3 = true := by simpa using he
                clear he
                go_quiet ((first | (go_at_call 68; with_reducible exact HL1.out _) | (go_at_call 68; with_reducible exact HL2.out _) | (go_at_call 68; with_reducible exact HL3.out _)))
                go_wp2_with (fail)
                go_ret2
                exact HEND.out _ _ HX.out
              · clear he
                go_quiet ((first | (go_at_call 68; with_reducible exact HL1.out _) | (go_at_call 68; with_reducible exact HL2.out _) | (go_at_call 68; with_reducible exact HL3.out _)))
                go_wp2_with (fail)
                go_ret2
                exact HEND.out _ _ HX.out
            · clear he
              go_quiet ((first | (go_at_call 68; with_reducible exact HL1.out _) | (go_at_call 68; with_reducible exact HL2.out _) | (go_at_call 68; with_reducible exact HL3.out _)))
              go_wp2_with (fail)
              go_ret2
              exact HEND.out _ _ HX.out
        · -- two quotes: one of them is the field's
          rw [hc] at hq1 hq1'
          have hwi : IntKind.i64.wrap ((i : Int) + 1) = (i : Int) + 1 := IntWalk.i64_in _ (by clear hwk; omega)
          have hwi2 : IntKind.i64.wrap ((i : Int) + 1 + 1) = (i : Int) + 1 + 1 := IntWalk.i64_in _ (by clear hwk hwi; omega)
          have HA := Lib.hid (fun m => add_c (w1.drewN m) base g d l s { st with i := i } (hR1.keep (Keeps.drewN [] w1 m)) hs (HK.out i) f (by clear hwk hwi hwi2; omega) (i + 1) h3 ((i : Int) + 1) (by push_cast; rfl))
          have hgd : s.getD (i + 1) 0 = s[i + 1] := by simp [List.getD, List.getElem?_eq_getElem h3]
          unfold addP at HA
          rw [hgd] at HA
          have hB1d := Lib.hid (fun m => hB1.trans (below_of_drewN base w1 m))
          cases hf : (f.length == l.field)
          · rw [hf] at HA
            have HN := Lib.hid ((q_two (d := d) h3 hb hc hf).symm.trans HQ.out)
            clear hb HQ hf hgd hc hi'
            generalize s[i + 1] = b at *
            simp only [Bool.false_eq_true, if_false] at HA
            go_wp2_with (fail)
            go_quiet (fail)
            clear hq1 hq1' hwk hi2 hP hR1 hB1 c1 c7 c8 f8
            go_wp2_with (fail)
            refine (HA.out _).mono ?_
            rintro r w2 ⟨rfl, hR2, hB2⟩
            have hR2' := hR2
            obtain ⟨vr2, vR2, vs2, vE2, hP2⟩ := hR2'
            have d8 := hP2.c (i := 8) rfl
            have e8 := hP2.f (i := 8) (by clear hwc; omega)
            have HP3 := Lib.hid (hP2.set (st' := { st with i := i + 2 }) 8 (.int .i64 ((i : Int) + 1 + 1)) rfl rfl rfl rfl)
            have HB3 := Lib.hid (((hB1d.out _).trans hB2).trans (hP2.below 8 (.int .i64 ((i : Int) + 1 + 1))))
            clear hP2 hR2 hB2
            go_wp2_with (fail)
            refine ⟨⟨i + 2, f ++ [b], by clear hwi hwi2; omega, by simp; omega, rfl, ⟨_, _, _, _, HP3.out⟩, HB3.out, HN.out⟩, ?_⟩
            rw [HCI.out, cellI_of (HP3.out.c (i := 8) rfl)]
            show s.length + 1 - (i + 2) < s.length + 1 - i
            clear hwi hwi2
            omega
          · rw [hf] at HA
            obtain ⟨r, hr⟩ := q_two_full (d := d) h3 hb hc hf
            have HX := Lib.hid (hr.symm.trans HQ.out)
            clear hb HQ hf hgd hr hc hi'
            generalize s[i + 1] = b at *
            simp only [if_true] at HA
            go_wp2_with (fail)
            go_quiet (fail)
            clear hq1 hq1' hwk hi2 hP hR1 hB1 c1 c7 c8 f8
            go_wp2_with (fail)
            refine (HA.out _).mono ?_
            rintro r w2 ⟨rfl, hR2, hB2⟩
            go_wp2_with (fail)
            go_ret2
            rw [← HX.out]
            exact ⟨rfl, i, hR2, (hB1d.out _).trans hB2⟩
end Go.Proofs.Ytcmoldondflilaa.Rdr
