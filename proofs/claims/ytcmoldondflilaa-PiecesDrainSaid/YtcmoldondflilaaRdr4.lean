/- The document's reader of layer 6: a field that is not quoted. -/
import Derived.Test.YtcmoldondflilaaRdr3
import Derived.Deep.RegionHeld3
import Derived.Deep.DeepCutAuto
namespace Go.Proofs.Ytcmoldondflilaa.Rdr
set_option linter.unusedVariables false
set_option linter.unusedSimpArgs false
set_option maxRecDepth 100000
open Go.RowKit Q Mach Dia Gram
attribute [local go_sem ↓] Go.wp_at_zero Go.wp_at_succ
section plain
variable {d : Dia} {lm : Nat} {s f : Bs} {i : Nat}
theorem b_end (h : i = s.length) : bareG d lm (s.drop i) i f = ⟨f, [], i, 0, 0⟩ := by rw [List.drop_eq_nil_of_le (by omega)]; rfl
theorem drop_one (h : i < s.length) : s.drop i = s[i] :: s.drop (i + 1) := List.drop_eq_getElem_cons h
theorem b_sep (h : i < s.length) (hs : sepB d s[i] = true) : bareG d lm (s.drop i) i f = ⟨f, s.drop i, i, 0, 0⟩ := by
  rw [drop_one h]
  simp only [bareG, hs, if_true]
theorem b_quote (h : i < s.length) (hs : sepB d s[i] = false) (hb : (s[i] == d.quote) = true) : bareG d lm (s.drop i) i f = ⟨f, s.drop i, i, 4, i⟩ := by
  rw [drop_one h]
  simp only [bareG, hs, hb, if_true, Bool.false_eq_true, if_false]
theorem b_full (h : i < s.length) (hs : sepB d s[i] = false) (hb : (s[i] == d.quote) = false) (hf : (f.length == lm) = true) : bareG d lm (s.drop i) i f = ⟨f, s.drop i, i, 7, i⟩ := by
  rw [drop_one h]
  simp only [bareG, hs, hb, hf, if_true, Bool.false_eq_true, if_false]
theorem b_next (h : i < s.length) (hs : sepB d s[i] = false) (hb : (s[i] == d.quote) = false) (hf : (f.length == lm) = false) : bareG d lm (s.drop i) i f = bareG d lm (s.drop (i + 1)) (i + 1) (f ++ [s[i]]) := by
  rw [drop_one h]
  simp only [bareG, hs, hb, hf, Bool.false_eq_true, if_false]
end plain
set_option maxRecDepth 100000 in
set_option maxHeartbeats 4000000 in
theorem bare_c (w : World) (base g : Nat) (d : Dia) (l : Lim) (s : Bs) (st : R6) (h : RAt w base g d l s st) (hs : s.length ≤ 100000) (hi : st.i ≤ s.length) (hk : st.kind = 0) :
    Calls Try.prog 80 #[.pointer (some ⟨g, 0, none⟩)] w (EndP base g d l s st (bareG d l.field (s.drop st.i) st.i []) w) := by
  obtain ⟨X, hX⟩ : ∃ X, bareG d l.field (s.drop st.i) st.i [] = X := ⟨_, rfl⟩
  rw [hX]
  have HX0 := Lib.hid hX
  have h0 : RAt w base g d l s { st with i := st.i } := h
  have hkk : ∀ i, ({ st with i := i } : R6).kind = 0 := fun _ => hk
  have HK := Lib.hid hkk
  have hl := h.lt
  clear hX h hk hkk
  go_enter Try.func80, Try.ntmps80
  go_wp2_with (fail)
  go_loopw [4] (fun v wr => ∃ (i : Nat) (f : Bs), i ≤ s.length ∧ f.length ≤ i ∧ v = sv f ∧ RAt wr base g d l s { st with i := i } ∧ Below base w wr ∧ bareG d l.field (s.drop i) i f = X) (fun v wr => s.length + 1 - cellI wr g 8)
  case atStart => exact ⟨st.i, [], hi, by simp, rfl, h0, Below.refl _ _, HX0.out⟩
  case round =>
    obtain ⟨i, f, hil, hfl, rfl, hR, hB, hq⟩ := hrel
    have HQ := Lib.hid hq
    clear hq h0 HX0 hi
    have hR' := hR
    obtain ⟨vr, vR, vs, vE, hP⟩ := hR'
    have c0 := hP.c (i := 0) rfl
    have c7 := hP.c (i := 7) rfl
    have c8 := hP.c (i := 8) rfl
    have HCI : Hid (cellI wr g 8 = i) := Lib.hid (cellI_of c8)
    have hgl := hP.blk.lt
    clear hP
    have HEND : Hid (∀ n r, (⟨f, r, i, 0, 0⟩ : FR) = X → EndP base g d l s st X w (.returned (.tuple #[sv f, .bool true])) (wr.drewN n)) := Lib.hid (by
      rintro n r rfl
      exact ⟨rfl, 0, hR.keep (Keeps.drewN [] _ _), hB.trans (below_of_drewN _ _ _)⟩)
    by_cases hend : i = s.length
    · have hl1 : decide ((i : Int) < (s.length : Int)) = false := by simp; omega
      have hl2 : decide (i < s.length) = false := by simp; omega
      have HX := Lib.hid ((b_end hend).symm.trans HQ.out)
      clear HQ hend hR hB
      go_wp2_with (fail)
      go_quiet (fail)
      go_wp2_with (fail)
      go_ret2
      exact HEND.out _ _ HX.out
    have hlt : i < s.length := by omega
    have hl1 : decide ((i : Int) < (s.length : Int)) = true := by simp; omega
    have hl2 : decide (i < s.length) = true := by simp; omega
    have HL1 := Lib.hid (fun n => is_q wr base g d l s { st with i := i } hR hs (by simp only; omega) d.delim d.delim.toNat rfl _ (atB_lt hlt d.delim) n)
    have HL2 := Lib.hid (fun n => is_q wr base g d l s { st with i := i } hR hs (by simp only; omega) 10 10 rfl _ (atB_lt hlt 10) n)
    have HL3 := Lib.hid (fun n => is_q wr base g d l s { st with i := i } hR hs (by simp only; omega) 13 13 rfl _ (atB_lt hlt 13) n)
    have HIQ := Lib.hid (fun w' hb => is_k wr base g d l s { st with i := i } hR hs (by simp only; omega) d.quote d.quote.toNat rfl _ (atB_lt hlt d.quote) w' hb)
    have HXs := Lib.hid (fun (hs : sepB d s[i] = true) => (b_sep (d := d) (lm := l.field) (f := f) hlt hs))
    have HXq := Lib.hid (fun (hs : sepB d s[i] = false) => (b_quote (d := d) (lm := l.field) (f := f) hlt hs))
    have HXf := Lib.hid (fun (hs : sepB d s[i] = false) => (b_full (d := d) (lm := l.field) (f := f) hlt hs))
    have HXn := Lib.hid (fun (hs : sepB d s[i] = false) => (b_next (d := d) (lm := l.field) (f := f) hlt hs))
    have hsep : sepB d s[i] = (s[i] == d.delim || s[i] == 10 || s[i] == 13) := rfl
    have hgd : s.getD i 0 = s[i] := by simp [List.getD, List.getElem?_eq_getElem hlt]
    rw [hsep] at HXs HXq HXf HXn
    clear hend hsep
    generalize (s[i] == d.delim) = e1 at *
    generalize (s[i] == 10) = e2 at *
    generalize (s[i] == 13) = e3 at *
    generalize (s[i] == d.quote) = e4 at *
    generalize s[i] = b at *
    obtain ⟨e, he⟩ : ∃ e, (e1 || e2 || e3) = e := ⟨_, rfl⟩
    rw [he] at HXs HXn HXq HXf
    cases e
    · -- in the field
      obtain ⟨rfl, rfl, rfl⟩ : e1 = false ∧ e2 = false ∧ e3 = false := by revert he; cases e1 <;> cases e2 <;> cases e3 <;> decide
      clear he HXs HEND
      go_wp2_with (fail)
      go_quiet ((first | (go_at_call 68; with_reducible exact HL1.out _) | (go_at_call 68; with_reducible exact HL2.out _) | (go_at_call 68; with_reducible exact HL3.out _)))
      have hRn := hR.keep (Keeps.drewN [] wr nq)
      have hBn := hB.trans (below_of_drewN base wr nq)
      have HIQ2 := Lib.hid (HIQ.out _ (below_of_drewN _ wr nq))
      clear HIQ hR hB c0 c7 c8 hgl HL1 HL2 HL3
      generalize wr.drewN nq = wx at *
      have hRn' := hRn
      obtain ⟨vrn, vRn, vsn, vEn, hPn⟩ := hRn'
      have c1 := hPn.c (i := 1) rfl
      have hgn := hPn.blk.lt
      clear hPn
      go_wp2_with (fail)
      refine HIQ2.out.mono ?_
      rintro r w1 ⟨rfl, k1⟩
      have hR1 := hRn.keep k1
      have hB1 := hBn.trans (k1.below (B := base) (by omega) (by simp))
      clear hRn hBn k1 HIQ2 c1 hgn
      have hR1' := hR1
      obtain ⟨vr1, vR1, vs1, vE1, hP⟩ := hR1'
      have c8 := hP.c (i := 8) rfl
      have f8 := hP.f (i := 8) (by omega)
      have hgl := hP.blk.lt
      have hlow := hP.low
      cases e4
      · have HA := Lib.hid (add_c w1 base g d l s { st with i := i } hR1 hs (HK.out i) f (by omega) i hlt i rfl)
        unfold addP at HA
        rw [hgd] at HA
        clear hP
        cases hf : (f.length == l.field)
        · rw [hf] at HA
          have HN := Lib.hid ((HXn.out (by trivial) (by trivial) hf).symm.trans HQ.out)
          clear HQ hf hgd HXn HXf HXq
          simp only [Bool.false_eq_true, if_false] at HA
          go_wp2_with (fail)
          refine HA.out.mono ?_
          rintro r w2 ⟨rfl, hR2, hB2⟩
          have hR2' := hR2
          obtain ⟨vr2, vR2, vs2, vE2, hP2⟩ := hR2'
          have d8 := hP2.c (i := 8) rfl
          have e8 := hP2.f (i := 8) (by omega)
          have hwi : IntKind.i64.wrap ((i : Int) + 1) = (i : Int) + 1 := IntWalk.i64_in _ (by omega)
          have HP3 := Lib.hid (hP2.set (st' := { st with i := i + 1 }) 8 (.int .i64 ((i : Int) + 1)) rfl rfl rfl rfl)
          have HB3 := Lib.hid ((hB1.trans hB2).trans (hP2.below 8 (.int .i64 ((i : Int) + 1))))
          clear hP2 hR2 hB2 hR1 hB1 c8 f8
          go_wp2_with (fail)
          refine ⟨⟨i + 1, f ++ [b], by omega, by simp; omega, rfl, ⟨_, _, _, _, HP3.out⟩, HB3.out, HN.out⟩, ?_⟩
          rw [HCI.out, cellI_of (HP3.out.c (i := 8) rfl)]
          show s.length + 1 - (i + 1) < s.length + 1 - i
          omega
        · rw [hf] at HA
          have HX := Lib.hid ((HXf.out (by trivial) (by trivial) hf).symm.trans HQ.out)
          clear HQ hf hgd HXn HXf HXq
          simp only [if_true] at HA
          go_wp2_with (fail)
          refine HA.out.mono ?_
          rintro r w2 ⟨rfl, hR2, hB2⟩
          go_wp2_with (fail)
          go_ret2
          rw [← HX.out]
          exact ⟨rfl, i, hR2, hB1.trans hB2⟩
      · have HWR := Lib.hid (wrong_c w1 base g d l s { st with i := i } hR1 (HK.out i) 4 i 4 i rfl rfl)
        have HX := Lib.hid ((HXq.out (by trivial) (by trivial)).symm.trans HQ.out)
        clear HQ HXn HXf HXq hP
        go_wp2_with (fail)
        refine HWR.out.mono ?_
        rintro r w2 ⟨rfl, hp⟩
        go_wp2_with (fail)
        go_ret2
        rw [← HX.out]
        exact ⟨rfl, i, hp.1, hB1.trans hp.2⟩
    · have HX := Lib.hid ((HXs.out rfl).symm.trans HQ.out)
      clear HXs HXn HQ HXq HXf HIQ hR hB
      cases e1
      · cases e2
        · obtain rfl : e3 = true := by simpa using he
          clear he
          go_wp2_with (fail)
          go_quiet ((first | (go_at_call 68; with_reducible exact HL1.out _) | (go_at_call 68; with_reducible exact HL2.out _) | (go_at_call 68; with_reducible exact HL3.out _)))
          go_wp2_with (fail)
          go_ret2
          exact HEND.out _ _ HX.out
        · clear he
          go_wp2_with (fail)
          go_quiet ((first | (go_at_call 68; with_reducible exact HL1.out _) | (go_at_call 68; with_reducible exact HL2.out _) | (go_at_call 68; with_reducible exact HL3.out _)))
          go_wp2_with (fail)
          go_ret2
          exact HEND.out _ _ HX.out
      · clear he
        go_wp2_with (fail)
        go_quiet ((first | (go_at_call 68; with_reducible exact HL1.out _) | (go_at_call 68; with_reducible exact HL2.out _) | (go_at_call 68; with_reducible exact HL3.out _)))
        go_wp2_with (fail)
        go_ret2
        exact HEND.out _ _ HX.out
end Go.Proofs.Ytcmoldondflilaa.Rdr
