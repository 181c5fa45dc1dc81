/- PROVED: for every table t, TableTurns(t) returns true and leaves its argument as it was. No condition. -/
import Derived.Test.YtnbeebagblkkfaaRows
import Derived.Test.YtnbeebagblkkfaaTab3
namespace Go.Proofs.Ytnbeebagblkkfaa.TableTurnsP
set_option linter.unusedVariables false
set_option linter.unusedSimpArgs false
open Go.ChangeShapes Go.WideShapes Go.ChangeAt Go.RowKit Q Tab Same

theorem own : ownKnob Try.prog.godebug = none := by kernel_rfl
theorem laidOut : laidOutB Try.prog = true := by kernel_rfl

set_option maxHeartbeats 400000 in
theorem walk (v : Value) (t : Tb) (w : World) (ht : Tbl w w.heap.size v t) (hs : Small t) :
    Calls Try.prog 3 #[v] w fun e w' => e = .returned (.bool true) ∧ Below w.heap.size w w' := by
  have ht' := ht
  have HA := Lib.hid awake_c
  have HG := Lib.hid (great13_c v t w.heap.size w ht hs)
  obtain ⟨A, ca, rfl, ha1, ha2⟩ := ht.form
  go_enter Try.func3, Try.ntmps3
  go_wp2_with (fail)
  refine HG.out.mono ?_
  rintro e w1 ⟨b, rfl, hb, m, rfl⟩
  cases b
  · obtain ⟨hb1, hb2, hb3⟩ := hb rfl
    clear hb
    have hh : (t.headD []).length ≤ 200 := by
      cases t with
      | nil => simp
      | cons r t' => have := row_le' (t := r :: t') (r := r) (by simp); simp; omega
    have hrev := Lib.hid (fun w2 h2 => reven_c (.slice A t.length ca) t w.heap.size w2 h2)
    cases he : evenT t
    · rw [he] at hrev
      have HE := Lib.hid he; clear he
      go_wp2_with (fail)
      refine (turn_odd _ t w.heap.size _ (ht'.drewN m) HE.out).mono ?_
      rintro e w1 ⟨rfl, rfl⟩
      go_wp2_with (fail)
      refine (hrev.out _ (ht'.drewN m)).mono ?_
      rintro e w1 ⟨rfl, rfl⟩
      go_wp2_with (fail)
      refine (HA.out _).mono ?_
      rintro e w1 ⟨rfl, hbel⟩
      go_wp2_with (fail)
      go_ret
      exact ⟨rfl, (below_of_drewN _ w m).trans hbel⟩
    · rw [he] at hrev
      by_cases h0 : t = []
      · subst h0
        simp only [List.length_nil] at *
        have HR := Lib.hid (fun w2 h2 (hB : w.heap.size ≤ w2.heap.size) => rturn_c (.slice A 0 ca) [] w.heap.size w2 h2 rfl hB (by simp) (by simp))
        go_wp2_with (fail)
        refine (turn_nil _ w.heap.size _ (ht'.drewN m)).mono ?_
        rintro e w1 ⟨rfl, rfl⟩
        go_wp2_with (fail)
        refine (hrev.out _ (ht'.drewN m)).mono ?_
        rintro e w1 ⟨rfl, rfl⟩
        go_wp2_with (fail)
        refine (HR.out _ (ht'.drewN m) (Nat.le_refl _)).mono ?_
        rintro e w2 ⟨v2, vs2, rfl, ho2, hk2⟩
        obtain ⟨A2, c2, hv2, _⟩ := ho2.2.1.form
        have HS := Lib.hid (sameTable_c _ _ [] (turn []) 0 w2.heap.size w2 (Tbl.nil_ w2 0) (ho2.tbl (Nat.le_refl _)))
        have b2 : Below w.heap.size w w2 := (below_of_drewN _ w m).trans (hk2.below (Nat.le_refl _) (by simp))
        subst hv2
        rw [show decide ([] = turn []) = true from rfl] at HS
        clear ho2 hk2
        go_wp2_with (fail)
        refine HS.out.mono ?_
        rintro e w3 ⟨rfl, m3, rfl⟩
        go_wp2_with (fail)
        refine (HA.out _).mono ?_
        rintro e w4 ⟨rfl, hbel⟩
        go_wp2_with (fail)
        go_ret
        exact ⟨rfl, b2.trans ((below_of_drewN _ w2 m3).trans (hbel.mono b2.size))⟩
      · have h0' : 0 < t.length := List.length_pos_iff.2 h0
        have HE := Lib.hid he; clear he h0
        go_wp2_with (fail)
        refine (turn_c _ t w.heap.size _ (ht'.drewN m) HE.out h0' (Nat.le_refl _) (by omega) (by omega)).mono ?_
        rintro e w1 ⟨v1, vs1, rfl, ho1, hk1⟩
        have b1 : Below w.heap.size w w1 := (below_of_drewN _ w m).trans (hk1.below (Nat.le_refl _) (by simp))
        have ho1' := ho1
        obtain ⟨A1, c1, hv1, _⟩ := ho1.2.1.form
        subst hv1
        have t1 := ht'.below b1 (Nat.le_refl _)
        go_wp2_with (fail)
        refine (hrev.out _ t1).mono ?_
        rintro e w1' ⟨rfl, rfl⟩
        go_wp2_with (fail)
        refine (rturn_c _ t w.heap.size _ t1 HE.out b1.size (by omega) (by omega)).mono ?_
        rintro e w2 ⟨v2, vs2, rfl, ho2, hk2⟩
        have b2 : Below w.heap.size w w2 := b1.trans (hk2.below b1.size (by simp))
        have ho12 := ho1.keep hk2 (by simp)
        have HS := Lib.hid (sameTable_c _ _ (turn t) (turn t) w2.heap.size w2.heap.size w2 (ho12.tbl (Nat.le_refl _)) (ho2.tbl (Nat.le_refl _)))
        rw [decide_eq_true rfl] at HS
        obtain ⟨A2, c2, hv2, _⟩ := ho2.2.1.form
        subst hv2
        clear ho1 ho1' hk1
        have htl := turn_len t
        by_cases hz : (turn t).length = 0
        · have hz' : (((turn t).length : Int) == 0) = true := by rw [beq_iff_eq]; omega
          have HZ := Lib.hid hz; clear hz htl ho2 hk2 ho12
          go_wp2_with (fail)
          refine HS.out.mono ?_
          rintro e w3 ⟨rfl, m3, rfl⟩
          go_wp2_with (fail)
          refine (HA.out _).mono ?_
          rintro e w4 ⟨rfl, hbel⟩
          go_wp2_with (fail)
          go_ret
          exact ⟨rfl, b2.trans ((below_of_drewN _ w2 m3).trans (hbel.mono b2.size))⟩
        · have hz' : (((turn t).length : Int) == 0) = false := by rw [beq_eq_false_iff_ne]; omega
          have hpos : 0 < (turn t).length := by omega
          have hl2 : (turn t).length ≤ 200 := by omega
          have hh2 : ((turn t).headD []).length ≤ 40 := by rw [head_turn hpos, column_len]; omega
          have HTT := Lib.hid (turn_turn HE.out hpos)
          have HET := Lib.hid (even_turn t)
          clear htl hz ho2 hk2
          have u12 := ho12.tbl (Nat.le_refl _)
          clear ho12
          generalize turn t = u at *
          go_wp2_with (fail)
          refine HS.out.mono ?_
          rintro e w3 ⟨rfl, m3, rfl⟩
          go_wp2_with (fail)
          refine (turn_c _ u w2.heap.size _ (u12.drewN m3) HET.out hpos (Nat.le_refl _) (by omega) (by omega)).mono ?_
          rintro e w4 ⟨v4, vs4, rfl, ho4, hk4⟩
          rw [HTT.out] at ho4
          have b4 : Below w.heap.size w w4 := b2.trans ((below_of_drewN _ w2 m3).trans (hk4.below b2.size (by simp)))
          have HS4 := Lib.hid (sameTable_c _ _ t t w4.heap.size w.heap.size w4 (ho4.tbl (Nat.le_refl _)) (ht'.below b4 (Nat.le_refl _)))
          rw [decide_eq_true rfl] at HS4
          obtain ⟨A4, c4, hv4, _⟩ := ho4.2.1.form
          subst hv4
          clear ho4 hk4 u12
          go_wp2_with (fail)
          refine HS4.out.mono ?_
          rintro e w5 ⟨rfl, m5, rfl⟩
          go_wp2_with (fail)
          refine (HA.out _).mono ?_
          rintro e w6 ⟨rfl, hbel⟩
          go_wp2_with (fail)
          go_ret
          exact ⟨rfl, b4.trans ((below_of_drewN _ w4 m5).trans (hbel.mono b4.size))⟩
  · go_wp2_with (fail)
    refine (HA.out _).mono ?_
    rintro e w4 ⟨rfl, hbel⟩
    go_wp2_with (fail)
    go_ret
    exact ⟨rfl, (below_of_drewN _ w m).trans hbel⟩
set_option maxRecDepth 100000 in
theorem lifted (os : Os) (started : os.Started) (H : Type) (enc : TypeId × Value → H) :
    ReturnsInHanded {} Try.checked os 3 .any (Rows.tableTurnsSpec.pre6 enc Try.prog Try.f3 Rows.tableTurnsRow.domain false) (Rows.tableTurnsSpec.post enc Try.prog Try.f3 false true false false) := by
  refine returnsInHanded_of_change_sized (C := Try.checked) own started (by kernel_rfl) Try.func3
    (ChangeSpec.witness6 (enc := enc) (C := Try.checked) false ⟨#[], #[.slice none 0 0], []⟩ 8 (by kernel_rfl) (by kernel_rfl) (by kernel_rfl) (by kernel_rfl)) ?_
  intro W base args ds gs before hval0 hW hcnd hsz0 _
  have hval : ∀ (j : Nat) t v, Try.f3.params[j]? = some t → args[j]? = some v → Value.okWide Try.prog W .any base t v := hval0
  have hW' := hW
  obtain ⟨p, q, hA0, hV, rfl, hfz, hnd⟩ := hW
  have hA : DataW.TrodAll enc Try.prog W 0 (fun _ => true) true Try.f3.params.toList args.toList ds p := hA0
  have hsz : (DataW.weightsEach Try.prog (Try.f3.params.toList ++ Rows.tableTurnsSpec.plain.varTypes Try.prog) (ds ++ gs)).all (· ≤ reachBytes) = true := hsz0
  rw [Try.params3] at hA hval hsz
  obtain ⟨v0, vs0, d0, ds0, p0, q0, hargs, rfl, rfl, k0, r0⟩ := trodAll_cons hA
  obtain ⟨rfl, rfl, rfl⟩ := trodAll_nil r0
  obtain rfl : args = #[v0] := by cases args; simp_all
  obtain ⟨rfl, rfl⟩ := trodVars_none hV
  have lt0 := Trod_lt k0
  obtain ⟨tb0, rd0, hs0⟩ := Trod_tbl Try.underlying22 (by kernel_rfl) (of_decide_eq_true (by kernel_rfl)) Try.underlying33 Try.underlying9 (by kernel_rfl) (of_decide_eq_true (by kernel_rfl)) (hval 0 22 v0 rfl rfl) k0 (wt_of hsz (j := 0) rfl rfl)
  clear hA0 hval0 hsz0
  refine (walk v0 tb0 W rd0 hs0).mono fun e W' ⟨he, bel⟩ => ?_
  subst he
  exact ⟨_, rfl, _, _, _, [], _, [], hW', trodAll_mk1 (shut_bool Try.underlying4 _), (trodAll_cons_mk (Below.trod laidOut (by kernel_rfl) (of_decide_eq_true (by kernel_rfl)) k0 bel lt0) trodAll_mk0), rfl, bel.frame _, fun h => by cases h⟩

theorem proved : Rows.TableTurnsSaid :=
  OpenClaim.holds_of_wide 3 Try.f3 rfl rfl rfl rfl rfl rfl rfl ⟨rfl, rfl, rfl, rfl, rfl⟩ rfl rfl rfl rfl rfl (by kernel_rfl) Try.func3 (by kernel_rfl)
    (of_decide_eq_true (by kernel_rfl)) (by unfold Func.isWrapper; first | (rw [if_pos (by decide +kernel)]; kernel_rfl) | (rw [if_neg (by decide +kernel)]; exact ⟨rfl, rfl⟩))
    (fun os started H enc _ => lifted os started H enc)
end Go.Proofs.Ytnbeebagblkkfaa.TableTurnsP
namespace Go.Proofs.Ytnbeebagblkkfaa
theorem tableTurns_holds : Rows.TableTurnsSaid := TableTurnsP.proved
#print axioms tableTurns_holds
end Go.Proofs.Ytnbeebagblkkfaa
