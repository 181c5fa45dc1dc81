/- PROVED: for every dialect d, string f and byte where, NeedTells(d, f, where) returns true and leaves its arguments as they were. No condition. -/
import Derived.Test.YtpbmengaaagbkaaRows
import Derived.Test.YtpbmengaaagbkaaNeed2
import Derived.Test.YtpbmengaaagbkaaOpenD
namespace Go.Proofs.Ytpbmengaaagbkaa.NeedTellsP
set_option linter.unusedVariables false
set_option linter.unusedSimpArgs false
open Go.ChangeShapes Go.WideShapes Go.ChangeAt Go.RowKit Q Mach Dia Bom Need

theorem own : ownKnob Try.prog.godebug = none := by kernel_rfl
theorem laidOut : laidOutB Try.prog = true := by kernel_rfl

set_option maxHeartbeats 2000000 in
theorem walk (d : Dia) (f : Bs) (hf : f.length ≤ reachBytes) (b : UInt8) (w : World) : Calls Try.prog 3 #[diaV d, sv f, bv b] w fun e w' => e = .returned (.bool true) ∧ Below w.heap.size w w' := by
  unfold reachBytes at hf
  have hfm : f.length ≤ maxLen := by simp only [maxLen]; omega
  have HA := Lib.hid awake_c
  have HR := Lib.hid (fun w => ref_c d w)
  have HRR := Lib.hid (fun w => right_c d w)
  have kp : Keeps [] w (w.alloc (.cells #[bv d.delim, bv d.quote, .int .i64 d.fin] 23)) := Keeps.alloc [] w _
  have hbx := Blk.new w 23 [bv d.delim, bv d.quote, .int .i64 d.fin]
  by_cases h2 : 200 < f.length
  · obtain ⟨x, y, z⟩ := d
    go_enter Try.func3, Try.ntmps3
    go_wp2_with (fail)
    refine (HA.out _).mono ?_
    rintro e w1 ⟨rfl, k1⟩
    go_wp2_with (fail)
    go_ret
    exact ⟨rfl, (kp.trans k1 (by simp)).below (Nat.le_refl _) (by simp)⟩
  · have h2' : decide (200 < (f.length : Int)) = false := by simp; omega
    have c0 := hbx.cell 0
    have c1 := hbx.cell 1
    have c2 := hbx.cell 2
    simp only [List.getElem?_cons_zero, List.getElem?_cons_succ] at c0 c1 c2
    obtain ⟨al, hal⟩ : ∃ al, (bits .and .u8 (b.toNat : Int) 1 == 1) = al := ⟨_, rfl⟩
    obtain ⟨fi, hfi⟩ : ∃ fi, (bits .and .u8 (b.toNat : Int) 2 == 2) = fi := ⟨_, rfl⟩
    have HW := Lib.hid (fun w => why_c d f al fi hfm w)
    have HN := Lib.hid (fun w => need_c d f al fi hfm w)
    have HRW := Lib.hid (fun w => rwhy_c d f al fi (if al then 1 else 0) (if fi then 1 else 0) (by cases al <;> rfl) (by cases fi <;> rfl) hfm w)
    have HO := Lib.hid one_c
    cases hr : d.right
    · rw [hr] at HRR
      clear hr
      obtain ⟨x, y, z⟩ := d
      go_enter Try.func3, Try.ntmps3
      go_wp2_with (fail)
      refine (HR.out _).mono ?_
      rintro e w1 ⟨rfl, k1⟩
      go_wp2_with (fail)
      refine (HRR.out _).mono ?_
      rintro e w2 ⟨rfl, k2⟩
      go_wp2_with (fail)
      refine (HA.out _).mono ?_
      rintro e w3 ⟨rfl, k3⟩
      go_wp2_with (fail)
      go_ret
      exact ⟨rfl, (((kp.trans k1 (by simp)).trans k2 (by simp)).trans k3 (by simp)).below (Nat.le_refl _) (by simp)⟩
    · rw [hr] at HRR
      clear hr
      generalize whyB d f al fi = n at *
      have hnn : ((n : Int) == (n : Int)) = true := by simp
      have hbb : ((n : Int) != 0) = (n != 0) := by
        cases n with
        | zero => rfl
        | succ n => simp; omega
      obtain ⟨q, hq⟩ : ∃ q, (n != 0) = q := ⟨_, rfl⟩
      rw [hq] at hbb HN
      clear hq
      obtain ⟨x, y, z⟩ := d
      cases al <;> cases fi <;> cases q
      all_goals
        simp only [if_true, if_false, Bool.false_eq_true] at HRW
        go_enter Try.func3, Try.ntmps3
        go_wp2_with (fail)
        refine (HR.out _).mono ?_
        rintro e w1 ⟨rfl, k1⟩
        have hb1 := hbx.keep k1 (by simp)
        go_wp2_with (fail)
        refine (HRR.out _).mono ?_
        rintro e w2 ⟨rfl, k2⟩
        have hb2 := hb1.keep k2 (by simp)
        have kk := (kp.trans k1 (by simp)).trans k2 (by simp)
        have d0 := hb2.cell 0
        have d1 := hb2.cell 1
        have d2 := hb2.cell 2
        simp only [List.getElem?_cons_zero, List.getElem?_cons_succ] at d0 d1 d2
        go_wp2_with (fail)
        refine (HR.out _).mono ?_
        rintro e w3 ⟨rfl, k3⟩
        go_wp2_with (fail)
        refine (HO.out _ _).mono ?_
        rintro e w4 ⟨rfl, k4⟩
        go_wp2_with (fail)
        refine (HO.out _ _).mono ?_
        rintro e w5 ⟨rfl, k5⟩
        go_wp2_with (fail)
        refine (HRW.out _).mono ?_
        rintro e w6 ⟨rfl, k6⟩
        have hb6 := (((hb2.keep k3 (by simp)).keep k4 (by simp)).keep k5 (by simp)).keep k6 (by simp)
        have kk6 := (((kk.trans k3 (by simp)).trans k4 (by simp)).trans k5 (by simp)).trans k6 (by simp)
        have e0 := hb6.cell 0
        have e1 := hb6.cell 1
        have e2 := hb6.cell 2
        simp only [List.getElem?_cons_zero, List.getElem?_cons_succ] at e0 e1 e2
        clear d0 d1 d2 k3 k4 k5 k6 hb2 kk
        go_wp2_with (fail)
        refine (HW.out _).mono ?_
        rintro e w7 ⟨rfl, k7⟩
        have hb7 := hb6.keep k7 (by simp)
        have f0 := hb7.cell 0
        have f1 := hb7.cell 1
        have f2 := hb7.cell 2
        simp only [List.getElem?_cons_zero, List.getElem?_cons_succ] at f0 f1 f2
        go_wp2_with (fail)
        refine (HN.out _).mono ?_
        rintro e w8 ⟨rfl, k8⟩
        go_wp2_with (fail)
        refine (HA.out _).mono ?_
        rintro e w9 ⟨rfl, k9⟩
        go_wp2_with (fail)
        go_ret
        exact ⟨rfl, (((kk6.trans k7 (by simp)).trans k8 (by simp)).trans k9 (by simp)).below (Nat.le_refl _) (by simp)⟩
set_option maxRecDepth 100000 in
theorem lifted (os : Os) (started : os.Started) (H : Type) (enc : TypeId × Value → H) :
    ReturnsInHanded {} Try.checked os 3 .any (Rows.needTellsSpec.pre6 enc Try.prog Try.f3 Rows.needTellsRow.domain false) (Rows.needTellsSpec.post enc Try.prog Try.f3 false true false false) := by
  refine returnsInHanded_of_change_sized (C := Try.checked) own started (by kernel_rfl) Try.func3
    (ChangeSpec.witness6 (enc := enc) (C := Try.checked) false ⟨#[], #[.agg #[.int .u8 0, .int .u8 0, .int .i64 0], .string .empty, .int .u8 0], []⟩ 8 (by kernel_rfl) (by kernel_rfl) (by kernel_rfl) (by kernel_rfl)) ?_
  intro W base args ds gs before hval0 hW hcnd hsz0 _
  have hval : ∀ (j : Nat) t v, Try.f3.params[j]? = some t → args[j]? = some v → Value.okWide Try.prog W .any base t v := hval0
  have hW' := hW
  obtain ⟨p, q, hA0, hV, rfl, hfz, hnd⟩ := hW
  have hA : DataW.TrodAll enc Try.prog W 0 (fun _ => true) true Try.f3.params.toList args.toList ds p := hA0
  have hsz : (DataW.weightsEach Try.prog (Try.f3.params.toList ++ Rows.needTellsSpec.plain.varTypes Try.prog) (ds ++ gs)).all (· ≤ reachBytes) = true := hsz0
  rw [Try.params3] at hA hval hsz
  obtain ⟨v0, vs0, d0, ds0, p0, q0, hargs, rfl, rfl, k0, r0⟩ := trodAll_cons hA
  obtain ⟨v1, vs1, d1, ds1, p1, q1, rfl, rfl, rfl, k1, r1⟩ := trodAll_cons r0
  obtain ⟨v2, vs2, d2, ds2, p2, q2, rfl, rfl, rfl, k2, r2⟩ := trodAll_cons r1
  obtain ⟨rfl, rfl, rfl⟩ := trodAll_nil r2
  obtain rfl : args = #[v0, v1, v2] := by cases args; simp_all
  obtain ⟨rfl, rfl⟩ := trodVars_none hV
  have lt0 := Trod_lt k0
  have lt1 := Trod_lt k1
  have lt2 := Trod_lt k2
  obtain ⟨x0, y0, z0, rfl, hz0⟩ := Trod_dialect Try.underlying23 (by kernel_rfl) (by kernel_rfl) Try.underlying5 Try.underlying5 Try.underlying3 (hval 0 23 v0 rfl rfl) k0
  obtain ⟨l1, rfl, hl1⟩ := Trod_str Try.underlying9 (hval 1 9 v1 rfl rfl) k1 (wt_of hsz (j := 1) rfl rfl)
  obtain ⟨b2, rfl⟩ := Trod_u8 Try.underlying5 (hval 2 5 v2 rfl rfl) k2
  clear hA0 hval0 hsz0
  refine (walk ⟨x0, y0, z0⟩ l1 hl1 b2 W).mono fun e W' ⟨he, bel⟩ => ?_
  subst he
  exact ⟨_, rfl, _, _, _, [], _, [], hW', trodAll_mk1 (shut_bool Try.underlying4 _), (trodAll_cons_mk (Below.trod laidOut (by kernel_rfl) (of_decide_eq_true (by kernel_rfl)) k0 bel lt0) (trodAll_cons_mk (Below.trod laidOut (by kernel_rfl) (of_decide_eq_true (by kernel_rfl)) k1 bel lt1) (trodAll_cons_mk (Below.trod laidOut (by kernel_rfl) (of_decide_eq_true (by kernel_rfl)) k2 bel lt2) trodAll_mk0))), rfl, bel.frame _, fun h => by cases h⟩

theorem proved : Rows.NeedTellsSaid :=
  OpenClaim.holds_of_wide 3 Try.f3 rfl rfl rfl rfl rfl rfl rfl ⟨rfl, rfl, rfl, rfl, rfl⟩ rfl rfl rfl rfl rfl (by kernel_rfl) Try.func3 (by kernel_rfl)
    (of_decide_eq_true (by kernel_rfl)) (by unfold Func.isWrapper; first | (rw [if_pos (by decide +kernel)]; kernel_rfl) | (rw [if_neg (by decide +kernel)]; exact ⟨rfl, rfl⟩))
    (fun os started H enc _ => lifted os started H enc)
end Go.Proofs.Ytpbmengaaagbkaa.NeedTellsP
namespace Go.Proofs.Ytpbmengaaagbkaa
theorem needTells_holds : Rows.NeedTellsSaid := NeedTellsP.proved
#print axioms needTells_holds
end Go.Proofs.Ytpbmengaaagbkaa
