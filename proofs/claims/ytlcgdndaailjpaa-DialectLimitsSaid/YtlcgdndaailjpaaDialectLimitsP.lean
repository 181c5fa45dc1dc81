/- PROVED: for all limits l, DialectLimits(l) returns true and leaves its argument as it was. No condition. -/
import Derived.Test.YtlcgdndaailjpaaRows
import Derived.Test.YtlcgdndaailjpaaDia3
import Derived.Test.YtlcgdndaailjpaaOpenD
namespace Go.Proofs.Ytlcgdndaailjpaa.DialectLimitsP
set_option linter.unusedVariables false
set_option linter.unusedSimpArgs false
open Go.ChangeShapes Go.WideShapes Go.ChangeAt Go.RowKit Q Mach Dia Limits

theorem own : ownKnob Try.prog.godebug = none := by kernel_rfl
theorem laidOut : laidOutB Try.prog = true := by kernel_rfl
theorem wide_ok : limOk 2147483648 2147483648 2147483648 = true := by rw [limOk_iff]; omega
theorem wide_eq (w : World) : (binOp .eql 37 (limV 2147483648 2147483648 2147483648 false) (limV 2147483648 2147483648 2147483648 false)).run Try.prog w = .ok (.bool true) w := by kernel_rfl

set_option maxHeartbeats 2000000 in
theorem walk (a b c : Int) (u : Bool) (w : World) : Calls Try.prog 4 #[limV a b c u] w fun e w' => e = .returned (.bool true) ∧ Below w.heap.size w w' := by
  have HR := Lib.hid (fun w => refLimits_c a b c u w)
  have HF := Lib.hid (fun w => Limits.rfits_c a b c (if u then 1 else 0) w)
  have HC := Lib.hid (fun w => checkLimits_c a b c u w)
  have HW := Lib.hid wide_c
  have HCW := Lib.hid (fun w => checkLimits_c 2147483648 2147483648 2147483648 false w)
  rw [wide_ok] at HCW
  simp only [if_true] at HCW
  have HA := Lib.hid awake_c
  have hweq := wide_eq
  have kp : Keeps [] w (w.alloc (.cells #[.int .i64 a, .int .i64 b, .int .i64 c, .bool u] 37)) := Keeps.alloc [] w _
  have hbx := Blk.new w 37 [.int .i64 a, .int .i64 b, .int .i64 c, .bool u]
  generalize limOk a b c = ok at *
  cases ok
  all_goals
    simp only [if_true, if_false, Bool.false_eq_true] at HC
    go_enter Try.func4, Try.ntmps4
    go_wp2_with (fail)
    refine (HR.out _).mono ?_
    rintro e w1 ⟨rfl, k1⟩
    go_wp2_with (fail)
    refine (HF.out _).mono ?_
    rintro e w2 ⟨rfl, k2⟩
    go_wp2_with (fail)
    refine (HW.out _).mono ?_
    rintro e w3 ⟨rfl, k3⟩
    have hb3 := ((hbx.keep k1 (by simp)).keep k2 (by simp)).keep k3 (by simp)
    have kk : Keeps [] w w3 := ((kp.trans k1 (by simp)).trans k2 (by simp)).trans k3 (by simp)
    have hb4 := hb3.alloc (.cells #[.int .i64 2147483648, .int .i64 2147483648, .int .i64 2147483648, .bool false] 37)
    have hb5 := Blk.new w3 37 [.int .i64 2147483648, .int .i64 2147483648, .int .i64 2147483648, .bool false]
    have d0 := hb4.cell 0
    have d1 := hb4.cell 1
    have d2 := hb4.cell 2
    have d3 := hb4.cell 3
    simp only [List.getElem?_cons_zero, List.getElem?_cons_succ] at d0 d1 d2 d3
    clear k1 k2 k3 hb3 hbx kp
    go_wp2_with (fail)
    refine (HC.out _).mono ?_
    rintro e w4 ⟨rfl, k4⟩
    have hb6 := hb5.keep k4 (by simp)
    have e0 := hb6.cell 0
    have e1 := hb6.cell 1
    have e2 := hb6.cell 2
    have e3 := hb6.cell 3
    simp only [List.getElem?_cons_zero, List.getElem?_cons_succ] at e0 e1 e2 e3
    go_wp2_with (fail)
    refine (HCW.out _).mono ?_
    rintro e w5 ⟨rfl, k5⟩
    go_wp2_with (fail)
    refine (HA.out _).mono ?_
    rintro e w6 ⟨rfl, k6⟩
    go_wp2_with (fail)
    go_ret
    exact ⟨rfl, ((((kk.alloc1 _).trans k4 (by simp)).trans k5 (by simp)).trans k6 (by simp)).below (Nat.le_refl _) (by simp)⟩
set_option maxRecDepth 100000 in
theorem lifted (os : Os) (started : os.Started) (H : Type) (enc : TypeId × Value → H) :
    ReturnsInHanded {} Try.checked os 4 .any (Rows.dialectLimitsSpec.pre6 enc Try.prog Try.f4 Rows.dialectLimitsRow.domain false) (Rows.dialectLimitsSpec.post enc Try.prog Try.f4 false true false false) := by
  refine returnsInHanded_of_change_sized (C := Try.checked) own started (by kernel_rfl) Try.func4
    (ChangeSpec.witness6 (enc := enc) (C := Try.checked) false ⟨#[], #[.agg #[.int .i64 0, .int .i64 0, .int .i64 0, .bool false]], []⟩ 8 (by kernel_rfl) (by kernel_rfl) (by kernel_rfl) (by kernel_rfl)) ?_
  intro W base args ds gs before hval0 hW hcnd hsz0 _
  have hval : ∀ (j : Nat) t v, Try.f4.params[j]? = some t → args[j]? = some v → Value.okWide Try.prog W .any base t v := hval0
  have hW' := hW
  obtain ⟨p, q, hA0, hV, rfl, hfz, hnd⟩ := hW
  have hA : DataW.TrodAll enc Try.prog W 0 (fun _ => true) true Try.f4.params.toList args.toList ds p := hA0
  have hsz : (DataW.weightsEach Try.prog (Try.f4.params.toList ++ Rows.dialectLimitsSpec.plain.varTypes Try.prog) (ds ++ gs)).all (· ≤ reachBytes) = true := hsz0
  rw [Try.params4] at hA hval hsz
  obtain ⟨v0, vs0, d0, ds0, p0, q0, hargs, rfl, rfl, k0, r0⟩ := trodAll_cons hA
  obtain ⟨rfl, rfl, rfl⟩ := trodAll_nil r0
  obtain rfl : args = #[v0] := by cases args; simp_all
  obtain ⟨rfl, rfl⟩ := trodVars_none hV
  have lt0 := Trod_lt k0
  obtain ⟨la0, lb0, lc0, lu0, rfl, hla0, hlb0, hlc0⟩ := Trod_limits Try.underlying37 (by kernel_rfl) (by kernel_rfl) Try.underlying3 Try.underlying3 Try.underlying3 Try.underlying4 (hval 0 37 v0 rfl rfl) k0
  clear hA0 hval0 hsz0
  refine (walk la0 lb0 lc0 lu0 W).mono fun e W' ⟨he, bel⟩ => ?_
  subst he
  exact ⟨_, rfl, _, _, _, [], _, [], hW', trodAll_mk1 (shut_bool Try.underlying4 _), (trodAll_cons_mk (Below.trod laidOut (by kernel_rfl) (of_decide_eq_true (by kernel_rfl)) k0 bel lt0) trodAll_mk0), rfl, bel.frame _, fun h => by cases h⟩

theorem proved : Rows.DialectLimitsSaid :=
  OpenClaim.holds_of_wide 4 Try.f4 rfl rfl rfl rfl rfl rfl rfl ⟨rfl, rfl, rfl, rfl, rfl⟩ rfl rfl rfl rfl rfl (by kernel_rfl) Try.func4 (by kernel_rfl)
    (of_decide_eq_true (by kernel_rfl)) (by unfold Func.isWrapper; first | (rw [if_pos (by decide +kernel)]; kernel_rfl) | (rw [if_neg (by decide +kernel)]; exact ⟨rfl, rfl⟩))
    (fun os started H enc _ => lifted os started H enc)
end Go.Proofs.Ytlcgdndaailjpaa.DialectLimitsP
namespace Go.Proofs.Ytlcgdndaailjpaa
theorem dialectLimits_holds : Rows.DialectLimitsSaid := DialectLimitsP.proved
#print axioms dialectLimits_holds
end Go.Proofs.Ytlcgdndaailjpaa
