/- PROVED: for every slice events of events, FieldsWide(events) returns true. No condition. -/
import Derived.Test.YtogmcfljojobfaaRows
import Derived.Test.YtogmcfljojobfaaFldW
import Derived.Test.YtogmcfljojobfaaOpenE
namespace Go.Proofs.Ytogmcfljojobfaa.FieldsWideP
set_option linter.unusedVariables false
set_option linter.unusedSimpArgs false
open Go.ChangeShapes Go.WideShapes Go.ChangeAt Go.RowKit Q Mach Dia Scan Ref4 Limits Fld
attribute [local go_sem ↓] Go.wp_at_zero Go.wp_at_succ

theorem own : ownKnob Try.prog.godebug = none := by kernel_rfl
theorem laidOut : laidOutB Try.prog = true := by kernel_rfl

set_option maxHeartbeats 2000000 in
theorem walk (v : Value) (evs : List Ev) (w : World) (hv : Rd w w.heap.size 6 v evs.length (evs.flatMap evC)) : Calls Try.prog 4 #[v] w fun e w' => e = .returned (.bool true) ∧ Below w.heap.size w w' := by
  have HA := Lib.hid awake5_c
  have HN := Lib.hid (fun w => new1_c wide5 (by decide) (by decide) (by decide) w)
  obtain ⟨A, c, rfl, hn1, hx1⟩ := hv.form
  unfold maxLen at hx1
  go_enter Try.func4, Try.ntmps4
  go_wp2_with (fail)
  refine (HN.out _).mono ?_
  rintro r w1 ⟨g, rfl, hM1, k1⟩
  by_cases h2 : 150 < evs.length
  · have h2' : decide (150 < (evs.length : Int)) = true := by simp; omega
    clear hv
    go_wp2_with (fail)
    refine (HA.out _).mono ?_
    rintro e w2 ⟨rfl, k2⟩
    go_wp2_with (fail)
    go_ret
    exact ⟨rfl, (k1.trans k2 (by simp)).below (Nat.le_refl _) (by simp)⟩
  have h2' : decide (150 < (evs.length : Int)) = false := by simp; omega
  have hB1 := k1.below (B := w.heap.size) (Nat.le_refl _) (by simp)
  have hU0 := upto0 wide5
  clear k1
  go_wp2_with (fail)
  go_loopw [37] (fun i wr => ∃ (k : Nat) (m : Mk), k ≤ evs.length ∧ i = .int .i64 k ∧ Upto k wide5 m ∧ m.stopped = 0 ∧ Mk1 wr w.heap.size g m ∧ Below w.heap.size w wr) (fun i _ => evs.length - (intOf i).toNat)
  case atStart => exact ⟨0, mk0 wide5, Nat.zero_le _, rfl, hU0, rfl, hM1, hB1⟩
  case round =>
    obtain ⟨k, m, hk, rfl, hU, hs, hM, hB⟩ := hrel
    have HS := Lib.hid hs
    clear hM1 hB1 hU0 hs
    by_cases hlt : k < evs.length
    · obtain ⟨b1, o1, rfl, hb1, hc1⟩ := ev_cells (hv.below hB (Nat.le_refl _)) k hlt
      have hk0 : (0 : Int) ≤ (k : Int) := by omega
      have hkl : (k : Int) < (evs.length : Int) := by omega
      generalize evs[k] = ev at hc1
      have p0 := hc1 0 _ rfl
      have p1 := hc1 1 _ rfl
      have p2 := hc1 2 _ rfl
      have p3 := hc1 3 _ rfl
      have p4 := hc1 4 _ rfl
      have p5 := hc1 5 _ rfl
      rw [Nat.add_zero] at p0
      have kA : Keeps [] wr (wr.alloc (.cells #[.bool ev.beg, .bool ev.add, .bool ev.fld, .bool ev.lin, .bool ev.rcd, bv ev.b] 38)) := Keeps.alloc [] wr _
      have HT := Lib.hid (take1_c w.heap.size g m ev _ (hM.keep kA) (hU.fine (by omega) (by decide) (by decide) (by decide)))
      have HW := Lib.hid (wide_take hU (by omega) HS.out ev)
      have HU := Lib.hid (hU.take ev)
      have hB2 := hB.trans (kA.below (B := w.heap.size) hB.size (by simp))
      clear hc1 hU hM HS hB kA
      generalize hT : take m ev = T at *
      go_wp2_with (fail)
      refine HT.out.mono ?_
      unfold TakeP
      rw [hT]
      rintro r w3 ⟨v3, rfl, _, _, hM3, hB3⟩
      obtain ⟨hs3, he3⟩ := HW.out
      obtain ⟨m', o, kd⟩ := T
      simp only at hs3 he3 hM3
      subst he3
      have hM3 := hM3 w3 (Keeps.refl _ _)
      have HS3 := Lib.hid hs3
      clear hs3 HW HT hT p0 p1 p2 p3 p4 p5
      go_wp2_with (fail)
      exact ⟨⟨k + 1, m', by omega, by go_num, HU.out, HS3.out, hM3, hB2.trans hB3⟩, by simp [intOf]; omega⟩
    · obtain rfl : k = evs.length := by omega
      have hkl : ¬ ((evs.length : Int) < (evs.length : Int)) := by omega
      have HT := Lib.hid (stopped1_c w.heap.size g m wr hM)
      rw [HS.out] at HT
      clear hv hU hM HS
      go_wp2_with (fail)
      refine HT.out.mono ?_
      rintro e w4 ⟨rfl, rfl⟩
      go_wp2_with (fail)
      refine (HA.out _).mono ?_
      rintro e w5 ⟨rfl, k5⟩
      go_wp2_with (fail)
      go_ret
      exact ⟨rfl, hB.trans (k5.below (B := w.heap.size) hB.size (by simp))⟩
set_option maxRecDepth 100000 in
theorem lifted (os : Os) (started : os.Started) (H : Type) (enc : TypeId × Value → H) :
    ReturnsInHanded {} Try.checked os 4 .any (Rows.fieldsWideSpec.pre6 enc Try.prog Try.f4 Rows.fieldsWideRow.domain false) (Rows.fieldsWideSpec.post enc Try.prog Try.f4 false true false false) := by
  refine returnsInHanded_of_change_sized (C := Try.checked) own started (by kernel_rfl) Try.func4
    (ChangeSpec.witness6 (enc := enc) (C := Try.checked) false ⟨#[], #[.slice none 0 0], []⟩ 8 (by kernel_rfl) (by kernel_rfl) (by kernel_rfl) (by kernel_rfl)) ?_
  intro W base args ds gs before hval0 hW hcnd hsz0 _
  have hval : ∀ (j : Nat) t v, Try.f4.params[j]? = some t → args[j]? = some v → Value.okWide Try.prog W .any base t v := hval0
  have hW' := hW
  obtain ⟨p, q, hA0, hV, rfl, hfz, hnd⟩ := hW
  have hA : DataW.TrodAll enc Try.prog W 0 (fun _ => true) true Try.f4.params.toList args.toList ds p := hA0
  have hsz : (DataW.weightsEach Try.prog (Try.f4.params.toList ++ Rows.fieldsWideSpec.plain.varTypes Try.prog) (ds ++ gs)).all (· ≤ reachBytes) = true := hsz0
  rw [Try.params4] at hA hval hsz
  obtain ⟨v0, vs0, d0, ds0, p0, q0, hargs, rfl, rfl, k0, r0⟩ := trodAll_cons hA
  obtain ⟨rfl, rfl, rfl⟩ := trodAll_nil r0
  obtain rfl : args = #[v0] := by cases args; simp_all
  obtain ⟨rfl, rfl⟩ := trodVars_none hV
  have lt0 := Trod_lt k0
  obtain ⟨ev0, rd0⟩ := Trod_events Try.underlying22 (by kernel_rfl) Try.underlying38 (by kernel_rfl) Try.underlying4 Try.underlying4 Try.underlying4 Try.underlying4 Try.underlying4 Try.underlying5 (hval 0 22 v0 rfl rfl) k0
  clear hA0 hval0 hsz0
  refine (walk _ ev0 W rd0).mono fun e W' ⟨he, bel⟩ => ?_
  subst he
  exact ⟨_, rfl, _, _, _, [], _, [], hW', trodAll_mk1 (shut_bool Try.underlying4 _), (trodAll_cons_mk (Below.trod laidOut (by kernel_rfl) (of_decide_eq_true (by kernel_rfl)) k0 bel lt0) trodAll_mk0), rfl, bel.frame _, fun h => by cases h⟩

theorem proved : Rows.FieldsWideSaid :=
  OpenClaim.holds_of_wide 4 Try.f4 rfl rfl rfl rfl rfl rfl rfl ⟨rfl, rfl, rfl, rfl, rfl⟩ rfl rfl rfl rfl rfl (by kernel_rfl) Try.func4 (by kernel_rfl)
    (of_decide_eq_true (by kernel_rfl)) (by unfold Func.isWrapper; first | (rw [if_pos (by decide +kernel)]; kernel_rfl) | (rw [if_neg (by decide +kernel)]; exact ⟨rfl, rfl⟩))
    (fun os started H enc _ => lifted os started H enc)
end Go.Proofs.Ytogmcfljojobfaa.FieldsWideP
namespace Go.Proofs.Ytogmcfljojobfaa
theorem fieldsWide_holds : Rows.FieldsWideSaid := FieldsWideP.proved
#print axioms fieldsWide_holds
end Go.Proofs.Ytogmcfljojobfaa
