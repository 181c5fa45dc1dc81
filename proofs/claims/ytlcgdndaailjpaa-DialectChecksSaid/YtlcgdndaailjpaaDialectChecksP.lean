/- PROVED: for every dialect d, DialectChecks(d) returns true and leaves its argument as it was. No condition. -/
import Derived.Test.YtlcgdndaailjpaaRows
import Derived.Test.YtlcgdndaailjpaaDia3
import Derived.Test.YtlcgdndaailjpaaOpenD
namespace Go.Proofs.Ytlcgdndaailjpaa.DialectChecksP
set_option linter.unusedVariables false
set_option linter.unusedSimpArgs false
open Go.ChangeShapes Go.WideShapes Go.ChangeAt Go.RowKit Q Mach Dia Limits

theorem own : ownKnob Try.prog.godebug = none := by kernel_rfl
theorem laidOut : laidOutB Try.prog = true := by kernel_rfl

theorem rtext_eq (d : Dia) : rtextB d.delim.toNat d.quote.toNat d.fin = textB d := rfl
theorem right_fin {d : Dia} (h : d.right = true) : 1 ≤ d.fin ∧ d.fin ≤ 3 := by
  have : rightFin d.fin = true := by simp [Dia.right] at h; exact h.2
  simp [rightFin] at this
  omega
set_option maxHeartbeats 2000000 in
theorem walk (d : Dia) (w : World) : Calls Try.prog 3 #[diaV d] w fun e w' => e = .returned (.bool true) ∧ Below w.heap.size w w' := by
  have HT := Lib.hid (fun w => text_c d w)
  have HR := Lib.hid (fun w => ref_c d w)
  have HRR := Lib.hid (fun w => right_c d w)
  have HC := Lib.hid (fun w => check_c d w)
  have HE := Lib.hid (fun w => dend_c d w)
  have HRE := Lib.hid (fun w => rend_c d w)
  have HA := Lib.hid awake_c
  have kp : Keeps [] w (w.alloc (.cells #[bv d.delim, bv d.quote, .int .i64 d.fin] 23)) := Keeps.alloc [] w _
  have hbx := Blk.new w 23 [bv d.delim, bv d.quote, .int .i64 d.fin]
  unfold TextPost at HT
  cases hr : d.right
  · rw [hr] at HT HRR HC HE
    simp only [if_false, Bool.false_eq_true] at HT HC HE
    clear hr
    obtain ⟨x, y, z⟩ := d
    go_enter Try.func3, Try.ntmps3
    go_wp2_with (fail)
    refine (HT.out _).mono ?_
    rintro e w1 ⟨rfl, k1⟩
    have hb1 := hbx.keep k1 (by simp)
    have c0 := hb1.cell 0
    have c1 := hb1.cell 1
    have c2 := hb1.cell 2
    simp only [List.getElem?_cons_zero, List.getElem?_cons_succ] at c0 c1 c2
    go_wp2_with (fail)
    refine (HR.out _).mono ?_
    rintro e w2 ⟨rfl, k2⟩
    go_wp2_with (fail)
    refine (HRR.out _).mono ?_
    rintro e w3 ⟨rfl, k3⟩
    have hb3 := (hb1.keep k2 (by simp)).keep k3 (by simp)
    have d0 := hb3.cell 0
    have d1 := hb3.cell 1
    have d2 := hb3.cell 2
    simp only [List.getElem?_cons_zero, List.getElem?_cons_succ] at d0 d1 d2
    go_wp2_with (fail)
    refine (HC.out _).mono ?_
    rintro e w4 ⟨rfl, k4⟩
    have hb4 := hb3.keep k4 (by simp)
    have e0 := hb4.cell 0
    have e1 := hb4.cell 1
    have e2 := hb4.cell 2
    simp only [List.getElem?_cons_zero, List.getElem?_cons_succ] at e0 e1 e2
    go_wp2_with (fail)
    refine (HE.out _).mono ?_
    rintro e w5 ⟨rfl, k5⟩
    go_wp2_with (fail)
    refine (HA.out _).mono ?_
    rintro e w6 ⟨rfl, k6⟩
    go_wp2_with (fail)
    go_ret
    have kk := (((((kp.trans k1 (by simp)).trans k2 (by simp)).trans k3 (by simp)).trans k4 (by simp)).trans k5 (by simp)).trans k6 (by simp)
    exact ⟨rfl, kk.below (Nat.le_refl _) (by simp)⟩
  · have HRT := Lib.hid (fun w => rtext_c d.delim.toNat d.quote.toNat d.delim.toNat_lt d.quote.toNat_lt d.fin (right_fin hr) w)
    rw [hr] at HT HRR HC HE
    simp only [if_true] at HT HC HE
    rw [rtext_eq] at HRT
    generalize textB d = T at *
    generalize endB d.fin = E at *
    have hTT : (T == T) = true := by simp
    have hEE : (E == E) = true := by simp
    clear hr
    obtain ⟨x, y, z⟩ := d
    go_enter Try.func3, Try.ntmps3
    go_wp2_with (fail)
    refine (HT.out _).mono ?_
    rintro e w1 ⟨rfl, k1⟩
    have hb1 := hbx.keep k1 (by simp)
    have c0 := hb1.cell 0
    have c1 := hb1.cell 1
    have c2 := hb1.cell 2
    simp only [List.getElem?_cons_zero, List.getElem?_cons_succ] at c0 c1 c2
    go_wp2_with (fail)
    refine (HR.out _).mono ?_
    rintro e w2 ⟨rfl, k2⟩
    go_wp2_with (fail)
    refine (HRR.out _).mono ?_
    rintro e w3 ⟨rfl, k3⟩
    have hb3 := (hb1.keep k2 (by simp)).keep k3 (by simp)
    have kk : Keeps [] w w3 := ((kp.trans k1 (by simp)).trans k2 (by simp)).trans k3 (by simp)
    have d0 := hb3.cell 0
    have d1 := hb3.cell 1
    have d2 := hb3.cell 2
    simp only [List.getElem?_cons_zero, List.getElem?_cons_succ] at d0 d1 d2
    have hlt := hb3.lt
    clear c0 c1 c2 hb1 hb3 hbx k1 k2 k3 kp
    go_wp2_with (fail)
    go_region_held3 (fun w' => w'.cell? ⟨w.heap.size, 0, none⟩ = some (bv x) ∧ w'.cell? ⟨w.heap.size, 1, none⟩ = some (bv y) ∧ w'.cell? ⟨w.heap.size, 2, none⟩ = some (.int .i64 z) ∧ w.heap.size < w'.heap.size ∧ Keeps [] w w') (first | exact ⟨d0, d1, d2, hlt, kk.drew1⟩ | exact ⟨d0, d1, d2, hlt, kk⟩ | (go_split_ands; exact ⟨(hk.cell (p := ⟨w.heap.size, 0, none⟩) (by assumption) (by simp)).trans (by assumption), (hk.cell (p := ⟨w.heap.size, 1, none⟩) (by assumption) (by simp)).trans (by assumption), (hk.cell (p := ⟨w.heap.size, 2, none⟩) (by assumption) (by simp)).trans (by assumption), Nat.lt_of_lt_of_le (by assumption) hk.size, Keeps.trans (by assumption) hk (by simp)⟩)) (first | (go_at_call 10; refine (HC.out _).mono ?_; rintro e w' ⟨rfl, hk⟩) | (go_at_call 11; refine (HE.out _).mono ?_; rintro e w' ⟨rfl, hk⟩) | (go_at_call 9; refine (HR.out _).mono ?_; rintro e w' ⟨rfl, hk⟩) | (go_at_call 13; refine (HRE.out _).mono ?_; rintro e w' ⟨rfl, hk⟩) | (go_at_call 14; refine (HRT.out _).mono ?_; rintro e w' ⟨rfl, hk⟩) | (go_at_call 12; refine (HA.out _).mono ?_; rintro e w' ⟨rfl, hk⟩))
    all_goals
      go_wp2_with (fail)
      go_ret
      refine ⟨rfl, Keeps.below (F := []) ?_ (Nat.le_refl _) (by simp)⟩
      go_split_ands
      assumption
set_option maxRecDepth 100000 in
theorem lifted (os : Os) (started : os.Started) (H : Type) (enc : TypeId × Value → H) :
    ReturnsInHanded {} Try.checked os 3 .any (Rows.dialectChecksSpec.pre6 enc Try.prog Try.f3 Rows.dialectChecksRow.domain false) (Rows.dialectChecksSpec.post enc Try.prog Try.f3 false true false false) := by
  refine returnsInHanded_of_change_sized (C := Try.checked) own started (by kernel_rfl) Try.func3
    (ChangeSpec.witness6 (enc := enc) (C := Try.checked) false ⟨#[], #[.agg #[.int .u8 0, .int .u8 0, .int .i64 0]], []⟩ 8 (by kernel_rfl) (by kernel_rfl) (by kernel_rfl) (by kernel_rfl)) ?_
  intro W base args ds gs before hval0 hW hcnd hsz0 _
  have hval : ∀ (j : Nat) t v, Try.f3.params[j]? = some t → args[j]? = some v → Value.okWide Try.prog W .any base t v := hval0
  have hW' := hW
  obtain ⟨p, q, hA0, hV, rfl, hfz, hnd⟩ := hW
  have hA : DataW.TrodAll enc Try.prog W 0 (fun _ => true) true Try.f3.params.toList args.toList ds p := hA0
  have hsz : (DataW.weightsEach Try.prog (Try.f3.params.toList ++ Rows.dialectChecksSpec.plain.varTypes Try.prog) (ds ++ gs)).all (· ≤ reachBytes) = true := hsz0
  rw [Try.params3] at hA hval hsz
  obtain ⟨v0, vs0, d0, ds0, p0, q0, hargs, rfl, rfl, k0, r0⟩ := trodAll_cons hA
  obtain ⟨rfl, rfl, rfl⟩ := trodAll_nil r0
  obtain rfl : args = #[v0] := by cases args; simp_all
  obtain ⟨rfl, rfl⟩ := trodVars_none hV
  have lt0 := Trod_lt k0
  obtain ⟨x0, y0, z0, rfl, hz0⟩ := Trod_dialect Try.underlying23 (by kernel_rfl) (by kernel_rfl) Try.underlying5 Try.underlying5 Try.underlying3 (hval 0 23 v0 rfl rfl) k0
  clear hA0 hval0 hsz0
  refine (walk ⟨x0, y0, z0⟩ W).mono fun e W' ⟨he, bel⟩ => ?_
  subst he
  exact ⟨_, rfl, _, _, _, [], _, [], hW', trodAll_mk1 (shut_bool Try.underlying4 _), (trodAll_cons_mk (Below.trod laidOut (by kernel_rfl) (of_decide_eq_true (by kernel_rfl)) k0 bel lt0) trodAll_mk0), rfl, bel.frame _, fun h => by cases h⟩

theorem proved : Rows.DialectChecksSaid :=
  OpenClaim.holds_of_wide 3 Try.f3 rfl rfl rfl rfl rfl rfl rfl ⟨rfl, rfl, rfl, rfl, rfl⟩ rfl rfl rfl rfl rfl (by kernel_rfl) Try.func3 (by kernel_rfl)
    (of_decide_eq_true (by kernel_rfl)) (by unfold Func.isWrapper; first | (rw [if_pos (by decide +kernel)]; kernel_rfl) | (rw [if_neg (by decide +kernel)]; exact ⟨rfl, rfl⟩))
    (fun os started H enc _ => lifted os started H enc)
end Go.Proofs.Ytlcgdndaailjpaa.DialectChecksP
namespace Go.Proofs.Ytlcgdndaailjpaa
theorem dialectChecks_holds : Rows.DialectChecksSaid := DialectChecksP.proved
#print axioms dialectChecks_holds
end Go.Proofs.Ytlcgdndaailjpaa
