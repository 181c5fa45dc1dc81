/- PROVED: for every dialect d, byte state and byte b, ScanSteps(d, state, b) returns true. No condition. -/
import Derived.Test.YtogmcfljojobfaaRows
import Derived.Test.YtogmcfljojobfaaAwake4
import Derived.Test.YtogmcfljojobfaaRef4S
import Derived.Test.YtogmcfljojobfaaOpenD
namespace Go.Proofs.Ytogmcfljojobfaa.ScanStepsP
set_option linter.unusedVariables false
set_option linter.unusedSimpArgs false
open Go.ChangeShapes Go.WideShapes Go.ChangeAt Go.RowKit Q Mach Dia Scan Ref4 Eq_
attribute [local go_sem ↓] Go.wp_at_zero Go.wp_at_succ

theorem own : ownKnob Try.prog.godebug = none := by kernel_rfl
theorem laidOut : laidOutB Try.prog = true := by kernel_rfl
theorem mod7 (n : Nat) : ((n : Int) % 7) = ((n % 7 : Nat) : Int) := by omega

set_option maxHeartbeats 2000000 in
theorem walk (d : Dia) (sb b : UInt8) (w : World) : Calls Try.prog 6 #[diaV d, bv sb, bv b] w fun e w' => e = .returned (.bool true) ∧ Below w.heap.size w w' := by
  have hw := wrap_u8 sb
  have hwb := wrap_u8 b
  have hm := mod7 sb.toNat
  have hst : sb.toNat % 7 ≤ 6 := by omega
  have hst0 : 0 ≤ ((sb.toNat % 7 : Nat) : Int) := by omega
  generalize sb.toNat % 7 = st at *
  have HA := Lib.hid awake4_c
  have HR := Lib.hid (fun w => ref_c d w)
  have HRR := Lib.hid (fun w => right_c d w)
  have kp : Keeps [] w (w.alloc (.cells #[bv d.delim, bv d.quote, .int .i64 d.fin] 54)) := Keeps.alloc [] w _
  have hbx := Blk.new w 54 [bv d.delim, bv d.quote, .int .i64 d.fin]
  cases hr : d.right
  · rw [hr] at HRR
    clear hr
    obtain ⟨x, y, z⟩ := d
    go_enter Try.func6, Try.ntmps6
    go_wp2_with (fail)
    refine (HR.out _).mono ?_
    rintro e w1 ⟨rfl, k1⟩
    go_wp2_with (fail)
    refine (HRR.out _).mono ?_
    rintro e w2 ⟨rfl, k2⟩
    go_wp2_with (fail)
    refine (HA.out _).mono ?_
    rintro e w3 ⟨rfl, k3⟩
    go_wp2_with (fail)
    go_ret
    exact ⟨rfl, (((kp.trans k1 (by simp)).trans k2 (by simp)).trans k3 (by simp)).below (Nat.le_refl _) (by simp)⟩
  rw [hr] at HRR
  have hqd : mayPart d.quote = true ∧ mayPart d.delim = true := by
    unfold Dia.right at hr
    simp only [Bool.and_eq_true] at hr
    exact ⟨hr.1.1.2, hr.1.1.1⟩
  have HS := Lib.hid (fun w => step_c d st hst b w)
  have HT := Lib.hid (fun w => rstep_c d st hst b hqd.1 hqd.2 w)
  clear hr hqd
  obtain ⟨⟨⟨e1, e2, e3, e4, e5, e6⟩, n, r⟩, hX⟩ : ∃ X, Mach.step d st b = X := ⟨_, rfl⟩
  rw [hX] at HS HT
  clear hX
  simp only [stepV, rstepV] at HS HT
  have HL := Lib.hid (fun w => lref_c ⟨e1, e2, e3, e4, e5, e6⟩ w)
  have heq := fun w => eqREvent (Ref4.one e1) (Ref4.one e2) (Ref4.one e3) (Ref4.one e4) (Ref4.one e5) e6.toNat (Ref4.one e1) (Ref4.one e2) (Ref4.one e3) (Ref4.one e4) (Ref4.one e5) e6.toNat w
  simp only [beq_self_eq_true, Bool.and_self] at heq
  have hrr : ((r : Int) == (r : Int)) = true := by simp
  have hnn : ((n : Int) == (n : Int)) = true := by simp
  obtain ⟨x, y, z⟩ := d
  go_enter Try.func6, Try.ntmps6
  go_wp2_with (fail)
  refine (HR.out _).mono ?_
  rintro e v1 ⟨rfl, k1⟩
  go_wp2_with (fail)
  refine (HRR.out _).mono ?_
  rintro e v2 ⟨rfl, k2⟩
  have kk2 := (kp.trans k1 (by simp)).trans k2 (by simp)
  have hb2 := (hbx.keep k1 (by simp)).keep k2 (by simp)
  have d0 := hb2.cell_of (i := 0) rfl
  have d1 := hb2.cell_of (i := 1) rfl
  have d2 := hb2.cell_of (i := 2) rfl
  clear k1 k2 hbx kp
  go_wp2_with (fail)
  refine (HS.out _).mono ?_
  rintro e w1 ⟨rfl, k1⟩
  have kk3 := (kk2.trans k1 (by simp)).alloc1 (.cells #[.bool e1, .bool e2, .bool e3, .bool e4, .bool e5, bv e6] 38)
  have hb3 := (hb2.keep k1 (by simp)).alloc (.cells #[.bool e1, .bool e2, .bool e3, .bool e4, .bool e5, bv e6] 38)
  have he3 := Blk.new w1 38 [.bool e1, .bool e2, .bool e3, .bool e4, .bool e5, bv e6]
  have d0 := hb3.cell_of (i := 0) rfl
  have d1 := hb3.cell_of (i := 1) rfl
  have d2 := hb3.cell_of (i := 2) rfl
  clear hb2 kk2 k1 hb3
  have hbl := hwb
  go_wp2_with (fail)
  generalize w1.alloc (.cells #[.bool e1, .bool e2, .bool e3, .bool e4, .bool e5, bv e6] 38) = v4 at *
  refine (HR.out _).mono ?_
  rintro e v5 ⟨rfl, k5⟩
  go_wp2_with (fail)
  refine (HT.out _).mono ?_
  rintro e w2 ⟨rfl, k6⟩
  have hlt0 := he3.lt
  have hsz : w1.heap.size < w2.heap.size := by have := k5.size; have := k6.size; omega
  have hb := ((he3.keep k5 (by simp)).keep k6 (by simp)).alloc (.cells #[.int .i64 (Ref4.one e1), .int .i64 (Ref4.one e2), .int .i64 (Ref4.one e3), .int .i64 (Ref4.one e4), .int .i64 (Ref4.one e5), .int .i64 e6.toNat] 44)
  have hc := Blk.new w2 44 [.int .i64 (Ref4.one e1), .int .i64 (Ref4.one e2), .int .i64 (Ref4.one e3), .int .i64 (Ref4.one e4), .int .i64 (Ref4.one e5), .int .i64 e6.toNat]
  have kk := ((kk3.trans k5 (by simp)).trans k6 (by simp)).alloc1 (.cells #[.int .i64 (Ref4.one e1), .int .i64 (Ref4.one e2), .int .i64 (Ref4.one e3), .int .i64 (Ref4.one e4), .int .i64 (Ref4.one e5), .int .i64 e6.toNat] 44)
  have hlt2 := hc.lt
  have hlt1 := hb.lt
  clear he3 k5 k6 kk3 d0 d1 d2
  go_wp2_with (fail)
  generalize hW : w2.alloc (.cells #[.int .i64 (Ref4.one e1), .int .i64 (Ref4.one e2), .int .i64 (Ref4.one e3), .int .i64 (Ref4.one e4), .int .i64 (Ref4.one e5), .int .i64 e6.toNat] 44) = w3 at *
  change Blk w3 _ _ _ at hc
  change w2.heap.size < w3.heap.size at hlt2
  have b0 := hb.cell_of (i := 0) rfl
  have b1 := hb.cell_of (i := 1) rfl
  have b2 := hb.cell_of (i := 2) rfl
  have b3 := hb.cell_of (i := 3) rfl
  have b4 := hb.cell_of (i := 4) rfl
  have b5 := hb.cell_of (i := 5) rfl
  have c0 := hc.cell_of (i := 0) rfl
  have c1 := hc.cell_of (i := 1) rfl
  have c2 := hc.cell_of (i := 2) rfl
  have c3 := hc.cell_of (i := 3) rfl
  have c4 := hc.cell_of (i := 4) rfl
  have c5 := hc.cell_of (i := 5) rfl
  clear hb hc hW
  have HSS := fun w' (hb : Below (w3.heap.size) (w3) w') => ((⟨(hb.cell (p := ⟨w1.heap.size, 0, none⟩) (hlt1)).trans (b0), (hb.cell (p := ⟨w1.heap.size, 1, none⟩) (hlt1)).trans (b1), (hb.cell (p := ⟨w1.heap.size, 2, none⟩) (hlt1)).trans (b2), (hb.cell (p := ⟨w1.heap.size, 3, none⟩) (hlt1)).trans (b3), (hb.cell (p := ⟨w1.heap.size, 4, none⟩) (hlt1)).trans (b4), (hb.cell (p := ⟨w1.heap.size, 5, none⟩) (hlt1)).trans (b5), (hb.cell (p := ⟨w2.heap.size, 0, none⟩) (hlt2)).trans (c0), (hb.cell (p := ⟨w2.heap.size, 1, none⟩) (hlt2)).trans (c1), (hb.cell (p := ⟨w2.heap.size, 2, none⟩) (hlt2)).trans (c2), (hb.cell (p := ⟨w2.heap.size, 3, none⟩) (hlt2)).trans (c3), (hb.cell (p := ⟨w2.heap.size, 4, none⟩) (hlt2)).trans (c4), (hb.cell (p := ⟨w2.heap.size, 5, none⟩) (hlt2)).trans (c5), hb⟩) : w'.cell? ⟨w1.heap.size, 0, none⟩ = some (.bool e1) ∧ w'.cell? ⟨w1.heap.size, 1, none⟩ = some (.bool e2) ∧ w'.cell? ⟨w1.heap.size, 2, none⟩ = some (.bool e3) ∧ w'.cell? ⟨w1.heap.size, 3, none⟩ = some (.bool e4) ∧ w'.cell? ⟨w1.heap.size, 4, none⟩ = some (.bool e5) ∧ w'.cell? ⟨w1.heap.size, 5, none⟩ = some (bv e6) ∧ w'.cell? ⟨w2.heap.size, 0, none⟩ = some (.int .i64 (Ref4.one e1)) ∧ w'.cell? ⟨w2.heap.size, 1, none⟩ = some (.int .i64 (Ref4.one e2)) ∧ w'.cell? ⟨w2.heap.size, 2, none⟩ = some (.int .i64 (Ref4.one e3)) ∧ w'.cell? ⟨w2.heap.size, 3, none⟩ = some (.int .i64 (Ref4.one e4)) ∧ w'.cell? ⟨w2.heap.size, 4, none⟩ = some (.int .i64 (Ref4.one e5)) ∧ w'.cell? ⟨w2.heap.size, 5, none⟩ = some (.int .i64 e6.toNat) ∧ Below (w3.heap.size) (w3) w')
  have HSSb : w3.heap.size ≤ (w3).heap.size := Nat.le_refl _
  go_region_held3 (fun w' => w'.cell? ⟨w1.heap.size, 0, none⟩ = some (.bool e1) ∧ w'.cell? ⟨w1.heap.size, 1, none⟩ = some (.bool e2) ∧ w'.cell? ⟨w1.heap.size, 2, none⟩ = some (.bool e3) ∧ w'.cell? ⟨w1.heap.size, 3, none⟩ = some (.bool e4) ∧ w'.cell? ⟨w1.heap.size, 4, none⟩ = some (.bool e5) ∧ w'.cell? ⟨w1.heap.size, 5, none⟩ = some (bv e6) ∧ w'.cell? ⟨w2.heap.size, 0, none⟩ = some (.int .i64 (Ref4.one e1)) ∧ w'.cell? ⟨w2.heap.size, 1, none⟩ = some (.int .i64 (Ref4.one e2)) ∧ w'.cell? ⟨w2.heap.size, 2, none⟩ = some (.int .i64 (Ref4.one e3)) ∧ w'.cell? ⟨w2.heap.size, 3, none⟩ = some (.int .i64 (Ref4.one e4)) ∧ w'.cell? ⟨w2.heap.size, 4, none⟩ = some (.int .i64 (Ref4.one e5)) ∧ w'.cell? ⟨w2.heap.size, 5, none⟩ = some (.int .i64 e6.toNat) ∧ Below (w3.heap.size) (w3) w') (((try go_split_ands); (with_reducible apply HSS); first | (with_reducible assumption) | (with_reducible (apply bC HSSb k1; assumption)) | (with_reducible (apply bAA HSSl; assumption)) | (repeat (first | (with_reducible assumption) | (with_reducible apply Below.refl) | (with_reducible apply bS (hp := HSSb)) | (with_reducible apply bA HSSb) | (with_reducible apply bD))))) (first | ((go_at_call 15; refine (HL.out _).mono ?_; rintro e w4 ⟨rfl, k1⟩)) | ((go_at_call 23; refine (HA.out _).mono ?_; rintro e w4 ⟨rfl, k1⟩)))
  go_split_ands
  go_wp2_with (fail)
  go_ret
  exact ⟨rfl, (kk.below (Nat.le_refl _) (by simp)).trans ((by assumption : Below w3.heap.size w3 w4).mono kk.size)⟩
set_option maxRecDepth 100000 in
theorem lifted (os : Os) (started : os.Started) (H : Type) (enc : TypeId × Value → H) :
    ReturnsInHanded {} Try.checked os 6 .any (Rows.scanStepsSpec.pre6 enc Try.prog Try.f6 Rows.scanStepsRow.domain false) (Rows.scanStepsSpec.post enc Try.prog Try.f6 false true false false) := by
  refine returnsInHanded_of_change_sized (C := Try.checked) own started (by kernel_rfl) Try.func6
    (ChangeSpec.witness6 (enc := enc) (C := Try.checked) false ⟨#[], #[.agg #[.int .u8 0, .int .u8 0, .int .i64 0], .int .u8 0, .int .u8 0], []⟩ 8 (by kernel_rfl) (by kernel_rfl) (by kernel_rfl) (by kernel_rfl)) ?_
  intro W base args ds gs before hval0 hW hcnd hsz0 _
  have hval : ∀ (j : Nat) t v, Try.f6.params[j]? = some t → args[j]? = some v → Value.okWide Try.prog W .any base t v := hval0
  have hW' := hW
  obtain ⟨p, q, hA0, hV, rfl, hfz, hnd⟩ := hW
  have hA : DataW.TrodAll enc Try.prog W 0 (fun _ => true) true Try.f6.params.toList args.toList ds p := hA0
  have hsz : (DataW.weightsEach Try.prog (Try.f6.params.toList ++ Rows.scanStepsSpec.plain.varTypes Try.prog) (ds ++ gs)).all (· ≤ reachBytes) = true := hsz0
  rw [Try.params6] at hA hval hsz
  obtain ⟨v0, vs0, d0, ds0, p0, q0, hargs, rfl, rfl, k0, r0⟩ := trodAll_cons hA
  obtain ⟨v1, vs1, d1, ds1, p1, q1, rfl, rfl, rfl, k1, r1⟩ := trodAll_cons r0
  obtain ⟨v2, vs2, d2, ds2, p2, q2, rfl, rfl, rfl, k2, r2⟩ := trodAll_cons r1
  obtain ⟨rfl, rfl, rfl⟩ := trodAll_nil r2
  obtain rfl : args = #[v0, v1, v2] := by cases args; simp_all
  obtain ⟨rfl, rfl⟩ := trodVars_none hV
  have lt0 := Trod_lt k0
  have lt1 := Trod_lt k1
  have lt2 := Trod_lt k2
  obtain ⟨x0, y0, z0, rfl, hz0⟩ := Trod_dialect Try.underlying54 (by kernel_rfl) (by kernel_rfl) Try.underlying5 Try.underlying5 Try.underlying3 (hval 0 54 v0 rfl rfl) k0
  obtain ⟨b1, rfl⟩ := Trod_u8 Try.underlying5 (hval 1 5 v1 rfl rfl) k1
  obtain ⟨b2, rfl⟩ := Trod_u8 Try.underlying5 (hval 2 5 v2 rfl rfl) k2
  clear hA0 hval0 hsz0
  refine (walk ⟨x0, y0, z0⟩ b1 b2 W).mono fun e W' ⟨he, bel⟩ => ?_
  subst he
  exact ⟨_, rfl, _, _, _, [], _, [], hW', trodAll_mk1 (shut_bool Try.underlying4 _), (trodAll_cons_mk (Below.trod laidOut (by kernel_rfl) (of_decide_eq_true (by kernel_rfl)) k0 bel lt0) (trodAll_cons_mk (Below.trod laidOut (by kernel_rfl) (of_decide_eq_true (by kernel_rfl)) k1 bel lt1) (trodAll_cons_mk (Below.trod laidOut (by kernel_rfl) (of_decide_eq_true (by kernel_rfl)) k2 bel lt2) trodAll_mk0))), rfl, bel.frame _, fun h => by cases h⟩

theorem proved : Rows.ScanStepsSaid :=
  OpenClaim.holds_of_wide 6 Try.f6 rfl rfl rfl rfl rfl rfl rfl ⟨rfl, rfl, rfl, rfl, rfl⟩ rfl rfl rfl rfl rfl (by kernel_rfl) Try.func6 (by kernel_rfl)
    (of_decide_eq_true (by kernel_rfl)) (by unfold Func.isWrapper; first | (rw [if_pos (by decide +kernel)]; kernel_rfl) | (rw [if_neg (by decide +kernel)]; exact ⟨rfl, rfl⟩))
    (fun os started H enc _ => lifted os started H enc)
end Go.Proofs.Ytogmcfljojobfaa.ScanStepsP
namespace Go.Proofs.Ytogmcfljojobfaa
theorem scanSteps_holds : Rows.ScanStepsSaid := ScanStepsP.proved
#print axioms scanSteps_holds
end Go.Proofs.Ytogmcfljojobfaa
