/- PROVED: for every dialect d, string f and byte where, QuoteWrites(d, f, where) returns true. No condition. -/
import Derived.Test.YtpbmengaaagbkaaRows
import Derived.Test.YtpbmengaaagbkaaQuo4
import Derived.Test.YtpbmengaaagbkaaOpenD
import Derived.Deep.RegionHeld3
namespace Go.Proofs.Ytpbmengaaagbkaa.QuoteWritesP
set_option linter.unusedVariables false
set_option linter.unusedSimpArgs false
open Go.ChangeShapes Go.WideShapes Go.ChangeAt Go.RowKit Q Mach Dia Need Quo QuoPlain
attribute [local go_sem ↓] Go.wp_at_zero Go.wp_at_succ

theorem own : ownKnob Try.prog.godebug = none := by kernel_rfl
theorem laidOut : laidOutB Try.prog = true := by kernel_rfl

set_option maxRecDepth 100000 in
set_option maxHeartbeats 4000000 in
theorem walk (d : Dia) (f : Bs) (b : UInt8) (w : World) : Calls Try.prog 10 #[diaV d, sv f, bv b] w fun e w' => e = .returned (.bool true) ∧ Below w.heap.size w w' := by
  have HA := Lib.hid awake9_c
  have HR := Lib.hid (fun w => ref_c d w)
  have HRR := Lib.hid (fun w => right_c d w)
  have kp : Keeps [] w (w.alloc (.cells #[bv d.delim, bv d.quote, .int .i64 d.fin] 23)) := Keeps.alloc [] w _
  have hbx := Blk.new w 23 [bv d.delim, bv d.quote, .int .i64 d.fin]
  by_cases h2 : 200 < f.length
  · have h2' : decide (200 < (f.length : Int)) = true := by simp; omega
    obtain ⟨x, y, z⟩ := d
    go_enter Try.func10, Try.ntmps10
    go_wp2_with (fail)
    refine (HA.out _).mono ?_
    rintro e w1 ⟨rfl, k1⟩
    go_wp2_with (fail)
    go_ret
    exact ⟨rfl, (kp.trans k1 (by simp)).below (Nat.le_refl _) (by simp)⟩
  have h2' : decide (200 < (f.length : Int)) = false := by simp; omega
  cases hr : d.right
  · rw [hr] at HRR
    clear hr
    obtain ⟨x, y, z⟩ := d
    go_enter Try.func10, Try.ntmps10
    go_wp2_with (fail)
    refine (HR.out _).mono ?_
    rintro e w1 ⟨rfl, k1⟩
    go_wp2_with (fail)
    refine (HRR.out _).mono ?_
    rintro e w2 ⟨rfl, k2⟩
    go_wp2_with (fail)
    refine (HA.out _).mono ?_
    rintro e w3 ⟨rfl, k3⟩
    go_wp2_with (fail)
    go_ret
    exact ⟨rfl, (((kp.trans k1 (by simp)).trans k2 (by simp)).trans k3 (by simp)).below (Nat.le_refl _) (by simp)⟩
  rw [hr] at HRR
  clear hr
  obtain ⟨al, hal⟩ : ∃ al, (bits .and .u8 (b.toNat : Int) 1 == 1) = al := ⟨_, rfl⟩
  obtain ⟨fi, hfi⟩ : ∃ fi, (bits .and .u8 (b.toNat : Int) 2 == 2) = fi := ⟨_, rfl⟩
  have HQ := Lib.hid (fun w => quoted_c d f (by omega) w)
  have HRQ := Lib.hid (fun w => rquoted_c d f (by omega) w)
  have HW := Lib.hid (fun w => written_c d f al fi (by omega) w)
  have HS := Lib.hid (fun w => size_c d f al fi (by omega) w)
  have HRW := Lib.hid (fun w => rwritten_c d f al fi (if al then 1 else 0) (if fi then 1 else 0) (by cases al <;> rfl) (by cases fi <;> rfl) (by omega) w)
  have HO := Lib.hid one9_c
  generalize writB d f al fi = ws at *
  generalize quoB d.quote f = qs at *
  have hww : (ws == ws) = true := by simp
  have hqq : (qs == qs) = true := by simp
  have hll : ((ws.length : Int) == (ws.length : Int)) = true := by simp
  obtain ⟨x, y, z⟩ := d
  clear h2
  cases al <;> cases fi
  all_goals
    simp only [if_true, if_false, Bool.false_eq_true] at HRW
    go_enter Try.func10, Try.ntmps10
    go_wp2_with (fail)
    refine (HR.out _).mono ?_
    rintro e w1 ⟨rfl, k1⟩
    go_wp2_with (fail)
    refine (HRR.out _).mono ?_
    rintro e w2 ⟨rfl, k2⟩
    have kk := (kp.trans k1 (by simp)).trans k2 (by simp)
    have hb2 := (hbx.keep k1 (by simp)).keep k2 (by simp)
    have d0 := hb2.cell_of (i := 0) rfl
    have d1 := hb2.cell_of (i := 1) rfl
    have d2 := hb2.cell_of (i := 2) rfl
    go_wp2_with (fail)
    refine (HR.out _).mono ?_
    rintro e w3 ⟨rfl, k3⟩
    go_wp2_with (fail)
    refine (HO.out _ _).mono ?_
    rintro e w4 ⟨rfl, rfl⟩
    go_wp2_with (fail)
    refine (HO.out _ _).mono ?_
    rintro e w5 ⟨rfl, rfl⟩
    go_wp2_with (fail)
    refine (HRW.out _).mono ?_
    rintro e w6 ⟨rfl, k6⟩
    have hb6 := (hb2.keep k3 (by simp)).keep k6 (by simp)
    have kk6 := (kk.trans k3 (by simp)).trans k6 (by simp)
    have e0 := hb6.cell_of (i := 0) rfl
    have e1 := hb6.cell_of (i := 1) rfl
    have e2 := hb6.cell_of (i := 2) rfl
    have hlb := hb6.lt
    clear d0 d1 d2 k1 k2 k3 k6 hb2 kk hb6 hal hfi h2'
    go_upto_region 5 with (fail)
    have HSS := fun w' (hb : Below (w6.heap.size) (w6) w') => ((⟨(hb.cell (p := ⟨w.heap.size, 0, none⟩) (hlb)).trans (e0), (hb.cell (p := ⟨w.heap.size, 1, none⟩) (hlb)).trans (e1), (hb.cell (p := ⟨w.heap.size, 2, none⟩) (hlb)).trans (e2), hb⟩) : w'.cell? ⟨w.heap.size, 0, none⟩ = some (bv x) ∧ w'.cell? ⟨w.heap.size, 1, none⟩ = some (bv y) ∧ w'.cell? ⟨w.heap.size, 2, none⟩ = some (.int .i64 z) ∧ Below (w6.heap.size) (w6) w')
    have HSSb : w6.heap.size ≤ (w6).heap.size := Nat.le_refl _
    go_region_held3 (fun w' => w'.cell? ⟨w.heap.size, 0, none⟩ = some (bv x) ∧ w'.cell? ⟨w.heap.size, 1, none⟩ = some (bv y) ∧ w'.cell? ⟨w.heap.size, 2, none⟩ = some (.int .i64 z) ∧ Below (w6.heap.size) (w6) w') (((try go_split_ands); (with_reducible apply HSS); first | (with_reducible assumption) | (with_reducible (apply bC HSSb k1; assumption)) | (with_reducible (apply bAA HSSl; assumption)) | (repeat (first | (with_reducible assumption) | (with_reducible apply Below.refl) | (with_reducible apply bS (hp := HSSb)) | (with_reducible apply bSe) | (with_reducible apply bA HSSb) | (with_reducible apply bD))))) (first | ((go_at_call 28; refine (HQ.out _).mono ?_; rintro e w7 ⟨rfl, k1⟩)) | ((go_at_call 12; refine (HR.out _).mono ?_; rintro e w7 ⟨rfl, k1⟩)) | ((go_at_call 31; refine (HRQ.out _).mono ?_; rintro e w7 ⟨rfl, k1⟩)) | ((go_at_call 27; refine (HW.out _).mono ?_; rintro e w7 ⟨rfl, k1⟩)) | ((go_at_call 32; refine (HS.out _).mono ?_; rintro e w7 ⟨rfl, k1⟩)) | ((go_at_call 24; refine (HA.out _).mono ?_; rintro e w7 ⟨rfl, k1⟩)))
    all_goals go_split_ands
    all_goals go_wp2_with (fail)
    all_goals go_ret
    all_goals exact ⟨rfl, (kk6.below (Nat.le_refl _) (by simp)).trans ((by assumption : Below w6.heap.size w6 _).mono kk6.size)⟩
set_option maxRecDepth 100000 in
theorem lifted (os : Os) (started : os.Started) (H : Type) (enc : TypeId × Value → H) :
    ReturnsInHanded {} Try.checked os 10 .any (Rows.quoteWritesSpec.pre6 enc Try.prog Try.f10 Rows.quoteWritesRow.domain false) (Rows.quoteWritesSpec.post enc Try.prog Try.f10 false true false false) := by
  refine returnsInHanded_of_change_sized (C := Try.checked) own started (by kernel_rfl) Try.func10
    (ChangeSpec.witness6 (enc := enc) (C := Try.checked) false ⟨#[], #[.agg #[.int .u8 0, .int .u8 0, .int .i64 0], .string .empty, .int .u8 0], []⟩ 8 (by kernel_rfl) (by kernel_rfl) (by kernel_rfl) (by kernel_rfl)) ?_
  intro W base args ds gs before hval0 hW hcnd hsz0 _
  have hval : ∀ (j : Nat) t v, Try.f10.params[j]? = some t → args[j]? = some v → Value.okWide Try.prog W .any base t v := hval0
  have hW' := hW
  obtain ⟨p, q, hA0, hV, rfl, hfz, hnd⟩ := hW
  have hA : DataW.TrodAll enc Try.prog W 0 (fun _ => true) true Try.f10.params.toList args.toList ds p := hA0
  have hsz : (DataW.weightsEach Try.prog (Try.f10.params.toList ++ Rows.quoteWritesSpec.plain.varTypes Try.prog) (ds ++ gs)).all (· ≤ reachBytes) = true := hsz0
  rw [Try.params10] at hA hval hsz
  obtain ⟨v0, vs0, d0, ds0, p0, q0, hargs, rfl, rfl, k0, r0⟩ := trodAll_cons hA
  obtain ⟨v1, vs1, d1, ds1, p1, q1, rfl, rfl, rfl, k1, r1⟩ := trodAll_cons r0
  obtain ⟨v2, vs2, d2, ds2, p2, q2, rfl, rfl, rfl, k2, r2⟩ := trodAll_cons r1
  obtain ⟨rfl, rfl, rfl⟩ := trodAll_nil r2
  obtain rfl : args = #[v0, v1, v2] := by cases args; simp_all
  obtain ⟨rfl, rfl⟩ := trodVars_none hV
  have lt0 := Trod_lt k0
  have lt1 := Trod_lt k1
  have lt2 := Trod_lt k2
  obtain ⟨x0, y0, z0, rfl, hz0⟩ := Trod_dialect Try.underlying23 (by kernel_rfl) (by kernel_rfl) Try.underlying5 Try.underlying5 Try.underlying3 (hval 0 23 v0 rfl rfl) k0
  obtain ⟨l1, rfl, hl1⟩ := Trod_str Try.underlying9 (hval 1 9 v1 rfl rfl) k1 (wt_of hsz (j := 1) rfl rfl)
  obtain ⟨b2, rfl⟩ := Trod_u8 Try.underlying5 (hval 2 5 v2 rfl rfl) k2
  clear hA0 hval0 hsz0
  refine (walk ⟨x0, y0, z0⟩ l1 b2 W).mono fun e W' ⟨he, bel⟩ => ?_
  subst he
  exact ⟨_, rfl, _, _, _, [], _, [], hW', trodAll_mk1 (shut_bool Try.underlying4 _), (trodAll_cons_mk (Below.trod laidOut (by kernel_rfl) (of_decide_eq_true (by kernel_rfl)) k0 bel lt0) (trodAll_cons_mk (Below.trod laidOut (by kernel_rfl) (of_decide_eq_true (by kernel_rfl)) k1 bel lt1) (trodAll_cons_mk (Below.trod laidOut (by kernel_rfl) (of_decide_eq_true (by kernel_rfl)) k2 bel lt2) trodAll_mk0))), rfl, bel.frame _, fun h => by cases h⟩

theorem proved : Rows.QuoteWritesSaid :=
  OpenClaim.holds_of_wide 10 Try.f10 rfl rfl rfl rfl rfl rfl rfl ⟨rfl, rfl, rfl, rfl, rfl⟩ rfl rfl rfl rfl rfl (by kernel_rfl) Try.func10 (by kernel_rfl)
    (of_decide_eq_true (by kernel_rfl)) (by unfold Func.isWrapper; first | (rw [if_pos (by decide +kernel)]; kernel_rfl) | (rw [if_neg (by decide +kernel)]; exact ⟨rfl, rfl⟩))
    (fun os started H enc _ => lifted os started H enc)
end Go.Proofs.Ytpbmengaaagbkaa.QuoteWritesP
namespace Go.Proofs.Ytpbmengaaagbkaa
theorem quoteWrites_holds : Rows.QuoteWritesSaid := QuoteWritesP.proved
#print axioms quoteWrites_holds
end Go.Proofs.Ytpbmengaaagbkaa
