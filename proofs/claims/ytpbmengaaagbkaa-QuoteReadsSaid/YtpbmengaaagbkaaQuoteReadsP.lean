/- PROVED: for every dialect d and string s, QuoteReads(d, s) returns true. No condition. -/
import Derived.Test.YtpbmengaaagbkaaRows
import Derived.Test.YtpbmengaaagbkaaQuo4
import Derived.Test.YtpbmengaaagbkaaOpenD
namespace Go.Proofs.Ytpbmengaaagbkaa.QuoteReadsP
set_option linter.unusedVariables false
set_option linter.unusedSimpArgs false
open Go.ChangeShapes Go.WideShapes Go.ChangeAt Go.RowKit Q Mach Dia Need Quo QuoPlain
attribute [local go_sem ↓] Go.wp_at_zero Go.wp_at_succ

theorem own : ownKnob Try.prog.godebug = none := by kernel_rfl
theorem laidOut : laidOutB Try.prog = true := by kernel_rfl

set_option maxHeartbeats 2000000 in
theorem walk (d : Dia) (s : Bs) (w : World) : Calls Try.prog 7 #[diaV d, sv s] w fun e w' => e = .returned (.bool true) ∧ Below w.heap.size w w' := by
  have HA := Lib.hid awake9_c
  have HR := Lib.hid (fun w => ref_c d w)
  have HRR := Lib.hid (fun w => right_c d w)
  have kp : Keeps [] w (w.alloc (.cells #[bv d.delim, bv d.quote, .int .i64 d.fin] 23)) := Keeps.alloc [] w _
  have hbx := Blk.new w 23 [bv d.delim, bv d.quote, .int .i64 d.fin]
  by_cases h2 : 200 < s.length
  · have h2' : decide (200 < (s.length : Int)) = true := by simp; omega
    obtain ⟨x, y, z⟩ := d
    go_enter Try.func7, Try.ntmps7
    go_wp2_with (fail)
    refine (HA.out _).mono ?_
    rintro e w1 ⟨rfl, k1⟩
    go_wp2_with (fail)
    go_ret
    exact ⟨rfl, (kp.trans k1 (by simp)).below (Nat.le_refl _) (by simp)⟩
  have h2' : decide (200 < (s.length : Int)) = false := by simp; omega
  cases hr : d.right
  · rw [hr] at HRR
    clear hr
    obtain ⟨x, y, z⟩ := d
    go_enter Try.func7, Try.ntmps7
    go_wp2_with (fail)
    refine (HR.out _).mono ?_
    rintro e w1 ⟨rfl, k1⟩
    go_wp2_with (fail)
    refine (HRR.out _).mono ?_
    rintro e w2 ⟨rfl, k2⟩
    go_wp2_with (fail)
    refine (HA.out _).mono ?_
    rintro e w3 ⟨rfl, k3⟩
    go_wp2_with (fail)
    go_ret
    exact ⟨rfl, (((kp.trans k1 (by simp)).trans k2 (by simp)).trans k3 (by simp)).below (Nat.le_refl _) (by simp)⟩
  rw [hr] at HRR
  clear hr
  have HU := Lib.hid (fun w => unquote_c d s (by omega) w)
  have HV := Lib.hid (fun w => runquote_c d s (by omega) w)
  generalize unquoB d s = X at *
  obtain ⟨f, is, k⟩ := X
  unfold unV at HU
  unfold runV at HV
  obtain ⟨n, hn⟩ : ∃ n : Int, (if is = true then (1 : Int) else 0) = n := ⟨_, rfl⟩
  have hb : (n == 1) = is := by subst hn; cases is <;> rfl
  have hii : (is == is) = true := by simp
  have hkk : ((k : Int) == (k : Int)) = true := by simp
  have hff : (f == f) = true := by simp
  rw [show (if (f, is, k).2.1 = true then (1 : Int) else 0) = n from hn] at HV
  clear hn
  obtain ⟨x, y, z⟩ := d
  go_enter Try.func7, Try.ntmps7
  go_wp2_with (fail)
  refine (HR.out _).mono ?_
  rintro e w1 ⟨rfl, k1⟩
  go_wp2_with (fail)
  refine (HRR.out _).mono ?_
  rintro e w2 ⟨rfl, k2⟩
  have kk := (kp.trans k1 (by simp)).trans k2 (by simp)
  have hb2 := (hbx.keep k1 (by simp)).keep k2 (by simp)
  have d0 := hb2.cell_of (i := 0) rfl
  have d1 := hb2.cell_of (i := 1) rfl
  have d2 := hb2.cell_of (i := 2) rfl
  clear k1 k2 hbx kp
  go_wp2_with (fail)
  refine (HU.out _).mono ?_
  rintro e w3 ⟨rfl, k3⟩
  have kk3 := kk.trans k3 (by simp)
  have hb3 := hb2.keep k3 (by simp)
  have e0 := hb3.cell_of (i := 0) rfl
  have e1 := hb3.cell_of (i := 1) rfl
  have e2 := hb3.cell_of (i := 2) rfl
  clear d0 d1 d2 kk k3 hb2
  go_wp2_with (fail)
  refine (HR.out _).mono ?_
  rintro e w4 ⟨rfl, k4⟩
  go_wp2_with (fail)
  refine (HV.out _).mono ?_
  rintro e w5 ⟨rfl, k5⟩
  go_wp2_with (fail)
  refine (HA.out _).mono ?_
  rintro e w6 ⟨rfl, k6⟩
  go_wp2_with (fail)
  go_ret
  exact ⟨rfl, (((kk3.trans k4 (by simp)).trans k5 (by simp)).trans k6 (by simp)).below (Nat.le_refl _) (by simp)⟩
set_option maxRecDepth 100000 in
theorem lifted (os : Os) (started : os.Started) (H : Type) (enc : TypeId × Value → H) :
    ReturnsInHanded {} Try.checked os 7 .any (Rows.quoteReadsSpec.pre6 enc Try.prog Try.f7 Rows.quoteReadsRow.domain false) (Rows.quoteReadsSpec.post enc Try.prog Try.f7 false true false false) := by
  refine returnsInHanded_of_change_sized (C := Try.checked) own started (by kernel_rfl) Try.func7
    (ChangeSpec.witness6 (enc := enc) (C := Try.checked) false ⟨#[], #[.agg #[.int .u8 0, .int .u8 0, .int .i64 0], .string .empty], []⟩ 8 (by kernel_rfl) (by kernel_rfl) (by kernel_rfl) (by kernel_rfl)) ?_
  intro W base args ds gs before hval0 hW hcnd hsz0 _
  have hval : ∀ (j : Nat) t v, Try.f7.params[j]? = some t → args[j]? = some v → Value.okWide Try.prog W .any base t v := hval0
  have hW' := hW
  obtain ⟨p, q, hA0, hV, rfl, hfz, hnd⟩ := hW
  have hA : DataW.TrodAll enc Try.prog W 0 (fun _ => true) true Try.f7.params.toList args.toList ds p := hA0
  have hsz : (DataW.weightsEach Try.prog (Try.f7.params.toList ++ Rows.quoteReadsSpec.plain.varTypes Try.prog) (ds ++ gs)).all (· ≤ reachBytes) = true := hsz0
  rw [Try.params7] at hA hval hsz
  obtain ⟨v0, vs0, d0, ds0, p0, q0, hargs, rfl, rfl, k0, r0⟩ := trodAll_cons hA
  obtain ⟨v1, vs1, d1, ds1, p1, q1, rfl, rfl, rfl, k1, r1⟩ := trodAll_cons r0
  obtain ⟨rfl, rfl, rfl⟩ := trodAll_nil r1
  obtain rfl : args = #[v0, v1] := by cases args; simp_all
  obtain ⟨rfl, rfl⟩ := trodVars_none hV
  have lt0 := Trod_lt k0
  have lt1 := Trod_lt k1
  obtain ⟨x0, y0, z0, rfl, hz0⟩ := Trod_dialect Try.underlying23 (by kernel_rfl) (by kernel_rfl) Try.underlying5 Try.underlying5 Try.underlying3 (hval 0 23 v0 rfl rfl) k0
  obtain ⟨l1, rfl, hl1⟩ := Trod_str Try.underlying9 (hval 1 9 v1 rfl rfl) k1 (wt_of hsz (j := 1) rfl rfl)
  clear hA0 hval0 hsz0
  refine (walk ⟨x0, y0, z0⟩ l1 W).mono fun e W' ⟨he, bel⟩ => ?_
  subst he
  exact ⟨_, rfl, _, _, _, [], _, [], hW', trodAll_mk1 (shut_bool Try.underlying4 _), (trodAll_cons_mk (Below.trod laidOut (by kernel_rfl) (of_decide_eq_true (by kernel_rfl)) k0 bel lt0) (trodAll_cons_mk (Below.trod laidOut (by kernel_rfl) (of_decide_eq_true (by kernel_rfl)) k1 bel lt1) trodAll_mk0)), rfl, bel.frame _, fun h => by cases h⟩

theorem proved : Rows.QuoteReadsSaid :=
  OpenClaim.holds_of_wide 7 Try.f7 rfl rfl rfl rfl rfl rfl rfl ⟨rfl, rfl, rfl, rfl, rfl⟩ rfl rfl rfl rfl rfl (by kernel_rfl) Try.func7 (by kernel_rfl)
    (of_decide_eq_true (by kernel_rfl)) (by unfold Func.isWrapper; first | (rw [if_pos (by decide +kernel)]; kernel_rfl) | (rw [if_neg (by decide +kernel)]; exact ⟨rfl, rfl⟩))
    (fun os started H enc _ => lifted os started H enc)
end Go.Proofs.Ytpbmengaaagbkaa.QuoteReadsP
namespace Go.Proofs.Ytpbmengaaagbkaa
theorem quoteReads_holds : Rows.QuoteReadsSaid := QuoteReadsP.proved
#print axioms quoteReads_holds
end Go.Proofs.Ytpbmengaaagbkaa
