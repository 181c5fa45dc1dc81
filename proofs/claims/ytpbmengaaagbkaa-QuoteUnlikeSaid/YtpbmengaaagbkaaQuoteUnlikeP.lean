/- PROVED: for every dialect d and strings f and g, QuoteUnlike(d, f, g) returns true. No condition. -/
import Derived.Test.YtpbmengaaagbkaaRows
import Derived.Test.YtpbmengaaagbkaaQuo4
import Derived.Test.YtpbmengaaagbkaaOpenD
import Derived.Deep.RegionHeld3
namespace Go.Proofs.Ytpbmengaaagbkaa.QuoteUnlikeP
set_option linter.unusedVariables false
set_option linter.unusedSimpArgs false
open Go.ChangeShapes Go.WideShapes Go.ChangeAt Go.RowKit Q Mach Dia Need Quo QuoPlain
attribute [local go_sem ↓] Go.wp_at_zero Go.wp_at_succ

theorem own : ownKnob Try.prog.godebug = none := by kernel_rfl
theorem laidOut : laidOutB Try.prog = true := by kernel_rfl

theorem writ_inj (d : Dia) (f g : Bs) (a b : Bool) (h : writB d f a b = writB d g a b) : f = g := by
  have key : ∀ f g : Bs, quoB d.quote f = g → (whyB d g a b != 0) = false → False := by
    rintro f g rfl hw
    have hc : (quoB d.quote f).contains d.quote = true := by simp [quoB]
    have : whyB d (quoB d.quote f) a b = 0 := by simpa using hw
    unfold whyB at this
    rw [hc] at this
    split at this <;> simp at this
  unfold writB at h
  cases h1 : (whyB d f a b != 0) <;> cases h2 : (whyB d g a b != 0) <;> rw [h1, h2] at h <;> simp only [if_true, if_false, Bool.false_eq_true] at h
  · exact h
  · exact absurd (key g f h.symm h1) id
  · exact absurd (key f g h h2) id
  · exact quoB_inj _ _ _ h
set_option maxRecDepth 100000 in
set_option maxHeartbeats 4000000 in
theorem walk (d : Dia) (f g : Bs) (w : World) : Calls Try.prog 9 #[diaV d, sv f, sv g] w fun e w' => e = .returned (.bool true) ∧ Below w.heap.size w w' := by
  have HA := Lib.hid awake9_c
  have HR := Lib.hid (fun w => ref_c d w)
  have HRR := Lib.hid (fun w => right_c d w)
  have kp : Keeps [] w (w.alloc (.cells #[bv d.delim, bv d.quote, .int .i64 d.fin] 23)) := Keeps.alloc [] w _
  have hbx := Blk.new w 23 [bv d.delim, bv d.quote, .int .i64 d.fin]
  by_cases hbig : 200 < f.length ∨ 200 < g.length
  · have h1' : decide (200 < (f.length : Int)) = decide (200 < f.length) := by rw [decide_eq_decide]; omega
    have h2' : decide (200 < (g.length : Int)) = decide (200 < g.length) := by rw [decide_eq_decide]; omega
    obtain ⟨x, y, z⟩ := d
    by_cases h1 : 200 < f.length
    · simp only [h1, decide_true] at h1'
      clear h1 h2' hbig
      go_enter Try.func9, Try.ntmps9
      go_wp2_with (fail)
      refine (HA.out _).mono ?_
      rintro e w1 ⟨rfl, k1⟩
      go_wp2_with (fail)
      go_ret
      exact ⟨rfl, (kp.trans k1 (by simp)).below (Nat.le_refl _) (by simp)⟩
    · have h2 : 200 < g.length := by omega
      simp only [h1, h2, decide_true, decide_false] at h1' h2'
      clear h1 h2 hbig
      go_enter Try.func9, Try.ntmps9
      go_wp2_with (fail)
      refine (HA.out _).mono ?_
      rintro e w1 ⟨rfl, k1⟩
      go_wp2_with (fail)
      go_ret
      exact ⟨rfl, (kp.trans k1 (by simp)).below (Nat.le_refl _) (by simp)⟩
  have h1' : decide (200 < (f.length : Int)) = false := by simp; omega
  have h2' : decide (200 < (g.length : Int)) = false := by simp; omega
  have hf : f.length ≤ 100000 := by omega
  have hg : g.length ≤ 100000 := by omega
  clear hbig
  cases hr : d.right
  · rw [hr] at HRR
    clear hr
    obtain ⟨x, y, z⟩ := d
    go_enter Try.func9, Try.ntmps9
    go_wp2_with (fail)
    refine (HR.out _).mono ?_
    rintro e w1 ⟨rfl, k1⟩
    go_wp2_with (fail)
    refine (HRR.out _).mono ?_
    rintro e w2 ⟨rfl, k2⟩
    go_wp2_with (fail)
    refine (HA.out _).mono ?_
    rintro e w3 ⟨rfl, k3⟩
    go_wp2_with (fail)
    go_ret
    exact ⟨rfl, (((kp.trans k1 (by simp)).trans k2 (by simp)).trans k3 (by simp)).below (Nat.le_refl _) (by simp)⟩
  rw [hr] at HRR
  clear hr
  have HQ := Lib.hid (fun f (hf : f.length ≤ 100000) w => quoted_c d f hf w)
  have HW := Lib.hid (fun f (hf : f.length ≤ 100000) w => written_c d f true true hf w)
  have hq : (quoB d.quote f == quoB d.quote g) = (f == g) := by
    rw [Bool.eq_iff_iff, beq_iff_eq, beq_iff_eq]
    exact ⟨quoB_inj _ _ _, fun h => by rw [h]⟩
  have hwr : (writB d f true true == writB d g true true) = (f == g) := by
    rw [Bool.eq_iff_iff, beq_iff_eq, beq_iff_eq]
    exact ⟨writ_inj d f g true true, fun h => by rw [h]⟩
  obtain ⟨fg, hfg⟩ : ∃ fg, (f == g) = fg := ⟨_, rfl⟩
  rw [hfg] at hq hwr
  obtain ⟨x, y, z⟩ := d
  dsimp only at hbx kp
  cases fg
  all_goals
    go_enter Try.func9, Try.ntmps9
    go_wp2_with (fail)
    refine (HR.out _).mono ?_
    rintro e w1 ⟨rfl, k1⟩
    go_wp2_with (fail)
    refine (HRR.out _).mono ?_
    rintro e w6 ⟨rfl, k2⟩
    have kk6 := (kp.trans k1 (by simp)).trans k2 (by simp)
    have hb6 := (hbx.keep k1 (by simp)).keep k2 (by simp)
    have e0 := hb6.cell_of (i := 0) rfl
    have e1 := hb6.cell_of (i := 1) rfl
    have e2 := hb6.cell_of (i := 2) rfl
    have hlb := hb6.lt
    clear k1 k2 hbx kp hb6 h1' h2'
    go_upto_region 3 with (fail)
    have HSS := fun w' (hb : Below (w6.heap.size) (w6) w') => ((⟨(hb.cell (p := ⟨w.heap.size, 0, none⟩) (hlb)).trans (e0), (hb.cell (p := ⟨w.heap.size, 1, none⟩) (hlb)).trans (e1), (hb.cell (p := ⟨w.heap.size, 2, none⟩) (hlb)).trans (e2), hb⟩) : w'.cell? ⟨w.heap.size, 0, none⟩ = some (bv x) ∧ w'.cell? ⟨w.heap.size, 1, none⟩ = some (bv y) ∧ w'.cell? ⟨w.heap.size, 2, none⟩ = some (.int .i64 z) ∧ Below (w6.heap.size) (w6) w')
    have HSSb : w6.heap.size ≤ (w6).heap.size := Nat.le_refl _
    go_region_held3 (fun w' => w'.cell? ⟨w.heap.size, 0, none⟩ = some (bv x) ∧ w'.cell? ⟨w.heap.size, 1, none⟩ = some (bv y) ∧ w'.cell? ⟨w.heap.size, 2, none⟩ = some (.int .i64 z) ∧ Below (w6.heap.size) (w6) w') (((try go_split_ands); (with_reducible apply HSS); first | (with_reducible assumption) | (with_reducible (apply bC HSSb k1; assumption)) | (with_reducible (apply bAA HSSl; assumption)) | (repeat (first | (with_reducible assumption) | (with_reducible apply Below.refl) | (with_reducible apply bS (hp := HSSb)) | (with_reducible apply bSe) | (with_reducible apply bA HSSb) | (with_reducible apply bD))))) (first | ((go_at_call 28; refine (HQ.out _ (by assumption) _).mono ?_; rintro e w7 ⟨rfl, k1⟩)) | ((go_at_call 27; refine (HW.out _ (by assumption) _).mono ?_; rintro e w7 ⟨rfl, k1⟩)) | ((go_at_call 24; refine (HA.out _).mono ?_; rintro e w7 ⟨rfl, k1⟩)))
    all_goals go_split_ands
    all_goals go_wp2_with (fail)
    all_goals go_ret
    all_goals exact ⟨rfl, (kk6.below (Nat.le_refl _) (by simp)).trans ((by assumption : Below w6.heap.size w6 _).mono kk6.size)⟩
set_option maxRecDepth 100000 in
theorem lifted (os : Os) (started : os.Started) (H : Type) (enc : TypeId × Value → H) :
    ReturnsInHanded {} Try.checked os 9 .any (Rows.quoteUnlikeSpec.pre6 enc Try.prog Try.f9 Rows.quoteUnlikeRow.domain false) (Rows.quoteUnlikeSpec.post enc Try.prog Try.f9 false true false false) := by
  refine returnsInHanded_of_change_sized (C := Try.checked) own started (by kernel_rfl) Try.func9
    (ChangeSpec.witness6 (enc := enc) (C := Try.checked) false ⟨#[], #[.agg #[.int .u8 0, .int .u8 0, .int .i64 0], .string .empty, .string .empty], []⟩ 8 (by kernel_rfl) (by kernel_rfl) (by kernel_rfl) (by kernel_rfl)) ?_
  intro W base args ds gs before hval0 hW hcnd hsz0 _
  have hval : ∀ (j : Nat) t v, Try.f9.params[j]? = some t → args[j]? = some v → Value.okWide Try.prog W .any base t v := hval0
  have hW' := hW
  obtain ⟨p, q, hA0, hV, rfl, hfz, hnd⟩ := hW
  have hA : DataW.TrodAll enc Try.prog W 0 (fun _ => true) true Try.f9.params.toList args.toList ds p := hA0
  have hsz : (DataW.weightsEach Try.prog (Try.f9.params.toList ++ Rows.quoteUnlikeSpec.plain.varTypes Try.prog) (ds ++ gs)).all (· ≤ reachBytes) = true := hsz0
  rw [Try.params9] at hA hval hsz
  obtain ⟨v0, vs0, d0, ds0, p0, q0, hargs, rfl, rfl, k0, r0⟩ := trodAll_cons hA
  obtain ⟨v1, vs1, d1, ds1, p1, q1, rfl, rfl, rfl, k1, r1⟩ := trodAll_cons r0
  obtain ⟨v2, vs2, d2, ds2, p2, q2, rfl, rfl, rfl, k2, r2⟩ := trodAll_cons r1
  obtain ⟨rfl, rfl, rfl⟩ := trodAll_nil r2
  obtain rfl : args = #[v0, v1, v2] := by cases args; simp_all
  obtain ⟨rfl, rfl⟩ := trodVars_none hV
  have lt0 := Trod_lt k0
  have lt1 := Trod_lt k1
  have lt2 := Trod_lt k2
  obtain ⟨x0, y0, z0, rfl, hz0⟩ := Trod_dialect Try.underlying23 (by kernel_rfl) (by kernel_rfl) Try.underlying5 Try.underlying5 Try.underlying3 (hval 0 23 v0 rfl rfl) k0
  obtain ⟨l1, rfl, hl1⟩ := Trod_str Try.underlying9 (hval 1 9 v1 rfl rfl) k1 (wt_of hsz (j := 1) rfl rfl)
  obtain ⟨l2, rfl, hl2⟩ := Trod_str Try.underlying9 (hval 2 9 v2 rfl rfl) k2 (wt_of hsz (j := 2) rfl rfl)
  clear hA0 hval0 hsz0
  refine (walk ⟨x0, y0, z0⟩ l1 l2 W).mono fun e W' ⟨he, bel⟩ => ?_
  subst he
  exact ⟨_, rfl, _, _, _, [], _, [], hW', trodAll_mk1 (shut_bool Try.underlying4 _), (trodAll_cons_mk (Below.trod laidOut (by kernel_rfl) (of_decide_eq_true (by kernel_rfl)) k0 bel lt0) (trodAll_cons_mk (Below.trod laidOut (by kernel_rfl) (of_decide_eq_true (by kernel_rfl)) k1 bel lt1) (trodAll_cons_mk (Below.trod laidOut (by kernel_rfl) (of_decide_eq_true (by kernel_rfl)) k2 bel lt2) trodAll_mk0))), rfl, bel.frame _, fun h => by cases h⟩

theorem proved : Rows.QuoteUnlikeSaid :=
  OpenClaim.holds_of_wide 9 Try.f9 rfl rfl rfl rfl rfl rfl rfl ⟨rfl, rfl, rfl, rfl, rfl⟩ rfl rfl rfl rfl rfl (by kernel_rfl) Try.func9 (by kernel_rfl)
    (of_decide_eq_true (by kernel_rfl)) (by unfold Func.isWrapper; first | (rw [if_pos (by decide +kernel)]; kernel_rfl) | (rw [if_neg (by decide +kernel)]; exact ⟨rfl, rfl⟩))
    (fun os started H enc _ => lifted os started H enc)
end Go.Proofs.Ytpbmengaaagbkaa.QuoteUnlikeP
namespace Go.Proofs.Ytpbmengaaagbkaa
theorem quoteUnlike_holds : Rows.QuoteUnlikeSaid := QuoteUnlikeP.proved
#print axioms quoteUnlike_holds
end Go.Proofs.Ytpbmengaaagbkaa
