/- PROVED: for every dialect d and string f, NeedMust(d, f) returns true and leaves its arguments as they were. No condition. -/
import Derived.Test.YtpbmengaaagbkaaRows
import Derived.Test.YtpbmengaaagbkaaNeed2
import Derived.Test.YtpbmengaaagbkaaOpenD
import Derived.Test.YtpbmengaaagbkaaWide
namespace Go.Proofs.Ytpbmengaaagbkaa.NeedMustP
set_option linter.unusedVariables false
set_option linter.unusedSimpArgs false
open Go.ChangeShapes Go.WideShapes Go.ChangeAt Go.RowKit Q Mach Dia Bom Need Par Wide Same
attribute [local go_sem ↓] Go.wp_at_zero Go.wp_at_succ

theorem own : ownKnob Try.prog.godebug = none := by kernel_rfl
theorem laidOut : laidOutB Try.prog = true := by kernel_rfl
set_option maxRecDepth 100000 in
set_option maxHeartbeats 20000000 in
theorem walk (d : Dia) (f : Bs) (hf : f.length ≤ reachBytes) (w : World) : Calls Try.prog 6 #[diaV d, sv f] w fun e w' => e = .returned (.bool true) ∧ Below w.heap.size w w' := by
  unfold reachBytes at hf
  have HA := Lib.hid Need.awake_c
  have HR := Lib.hid (fun w => ref_c d w)
  have HRR := Lib.hid (fun w => right_c d w)
  have kp : Keeps [] w (w.alloc (.cells #[bv d.delim, bv d.quote, .int .i64 d.fin] 23)) := Keeps.alloc [] w _
  have hbx := Blk.new w 23 [bv d.delim, bv d.quote, .int .i64 d.fin]
  by_cases h2 : 200 < f.length
  · obtain ⟨x, y, z⟩ := d
    go_enter Try.func6, Try.ntmps6
    go_wp2_with (fail)
    refine (HA.out _).mono ?_
    rintro e w1 ⟨rfl, k1⟩
    go_wp2_with (fail)
    go_ret
    exact ⟨rfl, (kp.trans k1 (by simp)).below (Nat.le_refl _) (by simp)⟩
  have h2' : decide (200 < (f.length : Int)) = false := by simp; omega
  have HWH := Lib.hid (fun w => UtfW.whole_c f (by omega) w)
  have HN := Lib.hid (fun w => need_c d f true true (by simp only [maxLen]; omega) w)
  have HE := Lib.hid (fun w => rend_c d w)
  have c0 := hbx.cell_of (i := 0) rfl
  have c1 := hbx.cell_of (i := 1) rfl
  have c2 := hbx.cell_of (i := 2) rfl
  obtain ⟨R, hR⟩ : ∃ R, d.right = R := ⟨_, rfl⟩
  rw [hR] at HRR
  cases R
  · obtain ⟨x, y, z⟩ := d
    go_enter Try.func6, Try.ntmps6
    go_wp2_with (fail)
    refine (HR.out _).mono ?_
    rintro e w1 ⟨rfl, k1⟩
    go_wp2_with (fail)
    refine (HRR.out _).mono ?_
    rintro e w2 ⟨rfl, k2⟩
    go_wp2_with (fail)
    refine (HA.out _).mono ?_
    rintro e w3 ⟨rfl, k3⟩
    go_wp2_with (fail)
    go_ret
    exact ⟨rfl, (((kp.trans k1 (by simp)).trans k2 (by simp)).trans k3 (by simp)).below (Nat.le_refl _) (by simp)⟩
  obtain ⟨q, hq⟩ : ∃ q, (whyB d f true true != 0) = q := ⟨_, rfl⟩
  rw [hq] at HN
  by_cases hv : Utf.wholeP f < f.length
  · clear hR hq c0 c1 c2 HN
    obtain ⟨x, y, z⟩ := d
    go_enter Try.func6, Try.ntmps6
    go_wp2_with (fail)
    refine (HR.out _).mono ?_
    rintro e w1 ⟨rfl, k1⟩
    go_wp2_with (fail)
    refine (HRR.out _).mono ?_
    rintro e w2 ⟨rfl, k2⟩
    go_wp2_with (fail)
    refine (HWH.out _).mono ?_
    rintro e w3 ⟨rfl, k3⟩
    go_wp2_with (fail)
    refine (HA.out _).mono ?_
    rintro e w4 ⟨rfl, k4⟩
    go_wp2_with (fail)
    go_ret
    exact ⟨rfl, ((((kp.trans k1 (by simp)).trans k2 (by simp)).trans k3 (by simp)).trans k4 (by simp)).below (Nat.le_refl _) (by simp)⟩
  cases q
  · clear hR hq
    obtain ⟨x, y, z⟩ := d
    go_enter Try.func6, Try.ntmps6
    go_wp2_with (fail)
    refine (HR.out _).mono ?_
    rintro e w1 ⟨rfl, k1⟩
    go_wp2_with (fail)
    refine (HRR.out _).mono ?_
    rintro e w2 ⟨rfl, k2⟩
    go_wp2_with (fail)
    refine (HWH.out _).mono ?_
    rintro e w3 ⟨rfl, k3⟩
    have kk := ((kp.trans k1 (by simp)).trans k2 (by simp)).trans k3 (by simp)
    have hb2 := ((hbx.keep k1 (by simp)).keep k2 (by simp)).keep k3 (by simp)
    have d0 := hb2.cell_of (i := 0) rfl
    have d1 := hb2.cell_of (i := 1) rfl
    have d2 := hb2.cell_of (i := 2) rfl
    go_wp2_with (fail)
    refine (HN.out _).mono ?_
    rintro e w4 ⟨rfl, k4⟩
    go_wp2_with (fail)
    refine (HA.out _).mono ?_
    rintro e w5 ⟨rfl, k5⟩
    go_wp2_with (fail)
    go_ret
    exact ⟨rfl, ((kk.trans k4 (by simp)).trans k5 (by simp)).below (Nat.le_refl _) (by simp)⟩
  have hel : (endB d.fin).length ≤ 2 := Wide.eol_len d
  have hf2 : f.length ≤ 200 := by omega
  have hsum : ¬ (9223372036854775807 < f.length + (endB d.fin).length) := by omega
  have HPA := Lib.hid (fun w => parse_w d (f ++ endB d.fin) (by simp only [List.length_append]; omega) w)
  have hcat := cat_mk f (endB d.fin)
  have HM : Hid (∀ x, parseP d wide (f ++ endB d.fin) = ([[f]], 0, x) → False) := Lib.hid (fun x h => Wr.must hR (by rw [← why_eq]; simpa using hq) h)
  obtain ⟨⟨T, k, a⟩, hX⟩ : ∃ X, parseP d wide (f ++ endB d.fin) = X := ⟨_, rfl⟩
  rw [hX] at HM HPA
  have HS := Lib.hid (fun A a B1 w (h : Rd w B1 1 A a.length (a.map sv)) g (hc : w.cell? ⟨g, 0, none⟩ = some (sv f)) => same_c A (.slice (some ⟨g, 0, none⟩) 1 1) a [f] B1 w.heap.size w h (rd_cells1 hc))
  clear hR hq hX
  obtain ⟨x, y, z⟩ := d
  go_enter Try.func6, Try.ntmps6
  go_wp2_with (fail)
  refine (HR.out _).mono ?_
  rintro e w1 ⟨rfl, k1⟩
  go_wp2_with (fail)
  refine (HRR.out _).mono ?_
  rintro e w2 ⟨rfl, k2⟩
  go_wp2_with (fail)
  refine (HWH.out _).mono ?_
  rintro e w3 ⟨rfl, k3⟩
  have kk := ((kp.trans k1 (by simp)).trans k2 (by simp)).trans k3 (by simp)
  have hb2 := ((hbx.keep k1 (by simp)).keep k2 (by simp)).keep k3 (by simp)
  have d0 := hb2.cell_of (i := 0) rfl
  have d1 := hb2.cell_of (i := 1) rfl
  have d2 := hb2.cell_of (i := 2) rfl
  go_wp2_with (fail)
  refine (HN.out _).mono ?_
  rintro e w4 ⟨rfl, k4⟩
  have kk4 := kk.trans k4 (by simp)
  have hb4 := hb2.keep k4 (by simp)
  clear d0 d1 d2 k1 k2 k3 k4 kk hb2 hbx kp c0 c1 c2
  go_wp2_with (fail)
  have kk5 := kk4.alloc1 (.cells #[.int .i64 2147483648, .int .i64 2147483648, .int .i64 2147483648, .int .i64 0] 42)
  have hb5 := hb4.alloc (.cells #[.int .i64 2147483648, .int .i64 2147483648, .int .i64 2147483648, .int .i64 0] 42)
  have hl5 := Blk.new w4 42 [.int .i64 2147483648, .int .i64 2147483648, .int .i64 2147483648, .int .i64 0]
  have hll := hl5.lt
  generalize w4.heap.size = g5 at *
  change Blk (w4.alloc (.cells #[.int .i64 2147483648, .int .i64 2147483648, .int .i64 2147483648, .int .i64 0] 42)) g5 _ _ at hl5
  change g5 < (w4.alloc (.cells #[.int .i64 2147483648, .int .i64 2147483648, .int .i64 2147483648, .int .i64 0] 42)).heap.size at hll
  generalize w4.alloc _ = w6 at *
  have e0 := hb5.cell_of (i := 0) rfl
  have e1 := hb5.cell_of (i := 1) rfl
  have e2 := hb5.cell_of (i := 2) rfl
  have hlb := hb5.lt
  have m0 := hl5.cell_of (i := 0) rfl
  have m1 := hl5.cell_of (i := 1) rfl
  have m2 := hl5.cell_of (i := 2) rfl
  have m3 := hl5.cell_of (i := 3) rfl
  clear hb4 kk4 hb5 hl5
  have HSS := fun w' (hb : Below (w6.heap.size) (w6) w') => ((⟨(hb.cell (p := ⟨w.heap.size, 0, none⟩) (hlb)).trans (e0), (hb.cell (p := ⟨w.heap.size, 1, none⟩) (hlb)).trans (e1), (hb.cell (p := ⟨w.heap.size, 2, none⟩) (hlb)).trans (e2), (hb.cell (p := ⟨g5, 0, none⟩) (hll)).trans (m0), (hb.cell (p := ⟨g5, 1, none⟩) (hll)).trans (m1), (hb.cell (p := ⟨g5, 2, none⟩) (hll)).trans (m2), (hb.cell (p := ⟨g5, 3, none⟩) (hll)).trans (m3), hb⟩) : w'.cell? ⟨w.heap.size, 0, none⟩ = some (bv x) ∧ w'.cell? ⟨w.heap.size, 1, none⟩ = some (bv y) ∧ w'.cell? ⟨w.heap.size, 2, none⟩ = some (.int .i64 z) ∧ w'.cell? ⟨g5, 0, none⟩ = some (.int .i64 2147483648) ∧ w'.cell? ⟨g5, 1, none⟩ = some (.int .i64 2147483648) ∧ w'.cell? ⟨g5, 2, none⟩ = some (.int .i64 2147483648) ∧ w'.cell? ⟨g5, 3, none⟩ = some (.int .i64 0) ∧ Below (w6.heap.size) (w6) w')
  have HSSb : w6.heap.size ≤ (w6).heap.size := Nat.le_refl _
  go_region_held3 (fun w' => w'.cell? ⟨w.heap.size, 0, none⟩ = some (bv x) ∧ w'.cell? ⟨w.heap.size, 1, none⟩ = some (bv y) ∧ w'.cell? ⟨w.heap.size, 2, none⟩ = some (.int .i64 z) ∧ w'.cell? ⟨g5, 0, none⟩ = some (.int .i64 2147483648) ∧ w'.cell? ⟨g5, 1, none⟩ = some (.int .i64 2147483648) ∧ w'.cell? ⟨g5, 2, none⟩ = some (.int .i64 2147483648) ∧ w'.cell? ⟨g5, 3, none⟩ = some (.int .i64 0) ∧ Below (w6.heap.size) (w6) w') (((try go_split_ands); (with_reducible apply HSS); first | (with_reducible assumption) | (with_reducible (apply bC HSSb k1; assumption)) | (with_reducible (apply bAA HSSl; assumption)) | (repeat (first | (with_reducible assumption) | (with_reducible apply Below.refl) | (with_reducible apply bS (hp := HSSb)) | (with_reducible apply bSe) | (with_reducible apply bA HSSb) | (with_reducible apply bD))))) (first | ((go_at_call 12; refine (HR.out _).mono ?_; rintro e w7 ⟨rfl, k1⟩)) | ((go_at_call 22; refine (HE.out _).mono ?_; rintro e w7 ⟨rfl, k1⟩)) | ((go_at_call 21; refine (HPA.out _).mono ?_; rintro e w7 ⟨vp, vps, rfl, hot, k1⟩)))
  all_goals go_split_ands
  all_goals
    have hbel := (kk5.below (Nat.le_refl _) (by simp)).trans ((by assumption : Below w6.heap.size w6 w7).mono kk5.size)
    obtain ⟨K, hK⟩ : ∃ K, ((k : Int) == 0) = K := ⟨_, rfl⟩
    obtain ⟨L, hL⟩ : ∃ L, ((T.length : Int) == 1) = L := ⟨_, rfl⟩
    obtain ⟨A, c, rfl, hA1, hA2⟩ := hot.2.1.form
    unfold maxLen at hA2
    clear hf h2 h2' hv hf2 hel hcat hsum kk5 hll hlb
    cases K
    · go_wp2_with (fail)
      refine (HA.out _).mono ?_
      rintro e w8 ⟨rfl, k8⟩
      go_wp2_with (fail)
      go_ret
      exact ⟨rfl, hbel.trans ((k8.below (Nat.le_refl _) (by simp)).mono hbel.size)⟩
    cases L
    · go_wp2_with (fail)
      refine (HA.out _).mono ?_
      rintro e w8 ⟨rfl, k8⟩
      go_wp2_with (fail)
      go_ret
      exact ⟨rfl, hbel.trans ((k8.below (Nat.le_refl _) (by simp)).mono hbel.size)⟩
    have hk0 : k = 0 := by simpa using hK
    have hT1 : T.length = 1 := by
      have := hL
      rw [beq_iff_eq] at this
      omega
    obtain ⟨r0, rfl⟩ : ∃ r0, T = [r0] := by
      match T, hT1 with
      | [r0], _ => exact ⟨r0, rfl⟩
    subst hk0
    have hne : decide (r0 = [f]) = false := by
      rw [decide_eq_false_iff_not]
      rintro rfl
      exact HM.out a rfl
    obtain ⟨b9, o9, A9, c9, rfl, _, hc9, hr9⟩ := (hot.tbl (Nat.le_refl _)).at_ (k := 0) (by simp)
    simp only [List.getElem_cons_zero, Nat.add_zero] at hc9 hr9
    have hr10 := hr9.below (Below.alloc (Below.refl _ w7) (Nat.le_refl _) (.cells #[sv f] 9)) (Nat.le_refl _)
    have hc10 : (w7.alloc (.cells #[sv f] 9)).cell? ⟨w7.heap.size, 0, none⟩ = some (sv f) := (Blk.new w7 9 [sv f]).cell_of (i := 0) rfl
    have HS2 := Lib.hid (HS.out _ r0 _ _ hr10 _ hc10)
    rw [hne] at HS2
    clear hne hot HM hr9 hr10 hc10 hK hL hT1
    simp only [List.length_singleton]
    go_wp2_with (fail)
    refine HS2.out.mono ?_
    rintro e w8 ⟨rfl, m8, rfl⟩
    go_wp2_with (fail)
    refine (HA.out _).mono ?_
    rintro e w9 ⟨rfl, k9⟩
    go_wp2_with (fail)
    go_ret
    refine ⟨rfl, hbel.trans (Below.mono (B := w7.heap.size) ?_ hbel.size)⟩
    exact ((((Keeps.alloc [] w7 _).drewN1 m8).trans k9 (by simp))).below (Nat.le_refl _) (by simp)
set_option maxRecDepth 100000 in
theorem lifted (os : Os) (started : os.Started) (H : Type) (enc : TypeId × Value → H) :
    ReturnsInHanded {} Try.checked os 6 .any (Rows.needMustSpec.pre6 enc Try.prog Try.f6 Rows.needMustRow.domain false) (Rows.needMustSpec.post enc Try.prog Try.f6 false true false false) := by
  refine returnsInHanded_of_change_sized (C := Try.checked) own started (by kernel_rfl) Try.func6
    (ChangeSpec.witness6 (enc := enc) (C := Try.checked) false ⟨#[], #[.agg #[.int .u8 0, .int .u8 0, .int .i64 0], .string .empty], []⟩ 8 (by kernel_rfl) (by kernel_rfl) (by kernel_rfl) (by kernel_rfl)) ?_
  intro W base args ds gs before hval0 hW hcnd hsz0 _
  have hval : ∀ (j : Nat) t v, Try.f6.params[j]? = some t → args[j]? = some v → Value.okWide Try.prog W .any base t v := hval0
  have hW' := hW
  obtain ⟨p, q, hA0, hV, rfl, hfz, hnd⟩ := hW
  have hA : DataW.TrodAll enc Try.prog W 0 (fun _ => true) true Try.f6.params.toList args.toList ds p := hA0
  have hsz : (DataW.weightsEach Try.prog (Try.f6.params.toList ++ Rows.needMustSpec.plain.varTypes Try.prog) (ds ++ gs)).all (· ≤ reachBytes) = true := hsz0
  rw [Try.params6] at hA hval hsz
  obtain ⟨v0, vs0, d0, ds0, p0, q0, hargs, rfl, rfl, k0, r0⟩ := trodAll_cons hA
  obtain ⟨v1, vs1, d1, ds1, p1, q1, rfl, rfl, rfl, k1, r1⟩ := trodAll_cons r0
  obtain ⟨rfl, rfl, rfl⟩ := trodAll_nil r1
  obtain rfl : args = #[v0, v1] := by cases args; simp_all
  obtain ⟨rfl, rfl⟩ := trodVars_none hV
  have lt0 := Trod_lt k0
  have lt1 := Trod_lt k1
  obtain ⟨x0, y0, z0, rfl, hz0⟩ := Trod_dialect Try.underlying23 (by kernel_rfl) (by kernel_rfl) Try.underlying5 Try.underlying5 Try.underlying3 (hval 0 23 v0 rfl rfl) k0
  obtain ⟨l1, rfl, hl1⟩ := Trod_str Try.underlying9 (hval 1 9 v1 rfl rfl) k1 (wt_of hsz (j := 1) rfl rfl)
  clear hA0 hval0 hsz0
  refine (walk ⟨x0, y0, z0⟩ l1 hl1 W).mono fun e W' ⟨he, bel⟩ => ?_
  subst he
  exact ⟨_, rfl, _, _, _, [], _, [], hW', trodAll_mk1 (shut_bool Try.underlying4 _), (trodAll_cons_mk (Below.trod laidOut (by kernel_rfl) (of_decide_eq_true (by kernel_rfl)) k0 bel lt0) (trodAll_cons_mk (Below.trod laidOut (by kernel_rfl) (of_decide_eq_true (by kernel_rfl)) k1 bel lt1) trodAll_mk0)), rfl, bel.frame _, fun h => by cases h⟩

theorem proved : Rows.NeedMustSaid :=
  OpenClaim.holds_of_wide 6 Try.f6 rfl rfl rfl rfl rfl rfl rfl ⟨rfl, rfl, rfl, rfl, rfl⟩ rfl rfl rfl rfl rfl (by kernel_rfl) Try.func6 (by kernel_rfl)
    (of_decide_eq_true (by kernel_rfl)) (by unfold Func.isWrapper; first | (rw [if_pos (by decide +kernel)]; kernel_rfl) | (rw [if_neg (by decide +kernel)]; exact ⟨rfl, rfl⟩))
    (fun os started H enc _ => lifted os started H enc)
end Go.Proofs.Ytpbmengaaagbkaa.NeedMustP
namespace Go.Proofs.Ytpbmengaaagbkaa
theorem needMust_holds : Rows.NeedMustSaid := NeedMustP.proved
#print axioms needMust_holds
end Go.Proofs.Ytpbmengaaagbkaa
