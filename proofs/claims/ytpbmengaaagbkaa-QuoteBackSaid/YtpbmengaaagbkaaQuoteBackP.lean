/- PROVED: for every dialect d, string f and byte where, QuoteBack(d, f, where) returns true and leaves its arguments as they were. No condition. -/
import Derived.Test.YtpbmengaaagbkaaRows
import Derived.Test.YtpbmengaaagbkaaNeed2
import Derived.Test.YtpbmengaaagbkaaQuo4
import Derived.Test.YtpbmengaaagbkaaOpenD
import Derived.Test.YtpbmengaaagbkaaWide
namespace Go.Proofs.Ytpbmengaaagbkaa.QuoteBackP
set_option linter.unusedVariables false
set_option linter.unusedSimpArgs false
open Go.ChangeShapes Go.WideShapes Go.ChangeAt Go.RowKit Q Mach Dia Bom Need Quo QuoPlain Par Wide Same
attribute [local go_sem ↓] Go.wp_at_zero Go.wp_at_succ

theorem own : ownKnob Try.prog.godebug = none := by kernel_rfl
theorem laidOut : laidOutB Try.prog = true := by kernel_rfl
theorem unq_quo (d : Dia) (f : Bs) : unquoB d (quoB d.quote f) = (f, true, 0) := by
  have h := inner_quo d.quote f
  unfold unquoB
  rw [show quoB d.quote f = d.quote :: (dbl d.quote f ++ [d.quote]) from rfl] at h ⊢
  simp only [beq_self_eq_true, if_true, h]
theorem unq_writ (d : Dia) (f : Bs) (a b : Bool) : unquoB d (writB d f a b) = (f, (whyB d f a b != 0), 0) := by
  unfold writB
  cases h : (whyB d f a b != 0)
  · simp only [Bool.false_eq_true, if_false]
    have hb := Wr.why_bad (d := d) (f := f) (al := a) (fi := b) (by rw [← why_eq]; exact h)
    unfold unquoB
    cases f with
    | nil => rfl
    | cons c t =>
      have hq : (c == d.quote) = false := by simpa using (Wr.bad_parts (hb c (by simp))).2
      have ha : (c :: t).any (badB d) = false := by
        rw [List.any_eq_false]
        intro x hx
        simp [hb x hx]
      simp only [hq, Bool.false_eq_true, if_false, ha]
  · simp only [if_true]
    exact unq_quo d f
set_option maxRecDepth 100000 in
set_option maxHeartbeats 20000000 in
theorem walk (d : Dia) (f : Bs) (hf : f.length ≤ reachBytes) (b : UInt8) (w : World) : Calls Try.prog 8 #[diaV d, sv f, bv b] w fun e w' => e = .returned (.bool true) ∧ Below w.heap.size w w' := by
  unfold reachBytes at hf
  have HA := Lib.hid awake9_c
  have HR := Lib.hid (fun w => ref_c d w)
  have HRR := Lib.hid (fun w => right_c d w)
  have kp : Keeps [] w (w.alloc (.cells #[bv d.delim, bv d.quote, .int .i64 d.fin] 23)) := Keeps.alloc [] w _
  have hbx := Blk.new w 23 [bv d.delim, bv d.quote, .int .i64 d.fin]
  by_cases h2 : 200 < f.length
  · obtain ⟨x, y, z⟩ := d
    go_enter Try.func8, Try.ntmps8
    go_wp2_with (fail)
    refine (HA.out _).mono ?_
    rintro e w1 ⟨rfl, k1⟩
    go_wp2_with (fail)
    go_ret
    exact ⟨rfl, (kp.trans k1 (by simp)).below (Nat.le_refl _) (by simp)⟩
  have h2' : decide (200 < (f.length : Int)) = false := by simp; omega
  obtain ⟨R, hR⟩ : ∃ R, d.right = R := ⟨_, rfl⟩
  rw [hR] at HRR
  cases R
  · obtain ⟨x, y, z⟩ := d
    go_enter Try.func8, Try.ntmps8
    go_wp2_with (fail)
    refine (HR.out _).mono ?_
    rintro e w1 ⟨rfl, k1⟩
    go_wp2_with (fail)
    refine (HRR.out _).mono ?_
    rintro e w2 ⟨rfl, k2⟩
    go_wp2_with (fail)
    refine (HA.out _).mono ?_
    rintro e w3 ⟨rfl, k3⟩
    go_wp2_with (fail)
    go_ret
    exact ⟨rfl, (((kp.trans k1 (by simp)).trans k2 (by simp)).trans k3 (by simp)).below (Nat.le_refl _) (by simp)⟩
  have hql : (quoB d.quote f).length ≤ 402 := by have := dbl_len d.quote f; rw [Wr.quo_len]; omega
  obtain ⟨al, hal⟩ : ∃ al, (bits .and .u8 (b.toNat : Int) 1 == 1) = al := ⟨_, rfl⟩
  obtain ⟨fi, hfi⟩ : ∃ fi, (bits .and .u8 (b.toNat : Int) 2 == 2) = fi := ⟨_, rfl⟩
  have hwl : (writB d f al fi).length ≤ 402 := by have h := Wr.writ_le (d := d) f al fi; have e : writB d f al fi = Wr.writ d f al fi := rfl; rw [e]; omega
  have HW := Lib.hid (fun w => written_c d f al fi (by omega) w)
  have HQ := Lib.hid (fun w => quoted_c d f (by omega) w)
  have HU1 := Lib.hid (fun w => unquote_c d (writB d f al fi) (by omega) w)
  have HU2 := Lib.hid (fun w => unquote_c d (quoB d.quote f) (by omega) w)
  rw [unq_writ] at HU1
  rw [unq_quo] at HU2
  obtain ⟨iq, hiq⟩ : ∃ iq, (whyB d f al fi != 0) = iq := ⟨_, rfl⟩
  rw [hiq] at HU1
  have HWH := Lib.hid (fun w => UtfW.whole_c f (by omega) w)
  have HPQ : Hid (¬ Utf.wholeP f < f.length → ∀ w, Calls Try.prog 21 #[rdiaV d, .agg #[.int .i64 2147483648, .int .i64 2147483648, .int .i64 2147483648, .int .i64 0], sv (quoB d.quote f)] w (ParseP ([[f]], 0, 0) w)) := Lib.hid (fun h w => by
    have h1 := parse_w d (quoB d.quote f) (by omega) w
    rw [Wr.parse_quoted hR wide rfl f (by simp only [wide]; omega) (by simp [wide]) (by simp [wide]) (valid_of_whole h)] at h1
    exact h1)
  have HS := Lib.hid (fun A a B1 w (h : Rd w B1 1 A a.length (a.map sv)) g (hc : w.cell? ⟨g, 0, none⟩ = some (sv f)) => same_c A (.slice (some ⟨g, 0, none⟩) 1 1) a [f] B1 w.heap.size w h (rd_cells1 hc))
  clear hR hiq hql hwl
  generalize writB d f al fi = wt at *
  generalize quoB d.quote f = qt at *
  unfold unV at HU1 HU2
  obtain ⟨x, y, z⟩ := d
  go_enter Try.func8, Try.ntmps8
  go_wp2_with (fail)
  refine (HR.out _).mono ?_
  rintro e w1 ⟨rfl, k1⟩
  go_wp2_with (fail)
  refine (HRR.out _).mono ?_
  rintro e w6 ⟨rfl, k2⟩
  have kk6 := (kp.trans k1 (by simp)).trans k2 (by simp)
  have hb6 := (hbx.keep k1 (by simp)).keep k2 (by simp)
  have e0 := hb6.cell_of (i := 0) rfl
  have e1 := hb6.cell_of (i := 1) rfl
  have e2 := hb6.cell_of (i := 2) rfl
  have hlb := hb6.lt
  clear k1 k2 hbx kp hb6 h2'
  go_upto_region 3 with (fail)
  have HSS := fun w' (hb : Below (w6.heap.size) (w6) w') => ((⟨(hb.cell (p := ⟨w.heap.size, 0, none⟩) (hlb)).trans (e0), (hb.cell (p := ⟨w.heap.size, 1, none⟩) (hlb)).trans (e1), (hb.cell (p := ⟨w.heap.size, 2, none⟩) (hlb)).trans (e2), hb⟩) : w'.cell? ⟨w.heap.size, 0, none⟩ = some (bv x) ∧ w'.cell? ⟨w.heap.size, 1, none⟩ = some (bv y) ∧ w'.cell? ⟨w.heap.size, 2, none⟩ = some (.int .i64 z) ∧ Below (w6.heap.size) (w6) w')
  have HSSb : w6.heap.size ≤ (w6).heap.size := Nat.le_refl _
  go_region_held3 (fun w' => w'.cell? ⟨w.heap.size, 0, none⟩ = some (bv x) ∧ w'.cell? ⟨w.heap.size, 1, none⟩ = some (bv y) ∧ w'.cell? ⟨w.heap.size, 2, none⟩ = some (.int .i64 z) ∧ Below (w6.heap.size) (w6) w') (((try go_split_ands); (with_reducible apply HSS); first | (with_reducible assumption) | (with_reducible (apply bC HSSb k1; assumption)) | (with_reducible (apply bAA HSSl; assumption)) | (repeat (first | (with_reducible assumption) | (with_reducible apply Below.refl) | (with_reducible apply bS (hp := HSSb)) | (with_reducible apply bSe) | (with_reducible apply bA HSSb) | (with_reducible apply bD))))) (first | ((go_at_call 27; refine (HW.out _).mono ?_; rintro e w7 ⟨rfl, k1⟩)) | ((go_at_call 25; refine (HU1.out _).mono ?_; rintro e w7 ⟨rfl, k1⟩)))
  all_goals go_split_ands
  have hbel7 := (by assumption : Below w6.heap.size w6 w7)
  have hs7 := HSS w7 hbel7
  have hlb7 : w.heap.size < w7.heap.size := Nat.lt_of_lt_of_le hlb hbel7.size
  have kk7 : Below w.heap.size w w7 := (kk6.below (Nat.le_refl _) (by simp)).trans (hbel7.mono kk6.size)
  clear e0 e1 e2 hlb kk6 hbel7 HSS HSSb k1 HU1 HW HRR
  obtain ⟨d0, d1, d2, _⟩ := hs7
  go_wp2_with (fail)
  have HST := fun w' (hb : Below (w7.heap.size) (w7) w') => ((⟨(hb.cell (p := ⟨w.heap.size, 0, none⟩) (hlb7)).trans (d0), (hb.cell (p := ⟨w.heap.size, 1, none⟩) (hlb7)).trans (d1), (hb.cell (p := ⟨w.heap.size, 2, none⟩) (hlb7)).trans (d2), hb⟩) : w'.cell? ⟨w.heap.size, 0, none⟩ = some (bv x) ∧ w'.cell? ⟨w.heap.size, 1, none⟩ = some (bv y) ∧ w'.cell? ⟨w.heap.size, 2, none⟩ = some (.int .i64 z) ∧ Below (w7.heap.size) (w7) w')
  have HSTb : w7.heap.size ≤ (w7).heap.size := Nat.le_refl _
  go_region_held3 (fun w' => w'.cell? ⟨w.heap.size, 0, none⟩ = some (bv x) ∧ w'.cell? ⟨w.heap.size, 1, none⟩ = some (bv y) ∧ w'.cell? ⟨w.heap.size, 2, none⟩ = some (.int .i64 z) ∧ Below (w7.heap.size) (w7) w') (((try go_split_ands); (with_reducible apply HST); first | (with_reducible assumption) | (with_reducible (apply bC HSTb k1; assumption)) | (with_reducible (apply bAA HSTl; assumption)) | (repeat (first | (with_reducible assumption) | (with_reducible apply Below.refl) | (with_reducible apply bS (hp := HSTb)) | (with_reducible apply bSe) | (with_reducible apply bA HSTb) | (with_reducible apply bD))))) (first | ((go_at_call 28; refine (HQ.out _).mono ?_; rintro e w8 ⟨rfl, k1⟩)) | ((go_at_call 25; refine (HU2.out _).mono ?_; rintro e w8 ⟨rfl, k1⟩)))
  all_goals go_split_ands
  have hbel8 := (by assumption : Below w7.heap.size w7 w8)
  have hs8 := HST w8 hbel8
  have hlb8 : w.heap.size < w8.heap.size := Nat.lt_of_lt_of_le hlb7 hbel8.size
  have kk8 : Below w.heap.size w w8 := kk7.trans (hbel8.mono kk7.size)
  clear d0 d1 d2 hlb7 kk7 hbel8 HST HSTb k1 HU2
  obtain ⟨f0, f1, f2, _⟩ := hs8
  by_cases hv : Utf.wholeP f < f.length
  · go_wp2_with (fail)
    refine (HWH.out _).mono ?_
    rintro e w9 ⟨rfl, k9⟩
    go_wp2_with (fail)
    refine (HA.out _).mono ?_
    rintro e w10 ⟨rfl, k10⟩
    go_wp2_with (fail)
    go_ret
    exact ⟨rfl, kk8.trans (((k9.trans k10 (by simp)).below (Nat.le_refl _) (by simp)).mono kk8.size)⟩
  have HPA := Lib.hid (HPQ.out hv)
  clear HPQ
  go_wp2_with (fail)
  refine (HWH.out _).mono ?_
  rintro e w9 ⟨rfl, k9⟩
  have kk9 : Below w.heap.size w w9 := kk8.trans ((k9.below (Nat.le_refl _) (by simp)).mono kk8.size)
  have f0 := kC k9 f0 (by simp)
  have f1 := kC k9 f1 (by simp)
  have f2 := kC k9 f2 (by simp)
  have hlb9 : w.heap.size < w9.heap.size := Nat.lt_of_lt_of_le hlb8 k9.size
  clear hlb8 kk8 k9
  go_wp2_with (fail)
  have kk5 := kk9.alloc kk9.size (.cells #[.int .i64 2147483648, .int .i64 2147483648, .int .i64 2147483648, .int .i64 0] 42)
  have e0 := kA f0 (.cells #[.int .i64 2147483648, .int .i64 2147483648, .int .i64 2147483648, .int .i64 0] 42)
  have e1 := kA f1 (.cells #[.int .i64 2147483648, .int .i64 2147483648, .int .i64 2147483648, .int .i64 0] 42)
  have e2 := kA f2 (.cells #[.int .i64 2147483648, .int .i64 2147483648, .int .i64 2147483648, .int .i64 0] 42)
  have hl5 := Blk.new w9 42 [.int .i64 2147483648, .int .i64 2147483648, .int .i64 2147483648, .int .i64 0]
  have hlb := lA hlb9 (.cells #[.int .i64 2147483648, .int .i64 2147483648, .int .i64 2147483648, .int .i64 0] 42)
  have hll := hl5.lt
  clear f0 f1 f2 hlb9 kk9
  generalize w9.heap.size = g5 at *
  change Blk (w9.alloc (.cells #[.int .i64 2147483648, .int .i64 2147483648, .int .i64 2147483648, .int .i64 0] 42)) g5 _ _ at hl5
  change g5 < (w9.alloc (.cells #[.int .i64 2147483648, .int .i64 2147483648, .int .i64 2147483648, .int .i64 0] 42)).heap.size at hll
  generalize w9.alloc _ = w6 at *
  have m0 := hl5.cell_of (i := 0) rfl
  have m1 := hl5.cell_of (i := 1) rfl
  have m2 := hl5.cell_of (i := 2) rfl
  have m3 := hl5.cell_of (i := 3) rfl
  clear hl5
  have HSS := fun w' (hb : Below (w6.heap.size) (w6) w') => ((⟨(hb.cell (p := ⟨w.heap.size, 0, none⟩) (hlb)).trans (e0), (hb.cell (p := ⟨w.heap.size, 1, none⟩) (hlb)).trans (e1), (hb.cell (p := ⟨w.heap.size, 2, none⟩) (hlb)).trans (e2), (hb.cell (p := ⟨g5, 0, none⟩) (hll)).trans (m0), (hb.cell (p := ⟨g5, 1, none⟩) (hll)).trans (m1), (hb.cell (p := ⟨g5, 2, none⟩) (hll)).trans (m2), (hb.cell (p := ⟨g5, 3, none⟩) (hll)).trans (m3), hb⟩) : w'.cell? ⟨w.heap.size, 0, none⟩ = some (bv x) ∧ w'.cell? ⟨w.heap.size, 1, none⟩ = some (bv y) ∧ w'.cell? ⟨w.heap.size, 2, none⟩ = some (.int .i64 z) ∧ w'.cell? ⟨g5, 0, none⟩ = some (.int .i64 2147483648) ∧ w'.cell? ⟨g5, 1, none⟩ = some (.int .i64 2147483648) ∧ w'.cell? ⟨g5, 2, none⟩ = some (.int .i64 2147483648) ∧ w'.cell? ⟨g5, 3, none⟩ = some (.int .i64 0) ∧ Below (w6.heap.size) (w6) w')
  have HSSb : w6.heap.size ≤ (w6).heap.size := Nat.le_refl _
  go_region_held3 (fun w' => w'.cell? ⟨w.heap.size, 0, none⟩ = some (bv x) ∧ w'.cell? ⟨w.heap.size, 1, none⟩ = some (bv y) ∧ w'.cell? ⟨w.heap.size, 2, none⟩ = some (.int .i64 z) ∧ w'.cell? ⟨g5, 0, none⟩ = some (.int .i64 2147483648) ∧ w'.cell? ⟨g5, 1, none⟩ = some (.int .i64 2147483648) ∧ w'.cell? ⟨g5, 2, none⟩ = some (.int .i64 2147483648) ∧ w'.cell? ⟨g5, 3, none⟩ = some (.int .i64 0) ∧ Below (w6.heap.size) (w6) w') (((try go_split_ands); (with_reducible apply HSS); first | (with_reducible assumption) | (with_reducible (apply bC HSSb k1; assumption)) | (with_reducible (apply bAA HSSl; assumption)) | (repeat (first | (with_reducible assumption) | (with_reducible apply Below.refl) | (with_reducible apply bS (hp := HSSb)) | (with_reducible apply bSe) | (with_reducible apply bA HSSb) | (with_reducible apply bD))))) (first | ((go_at_call 12; refine (HR.out _).mono ?_; rintro e w7 ⟨rfl, k1⟩)) | ((go_at_call 28; refine (HQ.out _).mono ?_; rintro e w7 ⟨rfl, k1⟩)) | ((go_at_call 21; refine (HPA.out _).mono ?_; rintro e w7 ⟨vp, vps, rfl, hot, k1⟩)))
  all_goals go_split_ands
  all_goals
    have hbel := kk5.trans ((by assumption : Below w6.heap.size w6 w7).mono kk5.size)
    obtain ⟨A2, c2, rfl, hA1, hA2⟩ := hot.2.1.form
    unfold maxLen at hA2
    obtain ⟨b9, o9, A9, c9, rfl, _, hc9, hr9⟩ := (hot.tbl (Nat.le_refl _)).at_ (k := 0) (by simp)
    simp only [List.getElem_cons_zero, Nat.add_zero] at hc9 hr9
    have hr10 := hr9.below (Below.alloc (Below.refl _ w7) (Nat.le_refl _) (.cells #[sv f] 9)) (Nat.le_refl _)
    have hc10 : (w7.alloc (.cells #[sv f] 9)).cell? ⟨w7.heap.size, 0, none⟩ = some (sv f) := (Blk.new w7 9 [sv f]).cell_of (i := 0) rfl
    have HS2 := Lib.hid (HS.out _ [f] _ _ hr10 _ hc10)
    rw [decide_eq_true rfl] at HS2
    clear hot hr9 hr10 hc10 kk5 hll hlb
    simp only [List.length_singleton]
    go_wp2_with (fail)
    refine HS2.out.mono ?_
    rintro e w8 ⟨rfl, m8, rfl⟩
    go_wp2_with (fail)
    refine (HA.out _).mono ?_
    rintro e w9 ⟨rfl, k9⟩
    go_wp2_with (fail)
    go_ret
    refine ⟨rfl, hbel.trans (Below.mono (B := w7.heap.size) ?_ hbel.size)⟩
    exact ((((Keeps.alloc [] w7 _).drewN1 m8).trans k9 (by simp))).below (Nat.le_refl _) (by simp)
set_option maxRecDepth 100000 in
theorem lifted (os : Os) (started : os.Started) (H : Type) (enc : TypeId × Value → H) :
    ReturnsInHanded {} Try.checked os 8 .any (Rows.quoteBackSpec.pre6 enc Try.prog Try.f8 Rows.quoteBackRow.domain false) (Rows.quoteBackSpec.post enc Try.prog Try.f8 false true false false) := by
  refine returnsInHanded_of_change_sized (C := Try.checked) own started (by kernel_rfl) Try.func8
    (ChangeSpec.witness6 (enc := enc) (C := Try.checked) false ⟨#[], #[.agg #[.int .u8 0, .int .u8 0, .int .i64 0], .string .empty, .int .u8 0], []⟩ 8 (by kernel_rfl) (by kernel_rfl) (by kernel_rfl) (by kernel_rfl)) ?_
  intro W base args ds gs before hval0 hW hcnd hsz0 _
  have hval : ∀ (j : Nat) t v, Try.f8.params[j]? = some t → args[j]? = some v → Value.okWide Try.prog W .any base t v := hval0
  have hW' := hW
  obtain ⟨p, q, hA0, hV, rfl, hfz, hnd⟩ := hW
  have hA : DataW.TrodAll enc Try.prog W 0 (fun _ => true) true Try.f8.params.toList args.toList ds p := hA0
  have hsz : (DataW.weightsEach Try.prog (Try.f8.params.toList ++ Rows.quoteBackSpec.plain.varTypes Try.prog) (ds ++ gs)).all (· ≤ reachBytes) = true := hsz0
  rw [Try.params8] at hA hval hsz
  obtain ⟨v0, vs0, d0, ds0, p0, q0, hargs, rfl, rfl, k0, r0⟩ := trodAll_cons hA
  obtain ⟨v1, vs1, d1, ds1, p1, q1, rfl, rfl, rfl, k1, r1⟩ := trodAll_cons r0
  obtain ⟨v2, vs2, d2, ds2, p2, q2, rfl, rfl, rfl, k2, r2⟩ := trodAll_cons r1
  obtain ⟨rfl, rfl, rfl⟩ := trodAll_nil r2
  obtain rfl : args = #[v0, v1, v2] := by cases args; simp_all
  obtain ⟨rfl, rfl⟩ := trodVars_none hV
  have lt0 := Trod_lt k0
  have lt1 := Trod_lt k1
  have lt2 := Trod_lt k2
  obtain ⟨x0, y0, z0, rfl, hz0⟩ := Trod_dialect Try.underlying23 (by kernel_rfl) (by kernel_rfl) Try.underlying5 Try.underlying5 Try.underlying3 (hval 0 23 v0 rfl rfl) k0
  obtain ⟨l1, rfl, hl1⟩ := Trod_str Try.underlying9 (hval 1 9 v1 rfl rfl) k1 (wt_of hsz (j := 1) rfl rfl)
  obtain ⟨b2, rfl⟩ := Trod_u8 Try.underlying5 (hval 2 5 v2 rfl rfl) k2
  clear hA0 hval0 hsz0
  refine (walk ⟨x0, y0, z0⟩ l1 hl1 b2 W).mono fun e W' ⟨he, bel⟩ => ?_
  subst he
  exact ⟨_, rfl, _, _, _, [], _, [], hW', trodAll_mk1 (shut_bool Try.underlying4 _), (trodAll_cons_mk (Below.trod laidOut (by kernel_rfl) (of_decide_eq_true (by kernel_rfl)) k0 bel lt0) (trodAll_cons_mk (Below.trod laidOut (by kernel_rfl) (of_decide_eq_true (by kernel_rfl)) k1 bel lt1) (trodAll_cons_mk (Below.trod laidOut (by kernel_rfl) (of_decide_eq_true (by kernel_rfl)) k2 bel lt2) trodAll_mk0))), rfl, bel.frame _, fun h => by cases h⟩

theorem proved : Rows.QuoteBackSaid :=
  OpenClaim.holds_of_wide 8 Try.f8 rfl rfl rfl rfl rfl rfl rfl ⟨rfl, rfl, rfl, rfl, rfl⟩ rfl rfl rfl rfl rfl (by kernel_rfl) Try.func8 (by kernel_rfl)
    (of_decide_eq_true (by kernel_rfl)) (by unfold Func.isWrapper; first | (rw [if_pos (by decide +kernel)]; kernel_rfl) | (rw [if_neg (by decide +kernel)]; exact ⟨rfl, rfl⟩))
    (fun os started H enc _ => lifted os started H enc)
end Go.Proofs.Ytpbmengaaagbkaa.QuoteBackP
namespace Go.Proofs.Ytpbmengaaagbkaa
theorem quoteBack_holds : Rows.QuoteBackSaid := QuoteBackP.proved
#print axioms quoteBack_holds
end Go.Proofs.Ytpbmengaaagbkaa
