/- PROVED: for every dialect d and record r, NeedPlain(d, r) returns true and leaves its arguments as they were. No condition. -/
import Derived.Test.YtpbmengaaagbkaaRows
import Derived.Test.YtpbmengaaagbkaaNeed2
import Derived.Test.YtpbmengaaagbkaaOpenD
import Derived.Test.YtpbmengaaagbkaaWide
namespace Go.Proofs.Ytpbmengaaagbkaa.NeedPlainP
set_option linter.unusedVariables false
set_option linter.unusedSimpArgs false
open Go.ChangeShapes Go.WideShapes Go.ChangeAt Go.RowKit Q Mach Dia Bom Need Par Wide Same
attribute [local go_sem ↓] Go.wp_at_zero Go.wp_at_succ

theorem own : ownKnob Try.prog.godebug = none := by kernel_rfl
theorem laidOut : laidOutB Try.prog = true := by kernel_rfl
theorem bytes_eq (r : Row) : rowBytes r = rowBytes' r := by
  unfold rowBytes
  induction r with
  | nil => rfl
  | cons f r ih => simp [rowBytes', ih]
theorem str_le {r : Row} {s : Bs} (hs : s ∈ r) : s.length ≤ rowBytes r := by
  unfold rowBytes
  induction r with
  | nil => cases hs
  | cons a r ih =>
    rcases List.mem_cons.1 hs with rfl | h
    · simp
    · have := ih h; simp; omega
theorem plain (d : Dia) (hd : d.right = true) (r : Row) (hr : r ≠ []) (h20 : r.length ≤ 20) (h400 : rowBytes r ≤ 400)
    (h : ∀ (j : Nat) (hj : j < r.length), (whyB d r[j] (r.length == 1) (j == 0) != 0) = false ∧ Utf.valid r[j] = true) : parseP d wide (jn d true r ++ endB d.fin) = ([r], 0, 0) := by
  have e : jn d true r ++ endB d.fin = Wr.textB d true [r] := by
    rw [Wr.textB, Wr.textB, List.append_nil, Wr.lineB, (row_plain d (r.length == 1) r true (fun i hi => by have := (h i hi).1; rw [why_eq] at this; simpa using this)).1]
    rfl
  rw [e]
  refine Wr.parse_text hd wide rfl [r] ?_ ?_ (by simp [wide])
  · intro x hx
    simp only [List.mem_singleton] at hx
    subst hx
    exact ⟨hr, by simp only [wide]; omega, fun f hf => by have := str_le hf; simp only [wide]; omega⟩
  · intro x hx f hf
    simp only [List.mem_singleton] at hx
    subst hx
    obtain ⟨j, hj, rfl⟩ := List.getElem_of_mem hf
    exact (h j hj).2
set_option maxRecDepth 100000 in
set_option maxHeartbeats 20000000 in
theorem walk (d : Dia) (A : Value) (r : Row) (w : World) (hr : Rd w w.heap.size 1 A r.length (r.map sv)) (hs : ∀ s ∈ r, s.length ≤ reachBytes) : Calls Try.prog 5 #[diaV d, A] w fun e w' => e = .returned (.bool true) ∧ Below w.heap.size w w' := by
  have HA := Lib.hid Need.awake_c
  have HR := Lib.hid (fun w => ref_c d w)
  have HRR := Lib.hid (fun w => right_c d w)
  have hr' := hr
  obtain ⟨A, ca, rfl, ha1, ha2⟩ := hr.form
  unfold maxLen at ha2
  have kp : Keeps [] w (w.alloc (.cells #[bv d.delim, bv d.quote, .int .i64 d.fin] 23)) := Keeps.alloc [] w _
  have hbx := Blk.new w 23 [bv d.delim, bv d.quote, .int .i64 d.fin]
  have HF := Lib.hid (fun w2 h2 => few_c (.slice A r.length ca) r w.heap.size w2 h2 hs)
  have c0 := hbx.cell_of (i := 0) rfl
  have c1 := hbx.cell_of (i := 1) rfl
  have c2 := hbx.cell_of (i := 2) rfl
  have hrA := hr'.keepB kp (by simp)
  have HE := Lib.hid (fun w => rend_c d w)
  obtain ⟨R, hR⟩ : ∃ R, d.right = R := ⟨_, rfl⟩
  rw [hR] at HRR
  have HRI := Lib.hid hR
  clear hR
  have hel : (endB d.fin).length ≤ 2 := Wide.eol_len d
  obtain ⟨DD, hDD⟩ : ∃ D : Dia, D = d := ⟨_, rfl⟩
  have HDD := Lib.hid hDD
  clear hDD
  obtain ⟨x, y, z⟩ := d
  go_enter Try.func5, Try.ntmps5
  go_wp2_with (fail)
  refine (HF.out _ hrA).mono ?_
  rintro e w1 ⟨b, rfl, hb, rfl⟩
  cases b
  · go_wp2_with (fail)
    refine (HA.out _).mono ?_
    rintro e w1 ⟨rfl, k1⟩
    go_wp2_with (fail)
    go_ret
    exact ⟨rfl, (kp.trans k1 (by simp)).below (Nat.le_refl _) (by simp)⟩
  obtain ⟨h20, h400⟩ := hb rfl
  clear hb
  by_cases hr0 : r = []
  · have e0 : ((r.length : Int) == 0) = true := by rw [hr0]; rfl
    clear hr0
    go_wp2_with (fail)
    refine (HA.out _).mono ?_
    rintro e w1 ⟨rfl, k1⟩
    go_wp2_with (fail)
    go_ret
    exact ⟨rfl, (kp.trans k1 (by simp)).below (Nat.le_refl _) (by simp)⟩
  have e0 : ((r.length : Int) == 0) = false := by
    rw [beq_eq_false_iff_ne]
    have := List.length_pos_iff.2 hr0
    omega
  have HR0 := Lib.hid hr0
  clear hr0
  go_wp2_with (fail)
  refine (HR.out _).mono ?_
  rintro e w1 ⟨rfl, k1⟩
  go_wp2_with (fail)
  refine (HRR.out _).mono ?_
  rintro e w2 ⟨rfl, k2⟩
  have kk := (kp.trans k1 (by simp)).trans k2 (by simp)
  have hb2 := (hbx.keep k1 (by simp)).keep k2 (by simp)
  cases R
  · go_wp2_with (fail)
    refine (HA.out _).mono ?_
    rintro e w3 ⟨rfl, k3⟩
    go_wp2_with (fail)
    go_ret
    exact ⟨rfl, (kk.trans k3 (by simp)).below (Nat.le_refl _) (by simp)⟩
  clear hbx kp k1 k2 c0 c1 c2 hrA
  go_wp2_with (fail)
  go_loopw [5, 29] (fun s i wr => ∃ k : Nat, k ≤ r.length ∧ i = .int .i64 k ∧ s = sv (jn DD true (r.take k)) ∧ (∀ (j : Nat) (hj : j < r.length), j < k → (whyB DD r[j] (r.length == 1) (j == 0) != 0) = false ∧ Utf.valid r[j] = true) ∧ Keeps [] w2 wr) (fun _ i _ => r.length - (intOf i).toNat)
  case atStart => exact ⟨0, by omega, rfl, rfl, by intro j _ h; omega, Keeps.refl _ _⟩
  case round =>
    obtain ⟨k, hk, rfl, rfl, hall, kw⟩ := hrel
    have kw0 : Keeps [] w wr := kk.trans kw (by simp)
    have hbw := hb2.keep kw (by simp)
    have d0 := hbw.cell_of (i := 0) rfl
    have d1 := hbw.cell_of (i := 1) rfl
    have d2 := hbw.cell_of (i := 2) rfl
    have hlt3 := hbw.lt
    have hjl := jn_len DD (r.take k) true
    have hrt : rowBytes' (r.take k) ≤ 400 := by
      rw [← bytes_eq]
      have : rowBytes (r.take k) ≤ rowBytes r := by
        conv => rhs; rw [← List.take_append_drop k r]
        unfold rowBytes
        rw [List.map_append, List.sum_append]
        omega
      omega
    have hjl : (jn DD true (r.take k)).length ≤ 420 := by rw [List.length_take] at hjl; omega
    clear hrt
    have HALL := Lib.hid hall
    clear hall
    by_cases hlt : k < r.length
    · have hrw := hr'.keepB kw0 (by simp)
      obtain ⟨g, o, rfl, _, cf⟩ := hrw.str_at hlt
      have hsl := str_le (List.getElem_mem hlt)
      have HJ := Lib.hid (jn_take DD r k hlt)
      obtain ⟨al, hal⟩ : ∃ al, (r.length == 1) = al := ⟨_, rfl⟩
      have hal' : ((r.length : Int) == 1) = al := by rw [← hal, Bool.eq_iff_iff, beq_iff_eq, beq_iff_eq]; omega
      obtain ⟨z0, hz0⟩ : ∃ z0, (k == 0) = z0 := ⟨_, rfl⟩
      have hz0' : ((k : Int) == 0) = z0 := by rw [← hz0, Bool.eq_iff_iff, beq_iff_eq, beq_iff_eq]; omega
      have hz1 : 0 < k ↔ z0 = false := by rw [← hz0, beq_eq_false_iff_ne]; omega
      have HZ1 := Lib.hid hz1
      clear hz1
      have e0 : (0 : Int) ≤ (k : Int) := by omega
      have e1 : (k : Int) < (r.length : Int) := by omega
      have HNX : Hid (∀ w, Calls Try.prog 17 #[diaV ⟨x, y, z⟩, sv r[k], .bool al, .bool z0] w fun e w' => e = .returned (.bool (whyB DD r[k] (r.length == 1) (k == 0) != 0)) ∧ Keeps [] w w') := Lib.hid (fun w => by
        rw [hal, hz0, HDD.out]
        exact need_c ⟨x, y, z⟩ r[k] al z0 (by simp only [maxLen]; omega) w)
      have HWH := Lib.hid (fun w => UtfW.whole_c r[k] (by omega) w)
      obtain ⟨q, hq⟩ : ∃ q, (whyB DD r[k] (r.length == 1) (k == 0) != 0) = q := ⟨_, rfl⟩
      rw [hq] at HNX
      rw [hz0] at HJ
      have HQ := Lib.hid hq
      have HV : Hid (¬ Utf.wholeP r[k] < r[k].length → Utf.valid r[k] = true) := Lib.hid valid_of_whole
      clear hq hrw hr hal hz0 hbw
      have HNEXT : Hid (q = false → ¬ Utf.wholeP r[k] < r[k].length → ∀ (j : Nat) (hj : j < r.length), j < k + 1 → (whyB DD r[j] (r.length == 1) (j == 0) != 0) = false ∧ Utf.valid r[j] = true) := Lib.hid (by
        intro h1 h2 j hj hjk
        by_cases e : j = k
        · subst e; exact ⟨HQ.out.trans h1, HV.out h2⟩
        · exact HALL.out j hj (by omega))
      have hsl2 : r[k].length ≤ 400 := by omega
      generalize r[k] = f at *
      have hcat : ∀ x y : List UInt8, (ByteArray.mk x.toArray ++ ByteArray.mk y.toArray) = ⟨(x ++ y).toArray⟩ := cat_mk
      have HJX : Hid (jn DD true (r.take (k + 1)) = jn DD true (r.take k) ++ ((if z0 then [] else [x]) ++ f)) := Lib.hid (by have h := HJ.out; rw [HDD.out] at h ⊢; exact h)
      clear HJ HRR HR HF HE HRI HQ HV HALL
      cases q
      · by_cases hv : Utf.wholeP f < f.length
        · go_wp2_with (fail)
          refine (HNX.out _).mono ?_
          rintro e w3 ⟨rfl, k3⟩
          go_wp2_with (fail)
          refine (HWH.out _).mono ?_
          rintro e w4 ⟨rfl, k4⟩
          go_wp2_with (fail)
          refine (HA.out _).mono ?_
          rintro e w5 ⟨rfl, k5⟩
          go_wp2_with (fail)
          go_ret
          exact ⟨rfl, (((kw0.trans k3 (by simp)).trans k4 (by simp)).trans k5 (by simp)).below (Nat.le_refl _) (by simp)⟩
        have HN1 := Lib.hid (HNEXT.out rfl hv)
        clear HNEXT
        cases z0
        · have hkp : 0 < k := HZ1.out.2 rfl
          go_wp2_with (fail)
          refine (HNX.out _).mono ?_
          rintro e w3 ⟨rfl, k3⟩
          go_wp2_with (fail)
          refine (HWH.out _).mono ?_
          rintro e w4 ⟨rfl, k4⟩
          have d4 : w4.cell? ⟨w.heap.size, 0, none⟩ = some (bv x) := kC k4 (kC k3 d0 (by simp)) (by simp)
          have hstr := run_str1 (P := Try.prog) Try.underlying40 Try.underlying5 Try.underlying9 x x.toNat rfl w4
          have k24 := (kw.trans k3 (by simp)).trans k4 (by simp)
          clear d0 d1 d2 kw kw0 k3 k4
          go_wp2_with (refine wpList_convert hstr _ rfl rfl rfl ?_)
          go_roundw
          case rel =>
            refine ⟨k + 1, hlt, by go_num, ?_, HN1.out, k24.alloc1 _⟩
            rw [HJX.out]
            simp
          case measure => simp [intOf]; omega
        · have hkp : ¬ 0 < k := fun h => by have := HZ1.out.1 h; cases this
          go_wp2_with (fail)
          refine (HNX.out _).mono ?_
          rintro e w3 ⟨rfl, k3⟩
          go_wp2_with (fail)
          refine (HWH.out _).mono ?_
          rintro e w4 ⟨rfl, k4⟩
          have k24 := (kw.trans k3 (by simp)).trans k4 (by simp)
          clear d0 d1 d2 kw kw0 k3 k4
          go_wp2_with (fail)
          go_roundw
          case rel =>
            refine ⟨k + 1, hlt, by go_num, ?_, HN1.out, k24⟩
            rw [HJX.out]
            simp
          case measure => simp [intOf]; omega
      · go_wp2_with (fail)
        refine (HNX.out _).mono ?_
        rintro e w3 ⟨rfl, k3⟩
        go_wp2_with (fail)
        refine (HA.out _).mono ?_
        rintro e w5 ⟨rfl, k5⟩
        go_wp2_with (fail)
        go_ret
        exact ⟨rfl, ((kw0.trans k3 (by simp)).trans k5 (by simp)).below (Nat.le_refl _) (by simp)⟩
    · obtain rfl : k = r.length := by omega
      rw [List.take_length] at *
      have hps := plain DD (by rw [HDD.out]; exact HRI.out) r HR0.out h20 h400 (fun j hj => HALL.out j hj hj)
      rw [HDD.out] at hps hjl
      have HPA := Lib.hid (fun w => parse_w ⟨x, y, z⟩ (jn ⟨x, y, z⟩ true r ++ endB z) (by simp only [List.length_append]; omega) w)
      rw [hps] at HPA
      rw [HDD.out]
      generalize jn ⟨x, y, z⟩ true r = f at *
      have hcat := cat_mk f (endB z)
      have hsum : ¬ (9223372036854775807 < f.length + (endB z).length) := by omega
      clear hps HALL HF hb2 kk
      go_wp2_with (fail)
      have kk5 := kw0.alloc1 (.cells #[.int .i64 2147483648, .int .i64 2147483648, .int .i64 2147483648, .int .i64 0] 42)
      have hb5 := hbw.alloc (.cells #[.int .i64 2147483648, .int .i64 2147483648, .int .i64 2147483648, .int .i64 0] 42)
      have hl5 := Blk.new wr 42 [.int .i64 2147483648, .int .i64 2147483648, .int .i64 2147483648, .int .i64 0]
      have hll := hl5.lt
      generalize wr.heap.size = g5 at *
      change Blk (wr.alloc (.cells #[.int .i64 2147483648, .int .i64 2147483648, .int .i64 2147483648, .int .i64 0] 42)) g5 _ _ at hl5
      change g5 < (wr.alloc (.cells #[.int .i64 2147483648, .int .i64 2147483648, .int .i64 2147483648, .int .i64 0] 42)).heap.size at hll
      generalize wr.alloc _ = w6 at *
      have e0 := hb5.cell_of (i := 0) rfl
      have e1 := hb5.cell_of (i := 1) rfl
      have e2 := hb5.cell_of (i := 2) rfl
      have hlb := hb5.lt
      have m0 := hl5.cell_of (i := 0) rfl
      have m1 := hl5.cell_of (i := 1) rfl
      have m2 := hl5.cell_of (i := 2) rfl
      have m3 := hl5.cell_of (i := 3) rfl
      clear hbw kw kw0 hb5 hl5 d0 d1 d2 hlt3
      have HSS := fun w' (hb : Below (w6.heap.size) (w6) w') => ((⟨(hb.cell (p := ⟨w.heap.size, 0, none⟩) (hlb)).trans (e0), (hb.cell (p := ⟨w.heap.size, 1, none⟩) (hlb)).trans (e1), (hb.cell (p := ⟨w.heap.size, 2, none⟩) (hlb)).trans (e2), (hb.cell (p := ⟨g5, 0, none⟩) (hll)).trans (m0), (hb.cell (p := ⟨g5, 1, none⟩) (hll)).trans (m1), (hb.cell (p := ⟨g5, 2, none⟩) (hll)).trans (m2), (hb.cell (p := ⟨g5, 3, none⟩) (hll)).trans (m3), hb⟩) : w'.cell? ⟨w.heap.size, 0, none⟩ = some (bv x) ∧ w'.cell? ⟨w.heap.size, 1, none⟩ = some (bv y) ∧ w'.cell? ⟨w.heap.size, 2, none⟩ = some (.int .i64 z) ∧ w'.cell? ⟨g5, 0, none⟩ = some (.int .i64 2147483648) ∧ w'.cell? ⟨g5, 1, none⟩ = some (.int .i64 2147483648) ∧ w'.cell? ⟨g5, 2, none⟩ = some (.int .i64 2147483648) ∧ w'.cell? ⟨g5, 3, none⟩ = some (.int .i64 0) ∧ Below (w6.heap.size) (w6) w')
      have HSSb : w6.heap.size ≤ (w6).heap.size := Nat.le_refl _
      go_region_held3 (fun w' => w'.cell? ⟨w.heap.size, 0, none⟩ = some (bv x) ∧ w'.cell? ⟨w.heap.size, 1, none⟩ = some (bv y) ∧ w'.cell? ⟨w.heap.size, 2, none⟩ = some (.int .i64 z) ∧ w'.cell? ⟨g5, 0, none⟩ = some (.int .i64 2147483648) ∧ w'.cell? ⟨g5, 1, none⟩ = some (.int .i64 2147483648) ∧ w'.cell? ⟨g5, 2, none⟩ = some (.int .i64 2147483648) ∧ w'.cell? ⟨g5, 3, none⟩ = some (.int .i64 0) ∧ Below (w6.heap.size) (w6) w') (((try go_split_ands); (with_reducible apply HSS); first | (with_reducible assumption) | (with_reducible (apply bC HSSb k1; assumption)) | (with_reducible (apply bAA HSSl; assumption)) | (repeat (first | (with_reducible assumption) | (with_reducible apply Below.refl) | (with_reducible apply bS (hp := HSSb)) | (with_reducible apply bSe) | (with_reducible apply bA HSSb) | (with_reducible apply bD))))) (first | ((go_at_call 12; refine (HR.out _).mono ?_; rintro e w7 ⟨rfl, k1⟩)) | ((go_at_call 22; refine (HE.out _).mono ?_; rintro e w7 ⟨rfl, k1⟩)) | ((go_at_call 21; refine (HPA.out _).mono ?_; rintro e w7 ⟨vp, vps, rfl, hot, k1⟩)))
      all_goals go_split_ands
      all_goals
        have hbel := (kk5.below (Nat.le_refl _) (by simp)).trans ((by assumption : Below w6.heap.size w6 w7).mono kk5.size)
        obtain ⟨A2, c2, rfl, hA1, hA2⟩ := hot.2.1.form
        unfold maxLen at hA2
        obtain ⟨b9, o9, A9, c9, rfl, _, hc9, hr9⟩ := (hot.tbl (Nat.le_refl _)).at_ (k := 0) (by simp)
        simp only [List.getElem_cons_zero, Nat.add_zero] at hc9 hr9
        have HS2 := Lib.hid (same_c _ _ r r _ _ w7 hr9 (hr'.below hbel (Nat.le_refl _)))
        rw [decide_eq_true rfl] at HS2
        clear hcat hsum kk5 hll hlb hot hr9
        simp only [List.length_singleton]
        go_wp2_with (fail)
        refine HS2.out.mono ?_
        rintro e w8 ⟨rfl, m8, rfl⟩
        go_wp2_with (fail)
        refine (HA.out _).mono ?_
        rintro e w9 ⟨rfl, k9⟩
        go_wp2_with (fail)
        go_ret
        refine ⟨rfl, hbel.trans (Below.mono (B := w7.heap.size) ?_ hbel.size)⟩
        exact (((Keeps.refl [] w7).drewN1 m8).trans k9 (by simp)).below (Nat.le_refl _) (by simp)
set_option maxRecDepth 100000 in
theorem lifted (os : Os) (started : os.Started) (H : Type) (enc : TypeId × Value → H) :
    ReturnsInHanded {} Try.checked os 5 .any (Rows.needPlainSpec.pre6 enc Try.prog Try.f5 Rows.needPlainRow.domain false) (Rows.needPlainSpec.post enc Try.prog Try.f5 false true false false) := by
  refine returnsInHanded_of_change_sized (C := Try.checked) own started (by kernel_rfl) Try.func5
    (ChangeSpec.witness6 (enc := enc) (C := Try.checked) false ⟨#[], #[.agg #[.int .u8 0, .int .u8 0, .int .i64 0], .slice none 0 0], []⟩ 8 (by kernel_rfl) (by kernel_rfl) (by kernel_rfl) (by kernel_rfl)) ?_
  intro W base args ds gs before hval0 hW hcnd hsz0 _
  have hval : ∀ (j : Nat) t v, Try.f5.params[j]? = some t → args[j]? = some v → Value.okWide Try.prog W .any base t v := hval0
  have hW' := hW
  obtain ⟨p, q, hA0, hV, rfl, hfz, hnd⟩ := hW
  have hA : DataW.TrodAll enc Try.prog W 0 (fun _ => true) true Try.f5.params.toList args.toList ds p := hA0
  have hsz : (DataW.weightsEach Try.prog (Try.f5.params.toList ++ Rows.needPlainSpec.plain.varTypes Try.prog) (ds ++ gs)).all (· ≤ reachBytes) = true := hsz0
  rw [Try.params5] at hA hval hsz
  obtain ⟨v0, vs0, d0, ds0, p0, q0, hargs, rfl, rfl, k0, r0⟩ := trodAll_cons hA
  obtain ⟨v1, vs1, d1, ds1, p1, q1, rfl, rfl, rfl, k1, r1⟩ := trodAll_cons r0
  obtain ⟨rfl, rfl, rfl⟩ := trodAll_nil r1
  obtain rfl : args = #[v0, v1] := by cases args; simp_all
  obtain ⟨rfl, rfl⟩ := trodVars_none hV
  have lt0 := Trod_lt k0
  have lt1 := Trod_lt k1
  obtain ⟨x0, y0, z0, rfl, hz0⟩ := Trod_dialect Try.underlying23 (by kernel_rfl) (by kernel_rfl) Try.underlying5 Try.underlying5 Try.underlying3 (hval 0 23 v0 rfl rfl) k0
  obtain ⟨l1, rd1, hl1, hs1⟩ := Trod_strs Try.underlying34 Try.underlying9 (by kernel_rfl) (of_decide_eq_true (by kernel_rfl)) (hval 1 34 v1 rfl rfl) k1 (wt_of hsz (j := 1) rfl rfl)
  clear hA0 hval0 hsz0
  refine (walk ⟨x0, y0, z0⟩ v1 l1 W rd1 hs1).mono fun e W' ⟨he, bel⟩ => ?_
  subst he
  exact ⟨_, rfl, _, _, _, [], _, [], hW', trodAll_mk1 (shut_bool Try.underlying4 _), (trodAll_cons_mk (Below.trod laidOut (by kernel_rfl) (of_decide_eq_true (by kernel_rfl)) k0 bel lt0) (trodAll_cons_mk (Below.trod laidOut (by kernel_rfl) (of_decide_eq_true (by kernel_rfl)) k1 bel lt1) trodAll_mk0)), rfl, bel.frame _, fun h => by cases h⟩

theorem proved : Rows.NeedPlainSaid :=
  OpenClaim.holds_of_wide 5 Try.f5 rfl rfl rfl rfl rfl rfl rfl ⟨rfl, rfl, rfl, rfl, rfl⟩ rfl rfl rfl rfl rfl (by kernel_rfl) Try.func5 (by kernel_rfl)
    (of_decide_eq_true (by kernel_rfl)) (by unfold Func.isWrapper; first | (rw [if_pos (by decide +kernel)]; kernel_rfl) | (rw [if_neg (by decide +kernel)]; exact ⟨rfl, rfl⟩))
    (fun os started H enc _ => lifted os started H enc)
end Go.Proofs.Ytpbmengaaagbkaa.NeedPlainP
namespace Go.Proofs.Ytpbmengaaagbkaa
theorem needPlain_holds : Rows.NeedPlainSaid := NeedPlainP.proved
#print axioms needPlain_holds
end Go.Proofs.Ytpbmengaaagbkaa
