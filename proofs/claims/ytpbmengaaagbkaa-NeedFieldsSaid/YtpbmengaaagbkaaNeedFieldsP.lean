/- PROVED: for every dialect d, slice r of strings and bool first, NeedFields(d, r, first) returns true and leaves its arguments as they were. No condition. -/
import Derived.Test.YtpbmengaaagbkaaRows
import Derived.Test.YtpbmengaaagbkaaNeed2
import Derived.Test.YtpbmengaaagbkaaOpenD
import Derived.Deep.RegionWith
namespace Go.Proofs.Ytpbmengaaagbkaa.NeedFieldsP
set_option linter.unusedVariables false
set_option linter.unusedSimpArgs false
open Go.ChangeShapes Go.WideShapes Go.ChangeAt Go.RowKit Q Mach Dia Bom Need

theorem own : ownKnob Try.prog.godebug = none := by kernel_rfl
theorem laidOut : laidOutB Try.prog = true := by kernel_rfl
theorem str_le {r : Row} {s : Bs} (hs : s ∈ r) : s.length ≤ rowBytes r := by
  unfold rowBytes
  induction r with
  | nil => cases hs
  | cons a r ih =>
    rcases List.mem_cons.1 hs with rfl | h
    · simp
    · have := ih h; simp; omega
theorem needAt_eq (d : Dia) (r : Row) (first : Bool) (k : Nat) (hk : k < r.length) : needAt d r first k = (whyB d r[k] (r.length == 1) (first && k == 0) != 0) := by
  simp [needAt, List.getD, List.getElem?_eq_getElem hk]
theorem needL_at (d : Dia) (r : Row) (first : Bool) (k : Nat) (hk : k < r.length) : ((needL d r first).map Value.bool)[k]? = some (.bool (needAt d r first k)) := by
  simp [needL, hk]

set_option maxHeartbeats 4000000 in
theorem walk (d : Dia) (A : Value) (r : Row) (first : Bool) (w : World) (hr : Rd w w.heap.size 1 A r.length (r.map sv)) (hs : ∀ s ∈ r, s.length ≤ reachBytes) : Calls Try.prog 4 #[diaV d, A, .bool first] w fun e w' => e = .returned (.bool true) ∧ Below w.heap.size w w' := by
  have HA := Lib.hid awake_c
  have HR := Lib.hid (fun w => ref_c d w)
  have HRR := Lib.hid (fun w => right_c d w)
  have HO := Lib.hid one_c
  have hr' := hr
  obtain ⟨A, ca, rfl, ha1, ha2⟩ := hr.form
  unfold maxLen at ha2
  have kp : Keeps [] w (w.alloc (.cells #[bv d.delim, bv d.quote, .int .i64 d.fin] 23)) := Keeps.alloc [] w _
  have hbx := Blk.new w 23 [bv d.delim, bv d.quote, .int .i64 d.fin]
  have HF := Lib.hid (fun w2 h2 => few_c (.slice A r.length ca) r w.heap.size w2 h2 hs)
  have c0 := hbx.cell 0
  have c1 := hbx.cell 1
  have c2 := hbx.cell 2
  simp only [List.getElem?_cons_zero, List.getElem?_cons_succ] at c0 c1 c2
  have hrA := hr'.keepB kp (by simp)
  have HFI := Lib.hid (fun w2 h2 hB hl => fields_c d (.slice A r.length ca) r first w.heap.size w2 h2 hB hl hs)
  have HRW := Lib.hid (fun f al fi A F h1 h2 (h3 : f.length ≤ maxLen) w => rwhy_c d f al fi A F h1 h2 h3 w)
  have HNA := Lib.hid (fun k hk => needAt_eq d r first k hk)
  have HNL := Lib.hid (fun k hk => needL_at d r first k hk)
  obtain ⟨R, hR⟩ : ∃ R, d.right = R := ⟨_, rfl⟩
  rw [hR] at HRR
  clear hR
  obtain ⟨x, y, z⟩ := d
  go_enter Try.func4, Try.ntmps4
  go_wp2_with (fail)
  refine (HF.out _ hrA).mono ?_
  rintro e w1 ⟨b, rfl, hb, rfl⟩
  cases b
  · go_wp2_with (fail)
    refine (HA.out _).mono ?_
    rintro e w1 ⟨rfl, k1⟩
    go_wp2_with (fail)
    go_ret
    exact ⟨rfl, (kp.trans k1 (by simp)).below (Nat.le_refl _) (by simp)⟩
  obtain ⟨h20, h400⟩ := hb rfl
  clear hb
  go_wp2_with (fail)
  refine (HR.out _).mono ?_
  rintro e w1 ⟨rfl, k1⟩
  go_wp2_with (fail)
  refine (HRR.out _).mono ?_
  rintro e w2 ⟨rfl, k2⟩
  have kk := (kp.trans k1 (by simp)).trans k2 (by simp)
  have hb2 := (hbx.keep k1 (by simp)).keep k2 (by simp)
  cases R
  · go_wp2_with (fail)
    refine (HA.out _).mono ?_
    rintro e w3 ⟨rfl, k3⟩
    go_wp2_with (fail)
    go_ret
    exact ⟨rfl, (kk.trans k3 (by simp)).below (Nat.le_refl _) (by simp)⟩
  have d0 := hb2.cell 0
  have d1 := hb2.cell 1
  have d2 := hb2.cell 2
  simp only [List.getElem?_cons_zero, List.getElem?_cons_succ] at d0 d1 d2
  clear hbx kp k1 k2 c0 c1 c2 hrA
  go_wp2_with (fail)
  refine (HFI.out _ (hr'.keepB kk (by simp)) kk.size (by omega)).mono ?_
  rintro e w3 ⟨v3, rfl, ho3, k3⟩
  obtain ⟨A3, c3, hv3, _⟩ := ho3.form
  subst hv3
  have k03 := kk.trans k3 (by simp)
  have hb3 := hb2.keep k3 (by simp)
  have hne : ((r.length : Int) != (r.length : Int)) = false := by simp
  clear d0 d1 d2 hb2 kk k3
  go_wp2_with (fail)
  go_loopw [31] (fun i wr => ∃ k : Nat, k ≤ r.length ∧ i = .int .i64 k ∧ Keeps [] w3 wr) (fun i _ => r.length - (intOf i).toNat)
  case atStart => exact ⟨0, by omega, rfl, Keeps.refl _ _⟩
  case round =>
    obtain ⟨k, hk, rfl, kw⟩ := hrel
    have kw0 : Keeps [] w wr := k03.trans kw (by simp)
    by_cases hlt : k < r.length
    · have hrw := hr'.keepB kw0 (by simp)
      obtain ⟨g, o, rfl, _, cf⟩ := hrw.str_at hlt
      have how := ho3.keep kw (by simp)
      obtain ⟨g4, o4, u4, rfl, _, hg4, hu4, c4, _⟩ := how.at_ hlt
      rw [HNL.out k hlt] at hu4
      injection hu4 with hu4
      subst hu4
      rw [HNA.out k hlt] at c4
      have hbw := hb3.keep kw (by simp)
      have d0 := hbw.cell 0
      have d1 := hbw.cell 1
      have d2 := hbw.cell 2
      simp only [List.getElem?_cons_zero, List.getElem?_cons_succ] at d0 d1 d2
      have hlt3 := hbw.lt
      have hsl := str_le (List.getElem_mem hlt)
      generalize hsk : r[k] = s at *
      have HSK := Lib.hid hsk; clear hsk
      obtain ⟨al, hal⟩ : ∃ al, (r.length == 1) = al := ⟨_, rfl⟩
      have hal' : ((r.length : Int) == 1) = al := by rw [← hal, Bool.eq_iff_iff, beq_iff_eq, beq_iff_eq]; omega
      obtain ⟨z0, hz0⟩ : ∃ z0, (k == 0) = z0 := ⟨_, rfl⟩
      have hz0' : ((k : Int) == 0) = z0 := by rw [← hz0, Bool.eq_iff_iff, beq_iff_eq, beq_iff_eq]; omega
      rw [hal, hz0] at c4
      have HAL := Lib.hid hal; have HZ0 := Lib.hid hz0; clear hal hz0
      have e0 : (0 : Int) ≤ (k : Int) := by omega
      have e1 : (k : Int) < (r.length : Int) := by omega
      have HW := Lib.hid (fun w => HRW.out s al (first && z0) (if al then 1 else 0) (if (first && z0) then 1 else 0) (by cases al <;> rfl) (by cases first <;> cases z0 <;> rfl) (by simp only [maxLen]; omega) w)
      generalize whyB ⟨x, y, z⟩ s al (first && z0) = n at *
      have hbb : ((n : Int) != 0) = (n != 0) := by
        cases n with
        | zero => rfl
        | succ n => simp; omega
      obtain ⟨q, hq⟩ : ∃ q, (n != 0) = q := ⟨_, rfl⟩
      rw [hq] at hbb c4
      clear hq how hbw hrw
      have hqq : (q != q) = false := by cases q <;> rfl
      cases first
      · cases al
        all_goals
          simp only [if_true, if_false, Bool.false_eq_true, Bool.and_true, Bool.and_false, Bool.false_and, Bool.true_and] at HW
          have kwd := kw.drew1
          clear kw kw0
          go_wp2_with (fail)
          first | (go_region_with (first | (go_at_call 12; refine (HR.out _).mono ?_; rintro e w' ⟨rfl, hk'⟩; replace c4 := (hk'.cell (p := ⟨g4, o4 + k, none⟩) hg4 (by simp)).trans c4; replace d0 := (hk'.cell (p := ⟨w.heap.size, 0, none⟩) hlt3 (by simp)).trans d0; replace d1 := (hk'.cell (p := ⟨w.heap.size, 1, none⟩) hlt3 (by simp)).trans d1; replace d2 := (hk'.cell (p := ⟨w.heap.size, 2, none⟩) hlt3 (by simp)).trans d2; replace hg4 := Nat.lt_of_lt_of_le hg4 hk'.size; replace hlt3 := Nat.lt_of_lt_of_le hlt3 hk'.size; replace kwd := kwd.trans hk' (by simp)) | (go_at_call 15; refine (HO.out _ _).mono ?_; rintro e w' ⟨rfl, hk'⟩; replace c4 := (hk'.cell (p := ⟨g4, o4 + k, none⟩) hg4 (by simp)).trans c4; replace d0 := (hk'.cell (p := ⟨w.heap.size, 0, none⟩) hlt3 (by simp)).trans d0; replace d1 := (hk'.cell (p := ⟨w.heap.size, 1, none⟩) hlt3 (by simp)).trans d1; replace d2 := (hk'.cell (p := ⟨w.heap.size, 2, none⟩) hlt3 (by simp)).trans d2; replace hg4 := Nat.lt_of_lt_of_le hg4 hk'.size; replace hlt3 := Nat.lt_of_lt_of_le hlt3 hk'.size; replace kwd := kwd.trans hk' (by simp)) | (go_at_call 14; refine (HW.out _).mono ?_; rintro e w' ⟨rfl, hk'⟩; replace c4 := (hk'.cell (p := ⟨g4, o4 + k, none⟩) hg4 (by simp)).trans c4; replace d0 := (hk'.cell (p := ⟨w.heap.size, 0, none⟩) hlt3 (by simp)).trans d0; replace d1 := (hk'.cell (p := ⟨w.heap.size, 1, none⟩) hlt3 (by simp)).trans d1; replace d2 := (hk'.cell (p := ⟨w.heap.size, 2, none⟩) hlt3 (by simp)).trans d2; replace hg4 := Nat.lt_of_lt_of_le hg4 hk'.size; replace hlt3 := Nat.lt_of_lt_of_le hlt3 hk'.size; replace kwd := kwd.trans hk' (by simp)))) | fail
          all_goals
            go_wp2_with (fail)
            go_roundw
            case rel => exact ⟨k + 1, by omega, by go_num, kwd⟩
            case measure => simp [intOf]; omega
      · cases al <;> cases z0
        all_goals
          simp only [if_true, if_false, Bool.false_eq_true, Bool.and_true, Bool.and_false, Bool.false_and, Bool.true_and] at HW
          go_wp2_with (fail)
          go_region_held3 (fun w' => w'.cell? ⟨g4, o4 + k, none⟩ = some (.bool q) ∧ w'.cell? ⟨w.heap.size, 0, none⟩ = some (bv x) ∧ w'.cell? ⟨w.heap.size, 1, none⟩ = some (bv y) ∧ w'.cell? ⟨w.heap.size, 2, none⟩ = some (.int .i64 z) ∧ (g4 < w'.heap.size ∧ w.heap.size < w'.heap.size) ∧ Keeps [] w3 w') (first | exact ⟨c4, d0, d1, d2, ⟨hg4, hlt3⟩, kw.drew1⟩ | exact ⟨c4, d0, d1, d2, ⟨hg4, hlt3⟩, kw⟩ | (go_split_ands; exact ⟨(hk'.cell (p := ⟨g4, o4 + k, none⟩) (by assumption) (by simp)).trans (by assumption), (hk'.cell (p := ⟨w.heap.size, 0, none⟩) (by assumption) (by simp)).trans (by assumption), (hk'.cell (p := ⟨w.heap.size, 1, none⟩) (by assumption) (by simp)).trans (by assumption), (hk'.cell (p := ⟨w.heap.size, 2, none⟩) (by assumption) (by simp)).trans (by assumption), ⟨Nat.lt_of_lt_of_le (by assumption) hk'.size, Nat.lt_of_lt_of_le (by assumption) hk'.size⟩, Keeps.trans (by assumption) hk' (by simp)⟩)) (first | (go_at_call 12; refine (HR.out _).mono ?_; rintro e w' ⟨rfl, hk'⟩) | (go_at_call 15; refine (HO.out _ _).mono ?_; rintro e w' ⟨rfl, hk'⟩) | (go_at_call 14; refine (HW.out _).mono ?_; rintro e w' ⟨rfl, hk'⟩))
          all_goals
            go_wp2_with (fail)
            go_roundw
            case rel =>
              refine ⟨k + 1, by omega, by go_num, ?_⟩
              go_split_ands
              assumption
            case measure => simp [intOf]; omega
    · go_wp2_with (fail)
      refine (HA.out _).mono ?_
      rintro e w5 ⟨rfl, k5⟩
      go_wp2_with (fail)
      go_ret
      exact ⟨rfl, (kw0.trans k5 (by simp)).below (Nat.le_refl _) (by simp)⟩
set_option maxRecDepth 100000 in
theorem lifted (os : Os) (started : os.Started) (H : Type) (enc : TypeId × Value → H) :
    ReturnsInHanded {} Try.checked os 4 .any (Rows.needFieldsSpec.pre6 enc Try.prog Try.f4 Rows.needFieldsRow.domain false) (Rows.needFieldsSpec.post enc Try.prog Try.f4 false true false false) := by
  refine returnsInHanded_of_change_sized (C := Try.checked) own started (by kernel_rfl) Try.func4
    (ChangeSpec.witness6 (enc := enc) (C := Try.checked) false ⟨#[], #[.agg #[.int .u8 0, .int .u8 0, .int .i64 0], .slice none 0 0, .bool false], []⟩ 8 (by kernel_rfl) (by kernel_rfl) (by kernel_rfl) (by kernel_rfl)) ?_
  intro W base args ds gs before hval0 hW hcnd hsz0 _
  have hval : ∀ (j : Nat) t v, Try.f4.params[j]? = some t → args[j]? = some v → Value.okWide Try.prog W .any base t v := hval0
  have hW' := hW
  obtain ⟨p, q, hA0, hV, rfl, hfz, hnd⟩ := hW
  have hA : DataW.TrodAll enc Try.prog W 0 (fun _ => true) true Try.f4.params.toList args.toList ds p := hA0
  have hsz : (DataW.weightsEach Try.prog (Try.f4.params.toList ++ Rows.needFieldsSpec.plain.varTypes Try.prog) (ds ++ gs)).all (· ≤ reachBytes) = true := hsz0
  rw [Try.params4] at hA hval hsz
  obtain ⟨v0, vs0, d0, ds0, p0, q0, hargs, rfl, rfl, k0, r0⟩ := trodAll_cons hA
  obtain ⟨v1, vs1, d1, ds1, p1, q1, rfl, rfl, rfl, k1, r1⟩ := trodAll_cons r0
  obtain ⟨v2, vs2, d2, ds2, p2, q2, rfl, rfl, rfl, k2, r2⟩ := trodAll_cons r1
  obtain ⟨rfl, rfl, rfl⟩ := trodAll_nil r2
  obtain rfl : args = #[v0, v1, v2] := by cases args; simp_all
  obtain ⟨rfl, rfl⟩ := trodVars_none hV
  have lt0 := Trod_lt k0
  have lt1 := Trod_lt k1
  have lt2 := Trod_lt k2
  obtain ⟨x0, y0, z0, rfl, hz0⟩ := Trod_dialect Try.underlying23 (by kernel_rfl) (by kernel_rfl) Try.underlying5 Try.underlying5 Try.underlying3 (hval 0 23 v0 rfl rfl) k0
  obtain ⟨l1, rd1, hl1, hs1⟩ := Trod_strs Try.underlying34 Try.underlying9 (by kernel_rfl) (of_decide_eq_true (by kernel_rfl)) (hval 1 34 v1 rfl rfl) k1 (wt_of hsz (j := 1) rfl rfl)
  obtain ⟨b2, rfl⟩ := Trod_bool Try.underlying4 (hval 2 4 v2 rfl rfl) k2
  clear hA0 hval0 hsz0
  refine (walk ⟨x0, y0, z0⟩ v1 l1 b2 W rd1 hs1).mono fun e W' ⟨he, bel⟩ => ?_
  subst he
  exact ⟨_, rfl, _, _, _, [], _, [], hW', trodAll_mk1 (shut_bool Try.underlying4 _), (trodAll_cons_mk (Below.trod laidOut (by kernel_rfl) (of_decide_eq_true (by kernel_rfl)) k0 bel lt0) (trodAll_cons_mk (Below.trod laidOut (by kernel_rfl) (of_decide_eq_true (by kernel_rfl)) k1 bel lt1) (trodAll_cons_mk (Below.trod laidOut (by kernel_rfl) (of_decide_eq_true (by kernel_rfl)) k2 bel lt2) trodAll_mk0))), rfl, bel.frame _, fun h => by cases h⟩

theorem proved : Rows.NeedFieldsSaid :=
  OpenClaim.holds_of_wide 4 Try.f4 rfl rfl rfl rfl rfl rfl rfl ⟨rfl, rfl, rfl, rfl, rfl⟩ rfl rfl rfl rfl rfl (by kernel_rfl) Try.func4 (by kernel_rfl)
    (of_decide_eq_true (by kernel_rfl)) (by unfold Func.isWrapper; first | (rw [if_pos (by decide +kernel)]; kernel_rfl) | (rw [if_neg (by decide +kernel)]; exact ⟨rfl, rfl⟩))
    (fun os started H enc _ => lifted os started H enc)
end Go.Proofs.Ytpbmengaaagbkaa.NeedFieldsP
namespace Go.Proofs.Ytpbmengaaagbkaa
theorem needFields_holds : Rows.NeedFieldsSaid := NeedFieldsP.proved
#print axioms needFields_holds
end Go.Proofs.Ytpbmengaaagbkaa
