/- PROVED: for all limits l and slices events and more of events, FieldsStops(l, events, more) returns true. No condition. -/
import Derived.Test.YtogmcfljojobfaaRows
import Derived.Test.YtogmcfljojobfaaFldW
import Derived.Test.YtogmcfljojobfaaOpenE
import Derived.Test.YtogmcfljojobfaaOpenD
import Derived.Test.YtogmcfljojobfaaSame
namespace Go.Proofs.Ytogmcfljojobfaa.FieldsStopsP
set_option linter.unusedVariables false
set_option linter.unusedSimpArgs false
open Go.ChangeShapes Go.WideShapes Go.ChangeAt Go.RowKit Q Mach Dia Scan Ref4 Limits Fld
attribute [local go_sem ↓] Go.wp_at_zero Go.wp_at_succ

theorem own : ownKnob Try.prog.godebug = none := by kernel_rfl
theorem laidOut : laidOutB Try.prog = true := by kernel_rfl

set_option maxRecDepth 100000 in
set_option maxHeartbeats 4000000 in
theorem walk (a b c : Int) (u : Bool) (v1 v2 : Value) (evs more : List Ev) (w : World) (hv1 : Rd w w.heap.size 6 v1 evs.length (evs.flatMap evC)) (hv2 : Rd w w.heap.size 6 v2 more.length (more.flatMap evC)) : Calls Try.prog 5 #[limV a b c u, v1, v2] w fun e w' => e = .returned (.bool true) ∧ Below w.heap.size w w' := by
  have HA := Lib.hid awake5_c
  obtain ⟨A1, c1, rfl, hn1, hx1⟩ := hv1.form
  obtain ⟨A2, c2, rfl, hn2, hx2⟩ := hv2.form
  unfold maxLen at hx1 hx2
  have kp : Keeps [] w (w.alloc (.cells #[.int .i64 a, .int .i64 b, .int .i64 c, .bool u] 24)) := Keeps.alloc [] w _
  cases hok : limOk a b c
  · have HN := Lib.hid (fun w => new_bad a b c u hok w)
    clear hok hv1 hv2
    by_cases h1 : 150 < evs.length <;> by_cases h2 : 150 < more.length
    all_goals
      have h1' : decide (150 < (evs.length : Int)) = decide (150 < evs.length) := by rw [decide_eq_decide]; omega
      have h2' : decide (150 < (more.length : Int)) = decide (150 < more.length) := by rw [decide_eq_decide]; omega
      simp only [h1, h2, decide_true, decide_false] at h1' h2'
      clear h1 h2
      go_enter Try.func5, Try.ntmps5
      go_wp2_with (fail)
      refine (HN.out _).mono ?_
      rintro r w1 ⟨rfl, k1⟩
      go_wp2_with (fail)
      refine (HA.out _).mono ?_
      rintro e w2 ⟨rfl, k2⟩
      go_wp2_with (fail)
      go_ret
      exact ⟨rfl, ((kp.trans k1 (by simp)).trans k2 (by simp)).below (Nat.le_refl _) (by simp)⟩
  rw [limOk_iff] at hok
  obtain ⟨⟨ha1, ha2⟩, ⟨hb1, hb2⟩, hc1, hc2⟩ := hok
  obtain ⟨a, rfl⟩ := Int.eq_ofNat_of_zero_le (show 0 ≤ a by omega)
  obtain ⟨b, rfl⟩ := Int.eq_ofNat_of_zero_le (show 0 ≤ b by omega)
  obtain ⟨c, rfl⟩ := Int.eq_ofNat_of_zero_le (show 0 ≤ c by omega)
  have HN := Lib.hid (fun w => new1_c ⟨a, b, c, u⟩ (by simp only; omega) (by simp only; omega) (by simp only; omega) w)
  by_cases hbig : 150 < evs.length ∨ 150 < more.length
  · clear hv1 hv2
    have h1' : decide (150 < (evs.length : Int)) = decide (150 < evs.length) := by rw [decide_eq_decide]; omega
    have h2' : decide (150 < (more.length : Int)) = decide (150 < more.length) := by rw [decide_eq_decide]; omega
    by_cases h1 : 150 < evs.length
    · simp only [h1, decide_true] at h1'
      clear h1 hbig h2'
      go_enter Try.func5, Try.ntmps5
      go_wp2_with (fail)
      refine (HN.out _).mono ?_
      rintro r w1 ⟨g, rfl, _, k1⟩
      go_wp2_with (fail)
      refine (HA.out _).mono ?_
      rintro e w2 ⟨rfl, k2⟩
      go_wp2_with (fail)
      go_ret
      exact ⟨rfl, ((kp.trans k1 (by simp)).trans k2 (by simp)).below (Nat.le_refl _) (by simp)⟩
    · have h2 : 150 < more.length := by omega
      simp only [h1, h2, decide_true, decide_false] at h1' h2'
      clear h1 h2 hbig
      go_enter Try.func5, Try.ntmps5
      go_wp2_with (fail)
      refine (HN.out _).mono ?_
      rintro r w1 ⟨g, rfl, _, k1⟩
      go_wp2_with (fail)
      refine (HA.out _).mono ?_
      rintro e w2 ⟨rfl, k2⟩
      go_wp2_with (fail)
      go_ret
      exact ⟨rfl, ((kp.trans k1 (by simp)).trans k2 (by simp)).below (Nat.le_refl _) (by simp)⟩
  have h1' : decide (150 < (evs.length : Int)) = false := by simp; omega
  have h2' : decide (150 < (more.length : Int)) = false := by simp; omega
  go_enter Try.func5, Try.ntmps5
  go_wp2_with (fail)
  refine (HN.out _).mono ?_
  rintro r w1 ⟨g, rfl, hM1, k1⟩
  have hM1 := hM1.less (b' := w.heap.size) (by simp)
  have hB1 := (kp.trans k1 (by simp)).below (B := w.heap.size) (Nat.le_refl _) (by simp)
  have hU0 := upto0 ⟨a, b, c, u⟩
  clear k1 kp
  go_wp2_with (fail)
  go_loopw [47] (fun i wr => ∃ (k : Nat) (m : Mk), k ≤ evs.length ∧ i = .int .i64 k ∧ Upto k ⟨a, b, c, u⟩ m ∧ Mk1 wr w.heap.size g m ∧ Below w.heap.size w wr) (fun i _ => evs.length - (intOf i).toNat)
  case atStart => exact ⟨0, mk0 ⟨a, b, c, u⟩, Nat.zero_le _, rfl, hU0, hM1, hB1⟩
  case round =>
    obtain ⟨k, m, hk, rfl, hU, hM, hB⟩ := hrel
    clear hM1 hB1 hU0
    by_cases hlt : k < evs.length
    · obtain ⟨b1, o1, rfl, hb1, hc1⟩ := ev_cells (hv1.below hB (Nat.le_refl _)) k hlt
      have hk0 : (0 : Int) ≤ (k : Int) := by omega
      have hkl : (k : Int) < (evs.length : Int) := by omega
      generalize evs[k] = ev at hc1
      have p0 := hc1 0 _ rfl
      have p1 := hc1 1 _ rfl
      have p2 := hc1 2 _ rfl
      have p3 := hc1 3 _ rfl
      have p4 := hc1 4 _ rfl
      have p5 := hc1 5 _ rfl
      rw [Nat.add_zero] at p0
      have kA : Keeps [] wr (wr.alloc (.cells #[.bool ev.beg, .bool ev.add, .bool ev.fld, .bool ev.lin, .bool ev.rcd, bv ev.b] 38)) := Keeps.alloc [] wr _
      have HT := Lib.hid (take1_c w.heap.size g m ev _ (hM.keep kA) (hU.fine (by omega) (by simp only; omega) (by simp only; omega) (by simp only; omega)))
      have HU := Lib.hid (hU.take ev)
      have hB2 := hB.trans (kA.below (B := w.heap.size) hB.size (by simp))
      clear hc1 hU hM hB kA hv2
      generalize hT : take m ev = T at *
      go_wp2_with (fail)
      refine HT.out.mono ?_
      unfold TakeP
      rw [hT]
      rintro r w3 ⟨v3, rfl, _, _, hM3, hB3⟩
      obtain ⟨m', o, kd⟩ := T
      simp only at hM3
      have hM3 := hM3 w3 (Keeps.refl _ _)
      clear HT hT p0 p1 p2 p3 p4 p5
      go_wp2_with (fail)
      exact ⟨⟨k + 1, m', by omega, by go_num, HU.out, hM3, hB2.trans hB3⟩, by simp [intOf]; omega⟩
    · obtain rfl : k = evs.length := by omega
      have hkl : ¬ ((evs.length : Int) < (evs.length : Int)) := by omega
      have HT := Lib.hid (stopped1_c w.heap.size g m wr hM)
      clear hv1
      go_wp2_with (fail)
      refine HT.out.mono ?_
      rintro e w4 ⟨rfl, rfl⟩
      by_cases hs : m.stopped = 0
      · have hs' : ((m.stopped : Int) == 0) = true := by simpa using hs
        clear hs
        go_wp2_with (fail)
        refine (HA.out _).mono ?_
        rintro e w5 ⟨rfl, k5⟩
        go_wp2_with (fail)
        go_ret
        exact ⟨rfl, hB.trans (k5.below (B := w.heap.size) hB.size (by simp))⟩
      have hs' : ((m.stopped : Int) == 0) = false := by simpa using hs
      have hrl : m.record.length ≤ 1000000 := by have := hU.r; omega
      have HO := Lib.hid (fun w' h => open1_c w.heap.size g m w' h hrl)
      clear HT
      go_wp2_with (fail)
      refine (HO.out _ hM).mono ?_
      rintro r w5 ⟨vo, rfl, hown, k5⟩
      have hM5 := hM.keep k5
      have hB5 := hB.trans (k5.below (B := w.heap.size) hB.size (by simp))
      have HC := Lib.hid (count1_c w.heap.size g m w5 hM5)
      have HB := Lib.hid (begun1_c w.heap.size g m w5 hM5)
      have HS := Lib.hid (stopped1_c w.heap.size g m w5 hM5)
      clear k5 hM hB hU
      go_wp2_with (fail)
      refine HC.out.mono ?_
      rintro r w6 ⟨rfl, rfl⟩
      go_wp2_with (fail)
      refine HB.out.mono ?_
      rintro r w6 ⟨rfl, rfl⟩
      go_wp2_with (fail)
      refine HS.out.mono ?_
      rintro r w6 ⟨rfl, rfl⟩
      clear HC HB HS
      have hs2 := hs'
      clear hs'
      obtain ⟨Ao, co, rfl, hno, hxo⟩ := hown.form
      go_wp2_with (fail)
      go_loopw [72] (fun i wr => ∃ k : Nat, k ≤ more.length ∧ i = .int .i64 k ∧ Keeps [] w5 wr) (fun i _ => more.length - (intOf i).toNat)
      case atStart => exact ⟨0, Nat.zero_le _, rfl, Keeps.refl _ _⟩
      case round =>
        obtain ⟨k, hk, rfl, hK⟩ := hrel
        have hM6 := hM5.keep hK
        have hB6 := hB5.trans (hK.below (B := w.heap.size) hB5.size (by simp))
        by_cases hlt : k < more.length
        · obtain ⟨b1, o1, rfl, hb1, hc1⟩ := ev_cells (hv2.below hB6 (Nat.le_refl _)) k hlt
          have hk0 : (0 : Int) ≤ (k : Int) := by omega
          have hkl : (k : Int) < (more.length : Int) := by omega
          generalize more[k] = ev at hc1
          have p0 := hc1 0 _ rfl
          have p1 := hc1 1 _ rfl
          have p2 := hc1 2 _ rfl
          have p3 := hc1 3 _ rfl
          have p4 := hc1 4 _ rfl
          have p5 := hc1 5 _ rfl
          rw [Nat.add_zero] at p0
          have kA : Keeps [] wr (wr.alloc (.cells #[.bool ev.beg, .bool ev.add, .bool ev.fld, .bool ev.lin, .bool ev.rcd, bv ev.b] 38)) := Keeps.alloc [] wr _
          have HT := Lib.hid (takeStopped_c w.heap.size g m ev _ (hM6.keep kA) hs)
          have hK2 := hK.trans kA (by simp)
          have hne : ((m.stopped : Int) != (m.stopped : Int)) = false := by simp
          clear hc1 hM6 hB6 hK kA hM5 hB5 hs2
          go_wp2_with (fail)
          refine HT.out.mono ?_
          rintro r w7 ⟨rfl, k7⟩
          clear p0 p1 p2 p3 p4 p5 HT
          go_wp2_with (fail)
          exact ⟨⟨k + 1, by omega, by go_num, hK2.trans k7 (by simp)⟩, by simp [intOf]; omega⟩
        · obtain rfl : k = more.length := by omega
          have hkl : ¬ ((more.length : Int) < (more.length : Int)) := by omega
          have hown6 := hown.keep hK (by simp)
          clear hv2 hM5 hB5 hK hs2
          go_wp2_with (fail)
          refine (HO.out _ hM6).mono ?_
          rintro r w7 ⟨vp, rfl, hown7, k7⟩
          have hown67 := hown6.keep k7 (by simp)
          have hM7 := hM6.keep k7
          have hB7 := hB6.trans (k7.below (B := w.heap.size) hB6.size (by simp))
          have HSM := Same.same_c _ _ m.record m.record w7.heap.size w7.heap.size w7 (hown67.rd (Nat.le_refl _)) (hown7.rd (Nat.le_refl _))
          simp only [decide_true] at HSM
          have HSM := Lib.hid HSM
          have hff : (m.field == m.field) = true := by simp
          have hcc : ((m.count : Int) == (m.count : Int)) = true := by simp
          have hbb : ((m.begun : Int) == (m.begun : Int)) = true := by simp
          clear hown6 hown67 hown hown7 hM6 hB6 k7 HO
          go_wp2_with (fail)
          refine HSM.out.mono ?_
          rintro r w8 ⟨rfl, nq, rfl⟩
          have hM8 := hM7.keep (Keeps.drewN [] w7 nq)
          have HC := Lib.hid (count1_c w.heap.size g m _ hM8)
          have HB := Lib.hid (begun1_c w.heap.size g m _ hM8)
          have hB8 := below_drewN hB7 nq
          clear hM8 hB7 hM7 HSM
          generalize w7.drewN nq = w9 at *
          go_wp2_with (fail)
          refine HC.out.mono ?_
          rintro r w6 ⟨rfl, rfl⟩
          go_wp2_with (fail)
          refine HB.out.mono ?_
          rintro r w6 ⟨rfl, rfl⟩
          go_wp2_with (fail)
          refine (HA.out _).mono ?_
          rintro e wz ⟨rfl, kz⟩
          go_wp2_with (fail)
          go_ret
          exact ⟨rfl, hB8.trans (kz.below (B := w.heap.size) hB8.size (by simp))⟩
set_option maxRecDepth 100000 in
theorem lifted (os : Os) (started : os.Started) (H : Type) (enc : TypeId × Value → H) :
    ReturnsInHanded {} Try.checked os 5 .any (Rows.fieldsStopsSpec.pre6 enc Try.prog Try.f5 Rows.fieldsStopsRow.domain false) (Rows.fieldsStopsSpec.post enc Try.prog Try.f5 false true false false) := by
  refine returnsInHanded_of_change_sized (C := Try.checked) own started (by kernel_rfl) Try.func5
    (ChangeSpec.witness6 (enc := enc) (C := Try.checked) false ⟨#[], #[.agg #[.int .i64 0, .int .i64 0, .int .i64 0, .bool false], .slice none 0 0, .slice none 0 0], []⟩ 8 (by kernel_rfl) (by kernel_rfl) (by kernel_rfl) (by kernel_rfl)) ?_
  intro W base args ds gs before hval0 hW hcnd hsz0 _
  have hval : ∀ (j : Nat) t v, Try.f5.params[j]? = some t → args[j]? = some v → Value.okWide Try.prog W .any base t v := hval0
  have hW' := hW
  obtain ⟨p, q, hA0, hV, rfl, hfz, hnd⟩ := hW
  have hA : DataW.TrodAll enc Try.prog W 0 (fun _ => true) true Try.f5.params.toList args.toList ds p := hA0
  have hsz : (DataW.weightsEach Try.prog (Try.f5.params.toList ++ Rows.fieldsStopsSpec.plain.varTypes Try.prog) (ds ++ gs)).all (· ≤ reachBytes) = true := hsz0
  rw [Try.params5] at hA hval hsz
  obtain ⟨v0, vs0, d0, ds0, p0, q0, hargs, rfl, rfl, k0, r0⟩ := trodAll_cons hA
  obtain ⟨v1, vs1, d1, ds1, p1, q1, rfl, rfl, rfl, k1, r1⟩ := trodAll_cons r0
  obtain ⟨v2, vs2, d2, ds2, p2, q2, rfl, rfl, rfl, k2, r2⟩ := trodAll_cons r1
  obtain ⟨rfl, rfl, rfl⟩ := trodAll_nil r2
  obtain rfl : args = #[v0, v1, v2] := by cases args; simp_all
  obtain ⟨rfl, rfl⟩ := trodVars_none hV
  have lt0 := Trod_lt k0
  have lt1 := Trod_lt k1
  have lt2 := Trod_lt k2
  obtain ⟨la0, lb0, lc0, lu0, rfl, hla0, hlb0, hlc0⟩ := Trod_limits Try.underlying24 (by kernel_rfl) (by kernel_rfl) Try.underlying3 Try.underlying3 Try.underlying3 Try.underlying4 (hval 0 24 v0 rfl rfl) k0
  obtain ⟨ev1, rd1⟩ := Trod_events Try.underlying22 (by kernel_rfl) Try.underlying38 (by kernel_rfl) Try.underlying4 Try.underlying4 Try.underlying4 Try.underlying4 Try.underlying4 Try.underlying5 (hval 1 22 v1 rfl rfl) k1
  obtain ⟨ev2, rd2⟩ := Trod_events Try.underlying22 (by kernel_rfl) Try.underlying38 (by kernel_rfl) Try.underlying4 Try.underlying4 Try.underlying4 Try.underlying4 Try.underlying4 Try.underlying5 (hval 2 22 v2 rfl rfl) k2
  clear hA0 hval0 hsz0
  refine (walk _ _ _ _ _ _ ev1 ev2 W rd1 rd2).mono fun e W' ⟨he, bel⟩ => ?_
  subst he
  exact ⟨_, rfl, _, _, _, [], _, [], hW', trodAll_mk1 (shut_bool Try.underlying4 _), (trodAll_cons_mk (Below.trod laidOut (by kernel_rfl) (of_decide_eq_true (by kernel_rfl)) k0 bel lt0) (trodAll_cons_mk (Below.trod laidOut (by kernel_rfl) (of_decide_eq_true (by kernel_rfl)) k1 bel lt1) (trodAll_cons_mk (Below.trod laidOut (by kernel_rfl) (of_decide_eq_true (by kernel_rfl)) k2 bel lt2) trodAll_mk0))), rfl, bel.frame _, fun h => by cases h⟩

theorem proved : Rows.FieldsStopsSaid :=
  OpenClaim.holds_of_wide 5 Try.f5 rfl rfl rfl rfl rfl rfl rfl ⟨rfl, rfl, rfl, rfl, rfl⟩ rfl rfl rfl rfl rfl (by kernel_rfl) Try.func5 (by kernel_rfl)
    (of_decide_eq_true (by kernel_rfl)) (by unfold Func.isWrapper; first | (rw [if_pos (by decide +kernel)]; kernel_rfl) | (rw [if_neg (by decide +kernel)]; exact ⟨rfl, rfl⟩))
    (fun os started H enc _ => lifted os started H enc)
end Go.Proofs.Ytogmcfljojobfaa.FieldsStopsP
namespace Go.Proofs.Ytogmcfljojobfaa
theorem fieldsStops_holds : Rows.FieldsStopsSaid := FieldsStopsP.proved
#print axioms fieldsStops_holds
end Go.Proofs.Ytogmcfljojobfaa
