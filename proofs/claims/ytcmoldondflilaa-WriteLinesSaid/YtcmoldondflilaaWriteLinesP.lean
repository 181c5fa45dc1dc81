/- PROVED: for every dialect d, record r and truth first, WriteLines(d, r, first) returns true and leaves its arguments as they were. No condition. -/
import Derived.Test.YtcmoldondflilaaRows
import Derived.Test.YtcmoldondflilaaTxt2
import Derived.Test.YtcmoldondflilaaRef10
import Derived.Test.YtcmoldondflilaaOpenD
import Derived.Test.YtcmoldondflilaaSame
namespace Go.Proofs.Ytcmoldondflilaa.WriteLinesP
set_option linter.unusedVariables false
set_option linter.unusedSimpArgs false
set_option maxRecDepth 100000
open Go.ChangeShapes Go.WideShapes Go.ChangeAt Go.RowKit Q Mach Dia Need Bld Quo WLine Par Wide
open Tab (fieldsOf bytesOf bytesOfRow)
attribute [local go_sem ↓] Go.wp_at_zero Go.wp_at_succ

theorem own : ownKnob Try.prog.godebug = none := by kernel_rfl
theorem laidOut : laidOutB Try.prog = true := by kernel_rfl
theorem tbl1 {w : World} {B g : Nat} {u : Value} {r : Row} (hB : g < B) (h : w.cell? ⟨g, 0, none⟩ = some u) (hr : Rd w B 1 u r.length (r.map sv)) : Tbl w B (.slice (some ⟨g, 0, none⟩) 1 1) [r] := by
  refine ⟨[u], rfl, rdc1 hB h, ?_⟩
  intro i x y hx hy
  match i, hx, hy with
  | 0, hx, hy => simp at hx hy; subst hx hy; exact hr
set_option maxHeartbeats 20000000 in
theorem walk (d : Dia) (A : Value) (r : Row) (first : Bool) (w : World) (hr : Rd w w.heap.size 1 A r.length (r.map sv)) (hs : ∀ s ∈ r, s.length ≤ reachBytes) (hrl : r.length ≤ reachBytes) : Calls Try.prog 3 #[diaV d, A, .bool first] w fun e w' => e = .returned (.bool true) ∧ Below w.heap.size w w' := by
  have HA := Lib.hid awake10_c
  have HR := Lib.hid (fun w => ref_c d w)
  have HRR := Lib.hid (fun w => right_c d w)
  have hr' := hr
  obtain ⟨A, ca, rfl, ha1, ha2⟩ := hr.form
  unfold maxLen at ha2
  have kp : Keeps [] w (w.alloc (.cells #[bv d.delim, bv d.quote, .int .i64 d.fin] 23)) := Keeps.alloc [] w _
  have hbx := Blk.new w 23 [bv d.delim, bv d.quote, .int .i64 d.fin]
  have kpA := kp.alloc1 (.cells #[.slice A r.length ca] 24)
  have hbA := hbx.alloc (.cells #[.slice A r.length ca] 24)
  have hbT := Blk.new (w.alloc (.cells #[bv d.delim, bv d.quote, .int .i64 d.fin] 23)) 24 [.slice A r.length ca]
  rw [World.size_alloc] at hbT
  have htb := tbl1 (B := w.heap.size + 2) (by omega) (hbT.cell_of (i := 0) rfl) ((hr'.keepB kpA (by simp)).more (by omega))
  have HG := Lib.hid (Same.great_c _ [r] 1 20 400 (by omega) (by omega) (by omega) _ _ htb (by
    refine ⟨by simp [reachBytes], ?_⟩
    intro x hx
    simp only [List.mem_singleton] at hx
    subst hx
    exact ⟨hrl, hs⟩))
  have HLN := Lib.hid (fun w' h hB h1 h2 => line_c d (.slice A r.length ca) r first w.heap.size w' h hB h1 h2)
  have HMY := Lib.hid (fun w' h h2 => may_c (.slice A r.length ca) r w.heap.size w' h h2)
  have HRL := Lib.hid (fun w' h hB h1 h2 => rline_c d (.slice A r.length ca) r first (if first then 1 else 0) (by cases first <;> rfl) w.heap.size w' h hB h1 h2)
  obtain ⟨R, hR⟩ : ∃ R, d.right = R := ⟨_, rfl⟩
  rw [hR] at HRR
  have hln : lineR d r first = if R then (if Wr.may r = 0 then (Wr.lineB d r first, 0) else ([], Wr.may r)) else ([], 1) := by unfold lineR; rw [hR]
  rw [hln] at HLN
  clear hln hR hbT htb hbx kp
  have hM14 : Wr.may r ≤ 14 := by unfold Wr.may; split <;> (try split) <;> omega
  generalize Wr.lineB d r first = LB at *
  generalize Wr.may r = M at *
  obtain ⟨x, y, z⟩ := d
  go_enter Try.func3, Try.ntmps3
  go_wp2_with (fail)
  refine HG.out.mono ?_
  rintro e w1 ⟨b, rfl, hb, m1, rfl⟩
  have k1 := kpA.drewN1 m1
  have hb1 := hbA.drewN m1
  clear HG kpA hbA
  generalize ((w.alloc (.cells #[bv x, bv y, .int .i64 z] 23)).alloc (.cells #[.slice A r.length ca] 24)).drewN m1 = w1 at *
  cases b
  rotate_left
  · go_wp2_with (fail)
    refine (HA.out _).mono ?_
    rintro e w2 ⟨rfl, k2⟩
    go_wp2_with (fail)
    go_ret
    exact ⟨rfl, (k1.trans k2 (by simp)).below (Nat.le_refl _) (by simp)⟩
  obtain ⟨g1, g2, g3⟩ := hb rfl
  have g2 : r.length ≤ 20 := by simpa [fieldsOf] using g2
  have g3 : bytesOfRow r ≤ 400 := by simpa [bytesOf] using g3
  clear hb g1
  have c0 := hb1.cell_of (i := 0) rfl
  have c1 := hb1.cell_of (i := 1) rfl
  have c2 := hb1.cell_of (i := 2) rfl
  have HL := Lib.hid (HLN.out w1 (hr'.keepB k1 (by simp)) k1.size (by omega) (by omega))
  clear HLN
  cases R
  · simp only [Bool.false_eq_true, if_false] at HL
    unfold lineV at HL
    go_wp2_with (fail)
    refine HL.out.mono ?_
    rintro e w2 ⟨rfl, k2⟩
    have hb2 := hb1.keep k2 (by simp)
    have k02 := k1.trans k2 (by simp)
    clear c0 c1 c2 hb1 k1 k2
    have c0 := hb2.cell_of (i := 0) rfl
    have c1 := hb2.cell_of (i := 1) rfl
    have c2 := hb2.cell_of (i := 2) rfl
    go_wp2_with (fail)
    refine (HR.out _).mono ?_
    rintro e w3 ⟨rfl, k3⟩
    go_wp2_with (fail)
    refine (HRR.out _).mono ?_
    rintro e w4 ⟨rfl, k4⟩
    go_wp2_with (fail)
    refine (HA.out _).mono ?_
    rintro e w5 ⟨rfl, k5⟩
    go_wp2_with (fail)
    go_ret
    exact ⟨rfl, (((k02.trans k3 (by simp)).trans k4 (by simp)).trans k5 (by simp)).below (Nat.le_refl _) (by simp)⟩
  simp only [if_true] at HL
  by_cases hM : M = 0
  rotate_left
  · rw [if_neg hM] at HL
    have hM2 : ((M : Int) != 0) = true := by rw [bne_iff_ne]; omega
    have hM3 : ((M : Int) == (M : Int)) = true := by simp
    have HMC := Lib.hid (fun w' h => HMY.out w' h (by omega))
    clear hM HMY
    unfold lineV at HL
    dsimp only at HL
    go_wp2_with (fail)
    refine HL.out.mono ?_
    rintro e w2 ⟨rfl, k2⟩
    have hb2 := hb1.keep k2 (by simp)
    have k02 := k1.trans k2 (by simp)
    clear c0 c1 c2 hb1 k1 k2
    have c0 := hb2.cell_of (i := 0) rfl
    have c1 := hb2.cell_of (i := 1) rfl
    have c2 := hb2.cell_of (i := 2) rfl
    go_wp2_with (fail)
    refine (HR.out _).mono ?_
    rintro e w3 ⟨rfl, k3⟩
    go_wp2_with (fail)
    refine (HRR.out _).mono ?_
    rintro e w4 ⟨rfl, k4⟩
    have k04 := (k02.trans k3 (by simp)).trans k4 (by simp)
    have HMD := Lib.hid (HMC.out w4 (hr'.keepB k04 (by simp)))
    go_wp2_with (fail)
    refine HMD.out.mono ?_
    rintro e w5 ⟨rfl, k5⟩
    go_wp2_with (fail)
    refine (HA.out _).mono ?_
    rintro e w6 ⟨rfl, k6⟩
    go_wp2_with (fail)
    go_ret
    exact ⟨rfl, ((k04.trans k5 (by simp)).trans k6 (by simp)).below (Nat.le_refl _) (by simp)⟩
  subst hM
  rw [if_pos rfl] at HL
  unfold lineV at HL
  dsimp only at HL
  have HMC := Lib.hid (fun w' h => HMY.out w' h (by omega))
  have hbb : (LB == LB) = true := by simp
  clear HMY
  cases first
  all_goals
    simp only [Bool.false_eq_true, if_false, if_true] at HRL
    go_wp2_with (fail)
    refine HL.out.mono ?_
    rintro e w2 ⟨rfl, k2⟩
    have hb2 := hb1.keep k2 (by simp)
    have k02 := k1.trans k2 (by simp)
    clear c0 c1 c2 k2
    have c0 := hb2.cell_of (i := 0) rfl
    have c1 := hb2.cell_of (i := 1) rfl
    have c2 := hb2.cell_of (i := 2) rfl
    go_wp2_with (fail)
    refine (HR.out _).mono ?_
    rintro e w3 ⟨rfl, k3⟩
    go_wp2_with (fail)
    refine (HRR.out _).mono ?_
    rintro e w4 ⟨rfl, k4⟩
    have k04 := (k02.trans k3 (by simp)).trans k4 (by simp)
    have HMD := Lib.hid (HMC.out w4 (hr'.keepB k04 (by simp)))
    go_wp2_with (fail)
    refine HMD.out.mono ?_
    rintro e w5 ⟨rfl, k5⟩
    have k05 := k04.trans k5 (by simp)
    have hb5 := ((hb2.keep k3 (by simp)).keep k4 (by simp)).keep k5 (by simp)
    clear c0 c1 c2
    have c0 := hb5.cell_of (i := 0) rfl
    have c1 := hb5.cell_of (i := 1) rfl
    have c2 := hb5.cell_of (i := 2) rfl
    go_wp2_with (fail)
    refine (HR.out _).mono ?_
    rintro e w6 ⟨rfl, k6⟩
    have k06 := k05.trans k6 (by simp)
    have HLL := Lib.hid (HRL.out w6 (hr'.keepB k06 (by simp)) k06.size (by omega) (by omega))
    clear c0 c1 c2
    go_wp2_with (fail)
    refine HLL.out.mono ?_
    rintro e w7 ⟨rfl, k7⟩
    go_wp2_with (fail)
    refine (HA.out _).mono ?_
    rintro e w8 ⟨rfl, k8⟩
    go_wp2_with (fail)
    go_ret
    exact ⟨rfl, ((k06.trans k7 (by simp)).trans k8 (by simp)).below (Nat.le_refl _) (by simp)⟩
set_option maxRecDepth 100000 in
theorem lifted (os : Os) (started : os.Started) (H : Type) (enc : TypeId × Value → H) :
    ReturnsInHanded {} Try.checked os 3 .any (Rows.writeLinesSpec.pre6 enc Try.prog Try.f3 Rows.writeLinesRow.domain false) (Rows.writeLinesSpec.post enc Try.prog Try.f3 false true false false) := by
  refine returnsInHanded_of_change_sized (C := Try.checked) own started (by kernel_rfl) Try.func3
    (ChangeSpec.witness6 (enc := enc) (C := Try.checked) false ⟨#[], #[.agg #[.int .u8 0, .int .u8 0, .int .i64 0], .slice none 0 0, .bool false], []⟩ 8 (by kernel_rfl) (by kernel_rfl) (by kernel_rfl) (by kernel_rfl)) ?_
  intro W base args ds gs before hval0 hW hcnd hsz0 _
  have hval : ∀ (j : Nat) t v, Try.f3.params[j]? = some t → args[j]? = some v → Value.okWide Try.prog W .any base t v := hval0
  have hW' := hW
  obtain ⟨p, q, hA0, hV, rfl, hfz, hnd⟩ := hW
  have hA : DataW.TrodAll enc Try.prog W 0 (fun _ => true) true Try.f3.params.toList args.toList ds p := hA0
  have hsz : (DataW.weightsEach Try.prog (Try.f3.params.toList ++ Rows.writeLinesSpec.plain.varTypes Try.prog) (ds ++ gs)).all (· ≤ reachBytes) = true := hsz0
  rw [Try.params3] at hA hval hsz
  obtain ⟨v0, vs0, d0, ds0, p0, q0, hargs, rfl, rfl, k0, r0⟩ := trodAll_cons hA
  obtain ⟨v1, vs1, d1, ds1, p1, q1, rfl, rfl, rfl, k1, r1⟩ := trodAll_cons r0
  obtain ⟨v2, vs2, d2, ds2, p2, q2, rfl, rfl, rfl, k2, r2⟩ := trodAll_cons r1
  obtain ⟨rfl, rfl, rfl⟩ := trodAll_nil r2
  obtain rfl : args = #[v0, v1, v2] := by cases args; simp_all
  obtain ⟨rfl, rfl⟩ := trodVars_none hV
  have lt0 := Trod_lt k0
  have lt1 := Trod_lt k1
  have lt2 := Trod_lt k2
  obtain ⟨x0, y0, z0, rfl, hz0⟩ := Trod_dialect Try.underlying23 (by kernel_rfl) (by kernel_rfl) Try.underlying5 Try.underlying5 Try.underlying3 (hval 0 23 v0 rfl rfl) k0
  obtain ⟨l1, rd1, hl1, hs1⟩ := Trod_strs Try.underlying24 Try.underlying9 (by kernel_rfl) (of_decide_eq_true (by kernel_rfl)) (hval 1 24 v1 rfl rfl) k1 (wt_of hsz (j := 1) rfl rfl)
  obtain ⟨b2, rfl⟩ := Trod_bool Try.underlying4 (hval 2 4 v2 rfl rfl) k2
  clear hA0 hval0 hsz0
  refine (walk ⟨x0, y0, z0⟩ v1 l1 b2 W rd1 hs1 hl1).mono fun e W' ⟨he, bel⟩ => ?_
  subst he
  exact ⟨_, rfl, _, _, _, [], _, [], hW', trodAll_mk1 (shut_bool Try.underlying4 _), (trodAll_cons_mk (Below.trod laidOut (by kernel_rfl) (of_decide_eq_true (by kernel_rfl)) k0 bel lt0) (trodAll_cons_mk (Below.trod laidOut (by kernel_rfl) (of_decide_eq_true (by kernel_rfl)) k1 bel lt1) (trodAll_cons_mk (Below.trod laidOut (by kernel_rfl) (of_decide_eq_true (by kernel_rfl)) k2 bel lt2) trodAll_mk0))), rfl, bel.frame _, fun h => by cases h⟩

theorem proved : Rows.WriteLinesSaid :=
  OpenClaim.holds_of_wide 3 Try.f3 rfl rfl rfl rfl rfl rfl rfl ⟨rfl, rfl, rfl, rfl, rfl⟩ rfl rfl rfl rfl rfl (by kernel_rfl) Try.func3 (by kernel_rfl)
    (of_decide_eq_true (by kernel_rfl)) (by unfold Func.isWrapper; first | (rw [if_pos (by decide +kernel)]; kernel_rfl) | (rw [if_neg (by decide +kernel)]; exact ⟨rfl, rfl⟩))
    (fun os started H enc _ => lifted os started H enc)
end Go.Proofs.Ytcmoldondflilaa.WriteLinesP
namespace Go.Proofs.Ytcmoldondflilaa
theorem writeLines_holds : Rows.WriteLinesSaid := WriteLinesP.proved
#print axioms writeLines_holds
end Go.Proofs.Ytcmoldondflilaa
