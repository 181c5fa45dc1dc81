/- PROVED: for every dialect d and table t, WriteReads(d, t) returns true and leaves its arguments as they were. No condition. -/
import Derived.Test.YtcmoldondflilaaRows
import Derived.Test.YtcmoldondflilaaTxt2
import Derived.Test.YtcmoldondflilaaOpenD
import Derived.Test.YtcmoldondflilaaSame
namespace Go.Proofs.Ytcmoldondflilaa.WriteReadsP
set_option linter.unusedVariables false
set_option linter.unusedSimpArgs false
set_option maxRecDepth 100000
open Go.ChangeShapes Go.WideShapes Go.ChangeAt Go.RowKit Q Mach Dia Need Bld Quo WLine Par Wide
open Tab (fieldsOf bytesOf bytesOfRow)
attribute [local go_sem ↓] Go.wp_at_zero Go.wp_at_succ

theorem own : ownKnob Try.prog.godebug = none := by kernel_rfl
theorem laidOut : laidOutB Try.prog = true := by kernel_rfl
theorem reads {d : Dia} {t : Tb} (hd : d.right = true) (h : ∀ r ∈ t, Wr.may r = 0) (h1 : t.length ≤ 20) (h2 : fieldsOf t ≤ 40) (h3 : bytesOf t ≤ 400) : parseP d wide (Wr.textB d true t) = (t, 0, 0) := by
  refine Wr.parse_text hd wide rfl t ?_ (fun r hr => (Wr.may_ok (h r hr)).2) (by simp only [wide]; omega)
  intro r hr
  obtain ⟨a, b⟩ := Wr.mem_table hr
  exact ⟨(Wr.may_ok (h r hr)).1, by simp only [wide]; omega, fun f hf => by have := Wr.mem_bytes hf; simp only [wide]; omega⟩
set_option maxHeartbeats 20000000 in
theorem walk (d : Dia) (A : Value) (t : Tb) (w : World) (ht : Tbl w w.heap.size A t) (hsm : Small t) : Calls Try.prog 4 #[diaV d, A] w fun e w' => e = .returned (.bool true) ∧ Below w.heap.size w w' := by
  have HA := Lib.hid awake10_c
  have HR := Lib.hid (fun w => ref_c d w)
  have ht' := ht
  obtain ⟨A, ca, rfl, ha1, ha2⟩ := ht.form
  unfold maxLen at ha2
  have kp : Keeps [] w (w.alloc (.cells #[bv d.delim, bv d.quote, .int .i64 d.fin] 23)) := Keeps.alloc [] w _
  have hbx := Blk.new w 23 [bv d.delim, bv d.quote, .int .i64 d.fin]
  have c0 := hbx.cell_of (i := 0) rfl
  have c1 := hbx.cell_of (i := 1) rfl
  have c2 := hbx.cell_of (i := 2) rfl
  have HG := Lib.hid (Same.great_c (.slice A t.length ca) t 20 40 400 (by omega) (by omega) (by omega) w.heap.size _ (ht'.keepB kp (by simp)) hsm)
  have HTB := Lib.hid (fun w' h hB h0 h1 h2 => table_c d (.slice A t.length ca) t w.heap.size w' h hB h0 h1 h2)
  have HTL := Lib.hid (Wr.text_len d t true)
  obtain ⟨X, hX⟩ : ∃ X, tableR d t = X := ⟨_, rfl⟩
  rw [hX] at HTB
  have HX := Lib.hid hX
  clear hX
  obtain ⟨DD, hDD⟩ : ∃ D : Dia, D = d := ⟨_, rfl⟩
  have HDD := Lib.hid hDD
  clear hDD
  obtain ⟨x, y, z⟩ := d
  go_enter Try.func4, Try.ntmps4
  go_wp2_with (fail)
  refine HG.out.mono ?_
  rintro e w1 ⟨b, rfl, hb, m1, rfl⟩
  cases b
  rotate_left
  · go_wp2_with (fail)
    refine (HA.out _).mono ?_
    rintro e w2 ⟨rfl, k2⟩
    go_wp2_with (fail)
    go_ret
    exact ⟨rfl, ((kp.drewN1 m1).trans k2 (by simp)).below (Nat.le_refl _) (by simp)⟩
  obtain ⟨g1, g2, g3⟩ := hb rfl
  have k1 := kp.drewN1 m1
  have hb1 := hbx.drewN m1
  generalize (w.alloc (.cells #[bv x, bv y, .int .i64 z] 23)).drewN m1 = w1 at *
  have c0 := hb1.cell_of (i := 0) rfl
  have c1 := hb1.cell_of (i := 1) rfl
  have c2 := hb1.cell_of (i := 2) rfl
  have HT := Lib.hid (HTB.out w1 (ht'.keepB k1 (by simp)) k1.size (by omega) (by omega) (by omega))
  clear hb hbx kp HG HTB
  go_wp2_with (fail)
  refine HT.out.mono ?_
  unfold tableV
  rintro e w2 ⟨rfl, k2⟩
  have k02 := k1.trans k2 (by simp)
  have hb2 := hb1.keep k2 (by simp)
  clear k1 k2 hb1 c0 c1 c2 HT
  obtain ⟨S, n, M⟩ := X
  dsimp only
  by_cases hM : M = 0
  rotate_left
  · have hM' : ((M : Int) != 0) = true := by rw [bne_iff_ne]; omega
    clear hM
    go_wp2_with (fail)
    refine (HA.out _).mono ?_
    rintro e w3 ⟨rfl, k3⟩
    go_wp2_with (fail)
    go_ret
    exact ⟨rfl, (k02.trans k3 (by simp)).below (Nat.le_refl _) (by simp)⟩
  subst hM
  obtain ⟨hd, hx, hmay⟩ := table_ok (d := ⟨x, y, z⟩) (t := t) (by rw [HX.out])
  rw [HX.out] at hx
  injection hx with hx1 hx2
  injection hx2 with hx2 hx3
  subst hx1
  have hpr := reads hd hmay g1 g2 g3
  have hlen := HTL.out
  have HPA := Lib.hid (fun w => parse_w ⟨x, y, z⟩ (Wr.textB ⟨x, y, z⟩ true t) (by omega) w)
  rw [hpr] at HPA
  have HW := Lib.hid wide_c
  generalize Wr.textB ⟨x, y, z⟩ true t = S at *
  have c0 := hb2.cell_of (i := 0) rfl
  have c1 := hb2.cell_of (i := 1) rfl
  have c2 := hb2.cell_of (i := 2) rfl
  clear hd hmay hpr hx2 hx3 HX HTL
  go_wp2_with (fail)
  refine (HR.out _).mono ?_
  rintro e w3 ⟨rfl, k3⟩
  clear c0 c1 c2
  go_wp2_with (fail)
  refine (HW.out _).mono ?_
  rintro e w4 ⟨rfl, k4⟩
  go_wp2_with (fail)
  refine (HPA.out _).mono ?_
  rintro e w5 ⟨vp, vps, rfl, hot, k5⟩
  have k05 := ((k02.trans k3 (by simp)).trans k4 (by simp)).trans k5 (by simp)
  obtain ⟨A5, c5, rfl, h51, h52⟩ := hot.2.1.form
  unfold maxLen at h52
  have HS := Lib.hid (Same.sameTable_c _ _ t t _ _ w5 (hot.tbl (Nat.le_refl _)) (ht'.keepB k05 (by simp)))
  rw [decide_eq_true rfl] at HS
  clear k3 k4 k5 k02 hot hb2
  go_wp2_with (fail)
  refine HS.out.mono ?_
  rintro e w6 ⟨rfl, m6, rfl⟩
  go_wp2_with (fail)
  refine (HA.out _).mono ?_
  rintro e w7 ⟨rfl, k7⟩
  go_wp2_with (fail)
  go_ret
  exact ⟨rfl, ((k05.drewN1 m6).trans k7 (by simp)).below (Nat.le_refl _) (by simp)⟩
set_option maxRecDepth 100000 in
theorem lifted (os : Os) (started : os.Started) (H : Type) (enc : TypeId × Value → H) :
    ReturnsInHanded {} Try.checked os 4 .any (Rows.writeReadsSpec.pre6 enc Try.prog Try.f4 Rows.writeReadsRow.domain false) (Rows.writeReadsSpec.post enc Try.prog Try.f4 false true false false) := by
  refine returnsInHanded_of_change_sized (C := Try.checked) own started (by kernel_rfl) Try.func4
    (ChangeSpec.witness6 (enc := enc) (C := Try.checked) false ⟨#[], #[.agg #[.int .u8 0, .int .u8 0, .int .i64 0], .slice none 0 0], []⟩ 8 (by kernel_rfl) (by kernel_rfl) (by kernel_rfl) (by kernel_rfl)) ?_
  intro W base args ds gs before hval0 hW hcnd hsz0 _
  have hval : ∀ (j : Nat) t v, Try.f4.params[j]? = some t → args[j]? = some v → Value.okWide Try.prog W .any base t v := hval0
  have hW' := hW
  obtain ⟨p, q, hA0, hV, rfl, hfz, hnd⟩ := hW
  have hA : DataW.TrodAll enc Try.prog W 0 (fun _ => true) true Try.f4.params.toList args.toList ds p := hA0
  have hsz : (DataW.weightsEach Try.prog (Try.f4.params.toList ++ Rows.writeReadsSpec.plain.varTypes Try.prog) (ds ++ gs)).all (· ≤ reachBytes) = true := hsz0
  rw [Try.params4] at hA hval hsz
  obtain ⟨v0, vs0, d0, ds0, p0, q0, hargs, rfl, rfl, k0, r0⟩ := trodAll_cons hA
  obtain ⟨v1, vs1, d1, ds1, p1, q1, rfl, rfl, rfl, k1, r1⟩ := trodAll_cons r0
  obtain ⟨rfl, rfl, rfl⟩ := trodAll_nil r1
  obtain rfl : args = #[v0, v1] := by cases args; simp_all
  obtain ⟨rfl, rfl⟩ := trodVars_none hV
  have lt0 := Trod_lt k0
  have lt1 := Trod_lt k1
  obtain ⟨x0, y0, z0, rfl, hz0⟩ := Trod_dialect Try.underlying23 (by kernel_rfl) (by kernel_rfl) Try.underlying5 Try.underlying5 Try.underlying3 (hval 0 23 v0 rfl rfl) k0
  obtain ⟨tb1, rd1, hs1⟩ := Trod_tbl Try.underlying26 (by kernel_rfl) (of_decide_eq_true (by kernel_rfl)) Try.underlying24 Try.underlying9 (by kernel_rfl) (of_decide_eq_true (by kernel_rfl)) (hval 1 26 v1 rfl rfl) k1 (wt_of hsz (j := 1) rfl rfl)
  clear hA0 hval0 hsz0
  refine (walk ⟨x0, y0, z0⟩ v1 tb1 W rd1 hs1).mono fun e W' ⟨he, bel⟩ => ?_
  subst he
  exact ⟨_, rfl, _, _, _, [], _, [], hW', trodAll_mk1 (shut_bool Try.underlying4 _), (trodAll_cons_mk (Below.trod laidOut (by kernel_rfl) (of_decide_eq_true (by kernel_rfl)) k0 bel lt0) (trodAll_cons_mk (Below.trod laidOut (by kernel_rfl) (of_decide_eq_true (by kernel_rfl)) k1 bel lt1) trodAll_mk0)), rfl, bel.frame _, fun h => by cases h⟩

theorem proved : Rows.WriteReadsSaid :=
  OpenClaim.holds_of_wide 4 Try.f4 rfl rfl rfl rfl rfl rfl rfl ⟨rfl, rfl, rfl, rfl, rfl⟩ rfl rfl rfl rfl rfl (by kernel_rfl) Try.func4 (by kernel_rfl)
    (of_decide_eq_true (by kernel_rfl)) (by unfold Func.isWrapper; first | (rw [if_pos (by decide +kernel)]; kernel_rfl) | (rw [if_neg (by decide +kernel)]; exact ⟨rfl, rfl⟩))
    (fun os started H enc _ => lifted os started H enc)
end Go.Proofs.Ytcmoldondflilaa.WriteReadsP
namespace Go.Proofs.Ytcmoldondflilaa
theorem writeReads_holds : Rows.WriteReadsSaid := WriteReadsP.proved
#print axioms writeReads_holds
end Go.Proofs.Ytcmoldondflilaa
