/- PROVED: for all limits l and every table t, TableFits(l, t) returns true and leaves its arguments as they were. No condition. -/
import Derived.Test.YtnbeebagblkkfaaRows
import Derived.Test.YtnbeebagblkkfaaFits
import Derived.Test.YtnbeebagblkkfaaOpenD
namespace Go.Proofs.Ytnbeebagblkkfaa.TableFitsP
set_option linter.unusedVariables false
set_option linter.unusedSimpArgs false
open Go.ChangeShapes Go.WideShapes Go.ChangeAt Go.RowKit Q Tab Same Limits

theorem own : ownKnob Try.prog.godebug = none := by kernel_rfl
theorem laidOut : laidOutB Try.prog = true := by kernel_rfl

set_option maxHeartbeats 2000000 in
theorem walk (a b c : Int) (u : Bool) (v : Value) (t : Tb) (w : World) (ht : Tbl w w.heap.size v t) (hs : Small t) :
    Calls Try.prog 6 #[limV a b c u, v] w fun e w' => e = .returned (.bool true) ∧ Below w.heap.size w w' := by
  have HA := Lib.hid awake_c
  have ht' := ht
  have HG := Lib.hid (fun w2 (h : Tbl w2 w.heap.size v t) => great13_c v t w.heap.size w2 h hs)
  obtain ⟨A, ca, rfl, ha1, ha2⟩ := ht.form
  clear ht
  have k0 : Keeps [] w (w.alloc (.cells #[.int .i64 a, .int .i64 b, .int .i64 c, .bool u] 45)) := Keeps.alloc [] w _
  have hbx := Blk.new w 45 [.int .i64 a, .int .i64 b, .int .i64 c, .bool u]
  go_enter Try.func6, Try.ntmps6
  go_wp2_with (fail)
  refine (HG.out _ (ht'.keepB k0 (by simp))).mono ?_
  rintro e w1 ⟨x, rfl, hx, m, rfl⟩
  have k1 : Keeps [] w ((w.alloc (.cells #[.int .i64 a, .int .i64 b, .int .i64 c, .bool u] 45)).drewN m) := k0.drewN1 m
  have hb1 := hbx.drewN m
  cases x
  rotate_left
  · clear hx
    generalize (w.alloc (.cells #[.int .i64 a, .int .i64 b, .int .i64 c, .bool u] 45)).drewN m = w1 at *
    go_wp2_with (fail)
    refine (HA.out _).mono ?_
    rintro e w4 ⟨rfl, hbel⟩
    go_wp2_with (fail)
    go_ret
    exact ⟨rfl, (k1.below (Nat.le_refl _) (by simp)).trans (hbel.mono k1.size)⟩
  obtain ⟨hl1, hl2, hl3⟩ := hx rfl
  clear hx hbx k0
  generalize (w.alloc (.cells #[.int .i64 a, .int .i64 b, .int .i64 c, .bool u] 45)).drewN m = w1 at *
  have c0 := hb1.cell 0
  have c1 := hb1.cell 1
  have c2 := hb1.cell 2
  have c3 := hb1.cell 3
  simp only [List.getElem?_cons_zero, List.getElem?_cons_succ, List.getElem?_nil] at c0 c1 c2 c3
  have t1 := ht'.keepB k1 (by simp)
  cases hok : limOk a b c
  · have HF := Lib.hid (fits_bad a b c u hok (.slice A t.length ca) t w1)
    go_wp2_with (fail)
    refine HF.out.mono ?_
    rintro e w2 ⟨rfl, k2⟩
    have hb2 := hb1.keep k2 (by simp)
    have d0 := hb2.cell 0
    have d1 := hb2.cell 1
    have d2 := hb2.cell 2
    have d3 := hb2.cell 3
    simp only [List.getElem?_cons_zero, List.getElem?_cons_succ, List.getElem?_nil] at d0 d1 d2 d3
    go_wp2_with (fail)
    refine (refLimits_c a b c u w2).mono ?_
    rintro e w3 ⟨rfl, k3⟩
    have HR := Lib.hid (Limits.rfits_c a b c (if u then 1 else 0) w3)
    rw [hok] at HR
    go_wp2_with (fail)
    refine HR.out.mono ?_
    rintro e w4 ⟨rfl, k4⟩
    have kk : Keeps [] w w4 := ((k1.trans k2 (by simp)).trans k3 (by simp)).trans k4 (by simp)
    clear hok
    go_wp2_with (fail)
    refine (HA.out _).mono ?_
    rintro e w5 ⟨rfl, hbel⟩
    go_wp2_with (fail)
    go_ret
    exact ⟨rfl, (kk.below (Nat.le_refl _) (by simp)).trans (hbel.mono kk.size)⟩
  · have hh := limOk_iff.1 hok
    obtain ⟨F, rfl⟩ : ∃ F : Nat, a = F := ⟨a.toNat, by omega⟩
    obtain ⟨N, rfl⟩ : ∃ N : Nat, b = N := ⟨b.toNat, by omega⟩
    obtain ⟨R, rfl⟩ : ∃ R : Nat, c = R := ⟨c.toNat, by omega⟩
    clear hh
    have HF := Lib.hid (fits_c F N R u hok (.slice A t.length ca) t w.heap.size w1 t1 k1.size hs)
    have HRF := Lib.hid (fun w5 h5 hz => Tab.rfits_c F N R u (if u then 1 else 0) (by cases u <;> rfl) (.slice A t.length ca) t w.heap.size w5 h5 hz hs)
    generalize fitsT F N R u t = z at *
    obtain ⟨z1, z2, z3⟩ := z
    go_wp2_with (fail)
    refine HF.out.mono ?_
    rintro e w2 ⟨rfl, k2⟩
    have hb2 := hb1.keep k2 (by simp)
    have d0 := hb2.cell 0
    have d1 := hb2.cell 1
    have d2 := hb2.cell 2
    have d3 := hb2.cell 3
    simp only [List.getElem?_cons_zero, List.getElem?_cons_succ, List.getElem?_nil] at d0 d1 d2 d3
    go_wp2_with (fail)
    refine (refLimits_c F N R u w2).mono ?_
    rintro e w3 ⟨rfl, k3⟩
    have HR := Lib.hid (Limits.rfits_c F N R (if u then 1 else 0) w3)
    rw [hok] at HR
    clear hok
    go_wp2_with (fail)
    refine HR.out.mono ?_
    rintro e w4 ⟨rfl, k4⟩
    have kk : Keeps [] w w4 := ((k1.trans k2 (by simp)).trans k3 (by simp)).trans k4 (by simp)
    have hb4 := (hb2.keep k3 (by simp)).keep k4 (by simp)
    have e0 := hb4.cell 0
    have e1 := hb4.cell 1
    have e2 := hb4.cell 2
    have e3 := hb4.cell 3
    simp only [List.getElem?_cons_zero, List.getElem?_cons_succ, List.getElem?_nil] at e0 e1 e2 e3
    go_wp2_with (fail)
    refine (refLimits_c F N R u w4).mono ?_
    rintro e w5 ⟨rfl, k5⟩
    have k5' : Keeps [] w w5 := kk.trans k5 (by simp)
    have HRF5 := Lib.hid (HRF.out w5 (ht'.keepB k5' (by simp)) k5'.size)
    go_wp2_with (fail)
    refine HRF5.out.mono ?_
    rintro e w6 ⟨rfl, k6⟩
    have k6' : Keeps [] w w6 := k5'.trans k6 (by simp)
    go_wp2_with (fail)
    refine (HA.out _).mono ?_
    rintro e w7 ⟨rfl, hbel⟩
    go_wp2_with (fail)
    go_ret
    exact ⟨rfl, (k6'.below (Nat.le_refl _) (by simp)).trans (hbel.mono k6'.size)⟩
set_option maxRecDepth 100000 in
theorem lifted (os : Os) (started : os.Started) (H : Type) (enc : TypeId × Value → H) :
    ReturnsInHanded {} Try.checked os 6 .any (Rows.tableFitsSpec.pre6 enc Try.prog Try.f6 Rows.tableFitsRow.domain false) (Rows.tableFitsSpec.post enc Try.prog Try.f6 false true false false) := by
  refine returnsInHanded_of_change_sized (C := Try.checked) own started (by kernel_rfl) Try.func6
    (ChangeSpec.witness6 (enc := enc) (C := Try.checked) false ⟨#[], #[.agg #[.int .i64 0, .int .i64 0, .int .i64 0, .bool false], .slice none 0 0], []⟩ 8 (by kernel_rfl) (by kernel_rfl) (by kernel_rfl) (by kernel_rfl)) ?_
  intro W base args ds gs before hval0 hW hcnd hsz0 _
  have hval : ∀ (j : Nat) t v, Try.f6.params[j]? = some t → args[j]? = some v → Value.okWide Try.prog W .any base t v := hval0
  have hW' := hW
  obtain ⟨p, q, hA0, hV, rfl, hfz, hnd⟩ := hW
  have hA : DataW.TrodAll enc Try.prog W 0 (fun _ => true) true Try.f6.params.toList args.toList ds p := hA0
  have hsz : (DataW.weightsEach Try.prog (Try.f6.params.toList ++ Rows.tableFitsSpec.plain.varTypes Try.prog) (ds ++ gs)).all (· ≤ reachBytes) = true := hsz0
  rw [Try.params6] at hA hval hsz
  obtain ⟨v0, vs0, d0, ds0, p0, q0, hargs, rfl, rfl, k0, r0⟩ := trodAll_cons hA
  obtain ⟨v1, vs1, d1, ds1, p1, q1, rfl, rfl, rfl, k1, r1⟩ := trodAll_cons r0
  obtain ⟨rfl, rfl, rfl⟩ := trodAll_nil r1
  obtain rfl : args = #[v0, v1] := by cases args; simp_all
  obtain ⟨rfl, rfl⟩ := trodVars_none hV
  have lt0 := Trod_lt k0
  have lt1 := Trod_lt k1
  obtain ⟨la0, lb0, lc0, lu0, rfl, hla0, hlb0, hlc0⟩ := Trod_limits Try.underlying45 (by kernel_rfl) (by kernel_rfl) Try.underlying3 Try.underlying3 Try.underlying3 Try.underlying4 (hval 0 45 v0 rfl rfl) k0
  obtain ⟨tb1, rd1, hs1⟩ := Trod_tbl Try.underlying22 (by kernel_rfl) (of_decide_eq_true (by kernel_rfl)) Try.underlying33 Try.underlying9 (by kernel_rfl) (of_decide_eq_true (by kernel_rfl)) (hval 1 22 v1 rfl rfl) k1 (wt_of hsz (j := 1) rfl rfl)
  clear hA0 hval0 hsz0
  refine (walk la0 lb0 lc0 lu0 v1 tb1 W rd1 hs1).mono fun e W' ⟨he, bel⟩ => ?_
  subst he
  exact ⟨_, rfl, _, _, _, [], _, [], hW', trodAll_mk1 (shut_bool Try.underlying4 _), (trodAll_cons_mk (Below.trod laidOut (by kernel_rfl) (of_decide_eq_true (by kernel_rfl)) k0 bel lt0) (trodAll_cons_mk (Below.trod laidOut (by kernel_rfl) (of_decide_eq_true (by kernel_rfl)) k1 bel lt1) trodAll_mk0)), rfl, bel.frame _, fun h => by cases h⟩

theorem proved : Rows.TableFitsSaid :=
  OpenClaim.holds_of_wide 6 Try.f6 rfl rfl rfl rfl rfl rfl rfl ⟨rfl, rfl, rfl, rfl, rfl⟩ rfl rfl rfl rfl rfl (by kernel_rfl) Try.func6 (by kernel_rfl)
    (of_decide_eq_true (by kernel_rfl)) (by unfold Func.isWrapper; first | (rw [if_pos (by decide +kernel)]; kernel_rfl) | (rw [if_neg (by decide +kernel)]; exact ⟨rfl, rfl⟩))
    (fun os started H enc _ => lifted os started H enc)
end Go.Proofs.Ytnbeebagblkkfaa.TableFitsP
namespace Go.Proofs.Ytnbeebagblkkfaa
theorem tableFits_holds : Rows.TableFitsSaid := TableFitsP.proved
#print axioms tableFits_holds
end Go.Proofs.Ytnbeebagblkkfaa
