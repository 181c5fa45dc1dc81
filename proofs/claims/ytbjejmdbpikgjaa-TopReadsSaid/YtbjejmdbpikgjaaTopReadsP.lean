/- PROVED: for every way w, text s and sizes, TopReads(w, s, sizes) returns true and leaves its arguments as they were. No condition. -/
import Derived.Test.YtbjejmdbpikgjaaRows
import Derived.Test.YtbjejmdbpikgjaaFed
import Derived.Test.YtbjejmdbpikgjaaPar
import Derived.Test.YtbjejmdbpikgjaaSame
import Derived.Test.YtbjejmdbpikgjaaOpenT
import Derived.Deep.RegionHeld3
namespace Go.Proofs.Ytbjejmdbpikgjaa.TopReadsP
set_option linter.unusedVariables false
set_option linter.unusedSimpArgs false
set_option maxRecDepth 100000
open Go.ChangeShapes Go.WideShapes Go.ChangeAt Go.RowKit Q Mach Dia Limits Rd
attribute [local go_sem ↓] Go.wp_at_zero Go.wp_at_succ

theorem own : ownKnob Try.prog.godebug = none := by kernel_rfl
theorem laidOut : laidOutB Try.prog = true := by kernel_rfl
set_option maxHeartbeats 8000000 in
theorem walk (d : Dia) (a b c : Int) (u : Bool) (s : Bs) (A : Value) (zs : List Int) (w : World) (hz : Rd w w.heap.size 1 A zs.length (zs.map (Value.int .i64))) : Calls Try.prog 4 #[wayV d a b c u, sv s, A] w fun e w' => e = .returned (.bool true) ∧ Below w.heap.size w w' := by
  have HA := Lib.hid Wh.alive_c
  have HR := Lib.hid (fun w => right2_c d a b c u w)
  have HZ := Lib.hid hz
  obtain ⟨Z, cz, rfl, hz1, hz2⟩ := hz.form
  unfold maxLen at hz2
  clear hz
  have kp := Keeps.alloc [] w (.cells #[bv d.delim, bv d.quote, .int .i64 d.fin, .int .i64 a, .int .i64 b, .int .i64 c, .bool u] 27)
  have hb := Blk.new w 27 [bv d.delim, bv d.quote, .int .i64 d.fin, .int .i64 a, .int .i64 b, .int .i64 c, .bool u]
  obtain ⟨R, hR⟩ : ∃ R, (d.right && limOk a b c) = R := ⟨_, rfl⟩
  rw [hR] at HR
  have HRI := Lib.hid hR
  clear hR
  obtain ⟨D, hD⟩ : ∃ D : Dia, D = d := ⟨_, rfl⟩
  have HDD := Lib.hid hD
  clear hD
  obtain ⟨x, y, z⟩ := d
  go_enter Try.func4, Try.ntmps4
  go_upto_region 1 with (fail)
  generalize w.alloc (.cells #[bv x, bv y, .int .i64 z, .int .i64 a, .int .i64 b, .int .i64 c, .bool u] 27) = w0 at *
  have c0 := hb.cell_of (i := 0) rfl
  have c1 := hb.cell_of (i := 1) rfl
  have c2 := hb.cell_of (i := 2) rfl
  have c3 := hb.cell_of (i := 3) rfl
  have c4 := hb.cell_of (i := 4) rfl
  have c5 := hb.cell_of (i := 5) rfl
  have c6 := hb.cell_of (i := 6) rfl
  by_cases hs : s.length ≤ 300
  rotate_left
  · have h1 : ((300 : Int) < (s.length : Int)) := by omega
    go_wp2_with (fail)
    refine (HA.out _).mono ?_
    rintro e w1 ⟨rfl, k1⟩
    go_wp2_with (fail)
    go_ret
    exact ⟨rfl, (kp.trans k1 (by simp)).below (Nat.le_refl _) (by simp)⟩
  have h1 : ¬ ((300 : Int) < (s.length : Int)) := by omega
  by_cases hm : zs.length ≤ 100
  rotate_left
  · have h2 : ((100 : Int) < (zs.length : Int)) := by omega
    go_wp2_with (fail)
    refine (HA.out _).mono ?_
    rintro e w1 ⟨rfl, k1⟩
    go_wp2_with (fail)
    go_ret
    exact ⟨rfl, (kp.trans k1 (by simp)).below (Nat.le_refl _) (by simp)⟩
  have h2 : ¬ ((100 : Int) < (zs.length : Int)) := by omega
  have HL := Lib.hid (And.intro hs hm)
  clear hs hm
  go_wp2_with (fail)
  refine (HR.out _).mono ?_
  rintro e w1 ⟨rfl, k1⟩
  have k01 := kp.trans k1 (by simp)
  have hb1 := hb.keep k1 (by simp)
  clear c0 c1 c2 c3 c4 c5 c6 k1 kp hb
  cases R
  · go_wp2_with (fail)
    refine (HA.out _).mono ?_
    rintro e w2 ⟨rfl, k2⟩
    go_wp2_with (fail)
    go_ret
    exact ⟨rfl, (k01.trans k2 (by simp)).below (Nat.le_refl _) (by simp)⟩
  have hri := HRI.out
  rw [Bool.and_eq_true] at hri
  obtain ⟨hd, hl⟩ := hri
  rw [limOk_iff] at hl
  obtain ⟨hla, hlb, hlc⟩ := hl
  obtain ⟨na, rfl⟩ : ∃ n : Nat, a = n := ⟨a.toNat, by omega⟩
  obtain ⟨nb, rfl⟩ : ∃ n : Nat, b = n := ⟨b.toNat, by omega⟩
  obtain ⟨nc, rfl⟩ : ∃ n : Nat, c = n := ⟨c.toNat, by omega⟩
  have HRF := Lib.hid (fun w => ref_c ⟨x, y, z⟩ w)
  have HRL : Hid (∀ w, Calls Try.prog 19 #[limV na nb nc u] w fun e w' => e = .returned (rlimV na nb nc u) ∧ Keeps [] w w') := Lib.hid (fun w => refLimits_c na nb nc u w)
  obtain ⟨X, hX⟩ : ∃ X, Par.parseP ⟨x, y, z⟩ ⟨na, nb, nc, u⟩ s = X := ⟨_, rfl⟩
  have HFE : Hid (∀ w' h, Calls Try.prog 16 #[diaV ⟨x, y, z⟩, limV na nb nc u, sv s, .slice Z zs.length cz] w' (FedP X w')) := Lib.hid (fun w' h => by rw [← hX]; exact fed_c ⟨x, y, z⟩ hd ⟨na, nb, nc, u⟩ (by dsimp only; omega) (by dsimp only; omega) (by dsimp only; omega) s (by have := HL.out.1; omega) (.slice Z zs.length cz) zs w' h (by have := HL.out.2; omega))
  have HPA : Hid (∀ w', Calls Try.prog 17 #[rdiaV ⟨x, y, z⟩, rlimV na nb nc u, sv s] w' (Par.ParseP X w')) := Lib.hid (fun w' => by rw [← hX]; exact Par.parse_c w' ⟨x, y, z⟩ ⟨na, nb, nc, u⟩ s (by have := HL.out.1; omega))
  clear hX hd hla hlb hlc
  obtain ⟨t, K, P⟩ := X
  have c0 := hb1.cell_of (i := 0) rfl
  have c1 := hb1.cell_of (i := 1) rfl
  have c2 := hb1.cell_of (i := 2) rfl
  have c3 := hb1.cell_of (i := 3) rfl
  have c4 := hb1.cell_of (i := 4) rfl
  have c5 := hb1.cell_of (i := 5) rfl
  have c6 := hb1.cell_of (i := 6) rfl
  have HFX : Hid (Calls Try.prog 16 #[diaV ⟨x, y, z⟩, limV na nb nc u, sv s, .slice Z zs.length cz] w1 (fun e w' => ∃ v, e = .returned (.tuple #[v, .agg #[.int .i64 K, .int .i64 P], .bool true]) ∧ Tbl w' w'.heap.size v t ∧ Keeps [] w1 w')) := Lib.hid (HFE.out w1 (HZ.out.keepB k01 (by simp) |>.more k01.size))
  have HPX : Hid (∀ w', Calls Try.prog 17 #[rdiaV ⟨x, y, z⟩, rlimV na nb nc u, sv s] w' (fun e w'' => ∃ v vs, e = .returned (.tuple #[v, .int .i64 K, .int .i64 P]) ∧ OTb w'' w'.heap.size 65 9 v vs t ∧ Keeps [] w' w'')) := Lib.hid (fun w' => HPA.out w')
  clear HFE HPA
  go_wp2_with (fail)
  refine HFX.out.mono ?_
  rintro e w2 ⟨v, rfl, hT, k2⟩
  obtain ⟨At, ct, rfl, _, _⟩ := hT.form
  have k02 := k01.trans k2 (by simp)
  have ka := Keeps.alloc [] w2 (.cells #[.int .i64 K, .int .i64 P] 35)
  have hb3 := (hb1.keep k2 (by simp)).keep ka (by simp)
  have hT3 := hT.keepB ka (by simp)
  have hr3 := Blk.new w2 35 [.int .i64 K, .int .i64 P]
  have k03 := k02.trans ka (by simp)
  have hl3 := hb3.lt
  have hT4 := Lib.hid hT3
  have HR3 := Lib.hid hr3
  have K03 := Lib.hid k03
  clear c0 c1 c2 c3 c4 c5 c6 hb1 hT k01 k02 ka hT3 hr3 k03 k2 HFX
  go_upto_region 4 with (fail)
  generalize w2.alloc (.cells #[.int .i64 K, .int .i64 P] 35) = w3 at *
  have hTs : w2.heap.size ≤ w3.heap.size := Nat.le_of_lt HR3.out.lt
  generalize w2.heap.size = r8 at *
  have c0 := hb3.cell_of (i := 0) rfl
  have c1 := hb3.cell_of (i := 1) rfl
  have c2 := hb3.cell_of (i := 2) rfl
  have c3 := hb3.cell_of (i := 3) rfl
  have c4 := hb3.cell_of (i := 4) rfl
  have c5 := hb3.cell_of (i := 5) rfl
  have c6 := hb3.cell_of (i := 6) rfl
  clear hb3
  have HSS := fun w' (hb : Below (w3.heap.size) (w3) w') => ((⟨(hb.cell (p := ⟨w.heap.size, 0, none⟩) (hl3)).trans (c0), (hb.cell (p := ⟨w.heap.size, 1, none⟩) (hl3)).trans (c1), (hb.cell (p := ⟨w.heap.size, 2, none⟩) (hl3)).trans (c2), (hb.cell (p := ⟨w.heap.size, 3, none⟩) (hl3)).trans (c3), (hb.cell (p := ⟨w.heap.size, 4, none⟩) (hl3)).trans (c4), (hb.cell (p := ⟨w.heap.size, 5, none⟩) (hl3)).trans (c5), (hb.cell (p := ⟨w.heap.size, 6, none⟩) (hl3)).trans (c6), hb⟩) : w'.cell? ⟨w.heap.size, 0, none⟩ = some (bv x) ∧ w'.cell? ⟨w.heap.size, 1, none⟩ = some (bv y) ∧ w'.cell? ⟨w.heap.size, 2, none⟩ = some (.int .i64 z) ∧ w'.cell? ⟨w.heap.size, 3, none⟩ = some (.int .i64 na) ∧ w'.cell? ⟨w.heap.size, 4, none⟩ = some (.int .i64 nb) ∧ w'.cell? ⟨w.heap.size, 5, none⟩ = some (.int .i64 nc) ∧ w'.cell? ⟨w.heap.size, 6, none⟩ = some (.bool u) ∧ Below (w3.heap.size) (w3) w')
  have HSSb : w3.heap.size ≤ (w3).heap.size := Nat.le_refl _
  go_region_held3 (fun w' => w'.cell? ⟨w.heap.size, 0, none⟩ = some (bv x) ∧ w'.cell? ⟨w.heap.size, 1, none⟩ = some (bv y) ∧ w'.cell? ⟨w.heap.size, 2, none⟩ = some (.int .i64 z) ∧ w'.cell? ⟨w.heap.size, 3, none⟩ = some (.int .i64 na) ∧ w'.cell? ⟨w.heap.size, 4, none⟩ = some (.int .i64 nb) ∧ w'.cell? ⟨w.heap.size, 5, none⟩ = some (.int .i64 nc) ∧ w'.cell? ⟨w.heap.size, 6, none⟩ = some (.bool u) ∧ Below (w3.heap.size) (w3) w') (((try go_split_ands); (with_reducible apply HSS); first | (with_reducible assumption) | (with_reducible (apply bC HSSb k1; assumption)) | (with_reducible (apply bAA HSSl; assumption)) | (repeat (first | (with_reducible assumption) | (with_reducible apply Below.refl) | (with_reducible apply bS (hp := HSSb)) | (with_reducible apply bSe) | (with_reducible apply bA HSSb) | (with_reducible apply bD))))) (first | ((go_at_call 18; refine (HRF.out _).mono ?_; rintro e w7 ⟨rfl, k1⟩)) | ((go_at_call 19; refine (HRL.out _).mono ?_; rintro e w7 ⟨rfl, k1⟩)) | ((go_at_call 17; refine (HPX.out _).mono ?_; rintro e w7 ⟨v9, vs9, rfl, hT9, k1⟩)))
  all_goals go_split_ands
  all_goals
    have hbz : Below w3.heap.size w3 w7 := by repeat (first | with_reducible assumption | with_reducible exact Below.refl _ _ | with_reducible apply bD | (with_reducible refine bC (Nat.le_refl _) (by assumption) ?_))
    go_wp2_with (fail)
    have HS : Hid (Calls Try.prog 20 #[.slice At t.length ct, v9] w7 fun e w' => e = .returned (.bool true) ∧ ∃ m, w' = w7.drewN m) := Lib.hid (by
      have := Same.sameTable_c (.slice At t.length ct) v9 t t r8 w7.heap.size w7 (hT4.out.keepB (Keeps.of_below hbz []) (by simp)) (hT9.tbl (Nat.le_refl _))
      simpa using this)
    refine HS.out.mono ?_
    rintro e w8 ⟨rfl, m, rfl⟩
    have hr7 := (HR3.out.below hbz HR3.out.lt).drewN m
    have r0 := hr7.cell_of (i := 0) rfl
    have r1 := hr7.cell_of (i := 1) rfl
    have HB7 := Lib.hid (((K03.out.below (Nat.le_refl _) (by simp)).trans (hbz.mono K03.out.size)).trans (below_of_drewN w.heap.size w7 m))
    clear hr7 hbz hT9 c0 c1 c2 c3 c4 c5 c6
    generalize w7.drewN m = w9 at *
    go_wp2_with (fail)
    refine (HA.out _).mono ?_
    rintro e w10 ⟨rfl, k10⟩
    go_wp2_with (fail)
    go_ret
    exact ⟨rfl, HB7.out.trans (k10.below HB7.out.size (by simp))⟩
set_option maxRecDepth 100000 in
theorem lifted (os : Os) (started : os.Started) (H : Type) (enc : TypeId × Value → H) :
    ReturnsInHanded {} Try.checked os 4 .any (Rows.topReadsSpec.pre6 enc Try.prog Try.f4 Rows.topReadsRow.domain false) (Rows.topReadsSpec.post enc Try.prog Try.f4 false true false false) := by
  refine returnsInHanded_of_change_sized (C := Try.checked) own started (by kernel_rfl) Try.func4
    (ChangeSpec.witness6 (enc := enc) (C := Try.checked) false ⟨#[], #[.agg #[.int .u8 0, .int .u8 0, .int .i64 0, .int .i64 0, .int .i64 0, .int .i64 0, .bool false], .string .empty, .slice none 0 0], []⟩ 8 (by kernel_rfl) (by kernel_rfl) (by kernel_rfl) (by kernel_rfl)) ?_
  intro W base args ds gs before hval0 hW hcnd hsz0 _
  have hval : ∀ (j : Nat) t v, Try.f4.params[j]? = some t → args[j]? = some v → Value.okWide Try.prog W .any base t v := hval0
  have hW' := hW
  obtain ⟨p, q, hA0, hV, rfl, hfz, hnd⟩ := hW
  have hA : DataW.TrodAll enc Try.prog W 0 (fun _ => true) true Try.f4.params.toList args.toList ds p := hA0
  have hsz : (DataW.weightsEach Try.prog (Try.f4.params.toList ++ Rows.topReadsSpec.plain.varTypes Try.prog) (ds ++ gs)).all (· ≤ reachBytes) = true := hsz0
  rw [Try.params4] at hA hval hsz
  obtain ⟨v0, vs0, d0, ds0, p0, q0, hargs, rfl, rfl, k0, r0⟩ := trodAll_cons hA
  obtain ⟨v1, vs1, d1, ds1, p1, q1, rfl, rfl, rfl, k1, r1⟩ := trodAll_cons r0
  obtain ⟨v2, vs2, d2, ds2, p2, q2, rfl, rfl, rfl, k2, r2⟩ := trodAll_cons r1
  obtain ⟨rfl, rfl, rfl⟩ := trodAll_nil r2
  obtain rfl : args = #[v0, v1, v2] := by cases args; simp_all
  obtain ⟨rfl, rfl⟩ := trodVars_none hV
  have lt0 := Trod_lt k0
  have lt1 := Trod_lt k1
  have lt2 := Trod_lt k2
  obtain ⟨x0, y0, z0, la0, lb0, lc0, lu0, rfl⟩ := Trod_way (hval 0 27 v0 rfl rfl) k0
  obtain ⟨l1, rfl, hl1⟩ := Trod_str Try.underlying9 (hval 1 9 v1 rfl rfl) k1 (wt_of hsz (j := 1) rfl rfl)
  obtain ⟨zs2, rd2, hz2, hl2⟩ := Trod_ints Try.underlying41 Try.underlying3 (by kernel_rfl) (of_decide_eq_true (by kernel_rfl)) (hval 2 41 v2 rfl rfl) k2 (wt_of hsz (j := 2) rfl rfl)
  clear hA0 hval0 hsz0
  refine (walk ⟨x0, y0, z0⟩ la0 lb0 lc0 lu0 l1 v2 zs2 W rd2).mono fun e W' ⟨he, bel⟩ => ?_
  subst he
  exact ⟨_, rfl, _, _, _, [], _, [], hW', trodAll_mk1 (shut_bool Try.underlying4 _), (trodAll_cons_mk (Below.trod laidOut (by kernel_rfl) (of_decide_eq_true (by kernel_rfl)) k0 bel lt0) (trodAll_cons_mk (Below.trod laidOut (by kernel_rfl) (of_decide_eq_true (by kernel_rfl)) k1 bel lt1) (trodAll_cons_mk (Below.trod laidOut (by kernel_rfl) (of_decide_eq_true (by kernel_rfl)) k2 bel lt2) trodAll_mk0))), rfl, bel.frame _, fun h => by cases h⟩

theorem proved : Rows.TopReadsSaid :=
  OpenClaim.holds_of_wide 4 Try.f4 rfl rfl rfl rfl rfl rfl rfl ⟨rfl, rfl, rfl, rfl, rfl⟩ rfl rfl rfl rfl rfl (by kernel_rfl) Try.func4 (by kernel_rfl)
    (of_decide_eq_true (by kernel_rfl)) (by unfold Func.isWrapper; first | (rw [if_pos (by decide +kernel)]; kernel_rfl) | (rw [if_neg (by decide +kernel)]; exact ⟨rfl, rfl⟩))
    (fun os started H enc _ => lifted os started H enc)
end Go.Proofs.Ytbjejmdbpikgjaa.TopReadsP
namespace Go.Proofs.Ytbjejmdbpikgjaa
theorem topReads_holds : Rows.TopReadsSaid := TopReadsP.proved
#print axioms topReads_holds
end Go.Proofs.Ytbjejmdbpikgjaa
