/- PROVED: for every way w, text s and deal z, TopChunks(w, s, z) returns true and leaves its arguments as they were. No condition. -/
import Derived.Test.YtbjejmdbpikgjaaRows
import Derived.Test.YtbjejmdbpikgjaaFed
import Derived.Test.YtbjejmdbpikgjaaSame
import Derived.Test.YtbjejmdbpikgjaaOpenT
import Derived.Deep.RegionHeld3
namespace Go.Proofs.Ytbjejmdbpikgjaa.TopChunksP
set_option linter.unusedVariables false
set_option linter.unusedSimpArgs false
set_option maxRecDepth 100000
open Go.ChangeShapes Go.WideShapes Go.ChangeAt Go.RowKit Q Mach Dia Limits Rd
attribute [local go_sem ↓] Go.wp_at_zero Go.wp_at_succ

theorem own : ownKnob Try.prog.godebug = none := by kernel_rfl
theorem laidOut : laidOutB Try.prog = true := by kernel_rfl
set_option maxHeartbeats 8000000 in
theorem walk (d : Dia) (a b c : Int) (u : Bool) (s : Bs) (A B : Value) (za zb : List Int) (w : World) (hz : Rd w w.heap.size 1 A za.length (za.map (Value.int .i64))) (hy : Rd w w.heap.size 1 B zb.length (zb.map (Value.int .i64))) : Calls Try.prog 5 #[wayV d a b c u, sv s, .agg #[A, B]] w fun e w' => e = .returned (.bool true) ∧ Below w.heap.size w w' := by
  have HA := Lib.hid Wh.alive_c
  have HR := Lib.hid (fun w => right2_c d a b c u w)
  have HZ := Lib.hid hz
  have HY := Lib.hid hy
  obtain ⟨Z, cz, rfl, hz1, hz2⟩ := hz.form
  obtain ⟨Y, cy, rfl, hy1, hy2⟩ := hy.form
  unfold maxLen at hz2 hy2
  clear hz hy
  have kp := (Keeps.alloc [] w (.cells #[bv d.delim, bv d.quote, .int .i64 d.fin, .int .i64 a, .int .i64 b, .int .i64 c, .bool u] 27)).alloc1 (.cells #[.slice Z za.length cz, .slice Y zb.length cy] 56)
  have hb := (Blk.new w 27 [bv d.delim, bv d.quote, .int .i64 d.fin, .int .i64 a, .int .i64 b, .int .i64 c, .bool u]).alloc (.cells #[.slice Z za.length cz, .slice Y zb.length cy] 56)
  have hbd := Blk.new (w.alloc (.cells #[bv d.delim, bv d.quote, .int .i64 d.fin, .int .i64 a, .int .i64 b, .int .i64 c, .bool u] 27)) 56 [.slice Z za.length cz, .slice Y zb.length cy]
  rw [World.size_alloc] at hbd
  obtain ⟨R, hR⟩ : ∃ R, (d.right && limOk a b c) = R := ⟨_, rfl⟩
  rw [hR] at HR
  have HRI := Lib.hid hR
  clear hR
  obtain ⟨x, y, z⟩ := d
  go_enter Try.func5, Try.ntmps5
  go_upto_region 1 with (fail)
  generalize (w.alloc (.cells #[bv x, bv y, .int .i64 z, .int .i64 a, .int .i64 b, .int .i64 c, .bool u] 27)).alloc (.cells #[.slice Z za.length cz, .slice Y zb.length cy] 56) = w0 at *
  have c0 := hb.cell_of (i := 0) rfl
  have c1 := hb.cell_of (i := 1) rfl
  have c2 := hb.cell_of (i := 2) rfl
  have c3 := hb.cell_of (i := 3) rfl
  have c4 := hb.cell_of (i := 4) rfl
  have c5 := hb.cell_of (i := 5) rfl
  have c6 := hb.cell_of (i := 6) rfl
  have d0 := hbd.cell_of (i := 0) rfl
  have d1 := hbd.cell_of (i := 1) rfl
  by_cases hs : s.length ≤ 300
  rotate_left
  · have h1 : ((300 : Int) < (s.length : Int)) := by omega
    go_wp2_with (fail)
    refine (HA.out _).mono ?_
    rintro e w1 ⟨rfl, k1⟩
    go_wp2_with (fail)
    go_ret
    exact ⟨rfl, (kp.trans k1 (by simp)).below (Nat.le_refl _) (by simp)⟩
  have h1 : ¬ ((300 : Int) < (s.length : Int)) := by omega
  by_cases hm : za.length ≤ 100
  rotate_left
  · have h2 : ((100 : Int) < (za.length : Int)) := by omega
    go_wp2_with (fail)
    refine (HA.out _).mono ?_
    rintro e w1 ⟨rfl, k1⟩
    go_wp2_with (fail)
    go_ret
    exact ⟨rfl, (kp.trans k1 (by simp)).below (Nat.le_refl _) (by simp)⟩
  have h2 : ¬ ((100 : Int) < (za.length : Int)) := by omega
  by_cases hn : zb.length ≤ 100
  rotate_left
  · have h3 : ((100 : Int) < (zb.length : Int)) := by omega
    go_wp2_with (fail)
    refine (HA.out _).mono ?_
    rintro e w1 ⟨rfl, k1⟩
    go_wp2_with (fail)
    go_ret
    exact ⟨rfl, (kp.trans k1 (by simp)).below (Nat.le_refl _) (by simp)⟩
  have h3 : ¬ ((100 : Int) < (zb.length : Int)) := by omega
  have HL := Lib.hid (And.intro hs (And.intro hm hn))
  clear hs hm hn
  go_wp2_with (fail)
  refine (HR.out _).mono ?_
  rintro e w1 ⟨rfl, k1⟩
  have k01 := kp.trans k1 (by simp)
  have hb1 := hb.keep k1 (by simp)
  have hbd1 := hbd.keep k1 (by simp)
  clear c0 c1 c2 c3 c4 c5 c6 d0 d1 k1 kp hb hbd
  cases R
  · go_wp2_with (fail)
    refine (HA.out _).mono ?_
    rintro e w2 ⟨rfl, k2⟩
    go_wp2_with (fail)
    go_ret
    exact ⟨rfl, (k01.trans k2 (by simp)).below (Nat.le_refl _) (by simp)⟩
  have hri := HRI.out
  rw [Bool.and_eq_true] at hri
  obtain ⟨hd, hl⟩ := hri
  rw [limOk_iff] at hl
  obtain ⟨hla, hlb, hlc⟩ := hl
  obtain ⟨na, rfl⟩ : ∃ n : Nat, a = n := ⟨a.toNat, by omega⟩
  obtain ⟨nb, rfl⟩ : ∃ n : Nat, b = n := ⟨b.toNat, by omega⟩
  obtain ⟨nc, rfl⟩ : ∃ n : Nat, c = n := ⟨c.toNat, by omega⟩
  obtain ⟨X, hX⟩ : ∃ X, Par.parseP ⟨x, y, z⟩ ⟨na, nb, nc, u⟩ s = X := ⟨_, rfl⟩
  have HFE : Hid (∀ (w' : World) (V : Value) (zs : List Int) (h : Rd w' w'.heap.size 1 V zs.length (zs.map (Value.int .i64))), zs.length ≤ 100 → Calls Try.prog 16 #[diaV ⟨x, y, z⟩, limV na nb nc u, sv s, V] w' (FedP X w')) := Lib.hid (fun w' V zs h hz => by rw [← hX]; exact fed_c ⟨x, y, z⟩ hd ⟨na, nb, nc, u⟩ (by dsimp only; omega) (by dsimp only; omega) (by dsimp only; omega) s (by have := HL.out.1; omega) V zs w' h (by omega))
  clear hX hd hla hlb hlc
  obtain ⟨t, K, P⟩ := X
  have c0 := hb1.cell_of (i := 0) rfl
  have c1 := hb1.cell_of (i := 1) rfl
  have c2 := hb1.cell_of (i := 2) rfl
  have c3 := hb1.cell_of (i := 3) rfl
  have c4 := hb1.cell_of (i := 4) rfl
  have c5 := hb1.cell_of (i := 5) rfl
  have c6 := hb1.cell_of (i := 6) rfl
  have d0 := hbd1.cell_of (i := 0) rfl
  have HFX : Hid (Calls Try.prog 16 #[diaV ⟨x, y, z⟩, limV na nb nc u, sv s, .slice Z za.length cz] w1 (fun e w' => ∃ v, e = .returned (.tuple #[v, .agg #[.int .i64 K, .int .i64 P], .bool true]) ∧ Tbl w' w'.heap.size v t ∧ Keeps [] w1 w')) := Lib.hid (HFE.out w1 _ za (HZ.out.keepB k01 (by simp) |>.more k01.size) HL.out.2.1)
  go_wp2_with (fail)
  refine HFX.out.mono ?_
  rintro e w2 ⟨v, rfl, hT, k2⟩
  obtain ⟨At, ct, rfl, _, _⟩ := hT.form
  have k02 := k01.trans k2 (by simp)
  have ka := Keeps.alloc [] w2 (.cells #[.int .i64 K, .int .i64 P] 35)
  have hb3 := (hb1.keep k2 (by simp)).keep ka (by simp)
  have hbd3 := (hbd1.keep k2 (by simp)).keep ka (by simp)
  have hT3 := hT.keepB ka (by simp)
  have hr3 := Blk.new w2 35 [.int .i64 K, .int .i64 P]
  have k03 := k02.trans ka (by simp)
  clear c0 c1 c2 c3 c4 c5 c6 d0 hb1 hbd1 hT k01 k02 ka k2 HFX
  go_upto_region 4 with (fail)
  generalize w2.alloc (.cells #[.int .i64 K, .int .i64 P] 35) = w3 at *
  generalize w2.heap.size = r8 at *
  have c0 := hb3.cell_of (i := 0) rfl
  have c1 := hb3.cell_of (i := 1) rfl
  have c2 := hb3.cell_of (i := 2) rfl
  have c3 := hb3.cell_of (i := 3) rfl
  have c4 := hb3.cell_of (i := 4) rfl
  have c5 := hb3.cell_of (i := 5) rfl
  have c6 := hb3.cell_of (i := 6) rfl
  have d1 := hbd3.cell_of (i := 1) rfl
  have HFX : Hid (Calls Try.prog 16 #[diaV ⟨x, y, z⟩, limV na nb nc u, sv s, .slice Y zb.length cy] w3 (fun e w' => ∃ v, e = .returned (.tuple #[v, .agg #[.int .i64 K, .int .i64 P], .bool true]) ∧ Tbl w' w'.heap.size v t ∧ Keeps [] w3 w')) := Lib.hid (HFE.out w3 _ zb (HY.out.keepB k03 (by simp) |>.more k03.size) HL.out.2.2)
  have HT3 := Lib.hid hT3
  have HR3 := Lib.hid hr3
  have K03 := Lib.hid k03
  clear hb3 hbd3 hT3 hr3 k03 HFE
  go_wp2_with (fail)
  refine HFX.out.mono ?_
  rintro e w4 ⟨v9, rfl, hT9, k4⟩
  obtain ⟨At9, ct9, rfl, _, _⟩ := hT9.form
  have ka := Keeps.alloc [] w4 (.cells #[.int .i64 K, .int .i64 P] 35)
  have hTa := (HT3.out.keepB k4 (by simp)).keepB ka (by simp)
  have hTb := hT9.keepB ka (by simp)
  have hra := (HR3.out.keep k4 (by simp)).keep ka (by simp)
  have hrb := Blk.new w4 35 [.int .i64 K, .int .i64 P]
  have HB5 := Lib.hid (((K03.out.trans k4 (by simp)).trans ka (by simp)).below (Nat.le_refl _) (by simp))
  clear c0 c1 c2 c3 c4 c5 c6 d1 hT9 k4 ka HT3 HR3 K03 HFX
  go_upto_region 5 with (fail)
  generalize w4.alloc (.cells #[.int .i64 K, .int .i64 P] 35) = w5 at *
  generalize w4.heap.size = r11 at *
  have HS : Hid (Calls Try.prog 20 #[.slice At t.length ct, .slice At9 t.length ct9] w5 fun e w' => e = .returned (.bool true) ∧ ∃ m, w' = w5.drewN m) := Lib.hid (by
    have := Same.sameTable_c (.slice At t.length ct) (.slice At9 t.length ct9) t t _ _ w5 hTa hTb
    simpa using this)
  clear hTa hTb
  go_wp2_with (fail)
  refine HS.out.mono ?_
  rintro e w8 ⟨rfl, m, rfl⟩
  have hr7 := hra.drewN m
  have hr8 := hrb.drewN m
  have r0 := hr7.cell_of (i := 0) rfl
  have r1 := hr7.cell_of (i := 1) rfl
  have q0 := hr8.cell_of (i := 0) rfl
  have q1 := hr8.cell_of (i := 1) rfl
  have HB7 := Lib.hid (HB5.out.trans (below_of_drewN w.heap.size w5 m))
  clear hra hrb hr7 hr8 HS HB5
  generalize w5.drewN m = w9 at *
  go_wp2_with (fail)
  refine (HA.out _).mono ?_
  rintro e w10 ⟨rfl, k10⟩
  go_wp2_with (fail)
  go_ret
  exact ⟨rfl, HB7.out.trans (k10.below HB7.out.size (by simp))⟩
set_option maxRecDepth 100000 in
theorem lifted (os : Os) (started : os.Started) (H : Type) (enc : TypeId × Value → H) :
    ReturnsInHanded {} Try.checked os 5 .any (Rows.topChunksSpec.pre6 enc Try.prog Try.f5 Rows.topChunksRow.domain false) (Rows.topChunksSpec.post enc Try.prog Try.f5 false true false false) := by
  refine returnsInHanded_of_change_sized (C := Try.checked) own started (by kernel_rfl) Try.func5
    (ChangeSpec.witness6 (enc := enc) (C := Try.checked) false ⟨#[], #[.agg #[.int .u8 0, .int .u8 0, .int .i64 0, .int .i64 0, .int .i64 0, .int .i64 0, .bool false], .string .empty, .agg #[.slice none 0 0, .slice none 0 0]], []⟩ 8 (by kernel_rfl) (by kernel_rfl) (by kernel_rfl) (by kernel_rfl)) ?_
  intro W base args ds gs before hval0 hW hcnd hsz0 _
  have hval : ∀ (j : Nat) t v, Try.f5.params[j]? = some t → args[j]? = some v → Value.okWide Try.prog W .any base t v := hval0
  have hW' := hW
  obtain ⟨p, q, hA0, hV, rfl, hfz, hnd⟩ := hW
  have hA : DataW.TrodAll enc Try.prog W 0 (fun _ => true) true Try.f5.params.toList args.toList ds p := hA0
  have hsz : (DataW.weightsEach Try.prog (Try.f5.params.toList ++ Rows.topChunksSpec.plain.varTypes Try.prog) (ds ++ gs)).all (· ≤ reachBytes) = true := hsz0
  rw [Try.params5] at hA hval hsz
  obtain ⟨v0, vs0, d0, ds0, p0, q0, hargs, rfl, rfl, k0, r0⟩ := trodAll_cons hA
  obtain ⟨v1, vs1, d1, ds1, p1, q1, rfl, rfl, rfl, k1, r1⟩ := trodAll_cons r0
  obtain ⟨v2, vs2, d2, ds2, p2, q2, rfl, rfl, rfl, k2, r2⟩ := trodAll_cons r1
  obtain ⟨rfl, rfl, rfl⟩ := trodAll_nil r2
  obtain rfl : args = #[v0, v1, v2] := by cases args; simp_all
  obtain ⟨rfl, rfl⟩ := trodVars_none hV
  have lt0 := Trod_lt k0
  have lt1 := Trod_lt k1
  have lt2 := Trod_lt k2
  obtain ⟨x0, y0, z0, la0, lb0, lc0, lu0, rfl⟩ := Trod_way (hval 0 27 v0 rfl rfl) k0
  obtain ⟨l1, rfl, hl1⟩ := Trod_str Try.underlying9 (hval 1 9 v1 rfl rfl) k1 (wt_of hsz (j := 1) rfl rfl)
  obtain ⟨va2, vb2, za2, zb2, rfl, ra2, rb2⟩ := Trod_deal (hval 2 56 v2 rfl rfl) k2
  clear hA0 hval0 hsz0
  refine (walk ⟨x0, y0, z0⟩ la0 lb0 lc0 lu0 l1 va2 vb2 za2 zb2 W ra2 rb2).mono fun e W' ⟨he, bel⟩ => ?_
  subst he
  exact ⟨_, rfl, _, _, _, [], _, [], hW', trodAll_mk1 (shut_bool Try.underlying4 _), (trodAll_cons_mk (Below.trod laidOut (by kernel_rfl) (of_decide_eq_true (by kernel_rfl)) k0 bel lt0) (trodAll_cons_mk (Below.trod laidOut (by kernel_rfl) (of_decide_eq_true (by kernel_rfl)) k1 bel lt1) (trodAll_cons_mk (Below.trod laidOut (by kernel_rfl) (of_decide_eq_true (by kernel_rfl)) k2 bel lt2) trodAll_mk0))), rfl, bel.frame _, fun h => by cases h⟩

theorem proved : Rows.TopChunksSaid :=
  OpenClaim.holds_of_wide 5 Try.f5 rfl rfl rfl rfl rfl rfl rfl ⟨rfl, rfl, rfl, rfl, rfl⟩ rfl rfl rfl rfl rfl (by kernel_rfl) Try.func5 (by kernel_rfl)
    (of_decide_eq_true (by kernel_rfl)) (by unfold Func.isWrapper; first | (rw [if_pos (by decide +kernel)]; kernel_rfl) | (rw [if_neg (by decide +kernel)]; exact ⟨rfl, rfl⟩))
    (fun os started H enc _ => lifted os started H enc)
end Go.Proofs.Ytbjejmdbpikgjaa.TopChunksP
namespace Go.Proofs.Ytbjejmdbpikgjaa
theorem topChunks_holds : Rows.TopChunksSaid := TopChunksP.proved
#print axioms topChunks_holds
end Go.Proofs.Ytbjejmdbpikgjaa
