/- The statements' right; read.New. -/
import Derived.Test.YtbjejmdbpikgjaaWh4
import Derived.Test.YtbjejmdbpikgjaaRdq
namespace Go.Proofs.Ytbjejmdbpikgjaa.Rd
set_option linter.unusedVariables false
set_option linter.unusedSimpArgs false
set_option maxRecDepth 100000
open Go.RowKit Q Mach Dia Scan Ref4 Fld Limits
attribute [local go_sem ↓] Go.wp_at_zero Go.wp_at_succ
abbrev wayV (d : Dia) (a b c : Int) (u : Bool) : Value := .agg #[bv d.delim, bv d.quote, .int .i64 d.fin, .int .i64 a, .int .i64 b, .int .i64 c, .bool u]
set_option maxHeartbeats 4000000 in
theorem right2_c (d : Dia) (a b c : Int) (u : Bool) (w : World) : Calls Try.prog 8 #[wayV d a b c u] w fun e w' => e = .returned (.bool (d.right && limOk a b c)) ∧ Keeps [] w w' := by
  have HR := Lib.hid (fun w => ref_c d w)
  have HRR := Lib.hid (fun w => right_c d w)
  have HL := Lib.hid (fun w => refLimits_c a b c u w)
  have HF := Lib.hid (fun n w => rfits_c a b c n w)
  have kp := Keeps.alloc [] w (.cells #[bv d.delim, bv d.quote, .int .i64 d.fin, .int .i64 a, .int .i64 b, .int .i64 c, .bool u] 27)
  have hb := Blk.new w 27 [bv d.delim, bv d.quote, .int .i64 d.fin, .int .i64 a, .int .i64 b, .int .i64 c, .bool u]
  obtain ⟨R, hR⟩ : ∃ R, d.right = R := ⟨_, rfl⟩
  rw [hR] at HRR ⊢
  clear hR
  obtain ⟨x, y, z⟩ := d
  go_enter Try.func8, Try.ntmps8
  go_upto_region 1 with (fail)
  generalize w.alloc (.cells #[bv x, bv y, .int .i64 z, .int .i64 a, .int .i64 b, .int .i64 c, .bool u] 27) = w0 at *
  have c0 := hb.cell_of (i := 0) rfl
  have c1 := hb.cell_of (i := 1) rfl
  have c2 := hb.cell_of (i := 2) rfl
  cases R
  · go_wp2_with (fail)
    refine (HR.out _).mono ?_
    rintro e w1 ⟨rfl, k1⟩
    go_wp2_with (fail)
    refine (HRR.out _).mono ?_
    rintro e w2 ⟨rfl, k2⟩
    go_wp2_with (fail)
    go_ret
    exact ⟨rfl, (kp.trans k1 (by simp)).trans k2 (by simp)⟩
  go_wp2_with (fail)
  refine (HR.out _).mono ?_
  rintro e w1 ⟨rfl, k1⟩
  go_wp2_with (fail)
  refine (HRR.out _).mono ?_
  rintro e w2 ⟨rfl, k2⟩
  have hb2 := (hb.keep k1 (by simp)).keep k2 (by simp)
  have c3 := hb2.cell_of (i := 3) rfl
  have c4 := hb2.cell_of (i := 4) rfl
  have c5 := hb2.cell_of (i := 5) rfl
  have c6 := hb2.cell_of (i := 6) rfl
  clear c0 c1 c2
  go_wp2_with (fail)
  refine (HL.out _).mono ?_
  rintro e w3 ⟨rfl, k3⟩
  go_wp2_with (fail)
  refine (HF.out _ _).mono ?_
  rintro e w4 ⟨rfl, k4⟩
  go_wp2_with (fail)
  go_ret
  exact ⟨rfl, (((kp.trans k1 (by simp)).trans k2 (by simp)).trans k3 (by simp)).trans k4 (by simp)⟩
def RNewP (d : Dia) (l : Lim) (w : World) (e : Ending) (w' : World) : Prop :=
  ∃ g, e = .returned (.tuple #[.pointer (some ⟨g, 0, none⟩), .int .i64 0]) ∧ RA w' w.heap.size g d (rs0 l) [] ∧ Keeps [] w w'
theorem new_end (x y : UInt8) (z : Int) (la lb lc : Nat) (lu : Bool) (w wa : World) (k : Keeps [] w wa) (g : Nat) (hg : g = wa.heap.size) :
    RNewP ⟨x, y, z⟩ ⟨la, lb, lc, lu⟩ w (.returned (.tuple #[.pointer (some ⟨g, 0, none⟩), .int .i64 0])) (wa.alloc (.cells #[bv x, bv y, .int .i64 z, .int .i64 0, .bool false, .bool false, .bool false, .int .i64 la, .int .i64 lb, .int .i64 lc, .bool lu, .slice none 0 0, .slice none 0 0, .int .i64 0, .int .i64 0, .int .i64 0, .int .i64 0, .int .i64 0, .int .i64 0, .int .i64 0, .slice none 0 0, .int .i64 0, .int .i64 0, .int .i64 0, .bool false] 84)).drew := by
  subst hg
  have hb := Blk.new wa 84 (rC ⟨x, y, z⟩ (rs0 ⟨la, lb, lc, lu⟩) (.slice none 0 0) (.slice none 0 0) (.slice none 0 0))
  refine ⟨wa.heap.size, rfl, ⟨.slice none 0 0, .slice none 0 0, .slice none 0 0, [], rfl, ⟨⟨hb, k.size, Own.nil_ _ _ _ _, Own.nil_ _ _ _ _⟩, OTb.nil_ _ _ _ _, by simp⟩⟩, (k.alloc1 _).drew1⟩
set_option maxHeartbeats 4000000 in
theorem new_c (d : Dia) (hd : d.right = true) (l : Lim) (ha : 1 ≤ l.field ∧ l.field ≤ 2147483648) (hb : 1 ≤ l.fields ∧ l.fields ≤ 2147483648) (hc : 1 ≤ l.records ∧ l.records ≤ 2147483648) (w : World) :
    Calls Try.prog 10 #[diaV d, limV l.field l.fields l.records l.uniform] w (RNewP d l w) := by
  have HC := Lib.hid (fun w => check_c d w)
  rw [hd] at HC
  have HN := Lib.hid (fun w => Fld.new_c l ha hb hc w)
  have HB : Hid (∀ w : World, Calls Try.prog 34 #[] w fun e w' => e = .returned (.pointer (some ⟨w.heap.size, 0, none⟩)) ∧ w.alloc (.cells #[.int .i64 0, .bool false, .bool false, .bool false] 78) = w') := Lib.hid Bom.new_c
  have kp := (Keeps.alloc [] w (.cells #[bv d.delim, bv d.quote, .int .i64 d.fin] 23)).alloc1 (.cells #[.int .i64 l.field, .int .i64 l.fields, .int .i64 l.records, .bool l.uniform] 25)
  have hb0 := (Blk.new w 23 [bv d.delim, bv d.quote, .int .i64 d.fin]).alloc (.cells #[.int .i64 l.field, .int .i64 l.fields, .int .i64 l.records, .bool l.uniform] 25)
  have hb1 := Blk.new (w.alloc (.cells #[bv d.delim, bv d.quote, .int .i64 d.fin] 23)) 25 [.int .i64 l.field, .int .i64 l.fields, .int .i64 l.records, .bool l.uniform]
  rw [World.size_alloc] at hb1
  clear hd ha hb hc
  obtain ⟨x, y, z⟩ := d
  obtain ⟨la, lb, lc, lu⟩ := l
  go_enter Try.func10, Try.ntmps10
  go_upto_region 1 with (fail)
  generalize (w.alloc (.cells #[bv x, bv y, .int .i64 z] 23)).alloc (.cells #[.int .i64 la, .int .i64 lb, .int .i64 lc, .bool lu] 25) = w0 at *
  have c0 := hb0.cell_of (i := 0) rfl
  have c1 := hb0.cell_of (i := 1) rfl
  have c2 := hb0.cell_of (i := 2) rfl
  go_wp2_with (fail)
  refine (HC.out _).mono ?_
  rintro e w1 ⟨rfl, k1⟩
  have hb1' := hb1.keep k1 (by simp)
  have e0 := hb1'.cell_of (i := 0) rfl
  have e1 := hb1'.cell_of (i := 1) rfl
  have e2 := hb1'.cell_of (i := 2) rfl
  have e3 := hb1'.cell_of (i := 3) rfl
  clear c0 c1 c2
  go_wp2_with (fail)
  refine (HN.out _).mono ?_
  rintro e w2 ⟨gm, rfl, hM, k2⟩
  have k02 := (kp.trans k1 (by simp)).trans k2 (by simp)
  have hb02 := (hb0.keep k1 (by simp)).keep k2 (by simp)
  clear e0 e1 e2 e3 hb1' hb1 hb0 k1 k2 kp HC HN
  go_upto_region 7 with (fail)
  have c0 := hb02.cell_of (i := 0) rfl
  have c1 := hb02.cell_of (i := 1) rfl
  have c2 := hb02.cell_of (i := 2) rfl
  have m0 := hM.c (i := 0) rfl
  have m1 := hM.c (i := 1) rfl
  have m2 := hM.c (i := 2) rfl
  have m3 := hM.c (i := 3) rfl
  have m4 := hM.c (i := 4) rfl
  have m5 := hM.c (i := 5) rfl
  have m6 := hM.c (i := 6) rfl
  have m7 := hM.c (i := 7) rfl
  have m8 := hM.c (i := 8) rfl
  have m9 := hM.c (i := 9) rfl
  simp only [List.length_nil, Nat.zero_add] at m0 m1 m2 m3 m4 m5 m6 m7 m8 m9
  have hl1 := hb02.lt
  have hl2 := hM.blk.lt
  clear hM hb02
  have K02 := Lib.hid k02
  have hsz2 := k02.size
  clear k02
  dsimp only [mk0] at m0 m1 m2 m3 m6 m7 m8 m9
  go_region_law (first
    | (refine step_call (HB.out _) Try.func34 ⟨by kernel_rfl, by kernel_rfl⟩ _ _ rfl rfl rfl ?_; rintro e w3 ⟨rfl, rfl⟩; refine ⟨_, rfl, ?_⟩))
  all_goals
    go_wp2_with (fail)
    go_ret2
    go_simp
    exact new_end x y z la lb lc lu w (w2.alloc (.cells #[.int .i64 0, .bool false, .bool false, .bool false] 78)) (K02.out.alloc1 _) (w2.heap.size + 1) (by simp)
end Go.Proofs.Ytbjejmdbpikgjaa.Rd
