/- The contracts of package scan: what a byte comes to. -/
import Derived.Test.YtbjejmdbpikgjaaDia
namespace Go.Proofs.Ytbjejmdbpikgjaa.Scan
set_option linter.unusedVariables false
set_option linter.unusedSimpArgs false
set_option maxRecDepth 100000
open Go.RowKit Q Mach Dia

abbrev evV (e : Ev) : Value := .agg #[.bool e.beg, .bool e.add, .bool e.fld, .bool e.lin, .bool e.rcd, bv e.b]
def stepV (x : Ev × Nat × Nat) : Value := .tuple #[evV x.1, .int .i64 x.2.1, .int .i64 x.2.2]
def closeV (x : Ev × Nat) : Value := .tuple #[evV x.1, .int .i64 x.2]

set_option maxHeartbeats 1000000 in
theorem wrongEnd_c (d : Dia) (b : UInt8) (w : World) : Calls Try.prog 107 #[diaV d, bv b] w fun e w' => e = .returned (.bool (wrongEnd d b)) ∧ Keeps [] w w' := by
  have h1 := u8_13 b
  have h2 := u8_10 b
  unfold wrongEnd
  generalize (b == 13) = b13 at *
  generalize (b == 10) = b10 at *
  obtain ⟨x, y, z⟩ := d
  have kp : Keeps [] w (w.alloc (.cells #[bv x, bv y, .int .i64 z] 23)) := Keeps.alloc [] w _
  show Calls _ _ _ _ fun e w' => e = .returned (.bool ((b13 && z == 1) || (b10 && z == 2))) ∧ _
  obtain ⟨z1, hz1⟩ : ∃ z1, (z == 1) = z1 := ⟨_, rfl⟩
  obtain ⟨z2, hz2⟩ : ∃ z2, (z == 2) = z2 := ⟨_, rfl⟩
  rw [hz1, hz2]
  cases b13 <;> cases z1 <;> cases b10 <;> cases z2
  all_goals
    go_enter Try.func107, Try.ntmps107
    go_wp2_with (fail)
    go_ret
    exact ⟨rfl, kp⟩

set_option maxHeartbeats 2000000 in
theorem atStart_c (d : Dia) (b : UInt8) (w : World) : Calls Try.prog 99 #[diaV d, bv b] w fun e w' => e = .returned (stepV (atStart d b)) ∧ Keeps [] w w' := by
  unfold atStart
  have hq := u8_beq b d.quote
  have hd := u8_beq b d.delim
  have h13 := u8_13 b
  have h10 := u8_10 b
  have HW := Lib.hid (fun w => wrongEnd_c d b w)
  generalize wrongEnd d b = we at *
  generalize (b == d.quote) = bq at *
  generalize (b == d.delim) = bd at *
  generalize (b == 13) = b13 at *
  generalize (b == 10) = b10 at *
  obtain ⟨x, y, z⟩ := d
  have kp := (Keeps.alloc [] w (.cells #[bv x, bv y, .int .i64 z] 23)).alloc1 (.cells #[.bool false, .bool false, .bool false, .bool false, .bool false, .int .u8 0] 117)
  have hbx := (Blk.new w 23 [bv x, bv y, .int .i64 z]).alloc (.cells #[.bool false, .bool false, .bool false, .bool false, .bool false, .int .u8 0] 117)
  have hre := Blk.new (w.alloc (.cells #[bv x, bv y, .int .i64 z] 23)) 117 [.bool false, .bool false, .bool false, .bool false, .bool false, .int .u8 0]
  rw [show (w.alloc (.cells #[bv x, bv y, .int .i64 z] 23)).heap.size = w.heap.size + 1 by simp] at hre
  cases we
  rotate_left
  · go_enter Try.func99, Try.ntmps99
    go_wp2_with (fail)
    refine (HW.out _).mono ?_
    rintro e w1 ⟨rfl, k1⟩
    have hb1 := hbx.keep k1 (by simp)
    have hr1 := hre.keep k1 (by simp)
    have c0 := hb1.cell 0
    have c1 := hb1.cell 1
    have c2 := hb1.cell 2
    have r0 := hr1.cell 0
    have r1 := hr1.cell 1
    have r2 := hr1.cell 2
    have r3 := hr1.cell 3
    have r4 := hr1.cell 4
    have r5 := hr1.cell 5
    have s0 := hr1.frozen (i := 0) (by simp)
    have s1' := hr1.frozen (i := 1) (by simp)
    have s2 := hr1.frozen (i := 2) (by simp)
    have s3 := hr1.frozen (i := 3) (by simp)
    have s4' := hr1.frozen (i := 4) (by simp)
    have s5 := hr1.frozen (i := 5) (by simp)
    simp only [List.getElem?_cons_zero, List.getElem?_cons_succ] at c0 c1 c2 r0 r1 r2 r3 r4 r5
    have kk := kp.trans k1 (by simp)
    clear hb1 hr1 k1
    go_wp2_with (fail)
    exact bodyPost_ret (v := stepV (ev0, 0, 6)) (by simp [results, Try.results99, go_sem, stepV, ev0, r0, r1, r2, r3, r4, r5]) rfl ⟨rfl, (((((kk.set1 _ _ (by simp)).set1 _ _ (by simp)).set1 _ _ (by simp)).set1 _ _ (by simp)).set1 _ _ (by simp)).set1 _ _ (by simp)⟩
  cases bq
  rotate_left
  · go_enter Try.func99, Try.ntmps99
    go_wp2_with (fail)
    refine (HW.out _).mono ?_
    rintro e w1 ⟨rfl, k1⟩
    have hb1 := hbx.keep k1 (by simp)
    have hr1 := hre.keep k1 (by simp)
    have c0 := hb1.cell 0
    have c1 := hb1.cell 1
    have c2 := hb1.cell 2
    have r0 := hr1.cell 0
    have r1 := hr1.cell 1
    have r2 := hr1.cell 2
    have r3 := hr1.cell 3
    have r4 := hr1.cell 4
    have r5 := hr1.cell 5
    have s0 := hr1.frozen (i := 0) (by simp)
    have s1' := hr1.frozen (i := 1) (by simp)
    have s2 := hr1.frozen (i := 2) (by simp)
    have s3 := hr1.frozen (i := 3) (by simp)
    have s4' := hr1.frozen (i := 4) (by simp)
    have s5 := hr1.frozen (i := 5) (by simp)
    simp only [List.getElem?_cons_zero, List.getElem?_cons_succ] at c0 c1 c2 r0 r1 r2 r3 r4 r5
    have kk := kp.trans k1 (by simp)
    clear hb1 hr1 k1
    go_wp2_with (fail)
    exact bodyPost_ret (v := stepV (⟨true, false, false, false, false, 0⟩, 3, 0)) (by simp [results, Try.results99, go_sem, stepV, ev0, r0, r1, r2, r3, r4, r5]) rfl ⟨rfl, (((((kk.set1 _ _ (by simp)).set1 _ _ (by simp)).set1 _ _ (by simp)).set1 _ _ (by simp)).set1 _ _ (by simp)).set1 _ _ (by simp)⟩
  cases bd
  rotate_left
  · go_enter Try.func99, Try.ntmps99
    go_wp2_with (fail)
    refine (HW.out _).mono ?_
    rintro e w1 ⟨rfl, k1⟩
    have hb1 := hbx.keep k1 (by simp)
    have hr1 := hre.keep k1 (by simp)
    have c0 := hb1.cell 0
    have c1 := hb1.cell 1
    have c2 := hb1.cell 2
    have r0 := hr1.cell 0
    have r1 := hr1.cell 1
    have r2 := hr1.cell 2
    have r3 := hr1.cell 3
    have r4 := hr1.cell 4
    have r5 := hr1.cell 5
    have s0 := hr1.frozen (i := 0) (by simp)
    have s1' := hr1.frozen (i := 1) (by simp)
    have s2 := hr1.frozen (i := 2) (by simp)
    have s3 := hr1.frozen (i := 3) (by simp)
    have s4' := hr1.frozen (i := 4) (by simp)
    have s5 := hr1.frozen (i := 5) (by simp)
    simp only [List.getElem?_cons_zero, List.getElem?_cons_succ] at c0 c1 c2 r0 r1 r2 r3 r4 r5
    have kk := kp.trans k1 (by simp)
    clear hb1 hr1 k1
    go_wp2_with (fail)
    exact bodyPost_ret (v := stepV (⟨true, false, true, false, false, 0⟩, 1, 0)) (by simp [results, Try.results99, go_sem, stepV, ev0, r0, r1, r2, r3, r4, r5]) rfl ⟨rfl, (((((kk.set1 _ _ (by simp)).set1 _ _ (by simp)).set1 _ _ (by simp)).set1 _ _ (by simp)).set1 _ _ (by simp)).set1 _ _ (by simp)⟩
  cases b13
  rotate_left
  · go_enter Try.func99, Try.ntmps99
    go_wp2_with (fail)
    refine (HW.out _).mono ?_
    rintro e w1 ⟨rfl, k1⟩
    have hb1 := hbx.keep k1 (by simp)
    have hr1 := hre.keep k1 (by simp)
    have c0 := hb1.cell 0
    have c1 := hb1.cell 1
    have c2 := hb1.cell 2
    have r0 := hr1.cell 0
    have r1 := hr1.cell 1
    have r2 := hr1.cell 2
    have r3 := hr1.cell 3
    have r4 := hr1.cell 4
    have r5 := hr1.cell 5
    have s0 := hr1.frozen (i := 0) (by simp)
    have s1' := hr1.frozen (i := 1) (by simp)
    have s2 := hr1.frozen (i := 2) (by simp)
    have s3 := hr1.frozen (i := 3) (by simp)
    have s4' := hr1.frozen (i := 4) (by simp)
    have s5 := hr1.frozen (i := 5) (by simp)
    simp only [List.getElem?_cons_zero, List.getElem?_cons_succ] at c0 c1 c2 r0 r1 r2 r3 r4 r5
    have kk := kp.trans k1 (by simp)
    clear hb1 hr1 k1
    go_wp2_with (fail)
    exact bodyPost_ret (v := stepV (ev0, 6, 0)) (by simp [results, Try.results99, go_sem, stepV, ev0, r0, r1, r2, r3, r4, r5]) rfl ⟨rfl, (((((kk.set1 _ _ (by simp)).set1 _ _ (by simp)).set1 _ _ (by simp)).set1 _ _ (by simp)).set1 _ _ (by simp)).set1 _ _ (by simp)⟩
  cases b10
  rotate_left
  · go_enter Try.func99, Try.ntmps99
    go_wp2_with (fail)
    refine (HW.out _).mono ?_
    rintro e w1 ⟨rfl, k1⟩
    have hb1 := hbx.keep k1 (by simp)
    have hr1 := hre.keep k1 (by simp)
    have c0 := hb1.cell 0
    have c1 := hb1.cell 1
    have c2 := hb1.cell 2
    have r0 := hr1.cell 0
    have r1 := hr1.cell 1
    have r2 := hr1.cell 2
    have r3 := hr1.cell 3
    have r4 := hr1.cell 4
    have r5 := hr1.cell 5
    have s0 := hr1.frozen (i := 0) (by simp)
    have s1' := hr1.frozen (i := 1) (by simp)
    have s2 := hr1.frozen (i := 2) (by simp)
    have s3 := hr1.frozen (i := 3) (by simp)
    have s4' := hr1.frozen (i := 4) (by simp)
    have s5 := hr1.frozen (i := 5) (by simp)
    simp only [List.getElem?_cons_zero, List.getElem?_cons_succ] at c0 c1 c2 r0 r1 r2 r3 r4 r5
    have kk := kp.trans k1 (by simp)
    clear hb1 hr1 k1
    go_wp2_with (fail)
    exact bodyPost_ret (v := stepV (ev0, 0, 0)) (by simp [results, Try.results99, go_sem, stepV, ev0, r0, r1, r2, r3, r4, r5]) rfl ⟨rfl, (((((kk.set1 _ _ (by simp)).set1 _ _ (by simp)).set1 _ _ (by simp)).set1 _ _ (by simp)).set1 _ _ (by simp)).set1 _ _ (by simp)⟩
  go_enter Try.func99, Try.ntmps99
  go_wp2_with (fail)
  refine (HW.out _).mono ?_
  rintro e w1 ⟨rfl, k1⟩
  have hb1 := hbx.keep k1 (by simp)
  have hr1 := hre.keep k1 (by simp)
  have c0 := hb1.cell 0
  have c1 := hb1.cell 1
  have c2 := hb1.cell 2
  have r0 := hr1.cell 0
  have r1 := hr1.cell 1
  have r2 := hr1.cell 2
  have r3 := hr1.cell 3
  have r4 := hr1.cell 4
  have r5 := hr1.cell 5
  have s0 := hr1.frozen (i := 0) (by simp)
  have s1' := hr1.frozen (i := 1) (by simp)
  have s2 := hr1.frozen (i := 2) (by simp)
  have s3 := hr1.frozen (i := 3) (by simp)
  have s4' := hr1.frozen (i := 4) (by simp)
  have s5 := hr1.frozen (i := 5) (by simp)
  simp only [List.getElem?_cons_zero, List.getElem?_cons_succ] at c0 c1 c2 r0 r1 r2 r3 r4 r5
  have kk := kp.trans k1 (by simp)
  clear hb1 hr1 k1
  go_wp2_with (fail)
  exact bodyPost_ret (v := stepV (⟨true, true, false, false, false, b⟩, 2, 0)) (by simp [results, Try.results99, go_sem, stepV, ev0, r0, r1, r2, r3, r4, r5]) rfl ⟨rfl, (((((kk.set1 _ _ (by simp)).set1 _ _ (by simp)).set1 _ _ (by simp)).set1 _ _ (by simp)).set1 _ _ (by simp)).set1 _ _ (by simp)⟩

set_option maxHeartbeats 4000000 in
theorem inRecord_c (d : Dia) (st : Nat) (hst : st ≤ 6) (b : UInt8) (w : World) : Calls Try.prog 100 #[diaV d, .int .i64 st, bv b] w fun e w' => e = .returned (stepV (inRecord d st b)) ∧ Keeps [] w w' := by
  unfold inRecord
  have hs1 : ((st : Int) == 1) = (st == 1) := by rw [Bool.eq_iff_iff, beq_iff_eq, beq_iff_eq]; omega
  have hs4 : ((st : Int) == 4) = (st == 4) := by rw [Bool.eq_iff_iff, beq_iff_eq, beq_iff_eq]; omega
  have hx : (st == 1) = true → (st == 4) = false := by intro h; rw [beq_iff_eq] at h; subst h; rfl
  generalize (st == 1) = s1 at *
  generalize (st == 4) = s4 at *
  have hq := u8_beq b d.quote
  have hd := u8_beq b d.delim
  have h13 := u8_13 b
  have h10 := u8_10 b
  have HW := Lib.hid (fun w => wrongEnd_c d b w)
  generalize wrongEnd d b = we at *
  generalize (b == d.quote) = bq at *
  generalize (b == d.delim) = bd at *
  generalize (b == 13) = b13 at *
  generalize (b == 10) = b10 at *
  obtain ⟨x, y, z⟩ := d
  have kp := (Keeps.alloc [] w (.cells #[bv x, bv y, .int .i64 z] 23)).alloc1 (.cells #[.bool false, .bool false, .bool false, .bool false, .bool false, .int .u8 0] 117)
  have hbx := (Blk.new w 23 [bv x, bv y, .int .i64 z]).alloc (.cells #[.bool false, .bool false, .bool false, .bool false, .bool false, .int .u8 0] 117)
  have hre := Blk.new (w.alloc (.cells #[bv x, bv y, .int .i64 z] 23)) 117 [.bool false, .bool false, .bool false, .bool false, .bool false, .int .u8 0]
  rw [show (w.alloc (.cells #[bv x, bv y, .int .i64 z] 23)).heap.size = w.heap.size + 1 by simp] at hre
  cases we
  rotate_left
  · go_enter Try.func100, Try.ntmps100
    go_wp2_with (fail)
    refine (HW.out _).mono ?_
    rintro e w1 ⟨rfl, k1⟩
    have hb1 := hbx.keep k1 (by simp)
    have hr1 := hre.keep k1 (by simp)
    have c0 := hb1.cell 0
    have c1 := hb1.cell 1
    have c2 := hb1.cell 2
    have r0 := hr1.cell 0
    have r1 := hr1.cell 1
    have r2 := hr1.cell 2
    have r3 := hr1.cell 3
    have r4 := hr1.cell 4
    have r5 := hr1.cell 5
    have s0 := hr1.frozen (i := 0) (by simp)
    have s1' := hr1.frozen (i := 1) (by simp)
    have s2 := hr1.frozen (i := 2) (by simp)
    have s3 := hr1.frozen (i := 3) (by simp)
    have s4' := hr1.frozen (i := 4) (by simp)
    have s5 := hr1.frozen (i := 5) (by simp)
    simp only [List.getElem?_cons_zero, List.getElem?_cons_succ] at c0 c1 c2 r0 r1 r2 r3 r4 r5
    have kk := kp.trans k1 (by simp)
    clear hb1 hr1 k1
    go_wp2_with (fail)
    exact bodyPost_ret (v := stepV (ev0, 0, 6)) (by simp [results, Try.results100, go_sem, stepV, ev0, r0, r1, r2, r3, r4, r5]) rfl ⟨rfl, (((((kk.set1 _ _ (by simp)).set1 _ _ (by simp)).set1 _ _ (by simp)).set1 _ _ (by simp)).set1 _ _ (by simp)).set1 _ _ (by simp)⟩
  cases bq
  · cases bd
    rotate_left
    · go_enter Try.func100, Try.ntmps100
      go_wp2_with (fail)
      refine (HW.out _).mono ?_
      rintro e w1 ⟨rfl, k1⟩
      have hb1 := hbx.keep k1 (by simp)
      have hr1 := hre.keep k1 (by simp)
      have c0 := hb1.cell 0
      have c1 := hb1.cell 1
      have c2 := hb1.cell 2
      have r0 := hr1.cell 0
      have r1 := hr1.cell 1
      have r2 := hr1.cell 2
      have r3 := hr1.cell 3
      have r4 := hr1.cell 4
      have r5 := hr1.cell 5
      have s0 := hr1.frozen (i := 0) (by simp)
      have s1' := hr1.frozen (i := 1) (by simp)
      have s2 := hr1.frozen (i := 2) (by simp)
      have s3 := hr1.frozen (i := 3) (by simp)
      have s4' := hr1.frozen (i := 4) (by simp)
      have s5 := hr1.frozen (i := 5) (by simp)
      simp only [List.getElem?_cons_zero, List.getElem?_cons_succ] at c0 c1 c2 r0 r1 r2 r3 r4 r5
      have kk := kp.trans k1 (by simp)
      clear hb1 hr1 k1
      go_wp2_with (fail)
      exact bodyPost_ret (v := stepV (⟨false, false, true, false, false, 0⟩, 1, 0)) (by simp [results, Try.results100, go_sem, stepV, ev0, r0, r1, r2, r3, r4, r5]) rfl ⟨rfl, (((((kk.set1 _ _ (by simp)).set1 _ _ (by simp)).set1 _ _ (by simp)).set1 _ _ (by simp)).set1 _ _ (by simp)).set1 _ _ (by simp)⟩
    cases b13
    rotate_left
    · go_enter Try.func100, Try.ntmps100
      go_wp2_with (fail)
      refine (HW.out _).mono ?_
      rintro e w1 ⟨rfl, k1⟩
      have hb1 := hbx.keep k1 (by simp)
      have hr1 := hre.keep k1 (by simp)
      have c0 := hb1.cell 0
      have c1 := hb1.cell 1
      have c2 := hb1.cell 2
      have r0 := hr1.cell 0
      have r1 := hr1.cell 1
      have r2 := hr1.cell 2
      have r3 := hr1.cell 3
      have r4 := hr1.cell 4
      have r5 := hr1.cell 5
      have s0 := hr1.frozen (i := 0) (by simp)
      have s1' := hr1.frozen (i := 1) (by simp)
      have s2 := hr1.frozen (i := 2) (by simp)
      have s3 := hr1.frozen (i := 3) (by simp)
      have s4' := hr1.frozen (i := 4) (by simp)
      have s5 := hr1.frozen (i := 5) (by simp)
      simp only [List.getElem?_cons_zero, List.getElem?_cons_succ] at c0 c1 c2 r0 r1 r2 r3 r4 r5
      have kk := kp.trans k1 (by simp)
      clear hb1 hr1 k1
      go_wp2_with (fail)
      exact bodyPost_ret (v := stepV (⟨false, false, false, true, false, 0⟩, 5, 0)) (by simp [results, Try.results100, go_sem, stepV, ev0, r0, r1, r2, r3, r4, r5]) rfl ⟨rfl, (((((kk.set1 _ _ (by simp)).set1 _ _ (by simp)).set1 _ _ (by simp)).set1 _ _ (by simp)).set1 _ _ (by simp)).set1 _ _ (by simp)⟩
    cases b10
    rotate_left
    · go_enter Try.func100, Try.ntmps100
      go_wp2_with (fail)
      refine (HW.out _).mono ?_
      rintro e w1 ⟨rfl, k1⟩
      have hb1 := hbx.keep k1 (by simp)
      have hr1 := hre.keep k1 (by simp)
      have c0 := hb1.cell 0
      have c1 := hb1.cell 1
      have c2 := hb1.cell 2
      have r0 := hr1.cell 0
      have r1 := hr1.cell 1
      have r2 := hr1.cell 2
      have r3 := hr1.cell 3
      have r4 := hr1.cell 4
      have r5 := hr1.cell 5
      have s0 := hr1.frozen (i := 0) (by simp)
      have s1' := hr1.frozen (i := 1) (by simp)
      have s2 := hr1.frozen (i := 2) (by simp)
      have s3 := hr1.frozen (i := 3) (by simp)
      have s4' := hr1.frozen (i := 4) (by simp)
      have s5 := hr1.frozen (i := 5) (by simp)
      simp only [List.getElem?_cons_zero, List.getElem?_cons_succ] at c0 c1 c2 r0 r1 r2 r3 r4 r5
      have kk := kp.trans k1 (by simp)
      clear hb1 hr1 k1
      go_wp2_with (fail)
      exact bodyPost_ret (v := stepV (⟨false, false, false, true, true, 0⟩, 0, 0)) (by simp [results, Try.results100, go_sem, stepV, ev0, r0, r1, r2, r3, r4, r5]) rfl ⟨rfl, (((((kk.set1 _ _ (by simp)).set1 _ _ (by simp)).set1 _ _ (by simp)).set1 _ _ (by simp)).set1 _ _ (by simp)).set1 _ _ (by simp)⟩
    cases s4
    rotate_left
    · go_enter Try.func100, Try.ntmps100
      go_wp2_with (fail)
      refine (HW.out _).mono ?_
      rintro e w1 ⟨rfl, k1⟩
      have hb1 := hbx.keep k1 (by simp)
      have hr1 := hre.keep k1 (by simp)
      have c0 := hb1.cell 0
      have c1 := hb1.cell 1
      have c2 := hb1.cell 2
      have r0 := hr1.cell 0
      have r1 := hr1.cell 1
      have r2 := hr1.cell 2
      have r3 := hr1.cell 3
      have r4 := hr1.cell 4
      have r5 := hr1.cell 5
      have s0 := hr1.frozen (i := 0) (by simp)
      have s1' := hr1.frozen (i := 1) (by simp)
      have s2 := hr1.frozen (i := 2) (by simp)
      have s3 := hr1.frozen (i := 3) (by simp)
      have s4' := hr1.frozen (i := 4) (by simp)
      have s5 := hr1.frozen (i := 5) (by simp)
      simp only [List.getElem?_cons_zero, List.getElem?_cons_succ] at c0 c1 c2 r0 r1 r2 r3 r4 r5
      have kk := kp.trans k1 (by simp)
      clear hb1 hr1 k1
      go_wp2_with (fail)
      exact bodyPost_ret (v := stepV (ev0, 0, 5)) (by simp [results, Try.results100, go_sem, stepV, ev0, r0, r1, r2, r3, r4, r5]) rfl ⟨rfl, (((((kk.set1 _ _ (by simp)).set1 _ _ (by simp)).set1 _ _ (by simp)).set1 _ _ (by simp)).set1 _ _ (by simp)).set1 _ _ (by simp)⟩
    go_enter Try.func100, Try.ntmps100
    go_wp2_with (fail)
    refine (HW.out _).mono ?_
    rintro e w1 ⟨rfl, k1⟩
    have hb1 := hbx.keep k1 (by simp)
    have hr1 := hre.keep k1 (by simp)
    have c0 := hb1.cell 0
    have c1 := hb1.cell 1
    have c2 := hb1.cell 2
    have r0 := hr1.cell 0
    have r1 := hr1.cell 1
    have r2 := hr1.cell 2
    have r3 := hr1.cell 3
    have r4 := hr1.cell 4
    have r5 := hr1.cell 5
    have s0 := hr1.frozen (i := 0) (by simp)
    have s1' := hr1.frozen (i := 1) (by simp)
    have s2 := hr1.frozen (i := 2) (by simp)
    have s3 := hr1.frozen (i := 3) (by simp)
    have s4' := hr1.frozen (i := 4) (by simp)
    have s5 := hr1.frozen (i := 5) (by simp)
    simp only [List.getElem?_cons_zero, List.getElem?_cons_succ] at c0 c1 c2 r0 r1 r2 r3 r4 r5
    have kk := kp.trans k1 (by simp)
    clear hb1 hr1 k1
    go_wp2_with (fail)
    exact bodyPost_ret (v := stepV (⟨false, true, false, false, false, b⟩, 2, 0)) (by simp [results, Try.results100, go_sem, stepV, ev0, r0, r1, r2, r3, r4, r5]) rfl ⟨rfl, (((((kk.set1 _ _ (by simp)).set1 _ _ (by simp)).set1 _ _ (by simp)).set1 _ _ (by simp)).set1 _ _ (by simp)).set1 _ _ (by simp)⟩
  · cases s1
    · cases s4
      · go_enter Try.func100, Try.ntmps100
        go_wp2_with (fail)
        refine (HW.out _).mono ?_
        rintro e w1 ⟨rfl, k1⟩
        have hb1 := hbx.keep k1 (by simp)
        have hr1 := hre.keep k1 (by simp)
        have c0 := hb1.cell 0
        have c1 := hb1.cell 1
        have c2 := hb1.cell 2
        have r0 := hr1.cell 0
        have r1 := hr1.cell 1
        have r2 := hr1.cell 2
        have r3 := hr1.cell 3
        have r4 := hr1.cell 4
        have r5 := hr1.cell 5
        have s0 := hr1.frozen (i := 0) (by simp)
        have s1' := hr1.frozen (i := 1) (by simp)
        have s2 := hr1.frozen (i := 2) (by simp)
        have s3 := hr1.frozen (i := 3) (by simp)
        have s4' := hr1.frozen (i := 4) (by simp)
        have s5 := hr1.frozen (i := 5) (by simp)
        simp only [List.getElem?_cons_zero, List.getElem?_cons_succ] at c0 c1 c2 r0 r1 r2 r3 r4 r5
        have kk := kp.trans k1 (by simp)
        clear hb1 hr1 k1
        go_wp2_with (fail)
        exact bodyPost_ret (v := stepV (ev0, 0, 4)) (by simp [results, Try.results100, go_sem, stepV, ev0, r0, r1, r2, r3, r4, r5]) rfl ⟨rfl, (((((kk.set1 _ _ (by simp)).set1 _ _ (by simp)).set1 _ _ (by simp)).set1 _ _ (by simp)).set1 _ _ (by simp)).set1 _ _ (by simp)⟩
      · go_enter Try.func100, Try.ntmps100
        go_wp2_with (fail)
        refine (HW.out _).mono ?_
        rintro e w1 ⟨rfl, k1⟩
        have hb1 := hbx.keep k1 (by simp)
        have hr1 := hre.keep k1 (by simp)
        have c0 := hb1.cell 0
        have c1 := hb1.cell 1
        have c2 := hb1.cell 2
        have r0 := hr1.cell 0
        have r1 := hr1.cell 1
        have r2 := hr1.cell 2
        have r3 := hr1.cell 3
        have r4 := hr1.cell 4
        have r5 := hr1.cell 5
        have s0 := hr1.frozen (i := 0) (by simp)
        have s1' := hr1.frozen (i := 1) (by simp)
        have s2 := hr1.frozen (i := 2) (by simp)
        have s3 := hr1.frozen (i := 3) (by simp)
        have s4' := hr1.frozen (i := 4) (by simp)
        have s5 := hr1.frozen (i := 5) (by simp)
        simp only [List.getElem?_cons_zero, List.getElem?_cons_succ] at c0 c1 c2 r0 r1 r2 r3 r4 r5
        have kk := kp.trans k1 (by simp)
        clear hb1 hr1 k1
        go_wp2_with (fail)
        exact bodyPost_ret (v := stepV (⟨false, true, false, false, false, b⟩, 3, 0)) (by simp [results, Try.results100, go_sem, stepV, ev0, r0, r1, r2, r3, r4, r5]) rfl ⟨rfl, (((((kk.set1 _ _ (by simp)).set1 _ _ (by simp)).set1 _ _ (by simp)).set1 _ _ (by simp)).set1 _ _ (by simp)).set1 _ _ (by simp)⟩
    · obtain rfl : s4 = false := hx rfl
      go_enter Try.func100, Try.ntmps100
      go_wp2_with (fail)
      refine (HW.out _).mono ?_
      rintro e w1 ⟨rfl, k1⟩
      have hb1 := hbx.keep k1 (by simp)
      have hr1 := hre.keep k1 (by simp)
      have c0 := hb1.cell 0
      have c1 := hb1.cell 1
      have c2 := hb1.cell 2
      have r0 := hr1.cell 0
      have r1 := hr1.cell 1
      have r2 := hr1.cell 2
      have r3 := hr1.cell 3
      have r4 := hr1.cell 4
      have r5 := hr1.cell 5
      have s0 := hr1.frozen (i := 0) (by simp)
      have s1' := hr1.frozen (i := 1) (by simp)
      have s2 := hr1.frozen (i := 2) (by simp)
      have s3 := hr1.frozen (i := 3) (by simp)
      have s4' := hr1.frozen (i := 4) (by simp)
      have s5 := hr1.frozen (i := 5) (by simp)
      simp only [List.getElem?_cons_zero, List.getElem?_cons_succ] at c0 c1 c2 r0 r1 r2 r3 r4 r5
      have kk := kp.trans k1 (by simp)
      clear hb1 hr1 k1
      go_wp2_with (fail)
      exact bodyPost_ret (v := stepV (ev0, 3, 0)) (by simp [results, Try.results100, go_sem, stepV, ev0, r0, r1, r2, r3, r4, r5]) rfl ⟨rfl, (((((kk.set1 _ _ (by simp)).set1 _ _ (by simp)).set1 _ _ (by simp)).set1 _ _ (by simp)).set1 _ _ (by simp)).set1 _ _ (by simp)⟩

theorem step0 (d : Dia) (b : UInt8) : Mach.step d 0 b = atStart d b := rfl
theorem step1 (d : Dia) (b : UInt8) : Mach.step d 1 b = inRecord d 1 b := rfl
theorem step2 (d : Dia) (b : UInt8) : Mach.step d 2 b = inRecord d 2 b := rfl
theorem step4 (d : Dia) (b : UInt8) : Mach.step d 4 b = inRecord d 4 b := rfl
theorem step3 (d : Dia) (b : UInt8) : Mach.step d 3 b = (if b == d.quote then (ev0, 4, 0) else (⟨false, true, false, false, false, b⟩, 3, 0)) := rfl
theorem step5 (d : Dia) (b : UInt8) : Mach.step d 5 b = (if b != 10 then (ev0, 0, 6) else (⟨false, false, false, false, true, 0⟩, 0, 0)) := rfl
theorem step6 (d : Dia) (b : UInt8) : Mach.step d 6 b = (if b != 10 then (ev0, 0, 6) else (⟨false, false, false, false, false, 0⟩, 0, 0)) := rfl
set_option maxHeartbeats 4000000 in
theorem step_c (d : Dia) (st : Nat) (hst : st ≤ 6) (b : UInt8) (w : World) : Calls Try.prog 81 #[diaV d, .int .i64 st, bv b] w fun e w' => e = .returned (stepV (Mach.step d st b)) ∧ Keeps [] w w' := by
  have hq := u8_beq b d.quote
  have h10 : ((b.toNat : Int) != 10) = (b != 10) := by have := u8_10 b; rw [bne, bne, this]
  have HA := Lib.hid (fun w => atStart_c d b w)
  have H1 := Lib.hid (fun w => inRecord_c d 1 (by omega) b w)
  have H2 := Lib.hid (fun w => inRecord_c d 2 (by omega) b w)
  have H4 := Lib.hid (fun w => inRecord_c d 4 (by omega) b w)
  rw [← step0] at HA
  rw [← step1] at H1
  rw [← step2] at H2
  rw [← step4] at H4
  have h3 := step3 d b
  have h5 := step5 d b
  have h6 := step6 d b
  have H3 := Lib.hid h3; have H5 := Lib.hid h5; have H6 := Lib.hid h6
  clear h3 h5 h6
  generalize (b == d.quote) = bq at *
  generalize (b != 10) = bn at *
  obtain ⟨x, y, z⟩ := d
  have kp := (Keeps.alloc [] w (.cells #[bv x, bv y, .int .i64 z] 23)).alloc1 (.cells #[.bool false, .bool false, .bool false, .bool false, .bool false, .int .u8 0] 117)
  have hre := Blk.new (w.alloc (.cells #[bv x, bv y, .int .i64 z] 23)) 117 [.bool false, .bool false, .bool false, .bool false, .bool false, .int .u8 0]
  rw [show (w.alloc (.cells #[bv x, bv y, .int .i64 z] 23)).heap.size = w.heap.size + 1 by simp] at hre
  match st, hst with
  | 0, _ =>
    generalize Mach.step ⟨x, y, z⟩ 0 b = X at *
    obtain ⟨⟨e1, e2, e3, e4, e5, e6⟩, s, r⟩ := X
    go_enter Try.func81, Try.ntmps81
    go_wp2_with (fail)
    refine (HA.out _).mono ?_
    rintro e w1 ⟨rfl, k1⟩
    have hr1 := hre.keep k1 (by simp)
    have r0 := hr1.cell 0
    have r1 := hr1.cell 1
    have r2 := hr1.cell 2
    have r3 := hr1.cell 3
    have r4 := hr1.cell 4
    have r5 := hr1.cell 5
    have s0 := hr1.frozen (i := 0) (by simp)
    have s1 := hr1.frozen (i := 1) (by simp)
    have s2 := hr1.frozen (i := 2) (by simp)
    have s3 := hr1.frozen (i := 3) (by simp)
    have s4 := hr1.frozen (i := 4) (by simp)
    have s5 := hr1.frozen (i := 5) (by simp)
    simp only [List.getElem?_cons_zero, List.getElem?_cons_succ] at r0 r1 r2 r3 r4 r5
    have kk := kp.trans k1 (by simp)
    unfold stepV
    go_wp2_with (fail)
    exact bodyPost_ret (v := .tuple #[.agg #[.bool e1, .bool e2, .bool e3, .bool e4, .bool e5, bv e6], .int .i64 s, .int .i64 r]) (by simp [results, Try.results81, go_sem, r0, r1, r2, r3, r4, r5]) rfl ⟨rfl, (((((kk.set1 _ _ (by simp)).set1 _ _ (by simp)).set1 _ _ (by simp)).set1 _ _ (by simp)).set1 _ _ (by simp)).set1 _ _ (by simp)⟩
  | 1, _ =>
    generalize Mach.step ⟨x, y, z⟩ 1 b = X at *
    obtain ⟨⟨e1, e2, e3, e4, e5, e6⟩, s, r⟩ := X
    go_enter Try.func81, Try.ntmps81
    go_wp2_with (fail)
    refine (H1.out _).mono ?_
    rintro e w1 ⟨rfl, k1⟩
    have hr1 := hre.keep k1 (by simp)
    have r0 := hr1.cell 0
    have r1 := hr1.cell 1
    have r2 := hr1.cell 2
    have r3 := hr1.cell 3
    have r4 := hr1.cell 4
    have r5 := hr1.cell 5
    have s0 := hr1.frozen (i := 0) (by simp)
    have s1 := hr1.frozen (i := 1) (by simp)
    have s2 := hr1.frozen (i := 2) (by simp)
    have s3 := hr1.frozen (i := 3) (by simp)
    have s4 := hr1.frozen (i := 4) (by simp)
    have s5 := hr1.frozen (i := 5) (by simp)
    simp only [List.getElem?_cons_zero, List.getElem?_cons_succ] at r0 r1 r2 r3 r4 r5
    have kk := kp.trans k1 (by simp)
    unfold stepV
    go_wp2_with (fail)
    exact bodyPost_ret (v := .tuple #[.agg #[.bool e1, .bool e2, .bool e3, .bool e4, .bool e5, bv e6], .int .i64 s, .int .i64 r]) (by simp [results, Try.results81, go_sem, r0, r1, r2, r3, r4, r5]) rfl ⟨rfl, (((((kk.set1 _ _ (by simp)).set1 _ _ (by simp)).set1 _ _ (by simp)).set1 _ _ (by simp)).set1 _ _ (by simp)).set1 _ _ (by simp)⟩
  | 2, _ =>
    generalize Mach.step ⟨x, y, z⟩ 2 b = X at *
    obtain ⟨⟨e1, e2, e3, e4, e5, e6⟩, s, r⟩ := X
    go_enter Try.func81, Try.ntmps81
    go_wp2_with (fail)
    refine (H2.out _).mono ?_
    rintro e w1 ⟨rfl, k1⟩
    have hr1 := hre.keep k1 (by simp)
    have r0 := hr1.cell 0
    have r1 := hr1.cell 1
    have r2 := hr1.cell 2
    have r3 := hr1.cell 3
    have r4 := hr1.cell 4
    have r5 := hr1.cell 5
    have s0 := hr1.frozen (i := 0) (by simp)
    have s1 := hr1.frozen (i := 1) (by simp)
    have s2 := hr1.frozen (i := 2) (by simp)
    have s3 := hr1.frozen (i := 3) (by simp)
    have s4 := hr1.frozen (i := 4) (by simp)
    have s5 := hr1.frozen (i := 5) (by simp)
    simp only [List.getElem?_cons_zero, List.getElem?_cons_succ] at r0 r1 r2 r3 r4 r5
    have kk := kp.trans k1 (by simp)
    unfold stepV
    go_wp2_with (fail)
    exact bodyPost_ret (v := .tuple #[.agg #[.bool e1, .bool e2, .bool e3, .bool e4, .bool e5, bv e6], .int .i64 s, .int .i64 r]) (by simp [results, Try.results81, go_sem, r0, r1, r2, r3, r4, r5]) rfl ⟨rfl, (((((kk.set1 _ _ (by simp)).set1 _ _ (by simp)).set1 _ _ (by simp)).set1 _ _ (by simp)).set1 _ _ (by simp)).set1 _ _ (by simp)⟩
  | 3, _ =>
    cases bq
    · go_enter Try.func81, Try.ntmps81
      go_wp2_with (fail)
      exact bodyPost_ret (v := stepV (⟨false, true, false, false, false, b⟩, 3, 0)) (by simp [results, Try.results81, go_sem, stepV, ev0]) rfl ⟨by rw [H3.out]; rfl, (Keeps.alloc [] w _).alloc1 _⟩
    · go_enter Try.func81, Try.ntmps81
      go_wp2_with (fail)
      exact bodyPost_ret (v := stepV (ev0, 4, 0)) (by simp [results, Try.results81, go_sem, stepV, ev0]) rfl ⟨by rw [H3.out]; rfl, (Keeps.alloc [] w _).alloc1 _⟩
  | 4, _ =>
    generalize Mach.step ⟨x, y, z⟩ 4 b = X at *
    obtain ⟨⟨e1, e2, e3, e4, e5, e6⟩, s, r⟩ := X
    go_enter Try.func81, Try.ntmps81
    go_wp2_with (fail)
    refine (H4.out _).mono ?_
    rintro e w1 ⟨rfl, k1⟩
    have hr1 := hre.keep k1 (by simp)
    have r0 := hr1.cell 0
    have r1 := hr1.cell 1
    have r2 := hr1.cell 2
    have r3 := hr1.cell 3
    have r4 := hr1.cell 4
    have r5 := hr1.cell 5
    have s0 := hr1.frozen (i := 0) (by simp)
    have s1 := hr1.frozen (i := 1) (by simp)
    have s2 := hr1.frozen (i := 2) (by simp)
    have s3 := hr1.frozen (i := 3) (by simp)
    have s4 := hr1.frozen (i := 4) (by simp)
    have s5 := hr1.frozen (i := 5) (by simp)
    simp only [List.getElem?_cons_zero, List.getElem?_cons_succ] at r0 r1 r2 r3 r4 r5
    have kk := kp.trans k1 (by simp)
    unfold stepV
    go_wp2_with (fail)
    exact bodyPost_ret (v := .tuple #[.agg #[.bool e1, .bool e2, .bool e3, .bool e4, .bool e5, bv e6], .int .i64 s, .int .i64 r]) (by simp [results, Try.results81, go_sem, r0, r1, r2, r3, r4, r5]) rfl ⟨rfl, (((((kk.set1 _ _ (by simp)).set1 _ _ (by simp)).set1 _ _ (by simp)).set1 _ _ (by simp)).set1 _ _ (by simp)).set1 _ _ (by simp)⟩
  | 5, _ =>
    cases bn
    · go_enter Try.func81, Try.ntmps81
      go_wp2_with (fail)
      exact bodyPost_ret (v := stepV (⟨false, false, false, false, true, 0⟩, 0, 0)) (by simp [results, Try.results81, go_sem, stepV, ev0]) rfl ⟨by rw [H5.out]; rfl, (Keeps.alloc [] w _).alloc1 _⟩
    · go_enter Try.func81, Try.ntmps81
      go_wp2_with (fail)
      exact bodyPost_ret (v := stepV (ev0, 0, 6)) (by simp [results, Try.results81, go_sem, stepV, ev0]) rfl ⟨by rw [H5.out]; rfl, (Keeps.alloc [] w _).alloc1 _⟩
  | 6, _ =>
    cases bn
    · go_enter Try.func81, Try.ntmps81
      go_wp2_with (fail)
      exact bodyPost_ret (v := stepV (⟨false, false, false, false, false, 0⟩, 0, 0)) (by simp [results, Try.results81, go_sem, stepV, ev0]) rfl ⟨by rw [H6.out]; rfl, (Keeps.alloc [] w _).alloc1 _⟩
    · go_enter Try.func81, Try.ntmps81
      go_wp2_with (fail)
      exact bodyPost_ret (v := stepV (ev0, 0, 6)) (by simp [results, Try.results81, go_sem, stepV, ev0]) rfl ⟨by rw [H6.out]; rfl, (Keeps.alloc [] w _).alloc1 _⟩

set_option maxHeartbeats 1000000 in
theorem close_c (st : Nat) (hst : st ≤ 6) (w : World) : Calls Try.prog 58 #[.int .i64 st] w fun e w' => e = .returned (closeV (closeEv st)) ∧ Keeps [] w w' := by
  have kp := Keeps.alloc [] w (.cells #[.bool false, .bool false, .bool false, .bool false, .bool false, .int .u8 0] 117)
  match st, hst with
  | 0, _ =>
    go_enter Try.func58, Try.ntmps58
    go_wp2_with (fail)
    exact bodyPost_ret (v := closeV (closeEv 0)) (by simp [results, Try.results58, go_sem, closeV, closeEv, ev0]) rfl ⟨rfl, Keeps.alloc [] w _⟩
  | 1, _ =>
    go_enter Try.func58, Try.ntmps58
    go_wp2_with (fail)
    exact bodyPost_ret (v := closeV (closeEv 1)) (by simp [results, Try.results58, go_sem, closeV, closeEv, ev0]) rfl ⟨rfl, Keeps.alloc [] w _⟩
  | 2, _ =>
    go_enter Try.func58, Try.ntmps58
    go_wp2_with (fail)
    exact bodyPost_ret (v := closeV (closeEv 2)) (by simp [results, Try.results58, go_sem, closeV, closeEv, ev0]) rfl ⟨rfl, Keeps.alloc [] w _⟩
  | 3, _ =>
    go_enter Try.func58, Try.ntmps58
    go_wp2_with (fail)
    exact bodyPost_ret (v := closeV (closeEv 3)) (by simp [results, Try.results58, go_sem, closeV, closeEv, ev0]) rfl ⟨rfl, Keeps.alloc [] w _⟩
  | 4, _ =>
    go_enter Try.func58, Try.ntmps58
    go_wp2_with (fail)
    exact bodyPost_ret (v := closeV (closeEv 4)) (by simp [results, Try.results58, go_sem, closeV, closeEv, ev0]) rfl ⟨rfl, Keeps.alloc [] w _⟩
  | 5, _ =>
    go_enter Try.func58, Try.ntmps58
    go_wp2_with (fail)
    exact bodyPost_ret (v := closeV (closeEv 5)) (by simp [results, Try.results58, go_sem, closeV, closeEv, ev0]) rfl ⟨rfl, Keeps.alloc [] w _⟩
  | 6, _ =>
    go_enter Try.func58, Try.ntmps58
    go_wp2_with (fail)
    exact bodyPost_ret (v := closeV (closeEv 6)) (by simp [results, Try.results58, go_sem, closeV, closeEv, ev0]) rfl ⟨rfl, Keeps.alloc [] w _⟩
end Go.Proofs.Ytbjejmdbpikgjaa.Scan
