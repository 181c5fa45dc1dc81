/- trial -/
import Derived.Test.YtogmcfljojobfaaRef4
import Derived.StillTailTactics
namespace Go.Proofs.Ytogmcfljojobfaa.Ref4
set_option linter.unusedVariables false
set_option linter.unusedSimpArgs false
open Go.RowKit Q Mach Dia Scan
theorem tail_at {P : Program} {ops : Array Oper} {Q : Exit → Act → World → Prop} {rest : List Oper} {a : Act} {w w' : World} (h : w = w') (k : wpList P ops Q rest a w') : wpList P ops Q rest a w := h ▸ k
set_option maxHeartbeats 1000000 in
theorem lref_c (e : Ev) (w : World) : Calls Try.prog 15 #[evV e] w fun r w' => r = .returned (revV e) ∧ Keeps [] w w' := by
  obtain ⟨e1, e2, e3, e4, e5, b⟩ := e
  have hb := wrap_u8 b
  have H1 := Lib.hid (fun w => one_c e1 w)
  have H2 := Lib.hid (fun w => one_c e2 w)
  have H3 := Lib.hid (fun w => one_c e3 w)
  have H4 := Lib.hid (fun w => one_c e4 w)
  have H5 := Lib.hid (fun w => one_c e5 w)
  have hbx := (Blk.new w 38 [.bool e1, .bool e2, .bool e3, .bool e4, .bool e5, bv b]).alloc (.cells #[.int .i64 0, .int .i64 0, .int .i64 0, .int .i64 0, .int .i64 0, .int .i64 0] 44)
  have kp := (Keeps.alloc [] w (.cells #[.bool e1, .bool e2, .bool e3, .bool e4, .bool e5, bv b] 38)).alloc1 (.cells #[.int .i64 0, .int .i64 0, .int .i64 0, .int .i64 0, .int .i64 0, .int .i64 0] 44)
  have hre := Blk.new (w.alloc (.cells #[.bool e1, .bool e2, .bool e3, .bool e4, .bool e5, bv b] 38)) 44 [.int .i64 0, .int .i64 0, .int .i64 0, .int .i64 0, .int .i64 0, .int .i64 0]
  rw [show (w.alloc (.cells #[.bool e1, .bool e2, .bool e3, .bool e4, .bool e5, bv b] 38)).heap.size = w.heap.size + 1 by simp] at hre
  go_enter Try.func15, Try.ntmps15
  go_wp2_with (fail)
  generalize (w.alloc (.cells #[.bool e1, .bool e2, .bool e3, .bool e4, .bool e5, bv b] 38)).alloc (.cells #[.int .i64 0, .int .i64 0, .int .i64 0, .int .i64 0, .int .i64 0, .int .i64 0] 44) = w2 at *
  refine wp_region_still_tail 19 (by kernel_rfl) (by kernel_rfl) ?_
  simp only [List.take_succ_cons, List.take_zero, List.drop_succ_cons, List.drop_zero]
  have kp' := kp.drew1
  change wpStill _ _ w2.drew _ _ _
  have c0 := hbx.cell 0
  have c1 := hbx.cell 1
  have c2 := hbx.cell 2
  have c3 := hbx.cell 3
  have c4 := hbx.cell 4
  have c5 := hbx.cell 5
  have r0 := hre.cell 0
  have r1 := hre.cell 1
  have r2 := hre.cell 2
  have r3 := hre.cell 3
  have r4 := hre.cell 4
  have r5 := hre.cell 5
  have s0 := hre.frozen (i := 0) (by simp)
  have s1' := hre.frozen (i := 1) (by simp)
  have s2 := hre.frozen (i := 2) (by simp)
  have s3 := hre.frozen (i := 3) (by simp)
  have s4' := hre.frozen (i := 4) (by simp)
  have s5 := hre.frozen (i := 5) (by simp)
  simp only [List.getElem?_cons_zero, List.getElem?_cons_succ] at c0 c1 c2 c3 c4 c5 r0 r1 r2 r3 r4 r5
  clear hbx hre kp
  still_step
  still_step
  still_call (H1.out _)
  still_step
  still_step
  still_call (H2.out _)
  still_step
  still_step
  still_call (H3.out _)
  still_step
  still_step
  still_call (H4.out _)
  still_step
  still_step
  still_call (H5.out _)
  still_step
  still_step
  still_step
  still_step
  refine wpStill_nil ?_
  refine tail_at (w' := w2.drew) rfl ?_
  replace r0 : w2.drew.cell? _ = _ := r0
  replace r1 : w2.drew.cell? _ = _ := r1
  replace r2 : w2.drew.cell? _ = _ := r2
  replace r3 : w2.drew.cell? _ = _ := r3
  replace r4 : w2.drew.cell? _ = _ := r4
  replace r5 : w2.drew.cell? _ = _ := r5
  replace s0 : w2.drew.frozen? _ = _ := s0
  replace s1' : w2.drew.frozen? _ = _ := s1'
  replace s2 : w2.drew.frozen? _ = _ := s2
  replace s3 : w2.drew.frozen? _ = _ := s3
  replace s4' : w2.drew.frozen? _ = _ := s4'
  replace s5 : w2.drew.frozen? _ = _ := s5
  clear c0 c1 c2 c3 c4 c5
  generalize w2.drew = w3 at *
  have hw : IntKind.i64.wrap (b.toNat : Int) = (b.toNat : Int) := IntWalk.i64_in _ (by omega)
  rw [hw]
  go_wp2_with (fail)
  exact bodyPost_ret (v := revV ⟨e1, e2, e3, e4, e5, b⟩) (by simp [results, Try.results15, go_sem, r0, r1, r2, r3, r4, r5]) rfl ⟨rfl, (((((kp'.set1 _ _ (by simp)).set1 _ _ (by simp)).set1 _ _ (by simp)).set1 _ _ (by simp)).set1 _ _ (by simp)).set1 _ _ (by simp)⟩
end Go.Proofs.Ytogmcfljojobfaa.Ref4
