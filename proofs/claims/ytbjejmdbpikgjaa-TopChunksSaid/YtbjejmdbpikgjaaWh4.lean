/- whole.Parse of the example; the statements' alive. -/
import Derived.Test.YtbjejmdbpikgjaaWh3
import Derived.Deep.RegionWith
namespace Go.Proofs.Ytbjejmdbpikgjaa.Wh
set_option linter.unusedVariables false
set_option linter.unusedSimpArgs false
set_option maxRecDepth 100000
open Go.RowKit Q Mach Dia Scan Ref4 Fld Limits
attribute [local go_sem ↓] Go.wp_at_zero Go.wp_at_succ
set_option maxHeartbeats 4000000 in
theorem parse_x (d : Dia) (hd : d = exD) (w : World) :
    Calls Try.prog 31 #[diaV d, limV 9 9 9 false, sv exS] w fun e w' => ∃ vq vs, e = .returned (.tuple #[vq, .agg #[.int .i64 0, .int .i64 0]]) ∧ OTb w' w.heap.size 65 9 vq vs [[[97], [98]]] ∧ Below w.heap.size w w' := by
  have HWX := Lib.hid (fun w base gt h1 h2 h3 => walk_x d hd w base gt h1 h2 h3)
  have kp := (((Keeps.alloc [] w (.cells #[bv d.delim, bv d.quote, .int .i64 d.fin] 23)).alloc1 (.cells #[.int .i64 9, .int .i64 9, .int .i64 9, .bool false] 25)).alloc1 (.cells #[.int .i64 0, .int .i64 0] 35)).alloc1 (.cells #[.slice none 0 0] 42)
  have hb0 := (((Blk.new w 23 [bv d.delim, bv d.quote, .int .i64 d.fin]).alloc (.cells #[.int .i64 9, .int .i64 9, .int .i64 9, .bool false] 25)).alloc (.cells #[.int .i64 0, .int .i64 0] 35)).alloc (.cells #[.slice none 0 0] 42)
  have hb1 := ((Blk.new (w.alloc (.cells #[bv d.delim, bv d.quote, .int .i64 d.fin] 23)) 25 [.int .i64 9, .int .i64 9, .int .i64 9, .bool false]).alloc (.cells #[.int .i64 0, .int .i64 0] 35)).alloc (.cells #[.slice none 0 0] 42)
  have hb2 := (Blk.new ((w.alloc (.cells #[bv d.delim, bv d.quote, .int .i64 d.fin] 23)).alloc (.cells #[.int .i64 9, .int .i64 9, .int .i64 9, .bool false] 25)) 35 [.int .i64 0, .int .i64 0]).alloc (.cells #[.slice none 0 0] 42)
  have hb3 := Blk.new (((w.alloc (.cells #[bv d.delim, bv d.quote, .int .i64 d.fin] 23)).alloc (.cells #[.int .i64 9, .int .i64 9, .int .i64 9, .bool false] 25)).alloc (.cells #[.int .i64 0, .int .i64 0] 35)) 42 [.slice none 0 0]
  simp only [World.size_alloc] at hb1 hb2 hb3
  have hsz : ((((w.alloc (.cells #[bv d.delim, bv d.quote, .int .i64 d.fin] 23)).alloc (.cells #[.int .i64 9, .int .i64 9, .int .i64 9, .bool false] 25)).alloc (.cells #[.int .i64 0, .int .i64 0] 35)).alloc (.cells #[.slice none 0 0] 42)).heap.size = w.heap.size + 4 := by simp
  clear hd
  obtain ⟨x, y, z⟩ := d
  go_enter Try.func31, Try.ntmps31
  go_upto_region 2 with (fail)
  generalize (((w.alloc (.cells #[bv x, bv y, .int .i64 z] 23)).alloc (.cells #[.int .i64 9, .int .i64 9, .int .i64 9, .bool false] 25)).alloc (.cells #[.int .i64 0, .int .i64 0] 35)).alloc (.cells #[.slice none 0 0] 42) = w0 at *
  have c0 := hb0.cell_of (i := 0) rfl
  have c1 := hb0.cell_of (i := 1) rfl
  have c2 := hb0.cell_of (i := 2) rfl
  have e0 := hb1.cell_of (i := 0) rfl
  have e1 := hb1.cell_of (i := 1) rfl
  have e2 := hb1.cell_of (i := 2) rfl
  have e3 := hb1.cell_of (i := 3) rfl
  have HW := Lib.hid (HWX.out w0 (w.heap.size + 3) (w.heap.size + 1 + 1 + 1) hb3 (by omega) (by omega))
  have HB2 := Lib.hid hb2
  have KP := Lib.hid kp
  have hmf : ∀ (fn : Fn) (first cap : Array Value) (w : World), (Instr.makeFunc fn first cap).run Try.prog w = .ok (.func fn first cap) w := fun _ _ _ _ => rfl
  have HSZ := Lib.hid hsz
  clear hb0 hb1 hb2 hb3 kp HWX hsz
  go_wp2_with (fail)
  clear hmf
  refine HW.out.mono ?_
  rintro e w1 ⟨rfl, vq, vs, hT, hX, hB⟩
  clear c0 c1 c2 e0 e1 e2 e3
  have ka := Keeps.alloc [] w1 (.cells #[.int .i64 0, .int .i64 0] 35)
  have hb9 := Blk.new w1 35 [.int .i64 0, .int .i64 0]
  have hT2 := hT.keep ka (by simp)
  have hX2 := hX.keep ka (by simp)
  have hb2 := (HB2.out.below hB (by omega)).keep ka (by simp)
  have hB2 := (KP.out.below (Nat.le_refl _) (by simp)).trans ((hB.mono (by omega)).trans (ka.below (by have := hB.size; have := HSZ.out; omega) (by simp)))
  have hl1 := hX2.lt
  have hl2 := hb2.lt
  have HT2 := Lib.hid hT2
  have HB3 := Lib.hid hB2
  have HN2 := Lib.hid (fun z (hz : z ∈ tblks vq vs) => OTb.apartB hT2 hb2 (by decide) (by decide) z hz)
  clear hT hX hB HB2 KP HSZ hT2 hB2 HW
  go_upto_region 3 with (fail)
  generalize w1.alloc (.cells #[.int .i64 0, .int .i64 0] 35) = w2 at *
  generalize w1.heap.size = r9 at *
  have d0 := hX2.cell_of (i := 0) rfl
  have q0 := hb9.cell_of (i := 0) rfl
  have q1 := hb9.cell_of (i := 1) rfl
  have r0 := hb2.cell_of (i := 0) rfl
  have r1 := hb2.cell_of (i := 1) rfl
  have s0 := hb2.frozen (i := 0) (by simp)
  have s1 := hb2.frozen (i := 1) (by simp)
  clear hX2 hb9 hb2 ka
  obtain ⟨A, c, rfl, hn, hm⟩ := HT2.out.2.1.form
  go_region
  all_goals
    go_wp2_with (fail)
    refine bodyPost_ret (v := .tuple #[.slice A 1 c, .agg #[.int .i64 0, .int .i64 0]]) (by simp [results, Try.results31, go_sem, r0, r1, s0, s1]) rfl ⟨_, vs, rfl, ?_, ?_⟩
    · exact (HT2.out.keep (((Keeps.setCell w2 ⟨w.heap.size + 1 + 1, 0, none⟩ (.int .i64 0)).set1 ⟨w.heap.size + 1 + 1, 1, none⟩ (.int .i64 0) (by simp)).drew1) (fun z hz hm => by simp only [List.mem_singleton] at hm; exact HN2.out z hz hm)).less (by omega)
    · exact HB3.out.trans ((((Keeps.setCell w2 ⟨w.heap.size + 1 + 1, 0, none⟩ (.int .i64 0)).set1 ⟨w.heap.size + 1 + 1, 1, none⟩ (.int .i64 0) (by simp)).drew1).below (by omega) (by simp; omega))
set_option maxHeartbeats 4000000 in
theorem alive_c (w : World) : Calls Try.prog 9 #[] w fun e w' => e = .returned (.bool true) ∧ Keeps [] w w' := by
  have HP : Hid (∀ w, Calls Try.prog 31 #[.agg #[.int .u8 44, .int .u8 34, .int .i64 1], .agg #[.int .i64 9, .int .i64 9, .int .i64 9, .bool false], .string ⟨#[97, 44, 34, 98, 34, 10]⟩] w fun e w' => ∃ vq vs, e = .returned (.tuple #[vq, .agg #[.int .i64 0, .int .i64 0]]) ∧ OTb w' w.heap.size 65 9 vq vs [[[97], [98]]] ∧ Below w.heap.size w w') :=
    Lib.hid (fun w => parse_x exD rfl w)
  go_enter Try.func9, Try.ntmps9
  go_wp2_with (fail)
  refine (HP.out _).mono ?_
  rintro e w1 ⟨vq, vs, rfl, hT, hB⟩
  have ht := (hT.tbl (Nat.le_refl _)).keepB (Keeps.alloc [] w1 (.cells #[.int .i64 0, .int .i64 0] 35)) (by simp)
  have hb := Blk.new w1 35 [.int .i64 0, .int .i64 0]
  have r0 := hb.cell_of (i := 0) rfl
  have r1 := hb.cell_of (i := 1) rfl
  obtain ⟨A, c, rfl, _, _⟩ := hT.2.1.form
  obtain ⟨b, o, A', c', rfl, hb1, hc1, hrd⟩ := ht.at_ (k := 0) (by decide)
  obtain ⟨b2, o2, u2, rfl, hb2, hu2, hc2⟩ := hrd.at_ (k := 1) (by decide)
  obtain rfl : u2 = sv [98] := (Option.some.inj hu2).symm
  rw [Nat.add_zero] at hc1
  have k := Keeps.of_below hB []
  have HK := Lib.hid (k.alloc1 (.cells #[.int .i64 0, .int .i64 0] 35))
  simp only [List.length_cons, List.length_nil, Nat.reduceAdd, List.getElem_cons_zero] at hc1
  clear hT hB ht hb hrd hu2 k HP
  go_wp2_with (fail)
  go_ret
  exact ⟨rfl, HK.out⟩
end Go.Proofs.Ytbjejmdbpikgjaa.Wh
