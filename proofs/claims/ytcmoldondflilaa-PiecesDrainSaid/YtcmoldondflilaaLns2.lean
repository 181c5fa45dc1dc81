/- write.Size. -/
import Derived.Test.YtcmoldondflilaaLns
namespace Go.Proofs.Ytcmoldondflilaa.WLine
set_option linter.unusedVariables false
set_option linter.unusedSimpArgs false
set_option maxRecDepth 100000
open Go.RowKit Go.Shelf Q Mach Dia
open Tab (fieldsOf bytesOf bytesOfRow)
attribute [local go_sem] Oper.semAt_some
attribute [local go_sem ↓] Go.wp_at_zero Go.wp_at_succ
theorem retM0 {P : Program} {fn : Func} {R : Ending → World → Prop} {a : Act} {w : World} {v : Value} (hr : (results fn a.tmps).run P w = .ok v w) (hd : a.defers = []) (hR : R (.returned v) w) : postM P fn R .ret a w := by
  show LeavesInM Fence.wide 9 P fn a.tmps R a.defers .returning w
  rw [hd]
  exact ⟨v, hr, hR⟩
theorem retM1 {P : Program} {fn : Func} {R : Ending → World → Prop} {a : Act} {w : World} {v : Value} {D : Nat} (hd : a.defers = [{ target := .collected D, args := #[] }]) (hK : w.heap[D]? = some (.deferred (some [])))
    (hr : (results fn a.tmps).run P (w.putObj D (.deferred none)) = .ok v (w.putObj D (.deferred none))) (hR : R (.returned v) (w.putObj D (.deferred none))) : postM P fn R .ret a w := by
  show LeavesInM Fence.wide 9 P fn a.tmps R a.defers .returning w
  rw [hd]
  exact ⟨by simp, .inl ⟨D, _, rfl, run_takeDeferred hK, v, hr, hR⟩⟩
set_option maxHeartbeats 8000000 in
theorem size_c (d : Dia) (A : Value) (t : Tb) (B0 : Nat) (w : World) (ht : Tbl w B0 A t) (hB : B0 ≤ w.heap.size) (h0 : t.length ≤ 10000) (h1 : fieldsOf t ≤ 10000) (h2 : bytesOf t ≤ 10000) :
    Calls Try.prog 25 #[diaV d, A] w fun e w' => e = .returned (.int .i64 ((Wr.textB d true (t.take (nL d t))).length : Nat)) ∧ Keeps [] w w' := by
  have ht' := ht
  obtain ⟨A, ca, rfl, ha1, ha2⟩ := ht.form
  unfold maxLen at ha2
  have HLN := Lib.hid (fun d A n c w => lines_c d A n c w)
  obtain ⟨x, y, z⟩ := d
  refine calls_of_marks Try.func25 rfl ?_
  simp only [Try.ntmps25, List.size_toArray, List.length_cons, List.length_nil, Nat.reduceAdd, Nat.reduceSub, Array.replicate_succ, Array.replicate_zero, List.push_toArray, List.append_toArray, List.nil_append, List.cons_append]
  go_wp2_with (fail)
  refine (HLN.out ⟨x, y, z⟩ _ _ _ _).mono ?_
  rintro e w1 ⟨rfl, rfl⟩
  go_wp2_with (fail)
  have kws : Keeps [] w ((((w.alloc (.cells #[bv x, bv y, .int .i64 z] 23)).alloc (.cells #[.int .i64 0] 3)).alloc (.cells #[bv x, bv y, .int .i64 z] 23)).alloc (.cells #[.slice A t.length ca] 26)) := (((Keeps.alloc [] w _).alloc1 _).alloc1 _).alloc1 _
  have hbn := ((Blk.new (w.alloc (.cells #[bv x, bv y, .int .i64 z] 23)) 3 [.int .i64 0]).alloc (.cells #[bv x, bv y, .int .i64 z] 23)).alloc (.cells #[.slice A t.length ca] 26)
  have hbd := (Blk.new ((w.alloc (.cells #[bv x, bv y, .int .i64 z] 23)).alloc (.cells #[.int .i64 0] 3)) 23 [bv x, bv y, .int .i64 z]).alloc (.cells #[.slice A t.length ca] 26)
  have hbt := Blk.new (((w.alloc (.cells #[bv x, bv y, .int .i64 z] 23)).alloc (.cells #[.int .i64 0] 3)).alloc (.cells #[bv x, bv y, .int .i64 z] 23)) 26 [.slice A t.length ca]
  have hsz : (((((w.alloc (.cells #[bv x, bv y, .int .i64 z] 23)).alloc (.cells #[.int .i64 0] 3)).alloc (.cells #[bv x, bv y, .int .i64 z] 23)).alloc (.cells #[.slice A t.length ca] 26))).heap.size = w.heap.size + 4 := by simp
  simp only [World.size_alloc] at hbn hbd hbt
  generalize ((((w.alloc (.cells #[bv x, bv y, .int .i64 z] 23)).alloc (.cells #[.int .i64 0] 3)).alloc (.cells #[bv x, bv y, .int .i64 z] 23)).alloc (.cells #[.slice A t.length ca] 26)) = ws at *
  have htw := ht'.keepB kws (by simp)
  refine wp_rangeFunc (gf := 55) (lb := #[.pointer (some ⟨w.heap.size + 1 + 1 + 1, 0, none⟩), .pointer (some ⟨w.heap.size + 1 + 1, 0, none⟩)]) rfl (enters_of Try.func55 (by kernel_rfl) rfl)
    (lines_itr ⟨x, y, z⟩ _ t ws (w.heap.size + 1 + 1) (w.heap.size + 1 + 1 + 1) B0 hbd hbt htw (by omega) h0 h1 h2 [w.heap.size + 1] (by intro g hg; simp at hg; omega))
    (by simp) (by intro g hg; simp at hg; omega) (fun _ => rfl) (fun _ _ _ h _ => h) (fun _ _ _ h _ => h) (fun _ _ _ _ _ _ h _ _ => h)
    (fun pre W => Keeps [] w W ∧ Blk W (w.heap.size + 1) 3 [.int .i64 ((Wr.textB ⟨x, y, z⟩ true (t.take pre.length)).length : Nat)]) (fun _ _ _ => False)
    (fun pre A C h k => ⟨k.keeps h.1 (by omega) (by simp), k.blk h.2 (by omega) (by simp)⟩) (fun _ _ _ _ h _ => h) ⟨kws, by simpa [Wr.textB] using hbn⟩
    (fun u => { tmps := #[diaV ⟨x, y, z⟩, .slice A t.length ca, .pointer (some ⟨w.heap.size, 0, none⟩), undef, .int .i64 0, .pointer (some ⟨w.heap.size + 1, 0, none⟩), undef, sv u.2, .agg #[bv x, bv y, .int .i64 z], .slice A t.length ca,
      .func (.func 55) #[] #[.pointer (some ⟨w.heap.size + 1 + 1 + 1, 0, none⟩), .pointer (some ⟨w.heap.size + 1 + 1, 0, none⟩)], .int .i64 (u.1 : Int), sv u.2, undef, undef, undef, undef, undef], defers := [] }) ?assign ?body ?done ?stop
  case assign =>
    intro l u W K hK
    unfold encL
    gi_wp2
    exact hK
  case body =>
    rintro l pre u W hle ⟨hk, hb⟩ ⟨hpl, hn, rfl⟩
    have htk := Wr.text_take ⟨x, y, z⟩ true t pre.length hpl
    have hl1 := Wr.text_take_len ⟨x, y, z⟩ true t pre.length
    have hll := Wr.line_len ⟨x, y, z⟩ t[pre.length] (pre.length == 0)
    obtain ⟨hs1, hs2⟩ := Wr.mem_table (List.getElem_mem hpl)
    rw [Bool.true_and] at htk
    have hln : (pre ++ [(pre.length, Wr.lineB ⟨x, y, z⟩ t[pre.length] (pre.length == 0))]).length = pre.length + 1 := by simp
    generalize Wr.lineB ⟨x, y, z⟩ t[pre.length] (pre.length == 0) = LB at *
    have c0 := hb.cell_of (i := 0) rfl
    have f0 := hb.frozen (i := 0) (by simp)
    have hw1 : IntKind.i64.wrap (((Wr.textB ⟨x, y, z⟩ true (t.take pre.length)).length : Int) + (LB.length : Int)) = (((Wr.textB ⟨x, y, z⟩ true (t.take (pre.length + 1))).length : Nat) : Int) := by
      rw [htk, List.length_append, IntWalk.i64_in _ (by omega)]; omega
    have HB := Lib.hid hb
    have HLN := Lib.hid hln
    clear htk hb hln
    gi_wp2
    refine ⟨Keeps.setCell W ⟨w.heap.size + 1, 0, none⟩ _, hk.set1 ⟨w.heap.size + 1, 0, none⟩ _ (by simp), ?_⟩
    rw [HLN.out]
    exact HB.out.set_ 0 _
  case done =>
    rintro D xs W hD hs ⟨hk, hb⟩ hK
    have hs' : xs.length = nL ⟨x, y, z⟩ t := hs
    rw [hs'] at hb
    have c0 := hb.cell_of (i := 0) rfl
    have HW := Lib.hid (Wr.text_take_len ⟨x, y, z⟩ true t (nL ⟨x, y, z⟩ t))
    clear hb hs hs'
    go_wp2_with (fail)
    refine retM1 (D := D) rfl hK (results_tmp rfl _ _ _) ⟨rfl, ?_⟩
    exact (KB.put (l := D) hD [] W _).keeps hk (by omega) (by simp)
  case stop =>
    rintro D c pre W _ _ h _
    exact h.elim
end Go.Proofs.Ytcmoldondflilaa.WLine
