/- PROVED: for every dialect d, table t and pair of bytes z, PiecesDrain(d, t, z) returns true and leaves its arguments as they were. No condition. -/
import Derived.Test.YtcmoldondflilaaRows
import Derived.Test.YtcmoldondflilaaTxt2
import Derived.Test.YtcmoldondflilaaRef10b
import Derived.Test.YtcmoldondflilaaDrn
import Derived.Test.YtcmoldondflilaaOpenA
import Derived.Test.YtcmoldondflilaaOpenD
import Derived.Test.YtcmoldondflilaaSame
import Derived.BigCall
import Derived.BigRegion
import Derived.BigQuiet
import Derived.Deep.CutBlock
import Derived.Deep.RegionLaw
namespace Go.Proofs.Ytcmoldondflilaa.PiecesDrainP
set_option linter.unusedVariables false
set_option linter.unusedSimpArgs false
set_option maxRecDepth 100000
open Go.ChangeShapes Go.WideShapes Go.ChangeAt Go.RowKit Go.Shelf Q Mach Dia Need Bld Quo WLine Par Wide Pcs
open Tab (fieldsOf bytesOf bytesOfRow)
attribute [local go_sem] Oper.semAt_some
attribute [local go_sem ↓] Go.wp_at_zero Go.wp_at_succ

theorem own : ownKnob Try.prog.godebug = none := by kernel_rfl
theorem laidOut : laidOutB Try.prog = true := by kernel_rfl
/-- The answer lies in its cell, and nothing that lay was turned. -/
def Ans (w : World) (e : Ending) (w' : World) : Prop := e = .returned (.bool true) ∧ Below w.heap.size w w'
theorem ret0 {w W : World} {a : Act} {g : Nat} (hg : a.tmps[6]?.getD undef = .pointer (some ⟨g, 0, none⟩)) (hd : a.defers = []) (hb : Blk W g 4 [.bool true]) (hk : Below w.heap.size w W) : postM Try.prog Try.f10 (Ans w) .ret a W := by
  have hc := hb.cell_of (i := 0) rfl
  refine retM0 (v := .bool true) ?_ hd ⟨rfl, hk⟩
  simp [results, Try.f10, go_sem, hg, hc]
theorem ret1 {w W : World} {a : Act} {g D : Nat} (hg : a.tmps[6]?.getD undef = .pointer (some ⟨g, 0, none⟩)) (hd : a.defers = [{ target := .collected D, args := #[] }]) (hK : W.heap[D]? = some (.deferred (some []))) (hD : w.heap.size ≤ D) (hb : Blk W g 4 [.bool true]) (hk : Below w.heap.size w W) :
    postM Try.prog Try.f10 (Ans w) .ret a W := by
  have hc := (hb.putObj (.deferred none) hK rfl).cell_of (i := 0) rfl
  refine retM1 (v := .bool true) hd hK ?_ ⟨rfl, ?_⟩
  · simp [results, Try.f10, go_sem, hg, hc]
  · exact ((KB.put (l := D) hD [] W _).keeps (Keeps.of_below hk []) (Nat.le_refl _) (by simp)).below (Nat.le_refl _) (by simp)
theorem u8_w (b : UInt8) : wrap64 (b.toNat : Int) = b.toNat ∧ IntKind.i64.wrap (b.toNat : Int) = b.toNat := by
  have := b.toNat_lt
  exact ⟨IntWalk.wrap64_in _ (by omega), IntWalk.i64_in _ (by omega)⟩
/-- What was laid ahead of the writer. -/
structure DR (w : World) (x y : UInt8) (z : Int) (gs gt sz st : Nat) (W : World) : Prop where
  k : Keeps [] w W
  b : Blk W w.heap.size 23 [bv x, bv y, .int .i64 z]
  r : Blk W (w.heap.size + 2) 4 [.bool false]
  s : Blk W gs 3 [.int .i64 (sz : Nat)]
  t : Blk W gt 3 [.int .i64 (st : Nat)]
theorem DR.below {w W W' : World} {x y : UInt8} {z : Int} {gs gt sz st : Nat} (h : DR w x y z gs gt sz st W) (k : Below W.heap.size W W') : DR w x y z gs gt sz st W' :=
  ⟨h.k.trans (below_keeps k (Nat.le_refl _)) (by simp), h.b.below k h.b.lt, h.r.below k h.r.lt, h.s.below k h.s.lt, h.t.below k h.t.lt⟩
theorem DR.keep {w W W' : World} {x y : UInt8} {z : Int} {gs gt sz st : Nat} (h : DR w x y z gs gt sz st W) (k : Keeps [] W W') : DR w x y z gs gt sz st W' := h.below (k.below (Nat.le_refl _) (by simp))
/-- Where the writing stands: k records were put. -/
structure PAt (w0 w : World) (g : Nat) (d : Dia) (t : Tb) (k : Nat) : Prop where
  ex : ∃ v, WAt w w0.heap.size g d ⟨Wr.textB d true (t.take k), k, (Wr.textB d true (t.take k)).length, false⟩ v
  w : Below w0.heap.size w0 w
theorem PAt.put {w0 w : World} {g k : Nat} {d : Dia} {t : Tb} (h : PAt w0 w g d t k) (hd : d.right = true) (hk : k < t.length) (hm : Wr.may t[k] = 0) {A : Value} {B1 : Nat} (hr : Rd w B1 1 A t[k].length (t[k].map sv)) (hB : B1 ≤ w.heap.size) (h0 : t.length ≤ 20) (h1 : fieldsOf t ≤ 40) (h2 : bytesOf t ≤ 400) :
    Calls Try.prog 30 #[.pointer (some ⟨g, 0, none⟩), A] w fun e w' => e = .returned (.int .i64 0) ∧ PAt w0 w' g d t (k + 1) := by
  obtain ⟨⟨v, a1⟩, b3⟩ := h
  obtain ⟨hs1, hs2⟩ := Wr.mem_table (List.getElem_mem hk)
  have hl := Wr.text_take_len d true t k
  refine (put_c w w0.heap.size g d hd _ v A a1 t[k] B1 hr hB (by omega) (by omega) (by simp only; omega) (by simp only; omega) (by simp only; omega)).mono ?_
  have htt := Wr.text_take d true t k hk
  rw [Bool.true_and] at htt
  have hp : putP d ⟨Wr.textB d true (t.take k), k, (Wr.textB d true (t.take k)).length, false⟩ t[k] = (⟨Wr.textB d true (t.take (k + 1)), k + 1, (Wr.textB d true (t.take (k + 1))).length, false⟩, 0) := by
    unfold putP
    simp [hm, htt]
  rw [hp]
  rintro e w' ⟨rfl, v', c1, c2, c3⟩
  refine ⟨rfl, ⟨v', c1⟩, b3.trans (c2.below b3.size ?_)⟩
  intro x hx
  simp only [List.mem_cons] at hx
  rcases hx with rfl | hx
  · exact a1.low
  · exact (a1.own.lt x hx).1
/-- What the loop over the pieces leans on: j pieces came, O is what they make together. -/
structure Inv (w : World) (gs gt g7 sz st j : Nat) (O T : Bs) (W : World) : Prop where
  k : Keeps [] w W
  r : Blk W (w.heap.size + 2) 4 [.bool false]
  s : Blk W gs 3 [.int .i64 (sz : Nat)]
  t : Blk W gt 3 [.int .i64 (st : Nat)]
  a : Blk W g7 9 [sv T]
  n : Blk W (g7 + 1 + 1 + 1) 3 [.int .i64 (j : Nat)]
  o : Blk W (g7 + 1 + 1 + 1 + 1) 9 [sv O]
/-- Where the writer lies to the rest. -/
structure Far (w : World) (gs gt g7 g : Nat) : Prop where
  hs : gs < g7
  ht : gt < g7
  hr : w.heap.size + 2 < g7
  hg : g < g7
  low : w.heap.size ≤ g
  ngs : g ≠ gs
  ngt : g ≠ gt
  ngr : g ≠ w.heap.size + 2
  ts : w.heap.size ≤ gs ∧ w.heap.size ≤ gt
theorem Inv.kb {w A C : World} {gs gt g7 sz st j g B : Nat} {O T : Bs} (h : Inv w gs gt g7 sz st j O T A) (f : Far w gs gt g7 g) (k : KB B [g] A C) (hB : g7 + 5 ≤ B) : Inv w gs gt g7 sz st j O T C := by
  obtain ⟨f1, f2, f3, f4, f5, f6, f7, f8, _⟩ := f
  obtain ⟨h1, h2, h3, h4, h5, h6, h7⟩ := h
  exact ⟨k.keeps h1 (by omega) (by intro a ha hl; simp at ha; omega), k.blk h2 (by omega) (by simp; omega), k.blk h3 (by omega) (by simp; omega), k.blk h4 (by omega) (by simp; omega),
    k.blk h5 (by omega) (by simp; omega), k.blk h6 (by omega) (by simp; omega), k.blk h7 (by omega) (by simp; omega)⟩
theorem Inv.keep {w A C : World} {gs gt g7 sz st j g : Nat} {O T : Bs} (h : Inv w gs gt g7 sz st j O T A) (f : Far w gs gt g7 g) {F : List Nat} (k : Keeps F A C) (hF : ∀ a ∈ F, a = g) : Inv w gs gt g7 sz st j O T C :=
  h.kb f (KB.of_keeps (k.sub (F' := [g]) (fun a ha _ => by simp [hF a ha])) (Nat.le_refl _)) (by have := h.o.lt; omega)
/-- A piece comes: it is laid behind what came, and counted. -/
theorem Inv.next {w A : World} {gs gt g7 sz st j : Nat} {O T : Bs} (h : Inv w gs gt g7 sz st j O T A) {g : Nat} (f : Far w gs gt g7 g) (O2 : Bs) :
    Inv w gs gt g7 sz st (j + 1) O2 T ((A.setCell ⟨g7 + 1 + 1 + 1 + 1, 0, none⟩ (sv O2)).setCell ⟨g7 + 1 + 1 + 1, 0, none⟩ (.int .i64 ((j : Int) + 1))) ∧ Keeps [g7 + 1 + 1 + 1, g7 + 1 + 1 + 1 + 1] A ((A.setCell ⟨g7 + 1 + 1 + 1 + 1, 0, none⟩ (sv O2)).setCell ⟨g7 + 1 + 1 + 1, 0, none⟩ (.int .i64 ((j : Int) + 1))) := by
  obtain ⟨f1, f2, f3, f4, f5, f6, f7, f8, _⟩ := f
  obtain ⟨h1, h2, h3, h4, h5, h6, h7⟩ := h
  have kS : Keeps [g7 + 1 + 1 + 1, g7 + 1 + 1 + 1 + 1] A ((A.setCell ⟨g7 + 1 + 1 + 1 + 1, 0, none⟩ (sv O2)).setCell ⟨g7 + 1 + 1 + 1, 0, none⟩ (.int .i64 ((j : Int) + 1))) :=
    ((Keeps.setCell A ⟨g7 + 1 + 1 + 1 + 1, 0, none⟩ _).sub (by simp)).set1 ⟨g7 + 1 + 1 + 1, 0, none⟩ _ (by simp)
  refine ⟨⟨h1.trans kS (by intro a ha hl; simp at ha; omega), h2.keep kS (by simp; omega), h3.keep kS (by simp; omega), h4.keep kS (by simp; omega), h5.keep kS (by simp; omega), ?_, ?_⟩, kS⟩
  · exact (h6.far (p := ⟨g7 + 1 + 1 + 1 + 1, 0, none⟩) (by simp) _).set_ 0 _
  · exact (h7.set_ 0 (sv O2)).far (by simp) _
theorem Inv.done {w W : World} {gs gt g7 sz st j g D : Nat} {O T : Bs} (h : Inv w gs gt g7 sz st j O T W) (f : Far w gs gt g7 g) (hK : W.heap[D]? = some (.deferred (some []))) (hD : g7 + 5 ≤ D) {a : Act} (hg : a.tmps[6]?.getD undef = .pointer (some ⟨w.heap.size + 2, 0, none⟩)) (hd : a.defers = [{ target := .collected D, args := #[] }]) :
    postM Try.prog Try.f10 (Ans w) .ret a (W.setCell ⟨w.heap.size + 2, 0, none⟩ (.bool true)) := by
  have hr := f.hr
  have kS : Keeps [w.heap.size + 2] W (W.setCell ⟨w.heap.size + 2, 0, none⟩ (.bool true)) := Keeps.setCell W ⟨w.heap.size + 2, 0, none⟩ _
  exact ret1 hg hd (kS.other hK (by simp; omega)) (by omega) (h.r.set_ 0 _) ((h.k.set1 ⟨w.heap.size + 2, 0, none⟩ _ (by simp)).below (Nat.le_refl _) (by simp))
/-- All that is ready is taken. -/
def AllP (w0 : World) (g : Nat) (R : Bs) (e : Ending) (w' : World) : Prop := ∃ p2, e = .returned p2 ∧ Q.Own w' w0.heap.size 5 1 p2 R.length (R.map bv) ∧ Keeps [g] w0 w'
theorem all_c (w0 : World) (base g : Nat) (d : Dia) (R : Bs) (n tt : Nat) (v9 : Value) (h0 : WAt w0 base g d ⟨R, n, tt, false⟩ v9) (hl : R.length ≤ 1000) : Calls Try.prog 31 #[.pointer (some ⟨g, 0, none⟩), .int .i64 1048576] w0 (AllP w0 g R) := by
  refine (take_c w0 base g d _ v9 h0 1048576 (by decide) (by simp only; omega)).mono ?_
  rintro e w' ⟨p2, v2, rfl, h1, h2, h3, _⟩
  have ht : takeN ⟨R, n, tt, false⟩ 1048576 = R.length := by unfold takeN; simp only; omega
  rw [ht, List.take_length] at h1
  exact ⟨p2, rfl, h1, h3⟩
set_option maxHeartbeats 20000000 in
theorem walk (d : Dia) (A : Value) (t : Tb) (b1 b2 : UInt8) (w : World) (ht : Tbl w w.heap.size A t) (hsm : Small t) : Calls Try.prog 10 #[diaV d, A, .agg #[bv b1, bv b2]] w (Ans w) := by
  have HA := Lib.hid awake11_c
  have HR := Lib.hid (fun w => ref_c d w)
  have HRR := Lib.hid (fun w => right_c d w)
  have HN := Lib.hid (fun w (h : d.right = true) => new_c d h w)
  have ht' := ht
  obtain ⟨A, ca, rfl, ha1, ha2⟩ := ht.form
  unfold maxLen at ha2
  have kp : Keeps [] w (((w.alloc (.cells #[bv d.delim, bv d.quote, .int .i64 d.fin] 23)).alloc (.cells #[bv b1, bv b2] 74)).alloc (.cells #[.bool false] 4)) := ((Keeps.alloc [] w _).alloc1 _).alloc1 _
  have hbx := ((Blk.new w 23 [bv d.delim, bv d.quote, .int .i64 d.fin]).alloc (.cells #[bv b1, bv b2] 74)).alloc (.cells #[.bool false] 4)
  have hbz := (Blk.new (w.alloc (.cells #[bv d.delim, bv d.quote, .int .i64 d.fin] 23)) 74 [bv b1, bv b2]).alloc (.cells #[.bool false] 4)
  have hbr := Blk.new ((w.alloc (.cells #[bv d.delim, bv d.quote, .int .i64 d.fin] 23)).alloc (.cells #[bv b1, bv b2] 74)) 4 [.bool false]
  simp only [World.size_alloc] at hbz hbr
  have hsz : (((w.alloc (.cells #[bv d.delim, bv d.quote, .int .i64 d.fin] 23)).alloc (.cells #[bv b1, bv b2] 74)).alloc (.cells #[.bool false] 4)).heap.size = w.heap.size + 3 := by simp
  obtain ⟨R, hR⟩ : ∃ R, d.right = R := ⟨_, rfl⟩
  rw [hR] at HRR
  have HRI := Lib.hid hR
  clear hR
  have HT := Lib.hid ht'
  have HTX := Lib.hid (fun w' (h : Tbl w' w.heap.size (.slice A t.length ca) t) hB h0 h1 h2 => rtext_c d (.slice A t.length ca) t w.heap.size w' h hB h0 h1 h2)
  have HG := Lib.hid (fun w' (h : Tbl w' w.heap.size (.slice A t.length ca) t) => Same.great_c (.slice A t.length ca) t 20 40 400 (by omega) (by omega) (by omega) w.heap.size w' h hsm)
  clear ht ht'
  obtain ⟨DD, hDD⟩ : ∃ D : Dia, D = d := ⟨_, rfl⟩
  rw [← hDD] at HRI
  have HDDE := Lib.hid hDD
  clear hDD
  have hu1 := (u8_w b1).1
  have hu2 := (u8_w b1).2
  have hu3 := (u8_w b2).1
  have hu4 := (u8_w b2).2
  have hbn1 := b1.toNat_lt
  have hbn2 := b2.toNat_lt
  obtain ⟨x, y, z⟩ := d
  refine calls_of_marks Try.func10 rfl ?_
  simp only [Try.ntmps10, List.size_toArray, List.length_cons, List.length_nil, Nat.reduceAdd, Nat.reduceSub, Array.replicate_succ, Array.replicate_zero, List.push_toArray, List.append_toArray, List.nil_append, List.cons_append]
  go_upto_region 1 with (fail)
  generalize hW0 : ((w.alloc (.cells #[bv x, bv y, .int .i64 z] 23)).alloc (.cells #[bv b1, bv b2] 74)).alloc (.cells #[.bool false] 4) = W0 at *
  have z0 := hbz.cell_of (i := 0) rfl
  have z1 := hbz.cell_of (i := 1) rfl
  go_cut [7, 8] from 18 (fun va vb wx => ∃ gs gt, va = .pointer (some ⟨gs, 0, none⟩) ∧ vb = .pointer (some ⟨gt, 0, none⟩) ∧ w.heap.size + 3 ≤ gs ∧ w.heap.size + 3 ≤ gt ∧ DR w x y z gs gt b1.toNat b2.toNat wx)
  case first =>
    have hs1 := (Blk.new W0 3 [.int .i64 (b1.toNat : Int)]).alloc (.cells #[.int .i64 (b2.toNat : Int)] 3)
    have ht1 := Blk.new (W0.alloc (.cells #[.int .i64 (b1.toNat : Int)] 3)) 3 [.int .i64 (b2.toNat : Int)]
    have hs2 := Blk.new (W0.alloc (.cells #[.int .i64 (b2.toNat : Int)] 3)) 3 [.int .i64 (b1.toNat : Int)]
    have ht2 := (Blk.new W0 3 [.int .i64 (b2.toNat : Int)]).alloc (.cells #[.int .i64 (b1.toNat : Int)] 3)
    simp only [World.size_alloc, hsz] at hs1 ht1 hs2 ht2
    have D1 := Lib.hid (DR.mk (x := x) (y := y) (z := z) ((kp.alloc1 (.cells #[.int .i64 (b1.toNat : Int)] 3)).alloc1 (.cells #[.int .i64 (b2.toNat : Int)] 3)).drew1 ((hbx.alloc _).alloc _).drew ((hbr.alloc _).alloc _).drew hs1.drew ht1.drew)
    have D2 := Lib.hid (DR.mk (x := x) (y := y) (z := z) ((kp.alloc1 (.cells #[.int .i64 (b2.toNat : Int)] 3)).alloc1 (.cells #[.int .i64 (b1.toNat : Int)] 3)).drew1 ((hbx.alloc _).alloc _).drew ((hbr.alloc _).alloc _).drew hs2.drew ht2.drew)
    clear hs1 ht1 hs2 ht2
    go_region
    · go_wp2_with (fail)
      go_meet
      exact ⟨_, _, rfl, rfl, by omega, by omega, D1.out⟩
    · go_wp2_with (fail)
      go_meet
      exact ⟨_, _, rfl, rfl, by omega, by omega, D2.out⟩
  case rest =>
    obtain ⟨gs, gt, rfl, rfl, hgs, hgt, hDR⟩ := hcut
    clear z0 z1 kp hbx hbz hbr hsz hW0
    obtain ⟨sz, hsz⟩ : ∃ n, b1.toNat = n := ⟨_, rfl⟩
    obtain ⟨st, hst⟩ : ∃ n, b2.toNat = n := ⟨_, rfl⟩
    rw [hsz, hst] at hDR
    have hszl : sz ≤ 255 := by omega
    have hstl : st ≤ 255 := by omega
    clear hsz hst hu1 hu2 hu3 hu4 hbn1 hbn2
    have HGC := Lib.hid (HG.out wc (HT.out.keepB hDR.k (by simp)))
    have HDR := Lib.hid hDR
    clear hDR
    go_wp2_with (fail)
    refine HGC.out.mono ?_
    rintro e w1 ⟨b, rfl, hb, m1, rfl⟩
    have hDR1 := HDR.out.keep (Keeps.drewN [] wc m1)
    clear HGC HDR
    generalize wc.drewN m1 = w1 at *
    cases b
    rotate_left
    · have HDR1 := Lib.hid hDR1
      clear hDR1
      go_wp2_with (fail)
      refine (HA.out _).mono ?_
      rintro e w2 ⟨rfl, k2⟩
      have hDR2 := HDR1.out.keep k2
      have f6 := hDR2.r.frozen (i := 0) (by simp)
      have c6 := hDR2.r.cell_of (i := 0) rfl
      go_wp2_with (fail)
      (try simp only [Exit.inBlock, Exit.then])
      exact ret0 rfl rfl (hDR2.r.set_ 0 (.bool true)) ((hDR2.k.set1 ⟨w.heap.size + 2, 0, none⟩ _ (by simp)).below (Nat.le_refl _) (by simp))
    obtain ⟨g1, g2, g3⟩ := hb rfl
    have c0 := hDR1.b.cell_of (i := 0) rfl
    have c1 := hDR1.b.cell_of (i := 1) rfl
    have c2 := hDR1.b.cell_of (i := 2) rfl
    have HDR1 := Lib.hid hDR1
    clear hb hDR1
    go_wp2_with (fail)
    refine (HR.out _).mono ?_
    rintro e w2 ⟨rfl, k2⟩
    go_wp2_with (fail)
    refine (HRR.out _).mono ?_
    rintro e w3 ⟨rfl, k3⟩
    have HDR3 := Lib.hid ((HDR1.out.keep k2).keep k3)
    clear c0 c1 c2 k2 k3 HDR1
    cases R
    · go_wp2_with (fail)
      refine (HA.out _).mono ?_
      rintro e w4 ⟨rfl, k4⟩
      have hDR4 := HDR3.out.keep k4
      have f6 := hDR4.r.frozen (i := 0) (by simp)
      have c6 := hDR4.r.cell_of (i := 0) rfl
      go_wp2_with (fail)
      (try simp only [Exit.inBlock, Exit.then])
      exact ret0 rfl rfl (hDR4.r.set_ 0 (.bool true)) ((hDR4.k.set1 ⟨w.heap.size + 2, 0, none⟩ _ (by simp)).below (Nat.le_refl _) (by simp))
    have HFR := Lib.hid (front_c (.slice A t.length ca) t w.heap.size w3 (HT.out.keepB HDR3.out.k (by simp)) (by omega))
    obtain ⟨F, hF⟩ : ∃ F, Wr.front t = F := ⟨_, rfl⟩
    rw [hF] at HFR
    have HFE := Lib.hid hF
    have hFle : F ≤ t.length := by rw [← hF]; exact Wr.front_le t
    clear hF
    go_wp2_with (fail)
    refine HFR.out.mono ?_
    rintro e w4 ⟨rfl, k4⟩
    have HDR4 := Lib.hid (HDR3.out.keep k4)
    clear k4 HDR3 HFR
    by_cases hFl : F < t.length
    · have hFl2 : (F : Int) < (t.length : Int) := by omega
      clear hFl
      go_wp2_with (fail)
      refine (HA.out _).mono ?_
      rintro e w5 ⟨rfl, k5⟩
      have hDR5 := HDR4.out.keep k5
      have f6 := hDR5.r.frozen (i := 0) (by simp)
      have c6 := hDR5.r.cell_of (i := 0) rfl
      go_wp2_with (fail)
      (try simp only [Exit.inBlock, Exit.then])
      exact ret0 rfl rfl (hDR5.r.set_ 0 (.bool true)) ((hDR5.k.set1 ⟨w.heap.size + 2, 0, none⟩ _ (by simp)).below (Nat.le_refl _) (by simp))
    obtain rfl : F = t.length := by omega
    have hFl2 : ¬ ((t.length : Int) < (t.length : Int)) := by omega
    clear hFl hFle
    have hmay : ∀ (j : Nat) (hj : j < t.length), Wr.may t[j] = 0 := fun j hj => Wr.front_full HFE.out _ (List.getElem_mem hj)
    have HMAY := Lib.hid hmay
    have c0 := HDR4.out.b.cell_of (i := 0) rfl
    have c1 := HDR4.out.b.cell_of (i := 1) rfl
    have c2 := HDR4.out.b.cell_of (i := 2) rfl
    have HNC := Lib.hid (HN.out w4 (by rw [← HDDE.out]; exact HRI.out))
    clear hmay
    go_wp2_with (fail)
    refine HNC.out.mono ?_
    rintro e w5 ⟨g, rfl, hW5, k5⟩
    have hP0 : PAt w4 w5 g ⟨x, y, z⟩ t 0 := ⟨⟨_, by simpa [Wr.textB] using hW5⟩, k5.below (Nat.le_refl _) (by simp)⟩
    clear hW5 k5 HNC c0 c1 c2
    go_wp2_with (fail)
    go_loopw [53] (fun vi wr => ∃ k : Nat, k ≤ t.length ∧ vi = .int .i64 k ∧ PAt w4 wr g ⟨x, y, z⟩ t k) (fun vi _ => t.length - (intOf vi).toNat)
    case atStart => exact ⟨0, Nat.zero_le _, rfl, hP0⟩
    case round =>
      obtain ⟨k, hk, rfl, hP⟩ := hrel
      clear hP0
      have hDRr := HDR4.out.below hP.w
      by_cases hlt : k < t.length
      · obtain ⟨bA, oA, A1, n1, rfl, _, cf, rr⟩ := (HT.out.keepB hDRr.k (by simp)).at_ hlt
        have hk0 : (0 : Int) ≤ (k : Int) := by omega
        have hkl : (k : Int) < (t.length : Int) := by omega
        have HPT := Lib.hid (hP.put (by rw [← HDDE.out]; exact HRI.out) hlt (HMAY.out k hlt) rr hDRr.k.size g1 g2 g3)
        clear hDRr hP rr
        go_wp2_with (fail)
        with_reducible refine HPT.out.mono ?_
        rintro e w6 ⟨rfl, hP6⟩
        go_wp2_with (fail)
        exact ⟨⟨k + 1, by omega, by go_num, hP6⟩, by simp [intOf]; omega⟩
      · obtain rfl : k = t.length := by omega
        have hkl : ¬ ((t.length : Int) < (t.length : Int)) := by omega
        obtain ⟨⟨v, hW⟩, hbl⟩ := hP
        rw [List.take_length] at hW
        have hTl := Wr.text_len ⟨x, y, z⟩ t true
        have HTXC : Hid (∀ w', Keeps [] wr w' → Calls Try.prog 27 #[rdiaV ⟨x, y, z⟩, .slice A t.length ca] w' fun e w'' => e = .returned (sv (Wr.textB ⟨x, y, z⟩ true t)) ∧ Keeps [] w' w'') := Lib.hid (fun w' k => by
          have := HTX.out w' (HT.out.keepB (hDRr.k.trans k (by simp)) (by simp)) (hDRr.k.trans k (by simp)).size (by omega) (by omega) (by omega)
          rwa [HFE.out, List.take_length] at this)
        obtain ⟨T, hT⟩ : ∃ T, Wr.textB ⟨x, y, z⟩ true t = T := ⟨_, rfl⟩
        rw [hT] at hW hTl HTXC
        have c0 := hDRr.b.cell_of (i := 0) rfl
        have c1 := hDRr.b.cell_of (i := 1) rfl
        have c2 := hDRr.b.cell_of (i := 2) rfl
        have HDRr := Lib.hid hDRr
        have HW := Lib.hid hW
        have hw4 := HDR4.out.k.size
        clear hT hDRr hW HTX HFE HMAY HN hbl
        go_wp2_with (fail)
        refine (HR.out _).mono ?_
        rintro e w6 ⟨rfl, k6⟩
        have HTT := Lib.hid (HTXC.out w6 k6)
        clear HTXC
        go_wp2_with (fail)
        refine HTT.out.mono ?_
        rintro e w7 ⟨rfl, k7⟩
        have k67 := k6.trans k7 (by simp)
        have hDR7 := HDRr.out.keep k67
        have hW7 := HW.out.keep k67
        have s0 := hDR7.s.cell_of (i := 0) rfl
        have hsl := hDR7.s.lt
        have HDR7 := Lib.hid hDR7
        have HW7 := Lib.hid hW7
        clear c0 c1 c2 k6 k7 k67 hDR7 hW7 HTT HDRr HW
        go_wp2_with (fail)
        refine (drain_c _ _ _).mono ?_
        rintro e w8 ⟨rfl, rfl⟩
        have hnil := fun w f lb => run_eql_func_nil (P := Try.prog) w f lb Try.underlying76
        clear s0
        go_wp2_with (fail)
        have kws : Keeps [] w7 (((((w7.alloc (.cells #[sv T] 9)).alloc (.cells #[.pointer (some ⟨g, 0, none⟩)] 56)).alloc (.cells #[.int .i64 (sz : Nat)] 3)).alloc (.cells #[.int .i64 0] 3)).alloc (.cells #[sv []] 9)) := ((((Keeps.alloc [] w7 _).alloc1 _).alloc1 _).alloc1 _).alloc1 _
        have hba := ((((Blk.new w7 9 [sv T]).alloc (.cells #[.pointer (some ⟨g, 0, none⟩)] 56)).alloc (.cells #[.int .i64 (sz : Nat)] 3)).alloc (.cells #[.int .i64 0] 3)).alloc (.cells #[sv []] 9)
        have hbw := (((Blk.new (w7.alloc (.cells #[sv T] 9)) 56 [.pointer (some ⟨g, 0, none⟩)]).alloc (.cells #[.int .i64 (sz : Nat)] 3)).alloc (.cells #[.int .i64 0] 3)).alloc (.cells #[sv []] 9)
        have hbs := ((Blk.new ((w7.alloc (.cells #[sv T] 9)).alloc (.cells #[.pointer (some ⟨g, 0, none⟩)] 56)) 3 [.int .i64 (sz : Nat)]).alloc (.cells #[.int .i64 0] 3)).alloc (.cells #[sv []] 9)
        have hbn := (Blk.new (((w7.alloc (.cells #[sv T] 9)).alloc (.cells #[.pointer (some ⟨g, 0, none⟩)] 56)).alloc (.cells #[.int .i64 (sz : Nat)] 3)) 3 [.int .i64 0]).alloc (.cells #[sv []] 9)
        have hbo := Blk.new ((((w7.alloc (.cells #[sv T] 9)).alloc (.cells #[.pointer (some ⟨g, 0, none⟩)] 56)).alloc (.cells #[.int .i64 (sz : Nat)] 3)).alloc (.cells #[.int .i64 0] 3)) 9 [sv []]
        have hsz7 : (((((w7.alloc (.cells #[sv T] 9)).alloc (.cells #[.pointer (some ⟨g, 0, none⟩)] 56)).alloc (.cells #[.int .i64 (sz : Nat)] 3)).alloc (.cells #[.int .i64 0] 3)).alloc (.cells #[sv []] 9)).heap.size = w7.heap.size + 5 := by simp
        simp only [World.size_alloc] at hba hbw hbs hbn hbo
        have hDR7 := HDR7.out
        have hW7 := HW7.out
        have hFar : Far w gs gt w7.heap.size g := ⟨hDR7.s.lt, hDR7.t.lt, hDR7.r.lt, hW7.blk.lt, by have := hW7.low; omega, hW7.blk.ne_ hDR7.s (by decide), hW7.blk.ne_ hDR7.t (by decide), hW7.blk.ne_ hDR7.r (by decide), by omega, by omega⟩
        have hLv : ∀ a ∈ g :: blkOf v, a < w7.heap.size := by
          intro a ha
          rcases List.mem_cons.1 ha with rfl | ha
          · exact hW7.blk.lt
          · exact (hW7.own.lt a ha).2
        have hDRs := hDR7.keep kws
        have hWs := hW7.keep kws
        clear hDR7 hW7 HDR7 HW7
        generalize hws : (((((w7.alloc (.cells #[sv T] 9)).alloc (.cells #[.pointer (some ⟨g, 0, none⟩)] 56)).alloc (.cells #[.int .i64 (sz : Nat)] 3)).alloc (.cells #[.int .i64 0] 3)).alloc (.cells #[sv []] 9)) = ws at *
        clear hws kws hsl
        generalize w7.heap.size = g7 at *
        have hFb : ∀ a ∈ g :: blkOf v, a < ws.heap.size ∧ a ∉ [g7 + 1 + 1 + 1, g7 + 1 + 1 + 1 + 1] := fun a ha => by
          have := hLv a ha
          refine ⟨by omega, by simp; omega⟩
        obtain ⟨q, hq⟩ : ∃ q, q = max sz 1 := ⟨_, rfl⟩
        have HIT := Lib.hid (drain_itr ws w4.heap.size g (g7 + 1) (g7 + 1 + 1) ⟨x, y, z⟩ T q t.length T.length sz hq (by omega) (by omega) (g :: blkOf v) [g7 + 1 + 1 + 1, g7 + 1 + 1 + 1 + 1] hFb (by simp)
          ⟨v, by rw [Nat.zero_mul, List.drop_zero]; exact hWs, fun a ha => ha⟩ hbw hbs (by have := hFar.hg; simp; omega) (by have := hFar.hg; simp; omega))
        have hI0 : Inv w gs gt g7 sz st 0 (T.take (0 * q)) T ws := ⟨hDRs.k, hDRs.r, hDRs.s, hDRs.t, hba, hbn, by rw [Nat.zero_mul, List.take_zero]; exact hbo⟩
        have HFB := Lib.hid hFb
        have HQ := Lib.hid hq
        clear hba hbw hbs hbn hbo hDRs hWs hnil hFb hLv hq
        refine wp_rangeFunc2 (gf := 57) (lb := #[.pointer (some ⟨g7 + 1, 0, none⟩), .pointer (some ⟨g7 + 1 + 1, 0, none⟩)]) rfl (enters_of Try.func57 (by kernel_rfl) rfl)
          HIT.out (by have := hFar.hg; simp; omega) (by intro a ha; simp at ha; omega) (fun _ => rfl)
          (fun xs A C h k => ⟨h.1, h.2.kb k (fun a ha => ⟨(HFB.out a ha).1, by simp⟩)⟩) (fun xs A C h k => h.kb k (fun a ha => ⟨(HFB.out a ha).1, by simp⟩))
          (fun pre u A l o o' h hl ho => ⟨h.1, h.2.1, h.2.2.putObj o' hl ho⟩)
          (fun pre W => Inv w gs gt g7 sz st pre.length (T.take (pre.length * q)) T W) (fun c pre W => c = .exit 2 ∧ pre.length = st ∧ Inv w gs gt g7 sz st pre.length (T.take (pre.length * q)) T W)
          (fun pre A C h k => h.kb hFar k (by omega)) (fun c pre A C h k => ⟨h.1, h.2.1, h.2.2.kb hFar k (by omega)⟩) hI0 ?round ?done ?stop
        case round =>
          rintro l pre ⟨p, P⟩ W W2 hle hI ⟨hlt, hu, hown⟩
          dsimp only at hu hown
          obtain ⟨O, hO⟩ : ∃ O, T.take (pre.length * q) = O := ⟨_, rfl⟩
          have hOl : O.length = pre.length * q := by rw [← hO, List.length_take]; omega
          have hPl : P.length = min q (T.length - O.length) := by rw [hu, List.length_take, List.length_drop, hOl]
          have hnx : O ++ P = T.take ((pre.length + 1) * q) := by
            rw [← hO, hu, Nat.add_mul, Nat.one_mul]
            exact (List.take_add ..).symm
          have hpre : pre.length + 1 ≤ 2000 := by
            rcases Nat.eq_zero_or_pos q with h | h
            · have := HQ.out; omega
            · have := Nat.le_mul_of_pos_right pre.length h
              omega
          rw [hO] at hI
          have hPq : P.length ≤ 1000 := by have := HQ.out; omega
          have hcv := run_toString (src := 60) (dst := 9) (P := Try.prog) (hown.rd (Nat.le_refl _)) Try.underlying60 Try.underlying5 Try.underlying9
          obtain ⟨Ap, cp, rfl, _, _⟩ := hown.form
          have s0 := hI.s.cell_of (i := 0) rfl
          have t0 := hI.t.cell_of (i := 0) rfl
          have a0 := hI.a.cell_of (i := 0) rfl
          have n0 := hI.n.cell_of (i := 0) rfl
          have nf := hI.n.frozen (i := 0) (by simp)
          have o0 := hI.o.cell_of (i := 0) rfl
          have of := hI.o.frozen (i := 0) (by simp)
          have hsum : ¬ (9223372036854775807 < O.length + P.length) := by omega
          have hcat := cat_mk O P
          have hw1 : IntKind.i64.wrap ((pre.length : Int) + 1) = (pre.length : Int) + 1 := IntWalk.i64_in _ (by omega)
          have hw2 : IntKind.i64.wrap ((T.length : Int) - (O.length : Int)) = (T.length : Int) - (O.length : Int) := IntWalk.i64_in _ (by omega)
          have HI := Lib.hid (hI.next hFar (O ++ P))
          have HNX := Lib.hid hnx
          have hlt2 : O.length < T.length := by omega
          have hll : ∀ u : Value × Bs, (pre ++ [u]).length = pre.length + 1 := fun u => by simp
          have HLL := Lib.hid hll
          clear hI hown hO hu hnx hll hlt hOl
          unfold encP
          have hst0 : (((pre.length : Int) + 1) == (st : Int)) = decide (pre.length + 1 = st) := by
            rw [Bool.eq_iff_iff, beq_iff_eq, decide_eq_true_iff]; omega
          obtain ⟨E, hE⟩ : ∃ E, decide (pre.length + 1 = st) = E := ⟨_, rfl⟩
          rw [hE] at hst0
          have HE := Lib.hid hE
          have h2000 : ¬ ((2000 : Int) < (pre.length : Int) + 1) := by omega
          obtain ⟨PL, hPLe⟩ : ∃ PL, P.length = PL := ⟨_, rfl⟩
          rw [hPLe] at hcv hPl hPq
          have harm : (((sz : Int) < 1) ∧ ¬ ((T.length : Int) - (O.length : Int) < 1) ∧ PL = 1) ∨ (¬ ((sz : Int) < 1) ∧ ¬ ((T.length : Int) - (O.length : Int) < (sz : Int)) ∧ PL = sz) ∨ (¬ ((sz : Int) < 1) ∧ ((T.length : Int) - (O.length : Int) < (sz : Int)) ∧ PL + O.length = T.length) := by
            have := HQ.out
            omega
          simp only [hPLe]
          clear hPl hPLe hE
          have hq1 : ¬ (gt = g7 + 1 + 1 + 1) := by have := hFar.ht; omega
          have hq2 : ¬ (gt = g7 + 1 + 1 + 1 + 1) := by have := hFar.ht; omega
          rcases harm with ⟨a1, a2, a3⟩ | ⟨a1, a2, a3⟩ | ⟨a1, a2, a3⟩
          · have hne : ((1 : Int) != (1 : Int)) = false := rfl
            subst a3
            clear hlt2 hpre hPq
            gi_wp2
            · exact ⟨HI.out.2, rfl, by (try dsimp only); rw [HLL.out]; exact of_decide_eq_true (HE.out.trans (by assumption)), by (try dsimp only); rw [HLL.out, ← HNX.out]; exact HI.out.1⟩
            · exact ⟨HI.out.2, by (try dsimp only); rw [HLL.out, ← HNX.out]; exact HI.out.1⟩
          · have hne : ((PL : Int) != (PL : Int)) = false := by simp
            subst a3
            clear hlt2 hpre hPq
            gi_wp2
            · exact ⟨HI.out.2, rfl, by (try dsimp only); rw [HLL.out]; exact of_decide_eq_true (HE.out.trans (by assumption)), by (try dsimp only); rw [HLL.out, ← HNX.out]; exact HI.out.1⟩
            · exact ⟨HI.out.2, by (try dsimp only); rw [HLL.out, ← HNX.out]; exact HI.out.1⟩
          · have hne : ((PL : Int) != (T.length : Int) - (O.length : Int)) = false := by rw [bne_eq_false_iff_eq]; omega
            have HA3 := Lib.hid a3
            clear a3
            clear hlt2 hpre hPq
            gi_wp2
            · exact ⟨HI.out.2, rfl, by (try dsimp only); rw [HLL.out]; exact of_decide_eq_true (HE.out.trans (by assumption)), by (try dsimp only); rw [HLL.out, ← HNX.out]; exact HI.out.1⟩
            · exact ⟨HI.out.2, by (try dsimp only); rw [HLL.out, ← HNX.out]; exact HI.out.1⟩
        case done =>
          rintro D xs W hD ⟨hxs, hwd⟩ hI hK
          obtain ⟨v9, hW9, _⟩ := hwd
          have hR9 : (T.drop (xs.length * q)).length ≤ 1000 := by rw [List.length_drop]; omega
          have hcc : T.take (xs.length * q) ++ T.drop (xs.length * q) = T := List.take_append_drop _ _
          obtain ⟨O, hO⟩ : ∃ O, T.take (xs.length * q) = O := ⟨_, rfl⟩
          obtain ⟨RR, hRR⟩ : ∃ RR, T.drop (xs.length * q) = RR := ⟨_, rfl⟩
          rw [hO] at hcc hI
          rw [hRR] at hcc hR9 hW9
          have heq : (O ++ RR == T) = true := by rw [hcc]; simp
          have hOl : O.length ≤ T.length := by rw [← hcc, List.length_append]; omega
          have hsum : ¬ (9223372036854775807 < O.length + RR.length) := by omega
          have hcat := cat_mk O RR
          have HTK := Lib.hid (fun wx (h : WAt wx w4.heap.size g ⟨x, y, z⟩ ⟨RR, t.length, T.length, false⟩ v9) => all_c wx w4.heap.size g ⟨x, y, z⟩ RR t.length T.length v9 h hR9)
          have hDg : g7 + 5 ≤ D := by omega
          have hgD : D ≠ g := by have := hFar.hg; omega
          have t0 := hI.t.cell_of (i := 0) rfl
          have a0 := hI.a.cell_of (i := 0) rfl
          have n0 := hI.n.cell_of (i := 0) rfl
          have o0 := hI.o.cell_of (i := 0) rfl
          have c6 := hI.r.cell_of (i := 0) rfl
          have f6 := hI.r.frozen (i := 0) (by simp)
          have hOT : O = T := by rw [← hO]; exact List.take_of_length_le hxs
          have hol : ((O.length : Int) != (T.length : Int)) = false := by rw [hOT]; simp
          obtain ⟨E, hE⟩ : ∃ E, ((xs.length : Int) != (st : Int)) = E := ⟨_, rfl⟩
          clear hOT hO
          clear hRR hcc hI0 HIT HFB hOl
          have HI := Lib.hid hI
          have HK := Lib.hid hK
          have HW9 := Lib.hid hW9
          clear hI hK hW9
          go_upto_region 24 with (fail)
          go_cut [105] from 96 (fun vx wx => vx = .bool false ∧ wx = W)
          case first =>
            cases E
            all_goals
              go_wp2_with (fail)
              go_meet
              exact ⟨rfl, rfl⟩
          case rest =>
          obtain ⟨rfl, rfl⟩ := hcut
          go_upto_region 26 with (fail)
          have hI := HI.out.keep hFar (Keeps.drew [] _) (by simp)
          have hK := HK.out
          have hW9 := HW9.out.keep (Keeps.drew [] _)
          clear HI HK HW9 t0 n0
          clear HR HRR HT HG HDDE HRI HDR4 HQ
          go_region_law (first
            | (refine stepCall (HTK.out _ hW9) Try.func31 ⟨by kernel_rfl, by kernel_rfl⟩ _ _ rfl rfl rfl ?_; rintro e w' ⟨p2, rfl, hp2, k2⟩; refine ⟨_, rfl, ?_⟩; replace hI := hI.keep hFar k2 (by simp); replace hK := k2.other hK (by simpa using hgD); replace a0 := hI.a.cell_of (i := 0) rfl; replace o0 := hI.o.cell_of (i := 0) rfl; replace c6 := hI.r.cell_of (i := 0) rfl; replace f6 := hI.r.frozen (i := 0) (by simp); have hcv := run_toString (src := 60) (dst := 9) (P := Try.prog) (hp2.rd (Nat.le_refl _)) Try.underlying60 Try.underlying5 Try.underlying9; clear hW9)
            | (refine stepCall (HA.out _) Try.func28 ⟨by kernel_rfl, by kernel_rfl⟩ _ _ rfl rfl rfl ?_; rintro e w' ⟨rfl, k2⟩; refine ⟨_, rfl, ?_⟩; replace hI := hI.keep hFar k2 (by simp); replace hK := k2.other hK (by simp); replace c6 := hI.r.cell_of (i := 0) rfl; replace f6 := hI.r.frozen (i := 0) (by simp)))
          all_goals
            go_wp2_with (fail)
            (try simp only [Exit.inBlock, Exit.then])
            exact hI.done hFar hK hDg rfl rfl
        case stop =>
          rintro D c pre W hD hwd ⟨rfl, hj, hI⟩ hK
          obtain ⟨v9, hW9, _⟩ := hwd
          have hR9 : (T.drop (pre.length * q)).length ≤ 1000 := by rw [List.length_drop]; omega
          have hcc : T.take (pre.length * q) ++ T.drop (pre.length * q) = T := List.take_append_drop _ _
          obtain ⟨O, hO⟩ : ∃ O, T.take (pre.length * q) = O := ⟨_, rfl⟩
          obtain ⟨RR, hRR⟩ : ∃ RR, T.drop (pre.length * q) = RR := ⟨_, rfl⟩
          rw [hO] at hcc hI
          rw [hRR] at hcc hR9 hW9
          have heq : (O ++ RR == T) = true := by rw [hcc]; simp
          have hOl : O.length ≤ T.length := by rw [← hcc, List.length_append]; omega
          have hsum : ¬ (9223372036854775807 < O.length + RR.length) := by omega
          have hcat := cat_mk O RR
          have HTK := Lib.hid (fun wx (h : WAt wx w4.heap.size g ⟨x, y, z⟩ ⟨RR, t.length, T.length, false⟩ v9) => all_c wx w4.heap.size g ⟨x, y, z⟩ RR t.length T.length v9 h hR9)
          have hDg : g7 + 5 ≤ D := by omega
          have hgD : D ≠ g := by have := hFar.hg; omega
          have t0 := hI.t.cell_of (i := 0) rfl
          have a0 := hI.a.cell_of (i := 0) rfl
          have n0 := hI.n.cell_of (i := 0) rfl
          have o0 := hI.o.cell_of (i := 0) rfl
          have c6 := hI.r.cell_of (i := 0) rfl
          have f6 := hI.r.frozen (i := 0) (by simp)
          have hol : ((pre.length : Int) != (st : Int)) = false := by rw [hj]; simp
          clear hO hj
          clear hRR hcc hI0 HIT HFB hOl
          have HI := Lib.hid hI
          have HK := Lib.hid hK
          have HW9 := Lib.hid hW9
          clear hI hK hW9
          go_upto_region 26 with (fail)
          have hI := HI.out.keep hFar (Keeps.drew [] W) (by simp)
          have hK := HK.out
          have hW9 := HW9.out.keep (Keeps.drew [] W)
          clear HI HK HW9
          go_region_law (first
            | (refine stepCall (HTK.out _ hW9) Try.func31 ⟨by kernel_rfl, by kernel_rfl⟩ _ _ rfl rfl rfl ?_; rintro e w' ⟨p2, rfl, hp2, k2⟩; refine ⟨_, rfl, ?_⟩; replace hI := hI.keep hFar k2 (by simp); replace hK := k2.other hK (by simpa using hgD); replace a0 := hI.a.cell_of (i := 0) rfl; replace o0 := hI.o.cell_of (i := 0) rfl; replace c6 := hI.r.cell_of (i := 0) rfl; replace f6 := hI.r.frozen (i := 0) (by simp); have hcv := run_toString (src := 60) (dst := 9) (P := Try.prog) (hp2.rd (Nat.le_refl _)) Try.underlying60 Try.underlying5 Try.underlying9; clear hW9)
            | (refine stepCall (HA.out _) Try.func28 ⟨by kernel_rfl, by kernel_rfl⟩ _ _ rfl rfl rfl ?_; rintro e w' ⟨rfl, k2⟩; refine ⟨_, rfl, ?_⟩; replace hI := hI.keep hFar k2 (by simp); replace hK := k2.other hK (by simp); replace c6 := hI.r.cell_of (i := 0) rfl; replace f6 := hI.r.frozen (i := 0) (by simp)))
          all_goals
            go_wp2_with (fail)
            (try simp only [Exit.inBlock, Exit.then])
            exact hI.done hFar hK hDg rfl rfl
set_option maxRecDepth 100000 in
theorem lifted (os : Os) (started : os.Started) (H : Type) (enc : TypeId × Value → H) :
    ReturnsInHanded {} Try.checked os 10 .any (Rows.piecesDrainSpec.pre6 enc Try.prog Try.f10 Rows.piecesDrainRow.domain false) (Rows.piecesDrainSpec.post enc Try.prog Try.f10 false true false false) := by
  refine returnsInHanded_of_change_sized (C := Try.checked) own started (by kernel_rfl) Try.func10
    (ChangeSpec.witness6 (enc := enc) (C := Try.checked) false ⟨#[], #[.agg #[.int .u8 0, .int .u8 0, .int .i64 0], .slice none 0 0, .agg #[.int .u8 0, .int .u8 0]], []⟩ 8 (by kernel_rfl) (by kernel_rfl) (by kernel_rfl) (by kernel_rfl)) ?_
  intro W base args ds gs before hval0 hW hcnd hsz0 _
  have hval : ∀ (j : Nat) t v, Try.f10.params[j]? = some t → args[j]? = some v → Value.okWide Try.prog W .any base t v := hval0
  have hW' := hW
  obtain ⟨p, q, hA0, hV, rfl, hfz, hnd⟩ := hW
  have hA : DataW.TrodAll enc Try.prog W 0 (fun _ => true) true Try.f10.params.toList args.toList ds p := hA0
  have hsz : (DataW.weightsEach Try.prog (Try.f10.params.toList ++ Rows.piecesDrainSpec.plain.varTypes Try.prog) (ds ++ gs)).all (· ≤ reachBytes) = true := hsz0
  rw [Try.params10] at hA hval hsz
  obtain ⟨v0, vs0, d0, ds0, p0, q0, hargs, rfl, rfl, k0, r0⟩ := trodAll_cons hA
  obtain ⟨v1, vs1, d1, ds1, p1, q1, rfl, rfl, rfl, k1, r1⟩ := trodAll_cons r0
  obtain ⟨v2, vs2, d2, ds2, p2, q2, rfl, rfl, rfl, k2, r2⟩ := trodAll_cons r1
  obtain ⟨rfl, rfl, rfl⟩ := trodAll_nil r2
  obtain rfl : args = #[v0, v1, v2] := by cases args; simp_all
  obtain ⟨rfl, rfl⟩ := trodVars_none hV
  have lt0 := Trod_lt k0
  have lt1 := Trod_lt k1
  have lt2 := Trod_lt k2
  obtain ⟨x0, y0, z0, rfl, hz0⟩ := Trod_dialect Try.underlying23 (by kernel_rfl) (by kernel_rfl) Try.underlying5 Try.underlying5 Try.underlying3 (hval 0 23 v0 rfl rfl) k0
  obtain ⟨tb1, rd1, hs1⟩ := Trod_tbl Try.underlying26 (by kernel_rfl) (of_decide_eq_true (by kernel_rfl)) Try.underlying24 Try.underlying9 (by kernel_rfl) (of_decide_eq_true (by kernel_rfl)) (hval 1 26 v1 rfl rfl) k1 (wt_of hsz (j := 1) rfl rfl)
  obtain ⟨x2, y2, rfl⟩ := Trod_pair (hval 2 74 v2 rfl rfl) k2
  clear hA0 hval0 hsz0
  refine (walk ⟨x0, y0, z0⟩ v1 tb1 x2 y2 W rd1 hs1).mono fun e W' ⟨he, bel⟩ => ?_
  subst he
  exact ⟨_, rfl, _, _, _, [], _, [], hW', trodAll_mk1 (shut_bool Try.underlying4 _), (trodAll_cons_mk (Below.trod laidOut (by kernel_rfl) (of_decide_eq_true (by kernel_rfl)) k0 bel lt0) (trodAll_cons_mk (Below.trod laidOut (by kernel_rfl) (of_decide_eq_true (by kernel_rfl)) k1 bel lt1) (trodAll_cons_mk (Below.trod laidOut (by kernel_rfl) (of_decide_eq_true (by kernel_rfl)) k2 bel lt2) trodAll_mk0))), rfl, bel.frame _, fun h => by cases h⟩

theorem proved : Rows.PiecesDrainSaid :=
  OpenClaim.holds_of_wide 10 Try.f10 rfl rfl rfl rfl rfl rfl rfl ⟨rfl, rfl, rfl, rfl, rfl⟩ rfl rfl rfl rfl rfl (by kernel_rfl) Try.func10 (by kernel_rfl)
    (of_decide_eq_true (by kernel_rfl)) (by unfold Func.isWrapper; first | (rw [if_pos (by decide +kernel)]; kernel_rfl) | (rw [if_neg (by decide +kernel)]; exact ⟨rfl, rfl⟩))
    (fun os started H enc _ => lifted os started H enc)
end Go.Proofs.Ytcmoldondflilaa.PiecesDrainP
namespace Go.Proofs.Ytcmoldondflilaa
theorem piecesDrain_holds : Rows.PiecesDrainSaid := PiecesDrainP.proved
#print axioms piecesDrain_holds
end Go.Proofs.Ytcmoldondflilaa
