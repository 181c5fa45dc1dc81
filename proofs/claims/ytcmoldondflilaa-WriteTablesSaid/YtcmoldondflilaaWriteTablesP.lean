/- PROVED: for every dialect d and table t, WriteTables(d, t) returns true and leaves its arguments as they were. No condition. -/
import Derived.Test.YtcmoldondflilaaRows
import Derived.Test.YtcmoldondflilaaTxt2
import Derived.Test.YtcmoldondflilaaRef10b
import Derived.Test.YtcmoldondflilaaLns2
import Derived.Test.YtcmoldondflilaaOpenD
import Derived.Test.YtcmoldondflilaaSame
import Derived.BigCall
import Derived.BigRegion
import Derived.BigQuiet
import Derived.Deep.CutBlock
import Derived.Deep.RegionLaw
namespace Go.Proofs.Ytcmoldondflilaa.WriteTablesP
set_option linter.unusedVariables false
set_option linter.unusedSimpArgs false
set_option maxRecDepth 100000
open Go.ChangeShapes Go.WideShapes Go.ChangeAt Go.RowKit Go.Shelf Q Mach Dia Need Bld Quo WLine Par Wide
open Tab (fieldsOf bytesOf bytesOfRow)
attribute [local go_sem] Oper.semAt_some
attribute [local go_sem ↓] Go.wp_at_zero Go.wp_at_succ

theorem own : ownKnob Try.prog.godebug = none := by kernel_rfl
theorem laidOut : laidOutB Try.prog = true := by kernel_rfl
/-- The answer lies in its cell, and nothing that lay was turned. -/
def Ans (w : World) (e : Ending) (w' : World) : Prop := e = .returned (.bool true) ∧ Below w.heap.size w w'
theorem ret0 {w W : World} {a : Act} {g : Nat} (hg : a.tmps[4]?.getD undef = .pointer (some ⟨g, 0, none⟩)) (hd : a.defers = []) (hb : Blk W g 4 [.bool true]) (hk : Below w.heap.size w W) : postM Try.prog Try.f6 (Ans w) .ret a W := by
  have hc := hb.cell_of (i := 0) rfl
  refine retM0 (v := .bool true) ?_ hd ⟨rfl, hk⟩
  simp [results, Try.f6, go_sem, hg, hc]
theorem ret1 {w W : World} {a : Act} {g D : Nat} (hg : a.tmps[4]?.getD undef = .pointer (some ⟨g, 0, none⟩)) (hd : a.defers = [{ target := .collected D, args := #[] }]) (hK : W.heap[D]? = some (.deferred (some []))) (hD : w.heap.size ≤ D) (hb : Blk W g 4 [.bool true]) (hk : Below w.heap.size w W) :
    postM Try.prog Try.f6 (Ans w) .ret a W := by
  have hc := (hb.putObj (.deferred none) hK rfl).cell_of (i := 0) rfl
  refine retM1 (v := .bool true) hd hK ?_ ⟨rfl, ?_⟩
  · simp [results, Try.f6, go_sem, hg, hc]
  · exact ((KB.put (l := D) hD [] W _).keeps (Keeps.of_below hk []) (Nat.le_refl _) (by simp)).below (Nat.le_refl _) (by simp)
/-- What the rest of the walk leans on. -/
structure Rest (w : World) (x y : UInt8) (z : Int) (D g4 : Nat) (TX : Bs) (n : Nat) (W : World) : Prop where
  k : Keeps [] w W
  d : W.heap[D]? = some (.deferred (some []))
  b : Blk W w.heap.size 23 [bv x, bv y, .int .i64 z]
  r : Blk W (w.heap.size + 1) 4 [.bool false]
  a : Blk W (g4 + 1 + 1) 9 [sv TX]
  m : Blk W (g4 + 1 + 1 + 1) 3 [.int .i64 (n : Nat)]
theorem Rest.keep {w W W' : World} {x y : UInt8} {z : Int} {D g4 n : Nat} {TX : Bs} (h : Rest w x y z D g4 TX n W) (k : Keeps [] W W') : Rest w x y z D g4 TX n W' :=
  ⟨h.k.trans k (by simp), k.other h.d (by simp), h.b.keep k (by simp), h.r.keep k (by simp), h.a.keep k (by simp), h.m.keep k (by simp)⟩
theorem Rest.done {w W : World} {x y : UInt8} {z : Int} {D g4 n : Nat} {TX : Bs} (h : Rest w x y z D g4 TX n W) (h1 : w.heap.size + 1 < D) {a : Act} (hg : a.tmps[4]?.getD undef = .pointer (some ⟨w.heap.size + 1, 0, none⟩)) (hd : a.defers = [{ target := .collected D, args := #[] }]) :
    postM Try.prog Try.f6 (Ans w) .ret a (W.setCell ⟨w.heap.size + 1, 0, none⟩ (.bool true)) := by
  have kS : Keeps [w.heap.size + 1] W (W.setCell ⟨w.heap.size + 1, 0, none⟩ (.bool true)) := Keeps.setCell W ⟨w.heap.size + 1, 0, none⟩ _
  exact ret1 hg hd (kS.other h.d (by simp; omega)) (by omega) (h.r.set_ 0 _) ((h.k.set1 ⟨w.heap.size + 1, 0, none⟩ _ (by simp)).below (Nat.le_refl _) (by simp))
set_option maxHeartbeats 20000000 in
theorem walk (d : Dia) (A : Value) (t : Tb) (w : World) (ht : Tbl w w.heap.size A t) (hsm : Small t) : Calls Try.prog 6 #[diaV d, A] w (Ans w) := by
  have HA := Lib.hid awake10_c
  have HR := Lib.hid (fun w => ref_c d w)
  have HRR := Lib.hid (fun w => right_c d w)
  have HLN := Lib.hid (fun A n c w => lines_c d A n c w)
  have ht' := ht
  obtain ⟨A, ca, rfl, ha1, ha2⟩ := ht.form
  unfold maxLen at ha2
  have kp : Keeps [] w ((w.alloc (.cells #[bv d.delim, bv d.quote, .int .i64 d.fin] 23)).alloc (.cells #[.bool false] 4)) := (Keeps.alloc [] w _).alloc1 _
  have hbx := (Blk.new w 23 [bv d.delim, bv d.quote, .int .i64 d.fin]).alloc (.cells #[.bool false] 4)
  have hbr := Blk.new (w.alloc (.cells #[bv d.delim, bv d.quote, .int .i64 d.fin] 23)) 4 [.bool false]
  rw [World.size_alloc] at hbr
  have HG := Lib.hid (Same.great_c (.slice A t.length ca) t 20 40 400 (by omega) (by omega) (by omega) w.heap.size _ (ht'.keepB kp (by simp)) hsm)
  obtain ⟨R, hR⟩ : ∃ R, d.right = R := ⟨_, rfl⟩
  rw [hR] at HRR
  have HRI := Lib.hid hR
  clear hR
  have HTB := Lib.hid (fun w' (h : Tbl w' w.heap.size (.slice A t.length ca) t) hB h0 h1 h2 => table_c d (.slice A t.length ca) t w.heap.size w' h hB h0 h1 h2)
  have HSZ := Lib.hid (fun w' (h : Tbl w' w.heap.size (.slice A t.length ca) t) hB h0 h1 h2 => size_c d (.slice A t.length ca) t w.heap.size w' h hB h0 h1 h2)
  have HIT := Lib.hid (fun ws gd gt hd hbt (h : Tbl ws w.heap.size (.slice A t.length ca) t) hB h0 h1 h2 Fb hFb => lines_itr d (.slice A t.length ca) t ws gd gt w.heap.size hd hbt h hB h0 h1 h2 Fb hFb)
  have HT := Lib.hid ht'
  clear ht ht'
  obtain ⟨DD, hDD⟩ : ∃ D : Dia, D = d := ⟨_, rfl⟩
  rw [← hDD] at HRI
  have HDDE := Lib.hid hDD
  clear hDD
  obtain ⟨x, y, z⟩ := d
  refine calls_of_marks Try.func6 rfl ?_
  simp only [Try.ntmps6, List.size_toArray, List.length_cons, List.length_nil, Nat.reduceAdd, Nat.reduceSub, Array.replicate_succ, Array.replicate_zero, List.push_toArray, List.append_toArray, List.nil_append, List.cons_append]
  go_wp2_with (fail)
  refine HG.out.mono ?_
  rintro e w1 ⟨b, rfl, hb, m1, rfl⟩
  have k1 := kp.drewN1 m1
  have hb1 := hbx.drewN m1
  have hr1 := hbr.drewN m1
  clear HG kp hbx hbr
  generalize ((w.alloc (.cells #[bv x, bv y, .int .i64 z] 23)).alloc (.cells #[.bool false] 4)).drewN m1 = w1 at *
  cases b
  rotate_left
  · go_wp2_with (fail)
    refine (HA.out _).mono ?_
    rintro e w2 ⟨rfl, k2⟩
    have hr2 := hr1.keep k2 (by simp)
    have f4 := hr2.frozen (i := 0) (by simp)
    have c4 := hr2.cell_of (i := 0) rfl
    go_wp2_with (fail)
    (try simp only [Exit.inBlock, Exit.then])
    refine ret0 rfl rfl (hr2.set_ 0 (.bool true)) ((k1.trans k2 (by simp)).set1 ⟨w.heap.size + 1, 0, none⟩ _ (by simp) |>.below (Nat.le_refl _) (by simp))
  obtain ⟨g1, g2, g3⟩ := hb rfl
  have c0 := hb1.cell_of (i := 0) rfl
  have c1 := hb1.cell_of (i := 1) rfl
  have c2 := hb1.cell_of (i := 2) rfl
  have HTC := Lib.hid (HTB.out w1 (HT.out.keepB k1 (by simp)) k1.size (by omega) (by omega) (by omega))
  obtain ⟨⟨X1, X2, X3⟩, hX⟩ : ∃ X, tableR DD t = X := ⟨_, rfl⟩
  rw [← HDDE.out, hX] at HTC
  rw [HDDE.out] at HTC
  unfold tableV at HTC
  dsimp only at HTC
  have HX := Lib.hid hX
  clear hX hb
  go_wp2_with (fail)
  refine HTC.out.mono ?_
  rintro e w4 ⟨rfl, k4⟩
  have k04 := k1.trans k4 (by simp)
  have hb4 := hb1.keep k4 (by simp)
  have hr4 := hr1.keep k4 (by simp)
  clear c0 c1 c2 hb1 hr1 k1 k4 HTC
  have c0 := hb4.cell_of (i := 0) rfl
  have c1 := hb4.cell_of (i := 1) rfl
  have c2 := hb4.cell_of (i := 2) rfl
  go_wp2_with (fail)
  refine (HLN.out _ _ _ _).mono ?_
  rintro e w5 ⟨rfl, rfl⟩
  have hnil := fun w f lb => run_eql_func_nil (P := Try.prog) w f lb Try.underlying51
  go_wp2_with (fail)
  have kws : Keeps [] w4 ((((w4.alloc (.cells #[bv x, bv y, .int .i64 z] 23)).alloc (.cells #[.slice A t.length ca] 26)).alloc (.cells #[.string ⟨#[]⟩] 9)).alloc (.cells #[.int .i64 0] 3)) := (((Keeps.alloc [] w4 _).alloc1 _).alloc1 _).alloc1 _
  have hbd := (((Blk.new w4 23 [bv x, bv y, .int .i64 z]).alloc (.cells #[.slice A t.length ca] 26)).alloc (.cells #[.string ⟨#[]⟩] 9)).alloc (.cells #[.int .i64 0] 3)
  have hbt := ((Blk.new (w4.alloc (.cells #[bv x, bv y, .int .i64 z] 23)) 26 [.slice A t.length ca]).alloc (.cells #[.string ⟨#[]⟩] 9)).alloc (.cells #[.int .i64 0] 3)
  have hba := (Blk.new ((w4.alloc (.cells #[bv x, bv y, .int .i64 z] 23)).alloc (.cells #[.slice A t.length ca] 26)) 9 [.string ⟨#[]⟩]).alloc (.cells #[.int .i64 0] 3)
  have hbm := Blk.new (((w4.alloc (.cells #[bv x, bv y, .int .i64 z] 23)).alloc (.cells #[.slice A t.length ca] 26)).alloc (.cells #[.string ⟨#[]⟩] 9)) 3 [.int .i64 0]
  have hsz : ((((w4.alloc (.cells #[bv x, bv y, .int .i64 z] 23)).alloc (.cells #[.slice A t.length ca] 26)).alloc (.cells #[.string ⟨#[]⟩] 9)).alloc (.cells #[.int .i64 0] 3)).heap.size = w4.heap.size + 4 := by simp
  simp only [World.size_alloc] at hbt hba hbm
  generalize ((((w4.alloc (.cells #[bv x, bv y, .int .i64 z] 23)).alloc (.cells #[.slice A t.length ca] 26)).alloc (.cells #[.string ⟨#[]⟩] 9)).alloc (.cells #[.int .i64 0] 3)) = ws at *
  have hb4l := hb4.lt
  have hr4l := hr4.lt
  have hbs := hb4.keep kws (by simp)
  have hrs := hr4.keep kws (by simp)
  have k0s := k04.trans kws (by simp)
  generalize w4.heap.size = g4 at *
  have HITS := Lib.hid (HIT.out ws g4 (g4 + 1) hbd hbt (HT.out.keepB k0s (by simp)) k0s.size (by omega) (by omega) (by omega) [g4 + 1 + 1, g4 + 1 + 1 + 1] (by intro g hg; simp at hg; omega))
  clear c0 c1 c2 hbd hbt kws hb4 hr4 k04 HIT hnil
  refine wp_rangeFunc2 (gf := 55) (lb := #[.pointer (some ⟨g4 + 1, 0, none⟩), .pointer (some ⟨g4, 0, none⟩)]) rfl (enters_of Try.func55 (by kernel_rfl) rfl)
    HITS.out (by simp) (by intro g hg; simp at hg; omega) (fun _ => rfl) (fun _ _ _ h _ => h) (fun _ _ _ h _ => h) (fun _ _ _ _ _ _ h _ _ => h)
    (fun pre W => Keeps [g4 + 1 + 1, g4 + 1 + 1 + 1] ws W ∧ Blk W (g4 + 1 + 1) 9 [sv (Wr.textB ⟨x, y, z⟩ true (t.take pre.length))] ∧ Blk W (g4 + 1 + 1 + 1) 3 [.int .i64 (pre.length : Nat)]) (fun _ _ _ => False)
    (fun pre A C h k => ⟨k.keeps h.1 (Nat.le_refl _) (by simp), k.blk h.2.1 (by omega) (by simp), k.blk h.2.2 (by omega) (by simp)⟩) (fun _ _ _ _ h _ => h) ⟨Keeps.refl _ _, by simpa [Wr.textB] using hba, hbm⟩ ?round ?done ?stop
  case round =>
    rintro l pre u W W2 hle ⟨hk, hb1, hb2⟩ ⟨hpl, hn, rfl⟩
    have htk := Wr.text_take ⟨x, y, z⟩ true t pre.length hpl
    have hl1 := Wr.text_take_len ⟨x, y, z⟩ true t pre.length
    have hll := Wr.line_len ⟨x, y, z⟩ t[pre.length] (pre.length == 0)
    obtain ⟨hs1, hs2⟩ := Wr.mem_table (List.getElem_mem hpl)
    rw [Bool.true_and] at htk
    have hln : (pre ++ [(pre.length, Wr.lineB ⟨x, y, z⟩ t[pre.length] (pre.length == 0))]).length = pre.length + 1 := by simp
    generalize Wr.lineB ⟨x, y, z⟩ t[pre.length] (pre.length == 0) = LB at *
    have HTK := Lib.hid htk
    have HLN' := Lib.hid hln
    clear htk hln
    generalize Wr.textB ⟨x, y, z⟩ true (t.take pre.length) = TB at *
    have c0 := hb1.cell_of (i := 0) rfl
    have f0 := hb1.frozen (i := 0) (by simp)
    have c1 := hb2.cell_of (i := 0) rfl
    have f1 := hb2.frozen (i := 0) (by simp)
    have hsum : ¬ (9223372036854775807 < TB.length + LB.length) := by omega
    have hcat := cat_mk TB LB
    have hw1 : IntKind.i64.wrap ((pre.length : Int) + 1) = (pre.length : Int) + 1 := IntWalk.i64_in _ (by omega)
    have HB1 := Lib.hid hb1
    have HB2 := Lib.hid hb2
    have HK := Lib.hid hk
    clear hb1 hb2 hk
    unfold encL
    gi_wp2
    refine ⟨trivial, ?_⟩
    gi_wp2
    have kS : Keeps [g4 + 1 + 1, g4 + 1 + 1 + 1] W2 ((W2.setCell ⟨g4 + 1 + 1, 0, none⟩ (sv (TB ++ LB))).setCell ⟨g4 + 1 + 1 + 1, 0, none⟩ (.int .i64 ((pre.length : Int) + 1))) :=
      ((Keeps.setCell W2 ⟨g4 + 1 + 1, 0, none⟩ _).sub (by simp)).set1 ⟨g4 + 1 + 1 + 1, 0, none⟩ _ (by simp)
    refine ⟨kS, HK.out.trans kS (fun _ h _ => h), ?_, ?_⟩
    · rw [HLN'.out, HTK.out]
      exact (HB1.out.set_ 0 (sv (TB ++ LB))).far (by simp) _
    · rw [HLN'.out]
      exact (HB2.out.far (p := ⟨g4 + 1 + 1, 0, none⟩) (by simp) _).set_ 0 _
  case done =>
    rintro D xs W hD hs ⟨hk, hb1, hb2⟩ hK
    have hs' : xs.length = nL ⟨x, y, z⟩ t := hs
    rw [hs'] at hb1 hb2
    have hW1 := Wr.text_take_len ⟨x, y, z⟩ true t (nL ⟨x, y, z⟩ t)
    have hbW := hbs.keep hk (by simp; omega)
    have hrW := hrs.keep hk (by simp; omega)
    have kW := k0s.trans hk (F := []) (by intro g hg hl; simp at hg; omega)
    have hgD : g4 ≤ D := by omega
    have HSZ2 : Hid (∀ w', Tbl w' w.heap.size (.slice A t.length ca) t → w.heap.size ≤ w'.heap.size → Calls Try.prog 25 #[.agg #[bv x, bv y, .int .i64 z], .slice A t.length ca] w' fun e w'' => e = .returned (.int .i64 ((Wr.textB ⟨x, y, z⟩ true (t.take (nL ⟨x, y, z⟩ t))).length : Nat)) ∧ Keeps [] w' w'') := Lib.hid (fun w' h hB => HSZ.out w' h hB (by omega) (by omega) (by omega))
    have c0 := hbW.cell_of (i := 0) rfl
    have c1 := hbW.cell_of (i := 1) rfl
    have c2 := hbW.cell_of (i := 2) rfl
    clear hs hs' hbs hrs hk HITS hba hbm HSZ k0s
    go_wp2_with (fail)
    refine (HR.out _).mono ?_
    rintro e w6 ⟨rfl, k6⟩
    go_wp2_with (fail)
    refine (HRR.out _).mono ?_
    rintro e w7 ⟨rfl, k7⟩
    have hRS : Rest w x y z D g4 (Wr.textB ⟨x, y, z⟩ true (t.take (nL ⟨x, y, z⟩ t))) (nL ⟨x, y, z⟩ t) w7 := (Rest.mk kW hK hbW hrW hb1 hb2).keep (k6.trans k7 (by simp))
    clear c0 c1 c2 hbW hrW hb1 hb2 kW k6 k7 hK
    have c0 := hRS.b.cell_of (i := 0) rfl
    have c1 := hRS.b.cell_of (i := 1) rfl
    have c2 := hRS.b.cell_of (i := 2) rfl
    have cm := hRS.m.cell_of (i := 0) rfl
    cases R
    · have hN : nL ⟨x, y, z⟩ t = 0 := by
        unfold nL
        rw [← HDDE.out, HRI.out]
        rfl
      have hX' : tableR DD t = ([], 0, 1) := by
        unfold tableR
        rw [HRI.out]
        rfl
      have hXe := hX'.symm.trans HX.out
      injection hXe with e1 e2
      injection e2 with e2 e3
      subst e1 e2 e3
      have h00 : (Wr.textB ⟨x, y, z⟩ true (t.take 0)).length = 0 := by rw [List.take_zero]; rfl
      rw [hN] at cm
      rw [hN, h00] at HSZ2
      have HS := Lib.hid (HSZ2.out w7 (HT.out.keepB hRS.k (by simp)) hRS.k.size)
      have HRS := Lib.hid hRS
      clear hN hX' HSZ2 hRS h00
      go_wp2_with (fail)
      refine HS.out.mono ?_
      rintro e w8 ⟨rfl, k8⟩
      have HRS8 := Lib.hid (HRS.out.keep k8)
      clear c0 c1 c2 cm k8 HRS
      go_wp2_with (fail)
      refine (HA.out _).mono ?_
      rintro e w9 ⟨rfl, k9⟩
      have hRS9 := HRS8.out.keep k9
      have f4 := hRS9.r.frozen (i := 0) (by simp)
      have c4 := hRS9.r.cell_of (i := 0) rfl
      clear HRS8 k9
      go_wp2_with (fail)
      (try simp only [Exit.inBlock, Exit.then])
      exact hRS9.done (by omega) rfl rfl
    · have hN : nL ⟨x, y, z⟩ t = Wr.front t := by
        unfold nL
        rw [← HDDE.out, HRI.out]
        rfl
      have hX' : tableR DD t = if Wr.front t < t.length then ([], Wr.front t, Wr.may (t.getD (Wr.front t) [])) else (Wr.textB DD true t, t.length, 0) := by
        unfold tableR
        rw [HRI.out]
        rfl
      have hXo := HX.out
      rw [HDDE.out] at hX' hXo
      have hXe := hX'.symm.trans hXo
      rw [hN] at cm HSZ2 hRS
      have hfl := Wr.front_le t
      have HTX : Hid (∀ w', Tbl w' w.heap.size (.slice A t.length ca) t → w.heap.size ≤ w'.heap.size → Calls Try.prog 27 #[rdiaV ⟨x, y, z⟩, .slice A t.length ca] w' fun e w'' => e = .returned (sv (Wr.textB ⟨x, y, z⟩ true (t.take (Wr.front t)))) ∧ Keeps [] w' w'') := Lib.hid (fun w' h hB => rtext_c ⟨x, y, z⟩ (.slice A t.length ca) t w.heap.size w' h hB (by omega) (by omega) (by omega))
      have HFR : Hid (∀ w', Tbl w' w.heap.size (.slice A t.length ca) t → Calls Try.prog 26 #[.slice A t.length ca] w' fun e w'' => e = .returned (.int .i64 (Wr.front t)) ∧ Keeps [] w' w'') := Lib.hid (fun w' h => front_c (.slice A t.length ca) t w.heap.size w' h (by omega))
      obtain ⟨TX, hTX⟩ : ∃ TX, Wr.textB ⟨x, y, z⟩ true (t.take (Wr.front t)) = TX := ⟨_, rfl⟩
      rw [hTX] at HTX HSZ2 hRS
      have HTXE := Lib.hid hTX
      obtain ⟨n, hn⟩ : ∃ n, Wr.front t = n := ⟨_, rfl⟩
      rw [hn] at HFR hRS cm hfl hXe
      have HNE := Lib.hid hn
      have HXE := Lib.hid hXe
      rw [hN, hn, ← hn, hTX] at hW1
      clear hN hX' hXo hTX hn hXe cm
      go_upto_region 17 with (fail)
      go_cut [13, 14] from 68 (fun va vb wx => va = .int .i64 (n : Nat) ∧ vb = sv TX ∧ Rest w x y z D g4 TX n wx)
      case first =>
        have hRS := hRS.keep (Keeps.drew [] w7)
        go_region_law (first
          | (refine stepCall (HFR.out _ (HT.out.keepB hRS.k (by simp))) Try.func26 ⟨by kernel_rfl, by kernel_rfl⟩ _ _ rfl rfl rfl ?_; rintro e w' ⟨rfl, k2⟩; refine ⟨_, rfl, ?_⟩; replace hRS := hRS.keep k2; replace c0 := kC k2 c0 (by simp); replace c1 := kC k2 c1 (by simp); replace c2 := kC k2 c2 (by simp))
          | (refine stepCall (HR.out _) Try.func15 ⟨by kernel_rfl, by kernel_rfl⟩ _ _ rfl rfl rfl ?_; rintro e w' ⟨rfl, k2⟩; refine ⟨_, rfl, ?_⟩; replace hRS := hRS.keep k2; replace c0 := kC k2 c0 (by simp); replace c1 := kC k2 c1 (by simp); replace c2 := kC k2 c2 (by simp))
          | (refine stepCall (HTX.out _ (HT.out.keepB hRS.k (by simp)) hRS.k.size) Try.func27 ⟨by kernel_rfl, by kernel_rfl⟩ _ _ rfl rfl rfl ?_; rintro e w' ⟨rfl, k2⟩; refine ⟨_, rfl, ?_⟩; replace hRS := hRS.keep k2; replace c0 := kC k2 c0 (by simp); replace c1 := kC k2 c1 (by simp); replace c2 := kC k2 c2 (by simp)))
        all_goals
          go_wp2_with (fail)
          go_meet
          exact ⟨rfl, rfl, hRS⟩
      case rest =>
        obtain ⟨rfl, rfl, hRC⟩ := hcut
        clear hRS c0 c1 c2
        have c0 := hRC.b.cell_of (i := 0) rfl
        have c1 := hRC.b.cell_of (i := 1) rfl
        have c2 := hRC.b.cell_of (i := 2) rfl
        have cm := hRC.m.cell_of (i := 0) rfl
        have cA := hRC.a.cell_of (i := 0) rfl
        have HS := Lib.hid (HSZ2.out wc (HT.out.keepB hRC.k (by simp)) hRC.k.size)
        have HRS := Lib.hid hRC
        clear hRC HSZ2
        by_cases hlt : n < t.length
        · have hXX := HXE.out
          rw [if_pos hlt] at hXX
          injection hXX with e1 e2
          injection e2 with e2 e3
          have HMM := Lib.hid e3
          clear e3
          subst e1 e2
          go_wp2_with (fail)
          refine HS.out.mono ?_
          rintro e w8 ⟨rfl, k8⟩
          have hRS8 := HRS.out.keep k8
          obtain ⟨b, o, A1, n1, rfl, _, cf, rr⟩ := (HT.out.keepB hRS8.k (by simp)).at_ hlt
          obtain ⟨hs1, hs2⟩ := Wr.mem_table (List.getElem_mem hlt)
          have hk0 : (0 : Int) ≤ (n : Int) := by omega
          have hkl : (n : Int) < (t.length : Int) := by omega
          have HM := Lib.hid (may_c _ t[n] w.heap.size w8 rr (by omega))
          have he : t.getD n [] = t[n] := by simp [List.getD, List.getElem?_eq_getElem hlt]
          have hmm := HMM.out
          rw [he] at hmm
          rw [hmm] at HM
          have HRS8 := Lib.hid hRS8
          clear c0 c1 c2 cm cA k8 HRS hRS8 he hmm HMM rr HS
          go_wp2_with (fail)
          refine HM.out.mono ?_
          rintro e w9 ⟨rfl, k9⟩
          have HRS9 := Lib.hid (HRS8.out.keep k9)
          clear k9 HRS8 HM cf
          go_wp2_with (fail)
          refine (HA.out _).mono ?_
          rintro e w10 ⟨rfl, k10⟩
          have hRS10 := HRS9.out.keep k10
          have f4 := hRS10.r.frozen (i := 0) (by simp)
          have c4 := hRS10.r.cell_of (i := 0) rfl
          clear HRS9 k10
          go_wp2_with (fail)
          (try simp only [Exit.inBlock, Exit.then])
          exact hRS10.done (by omega) rfl rfl
        · have hXX := HXE.out
          rw [if_neg hlt] at hXX
          injection hXX with e1 e2
          injection e2 with e2 e3
          have hnl : n = t.length := by omega
          have htt := HTXE.out
          rw [HNE.out, hnl, List.take_length] at htt
          have e1' := e1.symm.trans htt
          subst e1' e2 e3
          subst hnl
          have hlt2 : ¬ ((t.length : Int) < (t.length : Int)) := by omega
          clear htt e1 hlt
          go_wp2_with (fail)
          refine HS.out.mono ?_
          rintro e w8 ⟨rfl, k8⟩
          have HRS8 := Lib.hid (HRS.out.keep k8)
          clear c0 c1 c2 cm cA k8 HRS HS
          go_wp2_with (fail)
          refine (HA.out _).mono ?_
          rintro e w10 ⟨rfl, k10⟩
          have hRS10 := HRS8.out.keep k10
          have f4 := hRS10.r.frozen (i := 0) (by simp)
          have c4 := hRS10.r.cell_of (i := 0) rfl
          clear HRS8 k10
          go_wp2_with (fail)
          (try simp only [Exit.inBlock, Exit.then])
          exact hRS10.done (by omega) rfl rfl
  case stop =>
    rintro D c pre W _ _ h _
    exact h.elim
set_option maxRecDepth 100000 in
theorem lifted (os : Os) (started : os.Started) (H : Type) (enc : TypeId × Value → H) :
    ReturnsInHanded {} Try.checked os 6 .any (Rows.writeTablesSpec.pre6 enc Try.prog Try.f6 Rows.writeTablesRow.domain false) (Rows.writeTablesSpec.post enc Try.prog Try.f6 false true false false) := by
  refine returnsInHanded_of_change_sized (C := Try.checked) own started (by kernel_rfl) Try.func6
    (ChangeSpec.witness6 (enc := enc) (C := Try.checked) false ⟨#[], #[.agg #[.int .u8 0, .int .u8 0, .int .i64 0], .slice none 0 0], []⟩ 8 (by kernel_rfl) (by kernel_rfl) (by kernel_rfl) (by kernel_rfl)) ?_
  intro W base args ds gs before hval0 hW hcnd hsz0 _
  have hval : ∀ (j : Nat) t v, Try.f6.params[j]? = some t → args[j]? = some v → Value.okWide Try.prog W .any base t v := hval0
  have hW' := hW
  obtain ⟨p, q, hA0, hV, rfl, hfz, hnd⟩ := hW
  have hA : DataW.TrodAll enc Try.prog W 0 (fun _ => true) true Try.f6.params.toList args.toList ds p := hA0
  have hsz : (DataW.weightsEach Try.prog (Try.f6.params.toList ++ Rows.writeTablesSpec.plain.varTypes Try.prog) (ds ++ gs)).all (· ≤ reachBytes) = true := hsz0
  rw [Try.params6] at hA hval hsz
  obtain ⟨v0, vs0, d0, ds0, p0, q0, hargs, rfl, rfl, k0, r0⟩ := trodAll_cons hA
  obtain ⟨v1, vs1, d1, ds1, p1, q1, rfl, rfl, rfl, k1, r1⟩ := trodAll_cons r0
  obtain ⟨rfl, rfl, rfl⟩ := trodAll_nil r1
  obtain rfl : args = #[v0, v1] := by cases args; simp_all
  obtain ⟨rfl, rfl⟩ := trodVars_none hV
  have lt0 := Trod_lt k0
  have lt1 := Trod_lt k1
  obtain ⟨x0, y0, z0, rfl, hz0⟩ := Trod_dialect Try.underlying23 (by kernel_rfl) (by kernel_rfl) Try.underlying5 Try.underlying5 Try.underlying3 (hval 0 23 v0 rfl rfl) k0
  obtain ⟨tb1, rd1, hs1⟩ := Trod_tbl Try.underlying26 (by kernel_rfl) (of_decide_eq_true (by kernel_rfl)) Try.underlying24 Try.underlying9 (by kernel_rfl) (of_decide_eq_true (by kernel_rfl)) (hval 1 26 v1 rfl rfl) k1 (wt_of hsz (j := 1) rfl rfl)
  clear hA0 hval0 hsz0
  refine (walk ⟨x0, y0, z0⟩ v1 tb1 W rd1 hs1).mono fun e W' ⟨he, bel⟩ => ?_
  subst he
  exact ⟨_, rfl, _, _, _, [], _, [], hW', trodAll_mk1 (shut_bool Try.underlying4 _), (trodAll_cons_mk (Below.trod laidOut (by kernel_rfl) (of_decide_eq_true (by kernel_rfl)) k0 bel lt0) (trodAll_cons_mk (Below.trod laidOut (by kernel_rfl) (of_decide_eq_true (by kernel_rfl)) k1 bel lt1) trodAll_mk0)), rfl, bel.frame _, fun h => by cases h⟩

theorem proved : Rows.WriteTablesSaid :=
  OpenClaim.holds_of_wide 6 Try.f6 rfl rfl rfl rfl rfl rfl rfl ⟨rfl, rfl, rfl, rfl, rfl⟩ rfl rfl rfl rfl rfl (by kernel_rfl) Try.func6 (by kernel_rfl)
    (of_decide_eq_true (by kernel_rfl)) (by unfold Func.isWrapper; first | (rw [if_pos (by decide +kernel)]; kernel_rfl) | (rw [if_neg (by decide +kernel)]; exact ⟨rfl, rfl⟩))
    (fun os started H enc _ => lifted os started H enc)
end Go.Proofs.Ytcmoldondflilaa.WriteTablesP
namespace Go.Proofs.Ytcmoldondflilaa
theorem writeTables_holds : Rows.WriteTablesSaid := WriteTablesP.proved
#print axioms writeTables_holds
end Go.Proofs.Ytcmoldondflilaa
