/- PROVED: for every dialect d and list l of operations, PiecesPlays(d, l) returns true and leaves its arguments as they were. No condition. -/
import Derived.Test.YtcmoldondflilaaRows
import Derived.Test.YtcmoldondflilaaTxt2
import Derived.Test.YtcmoldondflilaaRef10b
import Derived.Test.YtcmoldondflilaaPcs2
import Derived.Test.YtcmoldondflilaaPlay
import Derived.Test.YtcmoldondflilaaOpenO
import Derived.Test.YtcmoldondflilaaOpenD
import Derived.Test.YtcmoldondflilaaSame
import Derived.BigCall
import Derived.BigRegion
import Derived.BigQuiet
import Derived.Deep.CutBlock
import Derived.Deep.RegionLaw
namespace Go.Proofs.Ytcmoldondflilaa.PiecesPlaysP
set_option linter.unusedVariables false
set_option linter.unusedSimpArgs false
set_option maxRecDepth 100000
open Go.ChangeShapes Go.WideShapes Go.ChangeAt Go.RowKit Q Mach Dia Need Bld Quo WLine Par Wide Pcs
open Tab (fieldsOf bytesOf bytesOfRow)
attribute [local go_sem ↓] Go.wp_at_zero Go.wp_at_succ

theorem own : ownKnob Try.prog.godebug = none := by kernel_rfl
theorem laidOut : laidOutB Try.prog = true := by kernel_rfl
/-- The program's writer and the document's say the same. -/
structure Rel (s : PSt) (q : RSt) : Prop where
  rdy : s.rdy = q.all.drop q.tk
  tk : q.tk ≤ q.all.length
  cnt : s.count = q.count
  tot : s.total = q.all.length
  cl : s.cl = q.cl
theorem Rel.put {s : PSt} {q : RSt} (h : Rel s q) (d : Dia) (r : Row) : Rel (putP d s r).1 (rputP d q r).1 ∧ (putP d s r).2 = (rputP d q r).2 ∧ (rputP d q r).1.count ≤ q.count + 1 ∧ (rputP d q r).1.all.length ≤ q.all.length + (2 * bytesOfRow r + 3 * r.length + 2) := by
  obtain ⟨h1, h2, h3, h4, h5⟩ := h
  unfold putP rputP
  have hl := Wr.line_len d r (q.count == 0)
  rw [h5, h3]
  cases q.cl
  · simp only [Bool.false_eq_true, if_false]
    by_cases hm : Wr.may r = 0
    · simp only [if_pos hm]
      refine ⟨⟨?_, ?_, rfl, ?_, ?_⟩, trivial, Nat.le_refl _, ?_⟩
      · simp only [h1]
        rw [List.drop_append_of_le_length h2]
      · simp only [List.length_append]; omega
      · simp only [List.length_append, h4]
      · rfl
      · simp only [List.length_append]; omega
    · simp only [if_neg hm]
      exact ⟨⟨h1, h2, h3, h4, h5⟩, trivial, by omega, by omega⟩
  · simp only [if_true]
    exact ⟨⟨h1, h2, h3, h4, h5⟩, trivial, by omega, by omega⟩
theorem Rel.take {s : PSt} {q : RSt} (h : Rel s q) (n : Int) : Rel (takeP s n) { q with tk := q.tk + tkN q n } ∧ s.rdy.take (takeN s n) = (q.all.take (q.tk + tkN q n)).drop q.tk := by
  obtain ⟨h1, h2, h3, h4, h5⟩ := h
  have hn : takeN s n = tkN q n := by unfold takeN tkN; rw [h1, List.length_drop]
  have hk : tkN q n ≤ q.all.length - q.tk := by unfold tkN; omega
  refine ⟨⟨?_, ?_, h3, h4, h5⟩, ?_⟩
  · simp only [takeP, hn, h1, List.drop_drop]
  · simp only; omega
  · rw [hn, h1, List.drop_take, Nat.add_sub_cancel_left]
theorem Rel.close {s : PSt} {q : RSt} (h : Rel s q) : Rel { s with cl := true } { q with cl := true } := ⟨h.rdy, h.tk, h.cnt, h.tot, rfl⟩
section wat
variable {w w' : World} {base g gx : Nat} {d : Dia} {s : PSt} {v : Value} {t : TypeId} {cs : List Value}
theorem far (h : WAt w base g d s v) (hx : Blk w gx t cs) (h1 : t ≠ 105) (h2 : t ≠ 5) : gx ∉ g :: blkOf v := by
  intro hm
  rcases List.mem_cons.1 hm with e | hm
  · exact hx.ne_ h.blk h1 e
  · exact h.own.apartBlk hx (Ne.symm h2) _ hm rfl
theorem keep1 (h : WAt w base g d s v) (hx : Blk w gx t cs) (h1 : t ≠ 105) (h2 : t ≠ 5) (k : Keeps [gx] w w') : WAt w' base g d s v := by
  have hf := far h hx h1 h2
  refine h.keepF k (fun hm => ?_) (fun a ha hm => ?_)
  · simp only [List.mem_singleton] at hm
    exact hf (by rw [hm]; simp)
  · simp only [List.mem_singleton] at hm
    exact hf (by rw [← hm]; simp [ha])
theorem lows (h : WAt w base g d s v) : ∀ x ∈ g :: blkOf v, base ≤ x := by
  intro x hx
  rcases List.mem_cons.1 hx with rfl | hx
  · exact h.low
  · exact (h.own.lt x hx).1
end wat
theorem u8_rem (b : UInt8) : Int.tmod (b.toNat : Int) 3 = ((b.toNat % 3 : Nat) : Int) ∧ IntKind.u8.wrap ((b.toNat % 3 : Nat) : Int) = ((b.toNat % 3 : Nat) : Int) := by
  refine ⟨by rw [Int.ofNat_tmod]; rfl, ?_⟩
  rw [IntKind.wrap_u8]
  omega
/-- Where the two stand: k calls were played. -/
structure Both (w0 w : World) (g gx : Nat) (d : Dia) (k : Nat) : Prop where
  ex : ∃ s v q, WAt w w0.heap.size g d s v ∧ Blk w gx 69 (rwC d q) ∧ Rel s q ∧ q.count ≤ k ∧ q.all.length ≤ 2000 * k
  low : w0.heap.size ≤ gx
  w : Keeps [] w0 w
theorem Both.drewN {w0 w : World} {g gx : Nat} {d : Dia} {k : Nat} (h : Both w0 w g gx d k) (m : Nat) : Both w0 (w.drewN m) g gx d k := by
  obtain ⟨⟨s, v, q, h1, h2, h3⟩, h4, h5⟩ := h
  exact ⟨⟨s, v, q, h1.keep (Keeps.drewN [] w m), h2.drewN m, h3⟩, h4, h5.drewN1 m⟩
def TkP (w : World) (base g : Nat) (d : Dia) (s2 : PSt) (X : Bs) (e : Ending) (w' : World) : Prop := ∃ p v', e = .returned p ∧ Own w' w.heap.size 5 1 p X.length (X.map bv) ∧ WAt w' base g d s2 v' ∧ Keeps [g] w w'
def RTkP (w : World) (g : Nat) (d : Dia) (q : RSt) (X : Bs) (e : Ending) (w' : World) : Prop := e = .returned (sv X) ∧ Blk w' g 69 (rwC d q) ∧ Keeps [g] w w'
set_option maxHeartbeats 20000000 in
theorem walk (d : Dia) (A : Value) (ops : List Q.Op) (w : World) (hv : Rd w w.heap.size 3 A ops.length (ops.flatMap opC)) (ho : ∀ o ∈ ops, OpOk w w.heap.size o) (hsm : Small (ops.map Q.Op.r)) : Calls Try.prog 9 #[diaV d, A] w fun e w' => e = .returned (.bool true) ∧ Below w.heap.size w w' := by
  have HA := Lib.hid awake11_c
  have HR := Lib.hid (fun w => ref_c d w)
  have HRR := Lib.hid (fun w => right_c d w)
  have hv' := hv
  obtain ⟨A, ca, rfl, ha1, ha2⟩ := hv.form
  unfold maxLen at ha2
  have kp : Keeps [] w (w.alloc (.cells #[bv d.delim, bv d.quote, .int .i64 d.fin] 23)) := Keeps.alloc [] w _
  have hbx := Blk.new w 23 [bv d.delim, bv d.quote, .int .i64 d.fin]
  have HG := Lib.hid (small_c (.slice A ops.length ca) ops _ w.heap.size kp.size (hv'.keepB kp (by simp)) (fun o h => ⟨(ho o h).rng, (ho o h).rd.keepB kp (by simp)⟩) hsm)
  have HO := Lib.hid ho
  obtain ⟨R, hR⟩ : ∃ R, d.right = R := ⟨_, rfl⟩
  rw [hR] at HRR
  have HRI := Lib.hid hR
  have HV := Lib.hid hv'
  have HDDn := Lib.hid (fun w (h : d.right = true) => new_c d h w)
  have HDDb := Lib.hid (fun w (h : d.right = false) => new_bad d h w)
  clear hR hv hv' ho
  obtain ⟨x, y, z⟩ := d
  go_enter Try.func9, Try.ntmps9
  go_wp2_with (fail)
  with_reducible refine HG.out.mono ?_
  rintro e w1 ⟨b, rfl, k1', hb⟩
  cases b
  · go_wp2_with (fail)
    refine (HA.out _).mono ?_
    rintro e w2 ⟨rfl, k2⟩
    go_wp2_with (fail)
    go_ret
    exact ⟨rfl, ((kp.trans k1' (by simp)).trans k2 (by simp)).below (Nat.le_refl _) (by simp)⟩
  obtain ⟨g1, g2, g3⟩ := hb rfl
  have k1 := kp.trans k1' (by simp)
  have hb1 := hbx.keep k1' (by simp)
  clear hb hbx kp HG k1' hsm
  have c0 := hb1.cell_of (i := 0) rfl
  have c1 := hb1.cell_of (i := 1) rfl
  have c2 := hb1.cell_of (i := 2) rfl
  cases R
  · have HN := Lib.hid (HDDb.out w1 HRI.out)
    go_wp2_with (fail)
    refine HN.out.mono ?_
    rintro e w2 ⟨rfl, k2⟩
    have hb2 := hb1.keep k2 (by simp)
    have k02 := k1.trans k2 (by simp)
    clear c0 c1 c2
    have c0 := hb2.cell_of (i := 0) rfl
    have c1 := hb2.cell_of (i := 1) rfl
    have c2 := hb2.cell_of (i := 2) rfl
    go_wp2_with (fail)
    refine (HR.out _).mono ?_
    rintro e w3 ⟨rfl, k3⟩
    go_wp2_with (fail)
    refine (HRR.out _).mono ?_
    rintro e w4 ⟨rfl, k4⟩
    go_wp2_with (fail)
    refine (HA.out _).mono ?_
    rintro e w5 ⟨rfl, k5⟩
    go_wp2_with (fail)
    go_ret
    exact ⟨rfl, (((k02.trans k3 (by simp)).trans k4 (by simp)).trans k5 (by simp)).below (Nat.le_refl _) (by simp)⟩
  have HN := Lib.hid (HDDn.out w1 HRI.out)
  go_wp2_with (fail)
  refine HN.out.mono ?_
  rintro e w2 ⟨g, rfl, hW2, k2⟩
  have hb2 := hb1.keep k2 (by simp)
  have k02 := k1.trans k2 (by simp)
  have hW2 := hW2.less k1.size
  clear c0 c1 c2 HN HDDn HDDb k1 k2 hb1
  have c0 := hb2.cell_of (i := 0) rfl
  have c1 := hb2.cell_of (i := 1) rfl
  have c2 := hb2.cell_of (i := 2) rfl
  go_wp2_with (fail)
  refine (HR.out _).mono ?_
  rintro e w3 ⟨rfl, k3⟩
  go_wp2_with (fail)
  refine (HRR.out _).mono ?_
  rintro e w4 ⟨rfl, k4⟩
  have k04 := (k02.trans k3 (by simp)).trans k4 (by simp)
  have hb4 := (hb2.keep k3 (by simp)).keep k4 (by simp)
  have hW4 := (hW2.keep k3).keep k4
  clear c0 c1 c2 k3 k4 hb2 hW2 k02
  have c0 := hb4.cell_of (i := 0) rfl
  have c1 := hb4.cell_of (i := 1) rfl
  have c2 := hb4.cell_of (i := 2) rfl
  go_wp2_with (fail)
  refine (HR.out _).mono ?_
  rintro e w5 ⟨rfl, k5⟩
  have k05 := k04.trans k5 (by simp)
  have hW5 := hW4.keep k5
  clear c0 c1 c2 k04 k5 hb4 hW4
  go_wp2_with (fail)
  have hB0 : Both w (w5.alloc (.cells #[.int .i64 x.toNat, .int .i64 y.toNat, .int .i64 z, .string ⟨#[]⟩, .int .i64 0, .int .i64 0, .int .i64 0] 69)) g w5.heap.size ⟨x, y, z⟩ 0 :=
    ⟨⟨_, _, ⟨[], 0, 0, false⟩, hW5.keep (Keeps.alloc [] w5 _), Blk.new w5 69 [.int .i64 x.toNat, .int .i64 y.toNat, .int .i64 z, .string ⟨#[]⟩, .int .i64 0, .int .i64 0, .int .i64 0], ⟨rfl, Nat.zero_le _, rfl, rfl, rfl⟩, Nat.le_refl _, Nat.zero_le _⟩, k05.size, k05.alloc1 _⟩
  generalize w5.alloc _ = w6 at *
  generalize w5.heap.size = gx at *
  clear hW5 k05 hW2
  go_loopw [44] (fun vi wr => ∃ k : Nat, k ≤ ops.length ∧ vi = .int .i64 k ∧ Both w wr g gx ⟨x, y, z⟩ k) (fun vi _ => ops.length - (intOf vi).toNat)
  case atStart => exact ⟨0, Nat.zero_le _, rfl, hB0⟩
  case round =>
    obtain ⟨k, hk, rfl, hBth⟩ := hrel
    clear hB0
    by_cases hlt : k < ops.length
    · obtain ⟨⟨s, v, q, hW, hx, hR, hq1, hq2⟩, hgx, kw⟩ := hBth
      obtain ⟨b1, o1, rfl, hb1, hc1⟩ := op_cells (HV.out.keepB kw (by simp)) k hlt
      have hok := (HO.out _ (List.getElem_mem hlt)).rd
      have hrng := (HO.out _ (List.getElem_mem hlt)).rng
      have hsz := Wr.mem_table (List.mem_map_of_mem (f := Q.Op.r) (List.getElem_mem hlt))
      generalize ops[k] = o at *
      obtain ⟨ok, on, ov, orr⟩ := o
      dsimp only at *
      obtain ⟨Ao, co, rfl, ho1, ho2⟩ := hok.form
      have p0 := hc1 0 _ rfl
      have p1 := hc1 1 _ rfl
      have p2 := hc1 2 _ rfl
      rw [Nat.add_zero] at p0
      have hk0 : (0 : Int) ≤ (k : Int) := by omega
      have hkl : (k : Int) < (ops.length : Int) := by omega
      have hr1 := (u8_rem ok).1
      have hr2 := (u8_rem ok).2
      have hr3 : ok.toNat % 3 < 3 := Nat.mod_lt _ (by omega)
      generalize ok.toNat % 3 = K at *
      clear hc1
      have hbo := Blk.new wr 71 [bv ok, .int .i64 on, .slice Ao orr.length co]
      have hW := hW.keep (Keeps.alloc [] wr (.cells #[bv ok, .int .i64 on, .slice Ao orr.length co] 71))
      have hx := hx.alloc (.cells #[bv ok, .int .i64 on, .slice Ao orr.length co] 71)
      have kq := kw.alloc1 (.cells #[bv ok, .int .i64 on, .slice Ao orr.length co] 71)
      have HOK := Lib.hid hok
      clear hok kw
      go_upto_block 2 with (fail)
      generalize wr.alloc (.cells #[.int .u8 (ok.toNat : Int), .int .i64 on, .slice Ao orr.length co] 71) = wo at *
      generalize wr.heap.size = go at *
      have q1 := hbo.cell_of (i := 1) rfl
      have q2 := hbo.cell_of (i := 2) rfl
      clear p0 p1 p2 hr1 hr2
      have hl1 : s.rdy.length ≤ 1000000 := by rw [hR.rdy, List.length_drop]; omega
      have hl2 : s.count ≤ 1000000 := by rw [hR.cnt]; omega
      have hl3 : s.total ≤ 1000000 := by rw [hR.tot]; omega
      go_cut [] (fun wx => Both w wx g gx ⟨x, y, z⟩ (k + 1))
      case first =>
        rcases (by omega : K = 0 ∨ K = 1 ∨ K = 2) with rfl | rfl | rfl
        · have HPL := Lib.hid (hR.put ⟨x, y, z⟩ orr)
          have HPT := Lib.hid (fun wx (h : WAt wx w.heap.size g ⟨x, y, z⟩ s v) hrd hB => put_c wx w.heap.size g ⟨x, y, z⟩ HRI.out s v (.slice Ao orr.length co) h orr w.heap.size hrd hB (by omega) (by omega) hl1 hl2 hl3)
          have HRP := Lib.hid (fun wx h hrd hB => rput_c wx gx ⟨x, y, z⟩ q (.slice Ao orr.length co) h orr w.heap.size hrd hB (by omega) (by omega) (by omega) (by omega))
          generalize putP ⟨x, y, z⟩ s orr = S2 at *
          generalize rputP ⟨x, y, z⟩ q orr = Q2 at *
          obtain ⟨s2, M⟩ := S2
          obtain ⟨q2', M2⟩ := Q2
          have hM := HPL.out.2.1
          dsimp only at hM
          subst hM
          have hgo : go ≠ gx := hbo.ne_ hx (by decide)
          have hW := hW.keep (Keeps.drew [] wo)
          have hx := hx.drew
          have hbo := hbo.drew
          have kq := kq.drew1
          go_upto_region 14 with (fail)
          go_region_law (first
            | (refine Pcs.step_call (HPT.out _ hW (HOK.out.keepB kq (by simp)) kq.size) Try.func30 ⟨by kernel_rfl, by kernel_rfl⟩ _ _ rfl rfl rfl ?_; rintro e w' ⟨rfl, v2, hW2, k2, _⟩; refine ⟨_, rfl, ?_⟩; replace hx := hx.keep k2 (far hW hx (by decide) (by decide)); replace hbo := hbo.keep k2 (far hW hbo (by decide) (by decide)); replace kq := kq.trans k2 (F := []) (fun a ha hl => absurd hl (Nat.not_lt.2 (lows hW a ha))); replace q2 := hbo.cell_of (i := 2) rfl; replace hW := hW2; clear hW2)
            | (refine Pcs.step_call (HRP.out _ hx (HOK.out.keepB kq (by simp)) kq.size) Try.func35 ⟨by kernel_rfl, by kernel_rfl⟩ _ _ rfl rfl rfl ?_; rintro e w' ⟨rfl, hx2, k2⟩; refine ⟨_, rfl, ?_⟩; replace hW := keep1 hW hx (by decide) (by decide) k2; replace hbo := hbo.keep k2 (by simpa using hgo); replace kq := kq.trans k2 (F := []) (by intro a ha hl; simp at ha; omega); replace q2 := hbo.cell_of (i := 2) rfl; replace hx := hx2; clear hx2))
          all_goals
            have hq := HPL.out
            have hbl : bytesOfRow orr ≤ 800 ∧ orr.length ≤ 100 := by omega
            go_wp2_with (fail)
            go_meet
            try dsimp only at hq hW hx
            exact ⟨⟨s2, v2, q2', hW, hx, hq.1, by omega, by omega⟩, hgx, kq⟩
        · obtain ⟨X, hX⟩ : ∃ X, (q.all.take (q.tk + tkN q on)).drop q.tk = X := ⟨_, rfl⟩
          have HPL := Lib.hid (hR.take on).1
          have hPX := (hR.take on).2
          rw [hX] at hPX
          have HTK : Hid (∀ wx, WAt wx w.heap.size g ⟨x, y, z⟩ s v → Calls Try.prog 31 #[.pointer (some ⟨g, 0, none⟩), .int .i64 on] wx (TkP wx w.heap.size g ⟨x, y, z⟩ (takeP s on) X)) := Lib.hid (fun wx h => (take_c wx w.heap.size g ⟨x, y, z⟩ s v h on hrng hl1).mono (by
            rintro e w' ⟨p, v2, h1, h2, h3, h4, _⟩
            rw [hPX] at h2
            exact ⟨p, v2, h1, h2, h3, h4⟩))
          have HRT : Hid (∀ wx, Blk wx gx 69 (rwC ⟨x, y, z⟩ q) → Calls Try.prog 36 #[.pointer (some ⟨gx, 0, none⟩), .int .i64 on] wx (RTkP wx gx ⟨x, y, z⟩ { q with tk := q.tk + tkN q on } X)) := Lib.hid (fun wx h => (rtake_c wx gx ⟨x, y, z⟩ q h on hrng hR.tk (by omega)).mono (by
            rintro e w' ⟨h1, h2, h3⟩
            rw [hX] at h1
            exact ⟨h1, h2, h3⟩))
          have hqc : q.count ≤ k + 1 := by omega
          have hql : q.all.length ≤ 2000 * (k + 1) := by omega
          clear hPX hX
          generalize takeP s on = s2 at *
          obtain ⟨q2', hq2'⟩ : ∃ q2 : RSt, { q with tk := q.tk + tkN q on } = q2 := ⟨_, rfl⟩
          have hqc : q2'.count ≤ k + 1 := by rw [← hq2']; exact hqc
          have hql : q2'.all.length ≤ 2000 * (k + 1) := by rw [← hq2']; exact hql
          rw [hq2'] at HRT HPL
          clear hq2'
          have hgo : go ≠ gx := hbo.ne_ hx (by decide)
          have hW := hW.keep (Keeps.drew [] wo)
          have hx := hx.drew
          have hbo := hbo.drew
          have kq := kq.drew1
          go_upto_region 17 with (fail)
          go_region_law (first
            | (refine Pcs.step_call (HTK.out _ hW) Try.func31 ⟨by kernel_rfl, by kernel_rfl⟩ _ _ rfl rfl rfl ?_; rintro e w' ⟨p2, v2, rfl, hp2, hW2, k2⟩; refine ⟨_, rfl, ?_⟩; replace hx := hx.keep k2 (fun hm => far hW hx (by decide) (by decide) (by simp only [List.mem_singleton] at hm; simp [hm])); replace hbo := hbo.keep k2 (fun hm => far hW hbo (by decide) (by decide) (by simp only [List.mem_singleton] at hm; simp [hm])); replace kq := kq.trans k2 (F := []) (fun a ha hl => absurd hl (Nat.not_lt.2 (lows hW a (by simp only [List.mem_singleton] at ha; simp [ha])))); replace q1 := hbo.cell_of (i := 1) rfl; replace hW := hW2; clear hW2; have hcv := run_toString (src := 60) (dst := 9) (P := Try.prog) (hp2.rd (Nat.le_refl _)) Try.underlying60 Try.underlying5 Try.underlying9)
            | (refine Pcs.step_call (HRT.out _ hx) Try.func36 ⟨by kernel_rfl, by kernel_rfl⟩ _ _ rfl rfl rfl ?_; rintro e w' ⟨rfl, hx2, k2⟩; refine ⟨_, rfl, ?_⟩; (try replace hp2 := hp2.keep k2 (fun a ha hm => by simp only [List.mem_singleton] at hm; exact hp2.apartBlk hx (by decide) a ha hm)); (try replace hcv := run_toString (src := 60) (dst := 9) (P := Try.prog) (hp2.rd (Nat.le_refl _)) Try.underlying60 Try.underlying5 Try.underlying9); replace hW := keep1 hW hx (by decide) (by decide) k2; replace hbo := hbo.keep k2 (by simpa using hgo); replace kq := kq.trans k2 (F := []) (by intro a ha hl; simp at ha; omega); replace q1 := hbo.cell_of (i := 1) rfl; replace hx := hx2; clear hx2))
          all_goals
            go_wp2_with (fail)
            go_meet
            exact ⟨⟨s2, v2, q2', hW, hx, HPL.out, hqc, hql⟩, hgx, kq⟩
        · have HCL := Lib.hid (close_c hW)
          have HPL := Lib.hid hR.close
          have HW := Lib.hid hW
          have HX := Lib.hid hx
          have KQ := Lib.hid kq
          clear hW hx hbo kq
          go_wp2_with (fail)
          with_reducible refine HCL.out.mono ?_
          rintro e w7 ⟨rfl, hW7, k7⟩
          have hx7 := HX.out.keep k7 (fun hm => far HW.out HX.out (by decide) (by decide) (by simp only [List.mem_singleton] at hm; simp [hm]))
          have K7 := Lib.hid (KQ.out.trans k7 (F := []) (fun a ha hl => absurd hl (Nat.not_lt.2 (lows HW.out a (by simp only [List.mem_singleton] at ha; simp [ha])))))
          have f6 := hx7.frozen (i := 6) (by simp [rwC])
          have c6 := hx7.cell_of (i := 6) rfl
          have HW7 := Lib.hid hW7
          have HX7 := Lib.hid hx7
          clear hW7 hx7 k7 HCL HX KQ HW
          go_wp2_with (fail)
          go_meet
          have kS := Keeps.setCell w7 ⟨gx, 6, none⟩ (.int .i64 1)
          refine ⟨⟨_, v, { q with cl := true }, keep1 HW7.out HX7.out (by decide) (by decide) kS, ?_, HPL.out, by simp only; omega, by simp only; omega⟩, hgx, K7.out.trans kS (F := []) (by intro a ha hl; simp at ha; omega)⟩
          simpa [rwC, oneI] using HX7.out.set_ 6 (.int .i64 1)
      case rest =>
        have HCUT := Lib.hid hcut
        obtain ⟨⟨s3, v3, q3, hW3, hx3, hR3, hq31, hq32⟩, hgx3, kw3⟩ := hcut
        have c3 := hx3.cell_of (i := 3) rfl
        have c4 := hx3.cell_of (i := 4) rfl
        have c5 := hx3.cell_of (i := 5) rfl
        have c6 := hx3.cell_of (i := 6) rfl
        obtain ⟨m, hm⟩ : ∃ m, s3.rdy.length = m := ⟨_, rfl⟩
        have hmm : q3.all.length - q3.tk = m := by rw [← hm, hR3.rdy, List.length_drop]
        have htk := hR3.tk
        have hwr : IntKind.i64.wrap ((q3.all.length : Int) - (q3.tk : Int)) = (m : Int) := by rw [IntWalk.i64_in _ (by omega)]; omega
        have H1 := Lib.hid (fun n => ready_c (hW3.keep (Keeps.drewN [] wc n)))
        have H2 := Lib.hid (fun n => count_c (hW3.keep (Keeps.drewN [] wc n)))
        have H3 := Lib.hid (fun n => total_c (hW3.keep (Keeps.drewN [] wc n)))
        have H4 := Lib.hid (fun n => closed_c (hW3.keep (Keeps.drewN [] wc n)))
        simp only [hm] at H1
        simp only [hR3.cnt] at H2
        simp only [hR3.tot] at H3
        simp only [hR3.cl] at H4
        have hcl : (oneI q3.cl == 1) = q3.cl := by cases q3.cl <;> rfl
        clear hm hmm htk hW3 hx3 hR3 hq31 hq32 kw3 hW hx hbo kq hl1 hl2 hl3 q1 q2
        generalize oneI q3.cl = CI at *
        generalize q3.cl = CB at *
        go_upto_region 22 with (fail)
        go_quiet ((first | (go_at_call 33; exact Calls.quiet_of_same (H1.out _)) | (go_at_call 37; exact Calls.quiet_of_same (H2.out _)) | (go_at_call 38; exact Calls.quiet_of_same (H3.out _)) | (go_at_call 39; exact Calls.quiet_of_same (H4.out _))))
        go_wp2_with (fail)
        exact ⟨⟨k + 1, by omega, by go_num, HCUT.out.drewN _⟩, by simp [intOf]; omega⟩
    · obtain rfl : k = ops.length := by omega
      have KW := Lib.hid hBth.w
      have hkl : ¬ ((ops.length : Int) < (ops.length : Int)) := by omega
      clear hBth
      go_wp2_with (fail)
      refine (HA.out _).mono ?_
      rintro e w7 ⟨rfl, k7⟩
      go_wp2_with (fail)
      go_ret
      exact ⟨rfl, (KW.out.trans k7 (by simp)).below (Nat.le_refl _) (by simp)⟩
set_option maxRecDepth 100000 in
theorem lifted (os : Os) (started : os.Started) (H : Type) (enc : TypeId × Value → H) :
    ReturnsInHanded {} Try.checked os 9 .any (Rows.piecesPlaysSpec.pre6 enc Try.prog Try.f9 Rows.piecesPlaysRow.domain false) (Rows.piecesPlaysSpec.post enc Try.prog Try.f9 false true false false) := by
  refine returnsInHanded_of_change_sized (C := Try.checked) own started (by kernel_rfl) Try.func9
    (ChangeSpec.witness6 (enc := enc) (C := Try.checked) false ⟨#[], #[.agg #[.int .u8 0, .int .u8 0, .int .i64 0], .slice none 0 0], []⟩ 8 (by kernel_rfl) (by kernel_rfl) (by kernel_rfl) (by kernel_rfl)) ?_
  intro W base args ds gs before hval0 hW hcnd hsz0 _
  have hval : ∀ (j : Nat) t v, Try.f9.params[j]? = some t → args[j]? = some v → Value.okWide Try.prog W .any base t v := hval0
  have hW' := hW
  obtain ⟨p, q, hA0, hV, rfl, hfz, hnd⟩ := hW
  have hA : DataW.TrodAll enc Try.prog W 0 (fun _ => true) true Try.f9.params.toList args.toList ds p := hA0
  have hsz : (DataW.weightsEach Try.prog (Try.f9.params.toList ++ Rows.piecesPlaysSpec.plain.varTypes Try.prog) (ds ++ gs)).all (· ≤ reachBytes) = true := hsz0
  rw [Try.params9] at hA hval hsz
  obtain ⟨v0, vs0, d0, ds0, p0, q0, hargs, rfl, rfl, k0, r0⟩ := trodAll_cons hA
  obtain ⟨v1, vs1, d1, ds1, p1, q1, rfl, rfl, rfl, k1, r1⟩ := trodAll_cons r0
  obtain ⟨rfl, rfl, rfl⟩ := trodAll_nil r1
  obtain rfl : args = #[v0, v1] := by cases args; simp_all
  obtain ⟨rfl, rfl⟩ := trodVars_none hV
  have lt0 := Trod_lt k0
  have lt1 := Trod_lt k1
  obtain ⟨x0, y0, z0, rfl, hz0⟩ := Trod_dialect Try.underlying23 (by kernel_rfl) (by kernel_rfl) Try.underlying5 Try.underlying5 Try.underlying3 (hval 0 23 v0 rfl rfl) k0
  obtain ⟨ops1, rd1, ok1, sm1⟩ := Trod_ops (hval 1 65 v1 rfl rfl) k1 (wt_of hsz (j := 1) rfl rfl)
  clear hA0 hval0 hsz0
  refine (walk ⟨x0, y0, z0⟩ v1 ops1 W rd1 ok1 sm1).mono fun e W' ⟨he, bel⟩ => ?_
  subst he
  exact ⟨_, rfl, _, _, _, [], _, [], hW', trodAll_mk1 (shut_bool Try.underlying4 _), (trodAll_cons_mk (Below.trod laidOut (by kernel_rfl) (of_decide_eq_true (by kernel_rfl)) k0 bel lt0) (trodAll_cons_mk (Below.trod laidOut (by kernel_rfl) (of_decide_eq_true (by kernel_rfl)) k1 bel lt1) trodAll_mk0)), rfl, bel.frame _, fun h => by cases h⟩

theorem proved : Rows.PiecesPlaysSaid :=
  OpenClaim.holds_of_wide 9 Try.f9 rfl rfl rfl rfl rfl rfl rfl ⟨rfl, rfl, rfl, rfl, rfl⟩ rfl rfl rfl rfl rfl (by kernel_rfl) Try.func9 (by kernel_rfl)
    (of_decide_eq_true (by kernel_rfl)) (by unfold Func.isWrapper; first | (rw [if_pos (by decide +kernel)]; kernel_rfl) | (rw [if_neg (by decide +kernel)]; exact ⟨rfl, rfl⟩))
    (fun os started H enc _ => lifted os started H enc)
end Go.Proofs.Ytcmoldondflilaa.PiecesPlaysP
namespace Go.Proofs.Ytcmoldondflilaa
theorem piecesPlays_holds : Rows.PiecesPlaysSaid := PiecesPlaysP.proved
#print axioms piecesPlays_holds
end Go.Proofs.Ytcmoldondflilaa
