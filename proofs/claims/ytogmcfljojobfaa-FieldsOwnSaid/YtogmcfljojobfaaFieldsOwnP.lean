/- PROVED: for every list of events, FieldsOwn(events) returns true and leaves its argument as it was. No condition. -/
import Derived.Test.YtogmcfljojobfaaRows
import Derived.Test.YtogmcfljojobfaaRef5
import Derived.Test.YtogmcfljojobfaaOpenE
import Derived.Test.YtogmcfljojobfaaLimits
import Derived.Test.YtogmcfljojobfaaSame
namespace Go.Proofs.Ytogmcfljojobfaa.FieldsOwnP
set_option linter.unusedVariables false
set_option linter.unusedSimpArgs false
open Go.ChangeShapes Go.WideShapes Go.ChangeAt Go.RowKit Q Mach Dia Limits Scan Ref4 Fld Ref5
attribute [local go_sem ↓] Go.wp_at_zero Go.wp_at_succ

theorem own : ownKnob Try.prog.godebug = none := by kernel_rfl
theorem laidOut : laidOutB Try.prog = true := by kernel_rfl
theorem rmK {w w' : World} {base g : Nat} {m : Mk} {vr : Value} (h : RM w base g m vr) {F : List Nat} (k : Keeps F w w') (h1 : g ∉ F) (h2 : ∀ x ∈ blkOf vr, x ∉ F) : RM w' base g m vr := ⟨h.blk.keep k h1, h.low, h.rcd.keep k h2⟩
theorem mkK {w w' : World} {base g : Nat} {m : Mk} {vf vr : Value} (h : MkAt w base g 77 [] [] m vf vr) {F : List Nat} (k : Keeps F w w') (h1 : g ∉ F) (h2 : ∀ x ∈ blkOf vf, x ∉ F) (h3 : ∀ x ∈ blkOf vr, x ∉ F) : MkAt w' base g 77 [] [] m vf vr := ⟨h.blk.keep k h1, h.low, h.fld.keep k h2, h.rcd.keep k h3⟩
/-- The two makers, side by side. -/
structure Two (w0 w : World) (g g5 n : Nat) (m : Mk) (vf vr v5 : Value) : Prop where
  a : MkAt w w0.heap.size g 77 [] [] m vf vr
  b : RM w w0.heap.size g5 m v5
  ap : ∀ x ∈ blkOf vr, x ∉ blkOf v5
  u : Upto n wide5 m
  s : m.stopped = 0
  w : Below w0.heap.size w0 w
theorem Two.ne {w0 w : World} {g g5 n : Nat} {m : Mk} {vf vr v5 : Value} (h : Two w0 w g g5 n m vf vr v5) : g ≠ g5 := by
  rintro e
  have h1 := h.a.blk
  rw [e] at h1
  exact h1.ne_ h.b.blk (by decide) rfl
theorem Two.keep {w0 w w' : World} {g g5 n : Nat} {m : Mk} {vf vr v5 : Value} (h : Two w0 w g g5 n m vf vr v5) (k : Keeps [] w w') : Two w0 w' g g5 n m vf vr v5 :=
  ⟨h.a.keep k, h.b.keep k, h.ap, h.u, h.s, h.w.trans (k.below (h.w.size) (by simp))⟩
/-- What is stored into rows of the caller's own changes neither. -/
theorem Two.spoil {w0 w w' : World} {g g5 n : Nat} {m : Mk} {vf vr v5 v : Value} (h : Two w0 w g g5 n m vf vr v5) {k : Nat} {xs : List Value} (ho : Own w w0.heap.size 9 1 v k xs) (h1 : ∀ x ∈ blkOf v, x ∉ blkOf vr) (h2 : ∀ x ∈ blkOf v, x ∉ blkOf v5) (kp : Keeps (blkOf v) w w') : Two w0 w' g g5 n m vf vr v5 :=
  ⟨mkK h.a kp (fun hm => ho.apartBlk h.a.blk (by decide) _ hm rfl) (fun x hx hm => h.a.fld.apart ho (by decide) x hx hm) (fun x hx hm => h1 x hm hx),
   rmK h.b kp (fun hm => ho.apartBlk h.b.blk (by decide) _ hm rfl) (fun x hx hm => h2 x hm hx), h.ap, h.u, h.s, h.w.trans (kp.below h.w.size (fun x hx => (ho.lt x hx).1))⟩
def wV : Value := .agg #[.int .i64 1000, .int .i64 1000, .int .i64 1000, .bool false]
/-- An event was taken by the first one. -/
structure Half (w0 w : World) (g g5 n : Nat) (m m' : Mk) (vf vr v5 v : Value) (r : Row) : Prop where
  a : MkAt w w0.heap.size g 77 [] [] m' vf vr
  b : RM w w0.heap.size g5 m v5
  ap : ∀ x ∈ blkOf vr, x ∉ blkOf v5
  vr : ∀ x ∈ blkOf v, x ∉ blkOf vr
  v5 : ∀ x ∈ blkOf v, x ∉ blkOf v5
  o : Own w w0.heap.size 9 1 v r.length (r.map sv)
  w : Below w0.heap.size w0 w
theorem Two.take {w0 w w' : World} {g g5 n : Nat} {m : Mk} {vf vr v5 : Value} (h : Two w0 w g g5 n m vf vr v5) {ev : Ev} {r : Ending} {T : Mk × Option Row × Nat} (hT : take m ev = T) (hp : TakePost w w0.heap.size g 77 [] [] m ev vf vr r w') :
    ∃ v vf' vr', r = .returned (.tuple #[v, .bool T.2.1.isSome, .int .i64 T.2.2]) ∧ Half w0 w' g g5 n m T.1 vf' vr' v5 v (T.2.1.getD []) ∧ ∀ b cs, Blk w b 38 cs → Blk w' b 38 cs := by
  subst hT
  obtain ⟨v, hr, ho, _, hv, vf', vr', ha, hap, hk, hf, hvr⟩ := hp
  have hl5 := fun x hx => (h.b.rcd.lt x hx).2
  have hF : ∀ x ∈ g :: (blkOf vf ++ blkOf vr), w0.heap.size ≤ x := by
    intro x hx
    simp only [List.mem_cons, List.mem_append] at hx
    rcases hx with rfl | hx | hx
    · exact h.a.low
    · exact (h.a.fld.lt x hx).1
    · exact (h.a.rcd.lt x hx).1
  refine ⟨v, vf', vr', hr, ⟨ha, rmK h.b hk ?_ ?_, ?_, hap, ?_, ho, h.w.trans (hk.below h.w.size hF)⟩, ?_⟩
  · simp only [List.mem_cons, List.mem_append, not_or]
    exact ⟨Ne.symm h.ne, fun hm => h.a.fld.apartBlk h.b.blk (by decide) _ hm rfl, fun hm => h.a.rcd.apartBlk h.b.blk (by decide) _ hm rfl⟩
  · intro x hx
    simp only [List.mem_cons, List.mem_append, not_or]
    refine ⟨fun e => h.b.rcd.apartBlk h.a.blk (by decide) x hx (by simpa using e), fun hm => h.b.rcd.apart h.a.fld (by decide) x hx hm, fun hm => h.ap x hm hx⟩
  · intro x hx h5
    rcases hvr x hx with h1 | h1
    · exact h.ap x h1 h5
    · have := hl5 x h5; omega
  · intro x hx h5
    rcases hv x hx with h1 | h1
    · exact h.ap x h1 h5
    · have := hl5 x h5; omega
  · intro b cs hb
    refine hb.keep hk ?_
    simp only [List.mem_cons, List.mem_append, not_or]
    exact ⟨fun e => hb.ne_ h.a.blk (by decide) e, fun hm => h.a.fld.apartBlk hb (by decide) _ hm rfl, fun hm => h.a.rcd.apartBlk hb (by decide) _ hm rfl⟩
theorem Half.keep {w0 w w' : World} {g g5 n : Nat} {m m' : Mk} {vf vr v5 v : Value} {r : Row} (h : Half w0 w g g5 n m m' vf vr v5 v r) (k : Keeps [] w w') : Half w0 w' g g5 n m m' vf vr v5 v r :=
  ⟨h.a.keep k, h.b.keep k, h.ap, h.vr, h.v5, h.o.keep k (by simp), h.w.trans (k.below (h.w.size) (by simp))⟩
/-- And by the other one. -/
theorem Half.take {w0 w w' : World} {g g5 n : Nat} {m : Mk} {vf vr v5 v : Value} {ev : Ev} {r : Ending} {T : Mk × Option Row × Nat} (hT : take m ev = T) (h : Half w0 w g g5 n m T.1 vf vr v5 v (T.2.1.getD [])) (hu : Upto n wide5 m) (hn : n < 400) (hs : m.stopped = 0) (hp : RTakeP w w0.heap.size g5 T v5 r w') :
    ∃ vv v5', r = .returned (.tuple #[vv, .int .i64 (if T.2.1.isSome then 1 else 0)]) ∧ Own w' w0.heap.size 9 1 vv (T.2.1.getD []).length ((T.2.1.getD []).map sv) ∧
      Own w' w0.heap.size 9 1 v (T.2.1.getD []).length ((T.2.1.getD []).map sv) ∧ (∀ x ∈ blkOf v, x ∉ blkOf vr) ∧ (∀ x ∈ blkOf v, x ∉ blkOf v5') ∧ Two w0 w' g g5 (n + 1) T.1 vf vr v5' := by
  subst hT
  obtain ⟨vv, hr, ho, _, _, v5', hb, _, hk, hv5⟩ := hp
  have hne : g ≠ g5 := by
    rintro e
    have h1 := h.a.blk
    rw [e] at h1
    exact h1.ne_ h.b.blk (by decide) rfl
  have hF : ∀ x ∈ g5 :: blkOf v5, w0.heap.size ≤ x := by
    intro x hx
    simp only [List.mem_cons] at hx
    rcases hx with rfl | hx
    · exact h.b.low
    · exact (h.b.rcd.lt x hx).1
  refine ⟨vv, v5', hr, ho, h.o.keep hk ?_, h.vr, ?_, mkK h.a hk ?_ ?_ ?_, hb, ?_, hu.take ev, (wide_take hu hn hs ev).1, h.w.trans (hk.below h.w.size hF)⟩
  · intro x hx
    simp only [List.mem_cons, not_or]
    exact ⟨fun e => h.o.apartBlk h.b.blk (by decide) x hx e, h.v5 x hx⟩
  · intro x hx h5
    rcases hv5 x h5 with h1 | h1
    · exact h.v5 x hx h1
    · have := (h.o.lt x hx).2; omega
  · simp only [List.mem_cons, not_or]
    exact ⟨hne, fun hm => h.b.rcd.apartBlk h.a.blk (by decide) _ hm (by simp)⟩
  · intro x hx
    simp only [List.mem_cons, not_or]
    exact ⟨fun e => h.a.fld.apartBlk h.b.blk (by decide) x hx e, fun hm => h.a.fld.apart h.b.rcd (by decide) x hx hm⟩
  · intro x hx
    simp only [List.mem_cons, not_or]
    exact ⟨fun e => h.a.rcd.apartBlk h.b.blk (by decide) x hx e, h.ap x hx⟩
  · intro x hx h5
    rcases hv5 x h5 with h1 | h1
    · exact h.ap x hx h1
    · have := (h.a.rcd.lt x hx).2; omega
set_option maxRecDepth 100000 in
set_option maxHeartbeats 20000000 in
theorem walk (v : Value) (evs : List Ev) (w : World) (hv : Rd w w.heap.size 6 v evs.length (evs.flatMap evC)) : Calls Try.prog 3 #[v] w fun e w' => e = .returned (.bool true) ∧ Below w.heap.size w w' := by
  have HA := Lib.hid awake5_c
  have HN := Lib.hid (fun w => new1_c wide5 (by decide) (by decide) (by decide) w)
  have HRL := Lib.hid (fun w => refLimits_c 1000 1000 1000 false w)
  obtain ⟨A, c, rfl, hn1, hx1⟩ := hv.form
  unfold maxLen at hx1
  have kp0 : Keeps [] w (w.alloc (.cells #[.int .i64 1000, .int .i64 1000, .int .i64 1000, .bool false] 24)) := Keeps.alloc [] w _
  have hl0 := Blk.new w 24 [.int .i64 1000, .int .i64 1000, .int .i64 1000, .bool false]
  go_enter Try.func3, Try.ntmps3
  go_wp2_with (fail)
  refine (HN.out _).mono ?_
  rintro r w1 ⟨g, rfl, hM1, k1⟩
  have k01 := kp0.trans k1 (by simp)
  by_cases h2 : 150 < evs.length
  · have h2' : decide (150 < (evs.length : Int)) = true := by simp; omega
    clear hv
    go_wp2_with (fail)
    refine (HA.out _).mono ?_
    rintro e w2 ⟨rfl, k2⟩
    go_wp2_with (fail)
    go_ret
    exact ⟨rfl, (k01.trans k2 (by simp)).below (Nat.le_refl _) (by simp)⟩
  have h2' : decide (150 < (evs.length : Int)) = false := by simp; omega
  have hl1 := hl0.keep k1 (by simp)
  have c0 := hl1.cell_of (i := 0) rfl
  have c1 := hl1.cell_of (i := 1) rfl
  have c2 := hl1.cell_of (i := 2) rfl
  have c3 := hl1.cell_of (i := 3) rfl
  go_wp2_with (fail)
  refine (HRL.out _).mono ?_
  rintro e w2 ⟨rfl, k2⟩
  clear c0 c1 c2 c3 kp0 hl0 hl1
  have hM2 := (hM1.keep k2).less (b' := w.heap.size) (by simp)
  have k02 := k01.trans k2 (by simp)
  clear hM1 k1 k01 k2
  go_wp2_with (fail)
  obtain ⟨vf0, vr0, hM2⟩ := hM2
  have hRM0 : Blk (w2.alloc (.cells #[.int .i64 1000, .int .i64 1000, .int .i64 1000, .int .i64 0, .string ⟨#[]⟩, .slice none 0 0, .int .i64 0, .int .i64 0, .int .i64 0, .int .i64 0] 36)) w2.heap.size 36 (r5C (mk0 wide5) (.slice none 0 0)) := Blk.new w2 36 (r5C (mk0 wide5) (.slice none 0 0))
  have k23 : Keeps [] w2 (w2.alloc (.cells #[.int .i64 1000, .int .i64 1000, .int .i64 1000, .int .i64 0, .string ⟨#[]⟩, .slice none 0 0, .int .i64 0, .int .i64 0, .int .i64 0, .int .i64 0] 36)) := Keeps.alloc [] w2 _
  have h2s := k02.size
  generalize w2.heap.size = g5 at *
  generalize w2.alloc _ = w3 at *
  have hT0 : Two w w3 g g5 0 (mk0 wide5) vf0 vr0 (.slice none 0 0) := ⟨hM2.keep k23, ⟨hRM0, h2s, Own.nil_ _ _ _ _⟩, by simp [blkOf], upto0 wide5, rfl, (k02.trans k23 (by simp)).below (Nat.le_refl _) (by simp)⟩
  have HT0 := Lib.hid hT0
  clear hT0 hRM0 k23 hM2 k02 h2s
  go_loopw [52] (fun i wr => ∃ (k : Nat) (m : Mk) (vf vr v5 : Value), k ≤ evs.length ∧ i = .int .i64 k ∧ Two w wr g g5 k m vf vr v5) (fun i _ => evs.length - (intOf i).toNat)
  case atStart => exact ⟨0, mk0 wide5, vf0, vr0, .slice none 0 0, Nat.zero_le _, rfl, HT0.out⟩
  case round =>
    obtain ⟨k, m, vf, vr, v5, hk, rfl, hTw⟩ := hrel
    clear HT0
    by_cases hlt : k < evs.length
    · obtain ⟨b1, o1, rfl, hb1, hc1⟩ := ev_cells (hv.below hTw.w (Nat.le_refl _)) k hlt
      have hk0 : (0 : Int) ≤ (k : Int) := by omega
      have hkl : (k : Int) < (evs.length : Int) := by omega
      generalize evs[k] = ev at hc1
      have p0 := hc1 0 _ rfl
      have p1 := hc1 1 _ rfl
      have p2 := hc1 2 _ rfl
      have p3 := hc1 3 _ rfl
      have p4 := hc1 4 _ rfl
      have p5 := hc1 5 _ rfl
      rw [Nat.add_zero] at p0
      have kA : Keeps [] wr (wr.alloc (.cells #[.bool ev.beg, .bool ev.add, .bool ev.fld, .bool ev.lin, .bool ev.rcd, bv ev.b] 38)) := Keeps.alloc [] wr _
      have hEB := Blk.new wr 38 [.bool ev.beg, .bool ev.add, .bool ev.fld, .bool ev.lin, .bool ev.rcd, bv ev.b]
      have hT1 := hTw.keep kA
      have HS := Lib.hid hTw.s
      have HU := Lib.hid hTw.u
      have HTK := Lib.hid (take_c w.heap.size g 77 [] [] m vf vr ev _ hT1.a ⟨by decide, by decide, by decide⟩ (hTw.u.fine (by omega) (by decide) (by decide) (by decide)))
      have HT1 := Lib.hid hT1
      have HEB := Lib.hid hEB
      have HRF := Lib.hid (fun w => lref_c ev w)
      clear hc1 hTw kA hT1 hEB hn1
      go_wp2_with (fail)
      refine HTK.out.mono ?_
      intro r w4 hp
      obtain ⟨Tk, hTk⟩ : ∃ T, take m ev = T := ⟨_, rfl⟩
      have HTKE := Lib.hid hTk
      obtain ⟨v, vf', vr', rfl, hH, hE⟩ := HT1.out.take hTk hp
      have hE4 := hE _ _ HEB.out
      clear hE hTk
      clear hp HTK HT1 HEB p0 p1 p2 p3 p4 p5
      have q0 := hE4.cell_of (i := 0) rfl
      have q1 := hE4.cell_of (i := 1) rfl
      have q2 := hE4.cell_of (i := 2) rfl
      have q3 := hE4.cell_of (i := 3) rfl
      have q4 := hE4.cell_of (i := 4) rfl
      have q5 := hE4.cell_of (i := 5) rfl
      have HH := Lib.hid hH
      clear hH hE4
      go_wp2_with (fail)
      refine (HRF.out _).mono ?_
      rintro r w5 ⟨rfl, k5⟩
      clear q0 q1 q2 q3 q4 q5 HRF
      have hH5 := HH.out.keep k5
      have HRT := Lib.hid (rtake_c w.heap.size g5 k m v5 ev w5 hH5.b HU.out (by omega) HS.out)
      have HH5 := Lib.hid hH5
      clear hH5 k5 HH
      go_wp2_with (fail)
      refine HRT.out.mono ?_
      rw [HTKE.out]
      intro r w6 hp
      obtain ⟨vv, v5', rfl, hvv, hv6, hap1, hap2, hT6⟩ := Half.take HTKE.out HH5.out HU.out (by omega) HS.out hp
      clear hp HRT HH5 HTKE HU HS
      obtain ⟨Tm, Tr, Te⟩ := Tk
      dsimp only at hvv hv6 hT6
      generalize hro : Tr.getD [] = row at *
      dsimp only
      generalize (if Tr.isSome = true then (1 : Int) else 0) = zz
      have HROW := Lib.hid hro
      clear hro
      obtain ⟨Av, cv, rfl, hcv1, hcv2⟩ := hv6.form
      obtain ⟨Aw, cw, rfl, hcw1, hcw2⟩ := hvv.form
      have HSM := Lib.hid (Same.same_c _ _ row row _ _ w6 (hv6.rd (Nat.le_refl _)) (hvv.rd (Nat.le_refl _)))
      rw [decide_eq_true rfl] at HSM
      unfold maxLen at hcv2 hcw2
      have HV6 := Lib.hid hv6
      have HT6 := Lib.hid hT6
      have HAP := Lib.hid (And.intro hap1 hap2)
      clear hv6 hvv hT6 hap1 hap2 hcw1 hcw2
      go_wp2_with (fail)
      refine HSM.out.mono ?_
      rintro r w7 ⟨rfl, m7, hm7⟩
      have hk67 : Keeps [] w6 w7 := by rw [hm7]; exact Keeps.drewN _ _ _
      have hT7 := HT6.out.keep hk67
      have hv7 := HV6.out.keep hk67 (by simp)
      clear hm7 hk67 HSM HT6 HV6
      go_wp2_with (fail)
      have hv7e : ∃ xs, Own w7 w.heap.size 9 1 (.slice Av row.length cv) row.length xs := ⟨_, hv7⟩
      go_loopw [76] (fun i wx => ∃ (j : Nat) (xs : List Value), j ≤ row.length ∧ i = .int .i64 j ∧ Own wx w.heap.size 9 1 (.slice Av row.length cv) row.length xs ∧ Keeps (blkOf (.slice Av row.length cv)) w7 wx) (fun i _ => row.length - (intOf i).toNat)
      case atStart => exact ⟨0, _, Nat.zero_le _, rfl, hv7, Keeps.refl _ _⟩
      case round =>
        obtain ⟨j, xs, hj, rfl, hox, hkx⟩ := hrel
        have HT7 := Lib.hid hT7
        have HO7 := Lib.hid hv7
        clear hT7 hv7 hv7e
        by_cases hjl : j < row.length
        · obtain ⟨gs, os, us, rfl, hgs, hgs2, hus, cus, fus, hset⟩ := hox.at_ hjl
          have hj0 : (0 : Int) ≤ (j : Int) := by omega
          have hjl2 : (j : Int) < (row.length : Int) := by omega
          have HSET := Lib.hid hset
          have HKX := Lib.hid hkx
          clear hset hkx hox
          go_wp2_with (fail)
          exact ⟨⟨j + 1, _, by omega, by go_num, HSET.out _, HKX.out.set1 _ _ (by simp [blkOf])⟩, by simp [intOf]; omega⟩
        · obtain rfl : j = row.length := by omega
          have hT8 := HT7.out.spoil HO7.out HAP.out.1 HAP.out.2 hkx
          have HOP := Lib.hid (open_c w.heap.size g 77 [] [] Tm vf' vr' wr hT8.a (by have := hT8.u.r; omega))
          have HT8 := Lib.hid hT8
          clear hT8 hox hkx HT7 HO7 HAP
          go_wp2_with (fail)
          refine HOP.out.mono ?_
          rintro r w9 ⟨v9, rfl, ho9, k9⟩
          clear HOP
          obtain ⟨A9, c9, rfl, hc91, hc92⟩ := ho9.form
          unfold maxLen at hc92
          have hn5 : ∀ x ∈ blkOf (.slice A9 Tm.record.length c9), x ∉ blkOf v5' := fun x hx h5 => by
            have := (ho9.lt x hx).1; have := (HT8.out.b.rcd.lt x h5).2; omega
          have hnr : ∀ x ∈ blkOf (.slice A9 Tm.record.length c9), x ∉ blkOf vr' := fun x hx h5 => by
            have := (ho9.lt x hx).1; have := (HT8.out.a.rcd.lt x h5).2; omega
          have hT9 := HT8.out.keep k9
          have ho9 := ho9.less (b' := w.heap.size) HT8.out.w.size
          clear HT8 k9
          go_wp2_with (fail)
          go_loopw [90] (fun i wx => ∃ (j : Nat) (xs : List Value), j ≤ Tm.record.length ∧ i = .int .i64 j ∧ Own wx w.heap.size 9 1 (.slice A9 Tm.record.length c9) Tm.record.length xs ∧ Keeps (blkOf (.slice A9 Tm.record.length c9)) w9 wx) (fun i _ => Tm.record.length - (intOf i).toNat)
          case atStart => exact ⟨0, _, Nat.zero_le _, rfl, ho9, Keeps.refl _ _⟩
          case round =>
            obtain ⟨j, xs, hj, rfl, hox, hkx⟩ := hrel
            have HT9 := Lib.hid hT9
            have HO9 := Lib.hid ho9
            have HAP9 := Lib.hid (And.intro hnr hn5)
            clear hT9 ho9 hnr hn5
            by_cases hjl : j < Tm.record.length
            · obtain ⟨gs, os, us, rfl, hgs, hgs2, hus, cus, fus, hset⟩ := hox.at_ hjl
              have hj0 : (0 : Int) ≤ (j : Int) := by omega
              have hjl2 : (j : Int) < (Tm.record.length : Int) := by omega
              have HSET := Lib.hid hset
              have HKX := Lib.hid hkx
              clear hset hkx hox
              go_wp2_with (fail)
              exact ⟨⟨j + 1, _, by omega, by go_num, HSET.out _, HKX.out.set1 _ _ (by simp [blkOf])⟩, by simp [intOf]; omega⟩
            · obtain rfl : j = Tm.record.length := by omega
              have HT10 := Lib.hid (HT9.out.spoil HO9.out HAP9.out.1 HAP9.out.2 hkx)
              clear hox hkx HT9 HO9 HAP9
              go_wp2_with (fail)
              exact ⟨⟨k + 1, Tm, vf', vr', v5', by omega, by go_num, HT10.out⟩, by simp [intOf]; omega⟩
    · obtain rfl : k = evs.length := by omega
      have HOP := Lib.hid (open_c w.heap.size g 77 [] [] m vf vr wr hTw.a (by have := hTw.u.r; omega))
      have HTw := Lib.hid hTw
      clear hTw hv
      go_wp2_with (fail)
      refine HOP.out.mono ?_
      rintro r w4 ⟨v4, rfl, ho4, k4⟩
      clear HOP
      have hT4 := HTw.out.keep k4
      obtain ⟨A4, c4, rfl, hc41, hc42⟩ := ho4.form
      obtain ⟨A5, c5, rfl, hc51, hc52⟩ := hT4.b.rcd.form
      have c5 := hT4.b.c (i := 5) rfl
      have HSM := Lib.hid (Same.same_c _ _ m.record m.record _ _ w4 (ho4.rd (Nat.le_refl _)) (hT4.b.rcd.rd (Nat.le_refl _)))
      rw [decide_eq_true rfl] at HSM
      have hB4 := hT4.w
      clear HTw k4 ho4 hT4
      go_wp2_with (fail)
      refine HSM.out.mono ?_
      rintro r w5 ⟨rfl, m5, rfl⟩
      go_wp2_with (fail)
      refine (HA.out _).mono ?_
      rintro e w6 ⟨rfl, k6⟩
      go_wp2_with (fail)
      go_ret
      exact ⟨rfl, hB4.trans ((((Keeps.refl [] w4).drewN1 m5).trans k6 (by simp)).below hB4.size (by simp))⟩
set_option maxRecDepth 100000 in
theorem lifted (os : Os) (started : os.Started) (H : Type) (enc : TypeId × Value → H) :
    ReturnsInHanded {} Try.checked os 3 .any (Rows.fieldsOwnSpec.pre6 enc Try.prog Try.f3 Rows.fieldsOwnRow.domain false) (Rows.fieldsOwnSpec.post enc Try.prog Try.f3 false true false false) := by
  refine returnsInHanded_of_change_sized (C := Try.checked) own started (by kernel_rfl) Try.func3
    (ChangeSpec.witness6 (enc := enc) (C := Try.checked) false ⟨#[], #[.slice none 0 0], []⟩ 8 (by kernel_rfl) (by kernel_rfl) (by kernel_rfl) (by kernel_rfl)) ?_
  intro W base args ds gs before hval0 hW hcnd hsz0 _
  have hval : ∀ (j : Nat) t v, Try.f3.params[j]? = some t → args[j]? = some v → Value.okWide Try.prog W .any base t v := hval0
  have hW' := hW
  obtain ⟨p, q, hA0, hV, rfl, hfz, hnd⟩ := hW
  have hA : DataW.TrodAll enc Try.prog W 0 (fun _ => true) true Try.f3.params.toList args.toList ds p := hA0
  have hsz : (DataW.weightsEach Try.prog (Try.f3.params.toList ++ Rows.fieldsOwnSpec.plain.varTypes Try.prog) (ds ++ gs)).all (· ≤ reachBytes) = true := hsz0
  rw [Try.params3] at hA hval hsz
  obtain ⟨v0, vs0, d0, ds0, p0, q0, hargs, rfl, rfl, k0, r0⟩ := trodAll_cons hA
  obtain ⟨rfl, rfl, rfl⟩ := trodAll_nil r0
  obtain rfl : args = #[v0] := by cases args; simp_all
  obtain ⟨rfl, rfl⟩ := trodVars_none hV
  have lt0 := Trod_lt k0
  obtain ⟨ev0, rd0⟩ := Trod_events Try.underlying22 (by kernel_rfl) Try.underlying38 (by kernel_rfl) Try.underlying4 Try.underlying4 Try.underlying4 Try.underlying4 Try.underlying4 Try.underlying5 (hval 0 22 v0 rfl rfl) k0
  clear hA0 hval0 hsz0
  refine (walk _ ev0 W rd0).mono fun e W' ⟨he, bel⟩ => ?_
  subst he
  exact ⟨_, rfl, _, _, _, [], _, [], hW', trodAll_mk1 (shut_bool Try.underlying4 _), (trodAll_cons_mk (Below.trod laidOut (by kernel_rfl) (of_decide_eq_true (by kernel_rfl)) k0 bel lt0) trodAll_mk0), rfl, bel.frame _, fun h => by cases h⟩

theorem proved : Rows.FieldsOwnSaid :=
  OpenClaim.holds_of_wide 3 Try.f3 rfl rfl rfl rfl rfl rfl rfl ⟨rfl, rfl, rfl, rfl, rfl⟩ rfl rfl rfl rfl rfl (by kernel_rfl) Try.func3 (by kernel_rfl)
    (of_decide_eq_true (by kernel_rfl)) (by unfold Func.isWrapper; first | (rw [if_pos (by decide +kernel)]; kernel_rfl) | (rw [if_neg (by decide +kernel)]; exact ⟨rfl, rfl⟩))
    (fun os started H enc _ => lifted os started H enc)
end Go.Proofs.Ytogmcfljojobfaa.FieldsOwnP
namespace Go.Proofs.Ytogmcfljojobfaa
theorem fieldsOwn_holds : Rows.FieldsOwnSaid := FieldsOwnP.proved
#print axioms fieldsOwn_holds
end Go.Proofs.Ytogmcfljojobfaa
