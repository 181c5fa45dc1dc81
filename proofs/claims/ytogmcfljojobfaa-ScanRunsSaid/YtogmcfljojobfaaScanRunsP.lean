/- PROVED: for every dialect d and string s, ScanRuns(d, s) returns true. No condition. -/
import Derived.Test.YtogmcfljojobfaaRows
import Derived.Test.YtogmcfljojobfaaAwake4
import Derived.Test.YtogmcfljojobfaaRef4S
import Derived.Test.YtogmcfljojobfaaOpenD
namespace Go.Proofs.Ytogmcfljojobfaa.ScanRunsP
set_option linter.unusedVariables false
set_option linter.unusedSimpArgs false
open Go.ChangeShapes Go.WideShapes Go.ChangeAt Go.RowKit Q Mach Dia Scan Ref4 Eq_
attribute [local go_sem ↓] Go.wp_at_zero Go.wp_at_succ

theorem own : ownKnob Try.prog.godebug = none := by kernel_rfl
theorem laidOut : laidOutB Try.prog = true := by kernel_rfl
theorem evC_len (es : List Ev) : (es.flatMap evC).length = es.length * 6 := by
  induction es with
  | nil => rfl
  | cons e es ih => simp only [List.flatMap_cons, List.length_append, ih, List.length_cons]; simp [evC]; omega
theorem evC_at (es : List Ev) : ∀ (k j : Nat) (hk : k < es.length), j < 6 → (es.flatMap evC)[k * 6 + j]? = (evC es[k])[j]? := by
  induction es with
  | nil => intro k j hk; simp at hk
  | cons e es ih =>
    intro k j hk hj
    rw [List.flatMap_cons]
    match k, hk with
    | 0, hk => rw [List.getElem?_append_left (by simp [evC]; omega)]; simp
    | k + 1, hk =>
      rw [List.getElem?_append_right (by simp [evC]; omega)]
      have : (k + 1) * 6 + j - (evC e).length = k * 6 + j := by simp [evC]; omega
      rw [this, ih k j (by simpa using hk) hj]
      rfl
/-- The six cells of an event of a slice that reads. -/
theorem ev_cells {w : World} {B n c : Nat} {A : Option Addr} {es : List Ev} (h : Rd w B 6 (.slice A n c) n (es.flatMap evC)) (k : Nat) (hk : k < es.length) :
    ∃ b off, A = some ⟨b, off, none⟩ ∧ b < B ∧ ∀ j u, (evC es[k])[j]? = some u → w.cell? ⟨b, off + k * 6 + j, none⟩ = some u := by
  obtain ⟨A', c', hv, hn, hc, hl, hx⟩ := h
  injection hv with h1 _ _
  subst h1
  rcases hx with hx | ⟨b, off, rfl, hb, hcell⟩
  · have := congrArg List.length hx
    rw [evC_len] at this
    simp at this
    omega
  · refine ⟨b, off, rfl, hb, fun j u hu => ?_⟩
    have hj : j < 6 := by have := (List.getElem?_eq_some_iff.1 hu).1; simpa [evC] using this
    rw [Nat.add_assoc]
    exact hcell _ _ ((evC_at es k j hk hj).trans hu)


/-- What was told, step by step: k steps are over, the state is st. -/
def Inv (E : List Ev × Nat × Nat) (d : Dia) (l : List UInt8) (k st : Nat) : Prop :=
  (k ≤ l.length ∧ ∃ pre, pre.length = k ∧ E = (pre ++ (runE d st (l.drop k) k).1, (runE d st (l.drop k) k).2)) ∨ (k = l.length + 1 ∧ E.1.length = l.length + 1 ∧ E.2 = (0, 0))
def Stp (E : List Ev × Nat × Nat) (d : Dia) (l : List UInt8) (k n r : Nat) (e : Ev) : Prop :=
  (r ≠ 0 → E.1.length = k ∧ E.2 = (r, k)) ∧ (r = 0 → E.1[k]? = some e ∧ Inv E d l (k + 1) n)
theorem stp_step {E : List Ev × Nat × Nat} {d : Dia} {l : List UInt8} {k st : Nat} (h : Inv E d l k st) (hk : k < l.length) : Stp E d l k (Mach.step d st l[k]).2.1 (Mach.step d st l[k]).2.2 (Mach.step d st l[k]).1 := by
  rcases h with ⟨_, pre, hp, hE⟩ | ⟨h, _⟩
  · subst hp
    rw [List.drop_eq_getElem_cons hk, runE] at hE
    refine ⟨fun hr => ?_, fun hr => ?_⟩
    · rw [if_pos (by simpa using hr)] at hE
      rw [hE]
      simp
    · rw [if_neg (by simp [hr])] at hE
      refine ⟨by rw [hE]; simp, .inl ⟨by omega, pre ++ [(Mach.step d st l[pre.length]).1], by simp, by rw [hE]; simp⟩⟩
  · omega
theorem stp_close {E : List Ev × Nat × Nat} {d : Dia} {l : List UInt8} {st : Nat} (h : Inv E d l l.length st) : Stp E d l l.length st (closeEv st).2 (closeEv st).1 := by
  rcases h with ⟨_, pre, hp, hE⟩ | ⟨h, _⟩
  · rw [List.drop_length, runE] at hE
    refine ⟨fun hr => ?_, fun hr => ?_⟩
    · rw [if_pos (by simpa using hr)] at hE
      rw [hE]
      simp [hp]
    · rw [if_neg (by simp [hr])] at hE
      refine ⟨by rw [hE]; simp [← hp], .inr ⟨rfl, by rw [hE]; simp [hp], by rw [hE]⟩⟩
  · omega
theorem inv0 (d : Dia) (l : List UInt8) : Inv (runE d 0 l 0) d l 0 0 := .inl ⟨Nat.zero_le _, [], rfl, by simp⟩
/-- Ahead of the tail of a round: what the document said, in 'want', and what it means. -/
def Mid (E : List Ev × Nat × Nat) (d : Dia) (l : List UInt8) (k g : Nat) (w0 wr : World) (v7 v10 : Value) (wx : World) : Prop :=
  ∃ (e : Ev) (n r : Nat), n ≤ 6 ∧ v7 = .int .i64 n ∧ v10 = .int .i64 r ∧ Blk wx g 44 [.int .i64 (Ref4.one e.beg), .int .i64 (Ref4.one e.add), .int .i64 (Ref4.one e.fld), .int .i64 (Ref4.one e.lin), .int .i64 (Ref4.one e.rcd), .int .i64 e.b.toNat] ∧ Stp E d l k n r e ∧ Keeps [g] w0 wx

set_option maxRecDepth 100000 in
set_option maxHeartbeats 4000000 in
theorem walk (d : Dia) (l : List UInt8) (w : World) : Calls Try.prog 8 #[diaV d, sv l] w fun e w' => e = .returned (.bool true) ∧ Below w.heap.size w w' := by
  have HA := Lib.hid awake4_c
  have HR := Lib.hid (fun w => ref_c d w)
  have HRR := Lib.hid (fun w => right_c d w)
  have kp : Keeps [] w (w.alloc (.cells #[bv d.delim, bv d.quote, .int .i64 d.fin] 54)) := Keeps.alloc [] w _
  have hbx := Blk.new w 54 [bv d.delim, bv d.quote, .int .i64 d.fin]
  by_cases h2 : 300 < l.length
  · have h2' : decide (300 < (l.length : Int)) = true := by simp; omega
    obtain ⟨x, y, z⟩ := d
    go_enter Try.func8, Try.ntmps8
    go_wp2_with (fail)
    refine (HA.out _).mono ?_
    rintro e w1 ⟨rfl, k1⟩
    go_wp2_with (fail)
    go_ret
    exact ⟨rfl, (kp.trans k1 (by simp)).below (Nat.le_refl _) (by simp)⟩
  have h2' : decide (300 < (l.length : Int)) = false := by simp; omega
  have HRUN := Lib.hid (fun w => run_c d l (by omega) w)
  cases hr : d.right
  · rw [hr] at HRR
    clear hr HRUN
    obtain ⟨x, y, z⟩ := d
    go_enter Try.func8, Try.ntmps8
    go_wp2_with (fail)
    refine (HR.out _).mono ?_
    rintro e w1 ⟨rfl, k1⟩
    go_wp2_with (fail)
    refine (HRR.out _).mono ?_
    rintro e w2 ⟨rfl, k2⟩
    go_wp2_with (fail)
    refine (HA.out _).mono ?_
    rintro e w3 ⟨rfl, k3⟩
    go_wp2_with (fail)
    go_ret
    exact ⟨rfl, (((kp.trans k1 (by simp)).trans k2 (by simp)).trans k3 (by simp)).below (Nat.le_refl _) (by simp)⟩
  rw [hr] at HRR
  have hqd : mayPart d.quote = true ∧ mayPart d.delim = true := by
    unfold Dia.right at hr
    simp only [Bool.and_eq_true] at hr
    exact ⟨hr.1.1.2, hr.1.1.1⟩
  have HS := Lib.hid (fun st (hst : st ≤ 6) b w => rstep_c d st hst b hqd.1 hqd.2 w)
  have HC := Lib.hid (fun st (hst : st ≤ 6) w => rclose_c st hst w)
  have HI0 := Lib.hid (inv0 d l)
  have HLE := Lib.hid (fun st b hst => step_le d st b hst)
  clear hr hqd
  have hl300 : l.length ≤ 300 := by omega
  clear h2
  have eqF := fun a b a' b' (w : World) => eqFault a b a' b' w
  obtain ⟨x, y, z⟩ := d
  go_enter Try.func8, Try.ntmps8
  go_wp2_with (fail)
  refine (HR.out _).mono ?_
  rintro e w1 ⟨rfl, k1⟩
  go_wp2_with (fail)
  refine (HRR.out _).mono ?_
  rintro e w2 ⟨rfl, k2⟩
  have kk := (kp.trans k1 (by simp)).trans k2 (by simp)
  have hb2 := (hbx.keep k1 (by simp)).keep k2 (by simp)
  have d0 := hb2.cell_of (i := 0) rfl
  have d1 := hb2.cell_of (i := 1) rfl
  have d2 := hb2.cell_of (i := 2) rfl
  clear k1 k2 hbx kp h2'
  go_wp2_with (fail)
  refine (HRUN.out _).mono ?_
  rintro e w3 hrun
  obtain ⟨v, rfl, hown, k3⟩ := hrun
  generalize hX : runE ⟨x, y, z⟩ 0 l 0 = E at *
  obtain ⟨es, kd, at_⟩ := E
  have k03 := (kk.trans k3 (by simp)).alloc1 (.cells #[.int .i64 kd, .int .i64 at_] 70)
  have hb3 := (hb2.keep k3 (by simp)).alloc (.cells #[.int .i64 kd, .int .i64 at_] 70)
  have hf3 := Blk.new w3 70 [.int .i64 kd, .int .i64 at_]
  have hown3 := hown.keep (Keeps.alloc [] w3 (.cells #[.int .i64 kd, .int .i64 at_] 70)) (by simp)
  have hwl : w.heap.size < w3.heap.size := by have := (hb2.keep k3 (by simp)).lt; omega
  obtain ⟨A1, c1, rfl, hn1, hm1⟩ := hown.form
  clear d0 d1 d2 hb2 kk k3 hX hown HRUN HRR
  unfold maxLen at hm1
  go_wp2_with (fail)
  generalize hgf : w3.heap.size = gf at *
  generalize w3.alloc (.cells #[.int .i64 kd, .int .i64 at_] 70) = w4 at *
  have hrd := hown3.rd (B := w4.heap.size) (Nat.le_refl _)
  clear hown3 hgf
  have hgf4 := hf3.lt
  have hw4 := hb3.lt
  go_loopw [7, 8] (fun s i wr => ∃ k st : Nat, k ≤ l.length + 1 ∧ st ≤ 6 ∧ i = .int .i64 k ∧ s = .int .i64 st ∧ Inv (es, kd, at_) ⟨x, y, z⟩ l k st ∧ Keeps [] w4 wr) (fun _ i _ => l.length + 1 - (intOf i).toNat)
  case atStart => exact ⟨0, 0, by omega, by omega, rfl, rfl, HI0.out, Keeps.refl _ _⟩
  case round =>
    obtain ⟨k, st, hk, hst, rfl, rfl, hinv, hkp⟩ := hrel
    have HINV := Lib.hid hinv
    clear hinv HI0
    by_cases hlt : k ≤ l.length
    · have hle' : decide ((k : Int) ≤ (l.length : Int)) = true := by simp; omega
      have hb4 := hb3.keep hkp (by simp)
      have hf4 := hf3.keep hkp (by simp)
      have hrd4 := (hrd.keepF hkp (by simp)).more (B' := wr.heap.size) hkp.size
      have hszr := hkp.size
      clear hb3 hf3 hrd
      have hw := Blk.new wr 44 [.int .i64 0, .int .i64 0, .int .i64 0, .int .i64 0, .int .i64 0, .int .i64 0]
      go_upto_if 36 with (fail)
      have hd5 := hb4.alloc (.cells #[.int .i64 0, .int .i64 0, .int .i64 0, .int .i64 0, .int .i64 0, .int .i64 0] 44)
      have hf5 := hf4.alloc (.cells #[.int .i64 0, .int .i64 0, .int .i64 0, .int .i64 0, .int .i64 0, .int .i64 0] 44)
      have hrd5 := hrd4.below ((Below.refl wr.heap.size wr).alloc (Nat.le_refl _) (.cells #[.int .i64 0, .int .i64 0, .int .i64 0, .int .i64 0, .int .i64 0, .int .i64 0] 44)) (Nat.le_refl _)
      have k45 := hkp.alloc1 (.cells #[.int .i64 0, .int .i64 0, .int .i64 0, .int .i64 0, .int .i64 0, .int .i64 0] 44)
      have hd4l := hb4.lt
      have hf4l := hf4.lt
      clear hb4 hf4 hrd4 hkp
      generalize hg9 : wr.heap.size = g9 at *
      generalize wr.alloc (.cells #[.int .i64 0, .int .i64 0, .int .i64 0, .int .i64 0, .int .i64 0, .int .i64 0] 44) = w5 at *
      clear hg9
      have hw5l := hw.lt
      go_cut [7, 10] (fun v7 v10 wx => Mid (es, kd, at_) ⟨x, y, z⟩ l k g9 w5 w5 v7 v10 wx)
      case first =>
        clear hf5 hrd5 k45 HA eqF
        by_cases hlt2 : k < l.length
        · have hkl : decide (k < l.length) = true := by simpa using hlt2
          have HX := Lib.hid (fun w => HS.out st hst l[k] w)
          have hle := HLE.out st l[k] hst
          have HST := Lib.hid (stp_step HINV.out hlt2)
          have hi := str_idx (P := Try.prog) Try.underlying9 l k l[k] (List.getElem?_eq_getElem hlt2)
          have hwr := wrap_u8 l[k]
          have hk0 : (0 : Int) ≤ (k : Int) := by omega
          have hki : (k : Int) < (l.length : Int) := by omega
          clear HS HC HLE HINV
          generalize Mach.step ⟨x, y, z⟩ st l[k] = X at *
          generalize l[k] = b at *
          obtain ⟨⟨e1, e2, e3, e4, e5, e6⟩, n, r⟩ := X
          simp only [rstepV] at HX
          have hwrp : IntKind.i64.wrap (b.toNat : Int) = (b.toNat : Int) := IntWalk.i64_in _ (by omega)
          have c0 := hd5.cell_of (i := 0) rfl
          have c1' := hd5.cell_of (i := 1) rfl
          have c2 := hd5.cell_of (i := 2) rfl
          go_upto_region 11 with (fail)
          have HS := fun w' (hb : Below (g9) (w5) w') => ((⟨(hb.cell (p := ⟨w.heap.size, 0, none⟩) (hd4l)).trans (c0), (hb.cell (p := ⟨w.heap.size, 1, none⟩) (hd4l)).trans (c1'), (hb.cell (p := ⟨w.heap.size, 2, none⟩) (hd4l)).trans (c2), hb⟩) : w'.cell? ⟨w.heap.size, 0, none⟩ = some (bv x) ∧ w'.cell? ⟨w.heap.size, 1, none⟩ = some (bv y) ∧ w'.cell? ⟨w.heap.size, 2, none⟩ = some (.int .i64 z) ∧ Below (g9) (w5) w')
          have HSb : g9 ≤ (w5).heap.size := Nat.le_of_lt hw5l
          go_region_held3 (fun w' => w'.cell? ⟨w.heap.size, 0, none⟩ = some (bv x) ∧ w'.cell? ⟨w.heap.size, 1, none⟩ = some (bv y) ∧ w'.cell? ⟨w.heap.size, 2, none⟩ = some (.int .i64 z) ∧ Below (g9) (w5) w') (((try go_split_ands); (with_reducible apply HS); first | (with_reducible assumption) | (with_reducible (apply bC HSb k1; assumption)) | (with_reducible (apply bAA HSl; assumption)) | (repeat (first | (with_reducible assumption) | (with_reducible apply Below.refl) | (with_reducible apply bS (hp := HSb)) | (with_reducible apply bSe) | (with_reducible apply bA HSb) | (with_reducible apply bD))))) ((first | ((go_at_call 22; refine (HR.out _).mono ?_; rintro e wa ⟨rfl, k1⟩; have ka := k1; (first | (with_reducible have hqa := hw.drew.keep ka (by simp)) | skip))) | ((go_at_call 25; refine (HX.out _).mono ?_; rintro e wb ⟨rfl, k1⟩; have kb := k1; (first | ((with_reducible have hqb := hqa.keep kb (by simp)); have q0 := hqb.cell_of (i := 0) rfl; have f0 := hqb.frozen (i := 0) (by simp); have q1 := hqb.cell_of (i := 1) rfl; have f1 := hqb.frozen (i := 1) (by simp); have q2 := hqb.cell_of (i := 2) rfl; have f2 := hqb.frozen (i := 2) (by simp); have q3 := hqb.cell_of (i := 3) rfl; have f3 := hqb.frozen (i := 3) (by simp); have q4 := hqb.cell_of (i := 4) rfl; have f4 := hqb.frozen (i := 4) (by simp); have q5 := hqb.cell_of (i := 5) rfl; have f5 := hqb.frozen (i := 5) (by simp)) | skip)))))
          all_goals (go_wp2_with (fail); go_meet)
          all_goals exact ⟨⟨e1, e2, e3, e4, e5, e6⟩, n, r, hle, rfl, rfl, ((((((hqb.set_ 0 _).set_ 1 _).set_ 2 _).set_ 3 _).set_ 4 _).set_ 5 _), HST.out, ((((((((((Keeps.drew [] w5).trans ka (by simp)).trans kb (by simp)).sub (F' := [g9]) (by simp)).set1 _ _ (by simp)).set1 _ _ (by simp)).set1 _ _ (by simp)).set1 _ _ (by simp)).set1 _ _ (by simp)).set1 _ _ (by simp))⟩
        · obtain rfl : k = l.length := by omega
          have hkl : decide (l.length < l.length) = false := by simp
          have HX := Lib.hid (fun w => HC.out st hst w)
          have HST := Lib.hid (stp_close HINV.out)
          clear HS HC HLE HINV
          generalize closeEv st = X at *
          obtain ⟨⟨e1, e2, e3, e4, e5, e6⟩, r⟩ := X
          simp only [rcloseV] at HX
          go_wp2_with (fail)
          refine (HX.out _).mono ?_
          rintro e wb ⟨rfl, kb⟩
          have hqb := hw.keep kb (by simp)
          have q0 := hqb.cell_of (i := 0) rfl
          have f0 := hqb.frozen (i := 0) (by simp)
          have q1 := hqb.cell_of (i := 1) rfl
          have f1 := hqb.frozen (i := 1) (by simp)
          have q2 := hqb.cell_of (i := 2) rfl
          have f2 := hqb.frozen (i := 2) (by simp)
          have q3 := hqb.cell_of (i := 3) rfl
          have f3 := hqb.frozen (i := 3) (by simp)
          have q4 := hqb.cell_of (i := 4) rfl
          have f4 := hqb.frozen (i := 4) (by simp)
          have q5 := hqb.cell_of (i := 5) rfl
          have f5 := hqb.frozen (i := 5) (by simp)
          go_wp2_with (fail)
          go_meet
          exact ⟨⟨e1, e2, e3, e4, e5, e6⟩, st, r, hst, rfl, rfl, ((((((hqb.set_ 0 _).set_ 1 _).set_ 2 _).set_ 3 _).set_ 4 _).set_ 5 _), HST.out, (((((((kb.sub (F' := [g9]) (by simp)).set1 _ _ (by simp)).set1 _ _ (by simp)).set1 _ _ (by simp)).set1 _ _ (by simp)).set1 _ _ (by simp)).set1 _ _ (by simp))⟩
      case rest =>
        obtain ⟨⟨e1, e2, e3, e4, e5, e6⟩, n, r, hn6, rfl, rfl, hqb, hstp, kx⟩ := hcut
        have hf6 := hf5.keep kx (by simp; omega)
        have hrd6 := (hrd5.keep (w' := wc) (B := g9) (fun p hp => kx.cell (by omega) (by simp; omega)))
        have k46 := k45.trans kx (by intro a ha hl; simp at ha; omega)
        have HSTP := Lib.hid hstp
        clear hstp hf5 hrd5 k45 kx hd5 hw HS HC HLE HINV HR
        have r0 := hf6.cell_of (i := 0) rfl
        have r1 := hf6.cell_of (i := 1) rfl
        by_cases hr0 : r = 0
        · subst hr0
          obtain ⟨hev, hinv1⟩ := HSTP.out.2 rfl
          simp only at hev
          obtain ⟨hks, hev'⟩ := List.getElem?_eq_some_iff.1 hev
          obtain ⟨b1, o1, rfl, hb1, hc1⟩ := ev_cells hrd6 k hks
          rw [hev'] at hc1
          have p0 := hc1 0 _ rfl
          have p1 := hc1 1 _ rfl
          have p2 := hc1 2 _ rfl
          have p3 := hc1 3 _ rfl
          have p4 := hc1 4 _ rfl
          have p5 := hc1 5 _ rfl
          rw [Nat.add_zero] at p0
          have s0 := hqb.cell_of (i := 0) rfl
          have s1 := hqb.cell_of (i := 1) rfl
          have s2 := hqb.cell_of (i := 2) rfl
          have s3 := hqb.cell_of (i := 3) rfl
          have s4 := hqb.cell_of (i := 4) rfl
          have s5 := hqb.cell_of (i := 5) rfl
          have hg9l := hqb.lt
          have hb1 : b1 < wc.heap.size := by omega
          have HI1 := Lib.hid hinv1
          have HL := Lib.hid (fun w => lref_c ⟨e1, e2, e3, e4, e5, e6⟩ w)
          have heq := fun w => eqREvent (Ref4.one e1) (Ref4.one e2) (Ref4.one e3) (Ref4.one e4) (Ref4.one e5) e6.toNat (Ref4.one e1) (Ref4.one e2) (Ref4.one e3) (Ref4.one e4) (Ref4.one e5) e6.toNat w
          simp only [beq_self_eq_true, Bool.and_self] at heq
          have hge : decide ((es.length : Int) ≤ (k : Int)) = false := by simp; omega
          have hge' : decide (es.length ≤ k) = false := by simp; omega
          have hk0 : (0 : Int) ≤ (k : Int) := by omega
          have hki : (k : Int) < (es.length : Int) := by omega
          have hzz : ((0 : Int) != 0) = false := by decide
          clear hev hev' hinv1 HSTP hc1 hqb hf6 r0 r1 HA hrd6 eqF
          go_upto_region 15 with (fail)
          have HS := fun w' (hb : Below (wc.heap.size) (wc) w') => ((⟨(hb.cell (p := ⟨b1, o1 + k * 6, none⟩) (hb1)).trans (p0), (hb.cell (p := ⟨b1, o1 + k * 6 + 1, none⟩) (hb1)).trans (p1), (hb.cell (p := ⟨b1, o1 + k * 6 + 2, none⟩) (hb1)).trans (p2), (hb.cell (p := ⟨b1, o1 + k * 6 + 3, none⟩) (hb1)).trans (p3), (hb.cell (p := ⟨b1, o1 + k * 6 + 4, none⟩) (hb1)).trans (p4), (hb.cell (p := ⟨b1, o1 + k * 6 + 5, none⟩) (hb1)).trans (p5), (hb.cell (p := ⟨g9, 0, none⟩) (hg9l)).trans (s0), (hb.cell (p := ⟨g9, 1, none⟩) (hg9l)).trans (s1), (hb.cell (p := ⟨g9, 2, none⟩) (hg9l)).trans (s2), (hb.cell (p := ⟨g9, 3, none⟩) (hg9l)).trans (s3), (hb.cell (p := ⟨g9, 4, none⟩) (hg9l)).trans (s4), (hb.cell (p := ⟨g9, 5, none⟩) (hg9l)).trans (s5), hb⟩) : w'.cell? ⟨b1, o1 + k * 6, none⟩ = some (.bool e1) ∧ w'.cell? ⟨b1, o1 + k * 6 + 1, none⟩ = some (.bool e2) ∧ w'.cell? ⟨b1, o1 + k * 6 + 2, none⟩ = some (.bool e3) ∧ w'.cell? ⟨b1, o1 + k * 6 + 3, none⟩ = some (.bool e4) ∧ w'.cell? ⟨b1, o1 + k * 6 + 4, none⟩ = some (.bool e5) ∧ w'.cell? ⟨b1, o1 + k * 6 + 5, none⟩ = some (bv e6) ∧ w'.cell? ⟨g9, 0, none⟩ = some (.int .i64 (Ref4.one e1)) ∧ w'.cell? ⟨g9, 1, none⟩ = some (.int .i64 (Ref4.one e2)) ∧ w'.cell? ⟨g9, 2, none⟩ = some (.int .i64 (Ref4.one e3)) ∧ w'.cell? ⟨g9, 3, none⟩ = some (.int .i64 (Ref4.one e4)) ∧ w'.cell? ⟨g9, 4, none⟩ = some (.int .i64 (Ref4.one e5)) ∧ w'.cell? ⟨g9, 5, none⟩ = some (.int .i64 e6.toNat) ∧ Below (wc.heap.size) (wc) w')
          have HSb : wc.heap.size ≤ (wc).heap.size := Nat.le_refl _
          go_region_held3 (fun w' => w'.cell? ⟨b1, o1 + k * 6, none⟩ = some (.bool e1) ∧ w'.cell? ⟨b1, o1 + k * 6 + 1, none⟩ = some (.bool e2) ∧ w'.cell? ⟨b1, o1 + k * 6 + 2, none⟩ = some (.bool e3) ∧ w'.cell? ⟨b1, o1 + k * 6 + 3, none⟩ = some (.bool e4) ∧ w'.cell? ⟨b1, o1 + k * 6 + 4, none⟩ = some (.bool e5) ∧ w'.cell? ⟨b1, o1 + k * 6 + 5, none⟩ = some (bv e6) ∧ w'.cell? ⟨g9, 0, none⟩ = some (.int .i64 (Ref4.one e1)) ∧ w'.cell? ⟨g9, 1, none⟩ = some (.int .i64 (Ref4.one e2)) ∧ w'.cell? ⟨g9, 2, none⟩ = some (.int .i64 (Ref4.one e3)) ∧ w'.cell? ⟨g9, 3, none⟩ = some (.int .i64 (Ref4.one e4)) ∧ w'.cell? ⟨g9, 4, none⟩ = some (.int .i64 (Ref4.one e5)) ∧ w'.cell? ⟨g9, 5, none⟩ = some (.int .i64 e6.toNat) ∧ Below (wc.heap.size) (wc) w') (((try go_split_ands); (with_reducible apply HS); first | (with_reducible assumption) | (with_reducible (apply bC HSb k1; assumption)) | (with_reducible (apply bAA HSl; assumption)) | (repeat (first | (with_reducible assumption) | (with_reducible apply Below.refl) | (with_reducible apply bS (hp := HSb)) | (with_reducible apply bSe) | (with_reducible apply bA HSb) | (with_reducible apply bD))))) (((go_at_call 15; refine (HL.out _).mono ?_; rintro e wa ⟨rfl, k1⟩)))
          go_split_ands
          have hBw : Below wc.heap.size wc wa := by assumption
          go_wp2_with (fail)
          exact ⟨⟨k + 1, n, by omega, hn6, by go_num, rfl, HI1.out, k46.trans (Keeps.of_below hBw []) (by simp)⟩, by simp [intOf]; omega⟩
        · have hr : ((r : Int) != 0) = true := by simpa using hr0
          obtain ⟨hE1, hE2⟩ := HSTP.out.1 hr0
          simp only at hE1 hE2
          injection hE2 with hE3 hE4
          subst hE1 hE3 hE4
          clear HSTP hr0
          have hee : ((es.length : Int) == (es.length : Int)) = true := by simp
          go_wp2_with (fail)
          refine (HA.out _).mono ?_
          rintro e w7 ⟨rfl, k7⟩
          go_wp2_with (fail)
          go_ret
          exact ⟨rfl, ((k03.trans k46 (by simp)).trans k7 (by simp)).below (Nat.le_refl _) (by simp)⟩
    · obtain rfl : k = l.length + 1 := by omega
      have hle' : decide (((l.length + 1 : Nat) : Int) ≤ (l.length : Int)) = false := by simp; omega
      have hle2 : decide (l.length + 1 ≤ l.length) = false := by simp
      have hfin : es.length = l.length + 1 ∧ kd = 0 ∧ at_ = 0 := by
        rcases HINV.out with ⟨h, _⟩ | ⟨_, h1, h2⟩
        · omega
        · simp only at h1 h2
          injection h2 with h2 h3
          exact ⟨h1, h2, h3⟩
      obtain ⟨hE1, rfl, rfl⟩ := hfin
      have hf4 := hf3.keep hkp (by simp)
      have r0 := hf4.cell_of (i := 0) rfl
      have r1 := hf4.cell_of (i := 1) rfl
      have hEE : ((es.length : Int) == (l.length : Int) + 1) = true := by rw [beq_iff_eq]; omega
      have hk04 := k03.trans hkp (by simp)
      clear hE1 hf4 hf3 hb3 hrd HINV HS HC HLE HR hkp k03
      go_wp2_with (fail)
      refine (HA.out _).mono ?_
      rintro e w7 ⟨rfl, k7⟩
      go_wp2_with (fail)
      go_ret
      exact ⟨rfl, (hk04.trans k7 (by simp)).below (Nat.le_refl _) (by simp)⟩
set_option maxRecDepth 100000 in
theorem lifted (os : Os) (started : os.Started) (H : Type) (enc : TypeId × Value → H) :
    ReturnsInHanded {} Try.checked os 8 .any (Rows.scanRunsSpec.pre6 enc Try.prog Try.f8 Rows.scanRunsRow.domain false) (Rows.scanRunsSpec.post enc Try.prog Try.f8 false true false false) := by
  refine returnsInHanded_of_change_sized (C := Try.checked) own started (by kernel_rfl) Try.func8
    (ChangeSpec.witness6 (enc := enc) (C := Try.checked) false ⟨#[], #[.agg #[.int .u8 0, .int .u8 0, .int .i64 0], .string .empty], []⟩ 8 (by kernel_rfl) (by kernel_rfl) (by kernel_rfl) (by kernel_rfl)) ?_
  intro W base args ds gs before hval0 hW hcnd hsz0 _
  have hval : ∀ (j : Nat) t v, Try.f8.params[j]? = some t → args[j]? = some v → Value.okWide Try.prog W .any base t v := hval0
  have hW' := hW
  obtain ⟨p, q, hA0, hV, rfl, hfz, hnd⟩ := hW
  have hA : DataW.TrodAll enc Try.prog W 0 (fun _ => true) true Try.f8.params.toList args.toList ds p := hA0
  have hsz : (DataW.weightsEach Try.prog (Try.f8.params.toList ++ Rows.scanRunsSpec.plain.varTypes Try.prog) (ds ++ gs)).all (· ≤ reachBytes) = true := hsz0
  rw [Try.params8] at hA hval hsz
  obtain ⟨v0, vs0, d0, ds0, p0, q0, hargs, rfl, rfl, k0, r0⟩ := trodAll_cons hA
  obtain ⟨v1, vs1, d1, ds1, p1, q1, rfl, rfl, rfl, k1, r1⟩ := trodAll_cons r0
  obtain ⟨rfl, rfl, rfl⟩ := trodAll_nil r1
  obtain rfl : args = #[v0, v1] := by cases args; simp_all
  obtain ⟨rfl, rfl⟩ := trodVars_none hV
  have lt0 := Trod_lt k0
  have lt1 := Trod_lt k1
  obtain ⟨x0, y0, z0, rfl, hz0⟩ := Trod_dialect Try.underlying54 (by kernel_rfl) (by kernel_rfl) Try.underlying5 Try.underlying5 Try.underlying3 (hval 0 54 v0 rfl rfl) k0
  obtain ⟨l1, rfl, hl1⟩ := Trod_str Try.underlying9 (hval 1 9 v1 rfl rfl) k1 (wt_of hsz (j := 1) rfl rfl)
  clear hA0 hval0 hsz0
  refine (walk ⟨x0, y0, z0⟩ l1 W).mono fun e W' ⟨he, bel⟩ => ?_
  subst he
  exact ⟨_, rfl, _, _, _, [], _, [], hW', trodAll_mk1 (shut_bool Try.underlying4 _), (trodAll_cons_mk (Below.trod laidOut (by kernel_rfl) (of_decide_eq_true (by kernel_rfl)) k0 bel lt0) (trodAll_cons_mk (Below.trod laidOut (by kernel_rfl) (of_decide_eq_true (by kernel_rfl)) k1 bel lt1) trodAll_mk0)), rfl, bel.frame _, fun h => by cases h⟩

theorem proved : Rows.ScanRunsSaid :=
  OpenClaim.holds_of_wide 8 Try.f8 rfl rfl rfl rfl rfl rfl rfl ⟨rfl, rfl, rfl, rfl, rfl⟩ rfl rfl rfl rfl rfl (by kernel_rfl) Try.func8 (by kernel_rfl)
    (of_decide_eq_true (by kernel_rfl)) (by unfold Func.isWrapper; first | (rw [if_pos (by decide +kernel)]; kernel_rfl) | (rw [if_neg (by decide +kernel)]; exact ⟨rfl, rfl⟩))
    (fun os started H enc _ => lifted os started H enc)
end Go.Proofs.Ytogmcfljojobfaa.ScanRunsP
namespace Go.Proofs.Ytogmcfljojobfaa
theorem scanRuns_holds : Rows.ScanRunsSaid := ScanRunsP.proved
#print axioms scanRuns_holds
end Go.Proofs.Ytogmcfljojobfaa
