/- PROVED: for every dialect d and string s, ScanEither(d, s) returns true. No condition. -/
import Derived.Test.YtogmcfljojobfaaRows
import Derived.Test.YtogmcfljojobfaaAwake4
import Derived.Test.YtogmcfljojobfaaOpenD
namespace Go.Proofs.Ytogmcfljojobfaa.ScanEitherP
set_option linter.unusedVariables false
set_option linter.unusedSimpArgs false
open Go.ChangeShapes Go.WideShapes Go.ChangeAt Go.RowKit Q Mach Dia Scan Eq_
attribute [local go_sem ↓] Go.wp_at_zero Go.wp_at_succ

theorem own : ownKnob Try.prog.godebug = none := by kernel_rfl
theorem laidOut : laidOutB Try.prog = true := by kernel_rfl

theorem step_either (x y : UInt8) (z : Int) (st : Nat) (b : UInt8) (h : (Mach.step ⟨x, y, z⟩ st b).2.2 = 0) : Mach.step ⟨x, y, 3⟩ st b = Mach.step ⟨x, y, z⟩ st b := by
  have hw3 : wrongEnd ⟨x, y, 3⟩ b = false := by simp [wrongEnd]
  unfold Mach.step at h ⊢
  split
  · rename_i h0
    rw [if_pos h0] at h
    unfold atStart at h ⊢
    rw [hw3]
    cases hw : wrongEnd ⟨x, y, z⟩ b with
    | true => rw [hw] at h; simp at h
    | false => rfl
  · rename_i h0
    rw [if_neg h0] at h
    split
    · rename_i h1
      rw [if_pos h1] at h
      unfold inRecord at h ⊢
      rw [hw3]
      cases hw : wrongEnd ⟨x, y, z⟩ b with
      | true => rw [hw] at h; simp at h
      | false => rfl
    · rfl
theorem run_either (x y : UInt8) (z : Int) : ∀ (l : List UInt8) (st i : Nat), (runE ⟨x, y, z⟩ st l i).2.1 = 0 → runE ⟨x, y, 3⟩ st l i = runE ⟨x, y, z⟩ st l i
  | [], st, i, h => rfl
  | b :: r, st, i, h => by
    unfold runE at h ⊢
    by_cases h0 : (Mach.step ⟨x, y, z⟩ st b).2.2 = 0
    · have hn : ((Mach.step ⟨x, y, z⟩ st b).2.2 != 0) = false := by simp [h0]
      rw [step_either x y z st b h0, hn]
      rw [hn] at h
      simp only [Bool.false_eq_true, if_false] at h ⊢
      rw [run_either x y z r _ _ h]
    · have hn : ((Mach.step ⟨x, y, z⟩ st b).2.2 != 0) = true := by simpa using h0
      rw [hn] at h
      simp at h
      exact absurd h h0
theorem run_zero (d : Dia) : ∀ (l : List UInt8) (st i : Nat), (runE d st l i).2.1 = 0 → (runE d st l i).2.2 = 0
  | [], st, i, h => by
    unfold runE at h ⊢
    split
    · rename_i h0
      rw [if_pos h0] at h
      simp at h0 h
      exact absurd h h0
    · rfl
  | b :: r, st, i, h => by
    unfold runE at h ⊢
    split
    · rename_i h0
      rw [if_pos h0] at h
      simp at h0 h
      exact absurd h h0
    · rename_i h0
      rw [if_neg h0] at h
      exact run_zero d r _ _ h
theorem evC_len (es : List Ev) : (es.flatMap evC).length = es.length * 6 := by
  induction es with
  | nil => rfl
  | cons e es ih => simp only [List.flatMap_cons, List.length_append, ih, List.length_cons]; simp [evC]; omega
theorem evC_at (es : List Ev) : ∀ (k j : Nat) (hk : k < es.length), j < 6 → (es.flatMap evC)[k * 6 + j]? = (evC es[k])[j]? := by
  induction es with
  | nil => intro k j hk; simp at hk
  | cons e es ih =>
    intro k j hk hj
    rw [List.flatMap_cons]
    match k, hk with
    | 0, hk => rw [List.getElem?_append_left (by simp [evC]; omega)]; simp
    | k + 1, hk =>
      rw [List.getElem?_append_right (by simp [evC]; omega)]
      have : (k + 1) * 6 + j - (evC e).length = k * 6 + j := by simp [evC]; omega
      rw [this, ih k j (by simpa using hk) hj]
      rfl
/-- The six cells of an event of a slice that reads. -/
theorem ev_cells {w : World} {B n c : Nat} {A : Option Addr} {es : List Ev} (h : Rd w B 6 (.slice A n c) n (es.flatMap evC)) (k : Nat) (hk : k < es.length) :
    ∃ b off, A = some ⟨b, off, none⟩ ∧ b < B ∧ ∀ j u, (evC es[k])[j]? = some u → w.cell? ⟨b, off + k * 6 + j, none⟩ = some u := by
  obtain ⟨A', c', hv, hn, hc, hl, hx⟩ := h
  injection hv with h1 _ _
  subst h1
  rcases hx with hx | ⟨b, off, rfl, hb, hcell⟩
  · have := congrArg List.length hx
    rw [evC_len] at this
    simp at this
    omega
  · refine ⟨b, off, rfl, hb, fun j u hu => ?_⟩
    have hj : j < 6 := by have := (List.getElem?_eq_some_iff.1 hu).1; simpa [evC] using this
    rw [Nat.add_assoc]
    exact hcell _ _ ((evC_at es k j hk hj).trans hu)

set_option maxHeartbeats 2000000 in
theorem walk (d : Dia) (l : List UInt8) (w : World) : Calls Try.prog 9 #[diaV d, sv l] w fun e w' => e = .returned (.bool true) ∧ Below w.heap.size w w' := by
  have HA := Lib.hid awake4_c
  have HR := Lib.hid (fun w => ref_c d w)
  have HRR := Lib.hid (fun w => right_c d w)
  have kp : Keeps [] w (w.alloc (.cells #[bv d.delim, bv d.quote, .int .i64 d.fin] 54)) := Keeps.alloc [] w _
  have hbx := Blk.new w 54 [bv d.delim, bv d.quote, .int .i64 d.fin]
  by_cases h2 : 300 < l.length
  · have h2' : decide (300 < (l.length : Int)) = true := by simp; omega
    obtain ⟨x, y, z⟩ := d
    go_enter Try.func9, Try.ntmps9
    go_wp2_with (fail)
    refine (HA.out _).mono ?_
    rintro e w1 ⟨rfl, k1⟩
    go_wp2_with (fail)
    go_ret
    exact ⟨rfl, (kp.trans k1 (by simp)).below (Nat.le_refl _) (by simp)⟩
  have h2' : decide (300 < (l.length : Int)) = false := by simp; omega
  have HRUN := Lib.hid (fun w => run_c d l (by omega) w)
  have HRUN3 := Lib.hid (fun w => run_c ⟨d.delim, d.quote, 3⟩ l (by omega) w)
  have HE := Lib.hid (run_either d.delim d.quote d.fin l 0 0)
  have HZ := Lib.hid (run_zero d l 0 0)
  cases hr : d.right
  · rw [hr] at HRR
    clear hr HRUN HRUN3 HE HZ
    obtain ⟨x, y, z⟩ := d
    go_enter Try.func9, Try.ntmps9
    go_wp2_with (fail)
    refine (HR.out _).mono ?_
    rintro e w1 ⟨rfl, k1⟩
    go_wp2_with (fail)
    refine (HRR.out _).mono ?_
    rintro e w2 ⟨rfl, k2⟩
    go_wp2_with (fail)
    refine (HA.out _).mono ?_
    rintro e w3 ⟨rfl, k3⟩
    go_wp2_with (fail)
    go_ret
    exact ⟨rfl, (((kp.trans k1 (by simp)).trans k2 (by simp)).trans k3 (by simp)).below (Nat.le_refl _) (by simp)⟩
  rw [hr] at HRR
  clear hr
  have eqF := fun a b a' b' (w : World) => eqFault a b a' b' w
  obtain ⟨x, y, z⟩ := d
  go_enter Try.func9, Try.ntmps9
  go_wp2_with (fail)
  refine (HR.out _).mono ?_
  rintro e w1 ⟨rfl, k1⟩
  go_wp2_with (fail)
  refine (HRR.out _).mono ?_
  rintro e w2 ⟨rfl, k2⟩
  have kk := (kp.trans k1 (by simp)).trans k2 (by simp)
  have hb2 := (hbx.keep k1 (by simp)).keep k2 (by simp)
  have d0 := hb2.cell_of (i := 0) rfl
  have d1 := hb2.cell_of (i := 1) rfl
  have d2 := hb2.cell_of (i := 2) rfl
  clear k1 k2 hbx kp
  go_wp2_with (fail)
  refine (HRUN.out _).mono ?_
  rintro e w3 hrun
  obtain ⟨v, rfl, hown, k3⟩ := hrun
  generalize hX : runE ⟨x, y, z⟩ 0 l 0 = X at *
  obtain ⟨es, kd, at_⟩ := X
  have k03 := kk.trans k3 (by simp)
  have hb3 := (hb2.keep k3 (by simp))
  have e0 := hb3.cell_of (i := 0) rfl
  have e1 := hb3.cell_of (i := 1) rfl
  have e2 := hb3.cell_of (i := 2) rfl
  have f2 := hb3.frozen (i := 2) (by simp)
  have hlt := hb3.lt
  have hne : w.heap.size ≠ w3.heap.size := by omega
  clear d0 d1 d2 hb2 kk k3
  by_cases hkd : kd = 0
  rotate_left
  · have hkd' : ((kd : Int) != 0) = true := by simpa using hkd
    clear HE HZ
    go_wp2_with (fail)
    refine (HA.out _).mono ?_
    rintro e w4 ⟨rfl, k4⟩
    go_wp2_with (fail)
    go_ret
    exact ⟨rfl, ((k03.alloc1 _).trans k4 (by simp)).below (Nat.le_refl _) (by simp)⟩
  subst hkd
  have HX3 := Lib.hid (HE.out rfl)
  obtain rfl : at_ = 0 := HZ.out rfl
  clear hX HE HZ
  obtain ⟨A1, c1, rfl, hn1, hm1⟩ := hown.form
  have hsz3 : (w3.setCell ⟨w.heap.size, 2, none⟩ (.int .i64 3)).heap.size = w3.heap.size := by simp
  have hb4 := (hb3.set_ 2 (.int .i64 3)).alloc (.cells #[.int .i64 0, .int .i64 0] 70)
  simp only [List.set_cons_succ, List.set_cons_zero] at hb4
  have k34 : Keeps [w.heap.size] w3 ((w3.setCell ⟨w.heap.size, 2, none⟩ (.int .i64 3)).alloc (.cells #[.int .i64 0, .int .i64 0] 70)) := (Keeps.setCell w3 ⟨w.heap.size, 2, none⟩ (.int .i64 3)).alloc1 _
  have hown4 := hown.keep k34 (fun a ha hm => by simp at hm; exact absurd hm (hown.apartBlk hb3 (by decide) a ha))
  have k04 := (k03.sub (F' := []) (by simp)).below (Nat.le_refl _) (by simp)
  have k04 := k04.trans (k34.below (B := w.heap.size) (Nat.le_of_lt hlt) (by simp))
  go_wp2_with (fail)
  generalize (w3.setCell ⟨w.heap.size, 2, none⟩ (.int .i64 3)).alloc (.cells #[.int .i64 0, .int .i64 0] 70) = w4 at *
  refine (HRUN3.out _).mono ?_
  rintro e w5 hrun
  obtain ⟨v', he, hown5, k5⟩ := hrun
  rw [HX3.out] at he hown5
  subst he
  have hown45 := hown4.keep k5 (by simp)
  obtain ⟨A2, c2, rfl, hn2, hm2⟩ := hown5.form
  have k05 := k04.trans (k5.below (B := w.heap.size) (by have := k34.size; omega) (by simp))
  have hlen : ((es.length : Int) != (es.length : Int)) = false := by simp
  clear hb4 k34 hown hown4 k04 hb3 k03 e0 e1 e2 f2 hlt hne HRUN HRUN3 HX3 k5 hsz3
  unfold maxLen at hm1 hm2
  go_wp2_with (fail)
  have kA := (Keeps.alloc [] w5 (.cells #[.int .i64 0, .int .i64 0] 70))
  have hr1 := (hown45.keep kA (by simp)).rd (Nat.le_refl _)
  have hr2 := (hown5.keep kA (by simp)).rd (Nat.le_refl _)
  have k06 := k05.trans (kA.below (B := w.heap.size) k05.size (by simp))
  generalize w5.alloc (.cells #[.int .i64 0, .int .i64 0] 70) = w6 at *
  clear kA k05 hown45 hown5
  go_loopw [49] (fun i wr => ∃ k : Nat, k ≤ es.length ∧ i = .int .i64 k ∧ ∃ m, wr = w6.drewN m) (fun i _ => es.length - (intOf i).toNat)
  case atStart => exact ⟨0, by omega, rfl, 0, rfl⟩
  case round =>
    obtain ⟨k, hk, rfl, m, rfl⟩ := hrel
    by_cases hlt : k < es.length
    · obtain ⟨b1, o1, rfl, hb1, hc1⟩ := ev_cells hr1 k hlt
      obtain ⟨b2, o2, rfl, hb2, hc2⟩ := ev_cells hr2 k hlt
      have hk0 : (0 : Int) ≤ (k : Int) := by omega
      have hkl : (k : Int) < (es.length : Int) := by omega
      generalize es[k] = ev at hc1 hc2
      obtain ⟨e1, e2, e3, e4, e5, e6⟩ := ev
      have p0 := hc1 0 _ rfl
      have q0 := hc2 0 _ rfl
      have p1 := hc1 1 _ rfl
      have q1 := hc2 1 _ rfl
      have p2 := hc1 2 _ rfl
      have q2 := hc2 2 _ rfl
      have p3 := hc1 3 _ rfl
      have q3 := hc2 3 _ rfl
      have p4 := hc1 4 _ rfl
      have q4 := hc2 4 _ rfl
      have p5 := hc1 5 _ rfl
      have q5 := hc2 5 _ rfl
      rw [Nat.add_zero] at p0 q0
      have heq := fun w => eqEvent e1 e2 e3 e4 e5 e1 e2 e3 e4 e5 e6.toNat e6.toNat w
      simp only [beq_self_eq_true, Bool.and_self] at heq
      clear hc1 hc2 hr1 hr2 eqF
      go_wp2_with (fail)
      go_quiet (fail)
      go_wp2_with (fail)
      exact ⟨⟨k + 1, by omega, by go_num, _, rfl⟩, by simp [intOf]; omega⟩
    · obtain rfl : k = es.length := by omega
      go_wp2_with (fail)
      refine (HA.out _).mono ?_
      rintro e w7 ⟨rfl, k7⟩
      go_wp2_with (fail)
      go_ret
      exact ⟨rfl, (below_drewN k06 m).trans (k7.below k06.size (by simp))⟩
set_option maxRecDepth 100000 in
theorem lifted (os : Os) (started : os.Started) (H : Type) (enc : TypeId × Value → H) :
    ReturnsInHanded {} Try.checked os 9 .any (Rows.scanEitherSpec.pre6 enc Try.prog Try.f9 Rows.scanEitherRow.domain false) (Rows.scanEitherSpec.post enc Try.prog Try.f9 false true false false) := by
  refine returnsInHanded_of_change_sized (C := Try.checked) own started (by kernel_rfl) Try.func9
    (ChangeSpec.witness6 (enc := enc) (C := Try.checked) false ⟨#[], #[.agg #[.int .u8 0, .int .u8 0, .int .i64 0], .string .empty], []⟩ 8 (by kernel_rfl) (by kernel_rfl) (by kernel_rfl) (by kernel_rfl)) ?_
  intro W base args ds gs before hval0 hW hcnd hsz0 _
  have hval : ∀ (j : Nat) t v, Try.f9.params[j]? = some t → args[j]? = some v → Value.okWide Try.prog W .any base t v := hval0
  have hW' := hW
  obtain ⟨p, q, hA0, hV, rfl, hfz, hnd⟩ := hW
  have hA : DataW.TrodAll enc Try.prog W 0 (fun _ => true) true Try.f9.params.toList args.toList ds p := hA0
  have hsz : (DataW.weightsEach Try.prog (Try.f9.params.toList ++ Rows.scanEitherSpec.plain.varTypes Try.prog) (ds ++ gs)).all (· ≤ reachBytes) = true := hsz0
  rw [Try.params9] at hA hval hsz
  obtain ⟨v0, vs0, d0, ds0, p0, q0, hargs, rfl, rfl, k0, r0⟩ := trodAll_cons hA
  obtain ⟨v1, vs1, d1, ds1, p1, q1, rfl, rfl, rfl, k1, r1⟩ := trodAll_cons r0
  obtain ⟨rfl, rfl, rfl⟩ := trodAll_nil r1
  obtain rfl : args = #[v0, v1] := by cases args; simp_all
  obtain ⟨rfl, rfl⟩ := trodVars_none hV
  have lt0 := Trod_lt k0
  have lt1 := Trod_lt k1
  obtain ⟨x0, y0, z0, rfl, hz0⟩ := Trod_dialect Try.underlying54 (by kernel_rfl) (by kernel_rfl) Try.underlying5 Try.underlying5 Try.underlying3 (hval 0 54 v0 rfl rfl) k0
  obtain ⟨l1, rfl, hl1⟩ := Trod_str Try.underlying9 (hval 1 9 v1 rfl rfl) k1 (wt_of hsz (j := 1) rfl rfl)
  clear hA0 hval0 hsz0
  refine (walk ⟨x0, y0, z0⟩ l1 W).mono fun e W' ⟨he, bel⟩ => ?_
  subst he
  exact ⟨_, rfl, _, _, _, [], _, [], hW', trodAll_mk1 (shut_bool Try.underlying4 _), (trodAll_cons_mk (Below.trod laidOut (by kernel_rfl) (of_decide_eq_true (by kernel_rfl)) k0 bel lt0) (trodAll_cons_mk (Below.trod laidOut (by kernel_rfl) (of_decide_eq_true (by kernel_rfl)) k1 bel lt1) trodAll_mk0)), rfl, bel.frame _, fun h => by cases h⟩

theorem proved : Rows.ScanEitherSaid :=
  OpenClaim.holds_of_wide 9 Try.f9 rfl rfl rfl rfl rfl rfl rfl ⟨rfl, rfl, rfl, rfl, rfl⟩ rfl rfl rfl rfl rfl (by kernel_rfl) Try.func9 (by kernel_rfl)
    (of_decide_eq_true (by kernel_rfl)) (by unfold Func.isWrapper; first | (rw [if_pos (by decide +kernel)]; kernel_rfl) | (rw [if_neg (by decide +kernel)]; exact ⟨rfl, rfl⟩))
    (fun os started H enc _ => lifted os started H enc)
end Go.Proofs.Ytogmcfljojobfaa.ScanEitherP
namespace Go.Proofs.Ytogmcfljojobfaa
theorem scanEither_holds : Rows.ScanEitherSaid := ScanEitherP.proved
#print axioms scanEither_holds
end Go.Proofs.Ytogmcfljojobfaa
