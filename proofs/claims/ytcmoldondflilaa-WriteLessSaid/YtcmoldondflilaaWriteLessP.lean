/- PROVED: for every dialect d, table t and byte at, WriteLess(d, t, at) returns true and leaves its arguments as they were. No condition. -/
import Derived.Test.YtcmoldondflilaaRows
import Derived.Test.YtcmoldondflilaaTxt2
import Derived.Test.YtcmoldondflilaaOpenD
import Derived.Test.YtcmoldondflilaaSame
import Derived.Deep.RegionLaw
import Derived.BigRegion
namespace Go.Proofs.Ytcmoldondflilaa.WriteLessP
set_option linter.unusedVariables false
set_option linter.unusedSimpArgs false
set_option maxRecDepth 100000
open Go.ChangeShapes Go.WideShapes Go.ChangeAt Go.RowKit Q Mach Dia Need Bld Quo WLine Par Wide
open Tab (fieldsOf bytesOf bytesOfRow)
attribute [local go_sem ↓] Go.wp_at_zero Go.wp_at_succ

theorem own : ownKnob Try.prog.godebug = none := by kernel_rfl
theorem laidOut : laidOutB Try.prog = true := by kernel_rfl
theorem step_slice {P : Program} {ops : Array Oper} {o : Oper} {a : Act} {w w' : World} {Q : Exit → Act → World → Prop} {E : Prop} {K : Act → World → Prop} {t : TypeId} {v v' : Value} {lo hi mx : Option Value} (hrun : (Instr.sliceAt t v lo hi mx).run P w = .ok v' w') (s : Operand) (l h m : Option Operand) (ho : o.op = .slice t s l h m)
    (hg : Region.wanted o (yielded ops a.tmps) = true) (hs : a.eval s = v) (hlo : l.map a.eval = lo) (hhi : h.map a.eval = hi) (hmx : m.map a.eval = mx) (hh : K (a.put o.dst v') w') : if Region.wanted o (yielded ops a.tmps) = true then Oper.wp P o a w K Q else E := by
  rw [if_pos hg]
  unfold Oper.wp execOp
  simp only [ho, Sem.run_bind, Sem.run_pure, Result.andThen_ok, hs, hlo, hhi, hmx, hrun]
  exact hh
/-- A table whose first field begins with the mark: its text. -/
theorem head_mark {d : Dia} (hd : d.right = true) {t : Tb} (h : Wr.hm t = true) : ∃ rest, Wr.textB d true t = d.quote :: 239 :: rest := by
  match t, h with
  | (f :: r) :: t, h =>
    have hb : Bom.hasB f 3 = true := h
    obtain ⟨f', rfl⟩ : ∃ f', f = 239 :: f' := by
      unfold Bom.hasB at hb
      cases f with
      | nil => simp [Bom.mark] at hb
      | cons c f => simp [Bom.mark] at hb; exact ⟨f, by rw [hb.1]⟩
    have hq : ((239 : UInt8) == d.quote) = false := by
      rw [beq_eq_false_iff_ne]
      intro e
      have := (Wr.ascii hd).2
      rw [← e] at this
      exact absurd this (by decide)
    have hw : ∀ al, Wr.writ d (239 :: f') al true = d.quote :: 239 :: (QuoPlain.dbl d.quote f' ++ [d.quote]) := by
      intro al
      have : Wr.why d (239 :: f') al true ≠ 0 := by
        unfold Wr.why
        rw [hb]
        repeat' split
        all_goals simp_all
      unfold Wr.writ
      rw [if_pos (by simpa using this)]
      simp [QuoPlain.quoB, QuoPlain.dbl, hq]
    cases r with
    | nil => exact ⟨_, by simp only [Wr.textB, Wr.lineB, Wr.rowB, hw, List.cons_append]; rfl⟩
    | cons g r => exact ⟨_, by simp only [Wr.textB, Wr.lineB, Wr.rowB, hw, List.cons_append]; rfl⟩
theorem less {d : Dia} (hd : d.right = true) {t : Tb} {k : Nat} (hk : k < (Wr.textB d true t).length) {x : Int} (he : endsB ((Wr.textB d true t).take k ++ (Wr.textB d true t).drop (k + 1)) (Wr.eol d) = true)
    (h : parseP d wide ((Wr.textB d true t).take k ++ (Wr.textB d true t).drop (k + 1)) = (t, 0, x)) : False := by
  obtain ⟨p1, p2, p3, p4, p5⟩ := Gram.right_parts hd
  have h1 := Wr.shortest hd h (ends_closed he) (by
    cases hm : Wr.hm t
    · exact .inl rfl
    · right
      obtain ⟨rest, hr⟩ := head_mark hd hm
      rw [hr]
      intro b hb
      match k with
      | 0 => simp at hb; subst hb; exact ⟨by decide, by decide⟩
      | 1 => simp at hb; subst hb; exact ⟨p2, p1⟩
      | k + 2 => simp at hb; subst hb; exact ⟨p2, p1⟩)
  simp only [List.length_append, List.length_take, List.length_drop] at h1
  omega
set_option maxHeartbeats 20000000 in
theorem walk (d : Dia) (A : Value) (t : Tb) (w : World) (ht : Tbl w w.heap.size A t) (hsm : Small t) (b : UInt8) : Calls Try.prog 5 #[diaV d, A, bv b] w fun e w' => e = .returned (.bool true) ∧ Below w.heap.size w w' := by
  have HA := Lib.hid awake10_c
  have HR := Lib.hid (fun w => ref_c d w)
  have ht' := ht
  obtain ⟨A, ca, rfl, ha1, ha2⟩ := ht.form
  unfold maxLen at ha2
  have kp : Keeps [] w (w.alloc (.cells #[bv d.delim, bv d.quote, .int .i64 d.fin] 23)) := Keeps.alloc [] w _
  have hbx := Blk.new w 23 [bv d.delim, bv d.quote, .int .i64 d.fin]
  have c0 := hbx.cell_of (i := 0) rfl
  have c1 := hbx.cell_of (i := 1) rfl
  have c2 := hbx.cell_of (i := 2) rfl
  have HG := Lib.hid (Same.great_c (.slice A t.length ca) t 8 16 60 (by omega) (by omega) (by omega) w.heap.size _ (ht'.keepB kp (by simp)) hsm)
  have HTB := Lib.hid (fun w' h hB h0 h1 h2 => table_c d (.slice A t.length ca) t w.heap.size w' h hB h0 h1 h2)
  have HTL := Lib.hid (Wr.text_len d t true)
  obtain ⟨X, hX⟩ : ∃ X, tableR d t = X := ⟨_, rfl⟩
  rw [hX] at HTB
  have HX := Lib.hid hX
  clear hX
  obtain ⟨DD, hDD⟩ : ∃ D : Dia, D = d := ⟨_, rfl⟩
  have HDD := Lib.hid hDD
  clear hDD
  obtain ⟨x, y, z⟩ := d
  go_enter Try.func5, Try.ntmps5
  go_wp2_with (fail)
  refine HG.out.mono ?_
  rintro e w1 ⟨bb, rfl, hb, m1, rfl⟩
  cases bb
  rotate_left
  · go_wp2_with (fail)
    refine (HA.out _).mono ?_
    rintro e w2 ⟨rfl, k2⟩
    go_wp2_with (fail)
    go_ret
    exact ⟨rfl, ((kp.drewN1 m1).trans k2 (by simp)).below (Nat.le_refl _) (by simp)⟩
  obtain ⟨g1, g2, g3⟩ := hb rfl
  have k1 := kp.drewN1 m1
  have hb1 := hbx.drewN m1
  generalize (w.alloc (.cells #[bv x, bv y, .int .i64 z] 23)).drewN m1 = w1 at *
  have c0 := hb1.cell_of (i := 0) rfl
  have c1 := hb1.cell_of (i := 1) rfl
  have c2 := hb1.cell_of (i := 2) rfl
  have HT := Lib.hid (HTB.out w1 (ht'.keepB k1 (by simp)) k1.size (by omega) (by omega) (by omega))
  clear hb hbx kp HG HTB
  go_wp2_with (fail)
  refine HT.out.mono ?_
  unfold tableV
  rintro e w2 ⟨rfl, k2⟩
  have k02 := k1.trans k2 (by simp)
  have hb2 := hb1.keep k2 (by simp)
  clear k1 k2 hb1 c0 c1 c2 HT
  obtain ⟨S, n, M⟩ := X
  dsimp only
  by_cases hM : M = 0
  rotate_left
  · have hM' : ((M : Int) != 0) = true := by rw [bne_iff_ne]; omega
    clear hM
    go_wp2_with (fail)
    refine (HA.out _).mono ?_
    rintro e w3 ⟨rfl, k3⟩
    go_wp2_with (fail)
    go_ret
    exact ⟨rfl, (k02.trans k3 (by simp)).below (Nat.le_refl _) (by simp)⟩
  subst hM
  obtain ⟨hd, hx, hmay⟩ := table_ok (d := ⟨x, y, z⟩) (t := t) (by rw [HX.out])
  rw [HX.out] at hx
  injection hx with hx1 hx2
  injection hx2 with hx2 hx3
  subst hx1
  have hlen := HTL.out
  have HLESS := Lib.hid (fun k hk xx he h => less (d := ⟨x, y, z⟩) hd (t := t) (k := k) hk (x := xx) he h)
  clear hd hmay hx2 hx3 HX HTL
  generalize Wr.textB ⟨x, y, z⟩ true t = S at *
  by_cases hS : S = []
  · have hS0 : (S == []) = true := by simp [hS]
    clear hS
    go_wp2_with (fail)
    refine (HA.out _).mono ?_
    rintro e w3 ⟨rfl, k3⟩
    go_wp2_with (fail)
    go_ret
    exact ⟨rfl, (k02.trans k3 (by simp)).below (Nat.le_refl _) (by simp)⟩
  have hS0 : (S == []) = false := by simp [hS]
  have hSl : 0 < S.length := List.length_pos_iff.2 hS
  clear hS
  have hbl := b.toNat_lt
  have hwb : wrap64 (b.toNat : Int) = b.toNat := IntWalk.wrap64_in _ (by omega)
  have hwb2 : IntKind.i64.wrap (b.toNat : Int) = b.toNat := IntWalk.i64_in _ (by omega)
  obtain ⟨k, hk⟩ : ∃ k, b.toNat % S.length = k := ⟨_, rfl⟩
  have hkl : k < S.length := by rw [← hk]; exact Nat.mod_lt _ hSl
  have hmod : ((b.toNat : Int).tmod (S.length : Int)) = (k : Int) := by rw [← Int.ofNat_tmod, hk]
  have hw1 : IntKind.i64.wrap ((k : Int) + 1) = (k : Int) + 1 := IntWalk.i64_in _ (by omega)
  have hs0 : ((S.length : Int) == 0) = false := by rw [beq_eq_false_iff_ne]; omega
  have hs1 : ∀ w, (Instr.sliceAt 9 (sv S) none (some (.int .i64 (k : Int))) none).run Try.prog w = .ok (sv (S.take k)) w := fun w => run_strUpto (P := Try.prog) Try.underlying9 S k (by omega) w
  have hs2 : ∀ w, (Instr.sliceAt 9 (sv S) (some (.int .i64 ((k : Int) + 1))) none none).run Try.prog w = .ok (sv (S.drop (k + 1))) w := fun w => run_strFrom (P := Try.prog) Try.underlying9 S (k + 1) (by omega) w
  have HL := Lib.hid (fun x h1 h2 => HLESS.out k hkl x h1 h2)
  have hcat := cat_mk (S.take k) (S.drop (k + 1))
  have hsum : ¬ (9223372036854775807 < (S.take k).length + (S.drop (k + 1)).length) := by rw [List.length_take, List.length_drop]; omega
  have hll : (S.take k ++ S.drop (k + 1)).length ≤ 100000 := by rw [List.length_append, List.length_take, List.length_drop]; omega
  clear HLESS hk
  generalize S.take k = S1 at *
  generalize S.drop (k + 1) = S2 at *
  go_wp2_with (fail)
  go_region_law (first | (refine step_slice (hs1 _) _ _ _ _ rfl rfl rfl rfl rfl rfl ?_) | (refine step_slice (hs2 _) _ _ _ _ rfl rfl rfl rfl rfl rfl ?_))
  have k2 := Keeps.drew [] w2
  generalize w2.drew = w2' at *
  have k02 := k02.trans k2 (by simp)
  have hb2 := hb2.keep k2 (by simp)
  clear k2 hwb hwb2 hmod hw1 hs0 hs1 hs2 hcat hsum hkl hbl hS0 hSl
  generalize S1 ++ S2 = L at *
  have hel : (endB z).length ≤ 2 := Wr.eol_le ⟨x, y, z⟩
  have HE := Lib.hid (fun w => rend_c ⟨x, y, z⟩ w)
  have HW := Lib.hid wide_c
  have HEN := Lib.hid (fun w => ends_c L (endB z) (by omega) (by omega) w)
  have HPA := Lib.hid (fun w => parse_w ⟨x, y, z⟩ L hll w)
  obtain ⟨⟨U, kind, pl⟩, hX⟩ : ∃ X, parseP ⟨x, y, z⟩ wide L = X := ⟨_, rfl⟩
  rw [hX] at HPA HL
  obtain ⟨EN, hEN⟩ : ∃ E, endsB L (endB z) = E := ⟨_, rfl⟩
  have hEN2 : endsB L (Wr.eol ⟨x, y, z⟩) = EN := hEN
  rw [hEN] at HEN
  rw [hEN2] at HL
  clear hX hEN hEN2 hll
  have c0 := hb2.cell_of (i := 0) rfl
  have c1 := hb2.cell_of (i := 1) rfl
  have c2 := hb2.cell_of (i := 2) rfl
  go_wp2_with (fail)
  with_reducible refine (HR.out _).mono ?_
  rintro e w3 ⟨rfl, k3⟩
  go_wp2_with (fail)
  with_reducible refine (HE.out _).mono ?_
  rintro e w4 ⟨rfl, k4⟩
  go_wp2_with (fail)
  with_reducible refine (HEN.out _).mono ?_
  rintro e w5 ⟨rfl, rfl⟩
  have k04 := (k02.trans k3 (by simp)).trans k4 (by simp)
  have hb4 := (hb2.keep k3 (by simp)).keep k4 (by simp)
  clear c0 c1 c2 k02 k3 k4 hb2 HE HEN
  cases EN
  · go_wp2_with (fail)
    with_reducible refine (HA.out _).mono ?_
    rintro e w6 ⟨rfl, k6⟩
    go_wp2_with (fail)
    go_ret
    exact ⟨rfl, (k04.trans k6 (by simp)).below (Nat.le_refl _) (by simp)⟩
  have c0 := hb4.cell_of (i := 0) rfl
  have c1 := hb4.cell_of (i := 1) rfl
  have c2 := hb4.cell_of (i := 2) rfl
  go_wp2_with (fail)
  with_reducible refine (HR.out _).mono ?_
  rintro e w6 ⟨rfl, k6⟩
  clear c0 c1 c2
  go_wp2_with (fail)
  with_reducible refine (HW.out _).mono ?_
  rintro e w7 ⟨rfl, k7⟩
  go_wp2_with (fail)
  with_reducible refine (HPA.out _).mono ?_
  rintro e w8 ⟨vp, vps, rfl, hot, k8⟩
  have k08 := ((k04.trans k6 (by simp)).trans k7 (by simp)).trans k8 (by simp)
  clear k04 k6 k7 k8 hb4 HPA
  dsimp only at hot
  obtain ⟨A5, c5, rfl, h51, h52⟩ := hot.2.1.form
  unfold maxLen at h52
  dsimp only
  by_cases hk0 : kind = 0
  rotate_left
  · have hk' : ((kind : Int) != 0) = true := by rw [bne_iff_ne]; omega
    clear hk0
    go_wp2_with (fail)
    with_reducible refine (HA.out _).mono ?_
    rintro e w9 ⟨rfl, k9⟩
    go_wp2_with (fail)
    go_ret
    exact ⟨rfl, (k08.trans k9 (by simp)).below (Nat.le_refl _) (by simp)⟩
  subst hk0
  have hne : decide (U = t) = false := by
    rw [decide_eq_false_iff_not]
    rintro rfl
    exact HL.out _ trivial rfl
  have HS := Lib.hid (Same.sameTable_c _ _ U t _ _ w8 (hot.tbl (Nat.le_refl _)) (ht'.keepB k08 (by simp)))
  rw [hne] at HS
  clear hot hne HL
  go_wp2_with (fail)
  with_reducible refine HS.out.mono ?_
  rintro e w9 ⟨rfl, m9, rfl⟩
  go_wp2_with (fail)
  with_reducible refine (HA.out _).mono ?_
  rintro e w10 ⟨rfl, k10⟩
  go_wp2_with (fail)
  go_ret
  exact ⟨rfl, ((k08.drewN1 m9).trans k10 (by simp)).below (Nat.le_refl _) (by simp)⟩
set_option maxRecDepth 100000 in
theorem lifted (os : Os) (started : os.Started) (H : Type) (enc : TypeId × Value → H) :
    ReturnsInHanded {} Try.checked os 5 .any (Rows.writeLessSpec.pre6 enc Try.prog Try.f5 Rows.writeLessRow.domain false) (Rows.writeLessSpec.post enc Try.prog Try.f5 false true false false) := by
  refine returnsInHanded_of_change_sized (C := Try.checked) own started (by kernel_rfl) Try.func5
    (ChangeSpec.witness6 (enc := enc) (C := Try.checked) false ⟨#[], #[.agg #[.int .u8 0, .int .u8 0, .int .i64 0], .slice none 0 0, .int .u8 0], []⟩ 8 (by kernel_rfl) (by kernel_rfl) (by kernel_rfl) (by kernel_rfl)) ?_
  intro W base args ds gs before hval0 hW hcnd hsz0 _
  have hval : ∀ (j : Nat) t v, Try.f5.params[j]? = some t → args[j]? = some v → Value.okWide Try.prog W .any base t v := hval0
  have hW' := hW
  obtain ⟨p, q, hA0, hV, rfl, hfz, hnd⟩ := hW
  have hA : DataW.TrodAll enc Try.prog W 0 (fun _ => true) true Try.f5.params.toList args.toList ds p := hA0
  have hsz : (DataW.weightsEach Try.prog (Try.f5.params.toList ++ Rows.writeLessSpec.plain.varTypes Try.prog) (ds ++ gs)).all (· ≤ reachBytes) = true := hsz0
  rw [Try.params5] at hA hval hsz
  obtain ⟨v0, vs0, d0, ds0, p0, q0, hargs, rfl, rfl, k0, r0⟩ := trodAll_cons hA
  obtain ⟨v1, vs1, d1, ds1, p1, q1, rfl, rfl, rfl, k1, r1⟩ := trodAll_cons r0
  obtain ⟨v2, vs2, d2, ds2, p2, q2, rfl, rfl, rfl, k2, r2⟩ := trodAll_cons r1
  obtain ⟨rfl, rfl, rfl⟩ := trodAll_nil r2
  obtain rfl : args = #[v0, v1, v2] := by cases args; simp_all
  obtain ⟨rfl, rfl⟩ := trodVars_none hV
  have lt0 := Trod_lt k0
  have lt1 := Trod_lt k1
  have lt2 := Trod_lt k2
  obtain ⟨x0, y0, z0, rfl, hz0⟩ := Trod_dialect Try.underlying23 (by kernel_rfl) (by kernel_rfl) Try.underlying5 Try.underlying5 Try.underlying3 (hval 0 23 v0 rfl rfl) k0
  obtain ⟨tb1, rd1, hs1⟩ := Trod_tbl Try.underlying26 (by kernel_rfl) (of_decide_eq_true (by kernel_rfl)) Try.underlying24 Try.underlying9 (by kernel_rfl) (of_decide_eq_true (by kernel_rfl)) (hval 1 26 v1 rfl rfl) k1 (wt_of hsz (j := 1) rfl rfl)
  obtain ⟨b2, rfl⟩ := Trod_u8 Try.underlying5 (hval 2 5 v2 rfl rfl) k2
  clear hA0 hval0 hsz0
  refine (walk ⟨x0, y0, z0⟩ v1 tb1 W rd1 hs1 b2).mono fun e W' ⟨he, bel⟩ => ?_
  subst he
  exact ⟨_, rfl, _, _, _, [], _, [], hW', trodAll_mk1 (shut_bool Try.underlying4 _), (trodAll_cons_mk (Below.trod laidOut (by kernel_rfl) (of_decide_eq_true (by kernel_rfl)) k0 bel lt0) (trodAll_cons_mk (Below.trod laidOut (by kernel_rfl) (of_decide_eq_true (by kernel_rfl)) k1 bel lt1) (trodAll_cons_mk (Below.trod laidOut (by kernel_rfl) (of_decide_eq_true (by kernel_rfl)) k2 bel lt2) trodAll_mk0))), rfl, bel.frame _, fun h => by cases h⟩

theorem proved : Rows.WriteLessSaid :=
  OpenClaim.holds_of_wide 5 Try.f5 rfl rfl rfl rfl rfl rfl rfl ⟨rfl, rfl, rfl, rfl, rfl⟩ rfl rfl rfl rfl rfl (by kernel_rfl) Try.func5 (by kernel_rfl)
    (of_decide_eq_true (by kernel_rfl)) (by unfold Func.isWrapper; first | (rw [if_pos (by decide +kernel)]; kernel_rfl) | (rw [if_neg (by decide +kernel)]; exact ⟨rfl, rfl⟩))
    (fun os started H enc _ => lifted os started H enc)
end Go.Proofs.Ytcmoldondflilaa.WriteLessP
namespace Go.Proofs.Ytcmoldondflilaa
theorem writeLess_holds : Rows.WriteLessSaid := WriteLessP.proved
#print axioms writeLess_holds
end Go.Proofs.Ytcmoldondflilaa
