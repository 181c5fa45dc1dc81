/- The document's writer of layer 11 (ref11): Put, Take. -/
import Derived.Test.YtcmoldondflilaaPcs2
import Derived.Test.YtcmoldondflilaaRef10
import Derived.Test.YtcmoldondflilaaOpenO
import Derived.Test.YtcmoldondflilaaSame
import Derived.BigQuiet
import Derived.BigRegion
import Derived.Deep.RegionHeld3
import Derived.Deep.RegionLaw
namespace Go.Proofs.Ytcmoldondflilaa.Pcs
set_option linter.unusedVariables false
set_option linter.unusedSimpArgs false
set_option maxRecDepth 100000
open Go.RowKit Q Mach Dia WLine
open Tab (fieldsOf bytesOf bytesOfRow)
attribute [local go_sem ↓] Go.wp_at_zero Go.wp_at_succ
/-- What the document's writer has. -/
structure RSt where
  all : Bs
  tk : Nat
  count : Nat
  cl : Bool
def rwC (d : Dia) (s : RSt) : List Value := [.int .i64 d.delim.toNat, .int .i64 d.quote.toNat, .int .i64 d.fin, sv s.all, .int .i64 s.tk, .int .i64 s.count, .int .i64 (oneI s.cl)]
def tkN (s : RSt) (n : Int) : Nat := min n.toNat (s.all.length - s.tk)
def RTakeP (w : World) (g : Nat) (d : Dia) (s : RSt) (n : Int) (e : Ending) (w' : World) : Prop :=
  e = .returned (sv ((s.all.take (s.tk + tkN s n)).drop s.tk)) ∧ Blk w' g 69 (rwC d { s with tk := s.tk + tkN s n } ) ∧ Keeps [g] w w'
set_option maxHeartbeats 8000000 in
theorem rtake_c (w : World) (g : Nat) (d : Dia) (s : RSt) (hb : Blk w g 69 (rwC d s)) (n : Int) (hn : -9223372036854775808 ≤ n ∧ n ≤ 9223372036854775807) (ht : s.tk ≤ s.all.length) (hl : s.all.length ≤ 1000000) :
    Calls Try.prog 36 #[.pointer (some ⟨g, 0, none⟩), .int .i64 n] w (RTakeP w g d s n) := by
  obtain ⟨K, hK⟩ : ∃ K, tkN s n = K := ⟨_, rfl⟩
  have hK' : K = min n.toNat (s.all.length - s.tk) := hK.symm
  have hKm : s.tk + K ≤ s.all.length := by omega
  unfold RTakeP
  rw [hK]
  have c3 := hb.cell_of (i := 3) rfl
  have c4 := hb.cell_of (i := 4) rfl
  have f4 := hb.frozen (i := 4) (by simp [rwC])
  have HSET := Lib.hid (fun m => (hb.drewN m).set_ 4 (.int .i64 ((s.tk + K : Nat) : Int)))
  have hsl : ∀ w, (Instr.sliceAt 9 (sv s.all) (some (.int .i64 (s.tk : Int))) (some (.int .i64 ((s.tk + K : Nat) : Int))) none).run Try.prog w = .ok (sv ((s.all.take (s.tk + K)).drop s.tk)) w := fun w => run_strMid (P := Try.prog) Try.underlying9 s.all s.tk (s.tk + K) (by omega) hKm w
  have HE : Hid (∀ m1 m2, Blk (((w.drewN m1).setCell ⟨g, 4, none⟩ (.int .i64 ((s.tk + K : Nat) : Int))).drewN m2) g 69 (rwC d { s with tk := s.tk + K }) ∧ Keeps [g] w (((w.drewN m1).setCell ⟨g, 4, none⟩ (.int .i64 ((s.tk + K : Nat) : Int))).drewN m2)) := Lib.hid (fun m1 m2 => ⟨by simpa [rwC] using (HSET.out m1).drewN m2, (((Keeps.drewN [g] w m1).set1 ⟨g, 4, none⟩ _ (by simp))).drewN1 m2⟩)
  clear hb hK HSET
  obtain ⟨al, tk, cn, cl⟩ := s
  dsimp only at c3 c4 hsl HE hKm hK' ht hl ⊢
  generalize hX : (al.take (tk + K)).drop tk = X at *
  clear hX
  have hw3 : IntKind.i64.wrap ((al.length : Int) - (tk : Int)) = (al.length : Int) - (tk : Int) := IntWalk.i64_in _ (by omega)
  by_cases hn0 : n < 0
  · obtain rfl : K = 0 := by omega
    have hd : decide ((al.length : Int) - (tk : Int) < 0) = false := by simp; omega
    rw [Nat.add_zero] at *
    have hw1 : IntKind.i64.wrap ((tk : Int)) = (tk : Int) := IntWalk.i64_in _ (by omega)
    clear hK' hKm ht
    go_enter Try.func36, Try.ntmps36
    go_wp2_with (fail)
    go_quiet (fail)
    go_wp2_with (fail)
    go_quiet (fail)
    go_wp2_with (fail)
    go_ret
    exact ⟨rfl, HE.out _ _⟩
  by_cases hn1 : n ≤ (al.length : Int) - (tk : Int)
  · obtain rfl : n = (K : Int) := by omega
    have hd : decide ((al.length : Int) - (tk : Int) < (K : Int)) = false := by simp; omega
    obtain ⟨T, hT⟩ : ∃ T, tk + K = T := ⟨_, rfl⟩
    rw [hT] at hsl HE ⊢
    have hw1 : IntKind.i64.wrap ((tk : Int) + (K : Int)) = (T : Int) := by rw [IntWalk.i64_in _ (by omega)]; omega
    have hw2 : IntKind.i64.wrap ((T : Int) - (K : Int)) = (tk : Int) := by rw [IntWalk.i64_in _ (by omega)]; omega
    clear hK' hKm ht hn1 hT
    go_enter Try.func36, Try.ntmps36
    go_wp2_with (fail)
    go_quiet (fail)
    go_wp2_with (fail)
    go_quiet (fail)
    go_wp2_with (fail)
    go_ret
    exact ⟨rfl, HE.out _ _⟩
  · have hd : decide ((al.length : Int) - (tk : Int) < n) = true := by simp; omega
    have hT : tk + K = al.length := by omega
    rw [hT] at hsl HE ⊢
    have hw1 : IntKind.i64.wrap ((tk : Int) + ((al.length : Int) - (tk : Int))) = (al.length : Int) := by rw [IntWalk.i64_in _ (by omega)]; omega
    have hw4 : IntKind.i64.wrap ((tk : Int)) = (tk : Int) := IntWalk.i64_in _ (by omega)
    have hw2 : IntKind.i64.wrap ((al.length : Int) - ((al.length : Int) - (tk : Int))) = (tk : Int) := by rw [IntWalk.i64_in _ (by omega)]; omega
    clear hK' hKm ht hn1 hT
    go_enter Try.func36, Try.ntmps36
    go_wp2_with (fail)
    go_quiet (fail)
    go_wp2_with (fail)
    go_quiet (fail)
    go_wp2_with (fail)
    go_quiet (fail)
    go_wp2_with (fail)
    go_ret
    exact ⟨rfl, HE.out _ _⟩
theorem step_call {P : Program} {ops : Array Oper} {o : Oper} {a : Act} {w : World} {Q : Exit → Act → World → Prop} {E : Prop} {K : Act → World → Prop} {f : FuncId} {args : Array Value} {Post : Ending → World → Prop} {fn : Func} (hc : Calls P f args w Post) (hf : P.funcs[f]? = some fn)
    (hb : (fn.name == "runtime.NumGoroutine") = false ∧ fn.body.isNone = false) (xs : Array Operand) (tys : Array TypeId) (ho : o.op = .call { callee := .value (.func f), args := xs, argTypes := tys }) (hg : Region.wanted o (yielded ops a.tmps) = true) (hargs : xs.toList.map a.eval = args.toList)
    (hp : ∀ e w', Post e w' → ∃ v, e = .returned v ∧ K (a.put o.dst v) w') : if Region.wanted o (yielded ops a.tmps) = true then Oper.wp P o a w K Q else E := by
  rw [if_pos hg]
  unfold Oper.wp
  have hrun : (execOp a.eval o).run P w = .ok (.enter f args) w := by
    obtain ⟨dst, op, ty, pos, after, guard⟩ := o
    dsimp only at ho
    subst ho
    have hargs' : #[] ++ xs.map a.eval ++ #[] = args := by
      apply Array.ext'
      simpa using hargs
    rw [execOp_call_go, hargs']
    unfold callFunc
    have n1 : fn.name ≠ "runtime.NumGoroutine" := by simpa using hb.1
    have n2 : fn.body ≠ none := by
      intro e
      rw [e] at hb
      simp at hb
    simp [go_sem, hf, n1, n2]
  rw [hrun, Oper.upon_enter]
  refine hc.mono ?_
  intro e w' h
  obtain ⟨v, rfl, hk⟩ := hp e w' h
  exact hk
def rputP (d : Dia) (s : RSt) (r : Row) : RSt × Nat :=
  if s.cl then (s, 24) else if Wr.may r = 0 then ({ s with all := s.all ++ Wr.lineB d r (s.count == 0), count := s.count + 1 }, 0) else (s, Wr.may r)
def RPutP (w : World) (g : Nat) (d : Dia) (X : RSt × Nat) (e : Ending) (w' : World) : Prop := e = .returned (.int .i64 X.2) ∧ Blk w' g 69 (rwC d X.1) ∧ Keeps [g] w w'
set_option maxHeartbeats 8000000 in
theorem rput_c (w : World) (g : Nat) (d : Dia) (s : RSt) (A : Value) (hb : Blk w g 69 (rwC d s)) (r : Row) (B1 : Nat) (hr : Rd w B1 1 A r.length (r.map sv)) (hB : B1 ≤ w.heap.size) (h1 : r.length ≤ 10000) (h2 : bytesOfRow r ≤ 10000)
    (hs1 : s.all.length ≤ 1000000) (hs2 : s.count ≤ 1000000) :
    Calls Try.prog 35 #[.pointer (some ⟨g, 0, none⟩), A] w (RPutP w g d (rputP d s r)) := by
  obtain ⟨X, hX⟩ : ∃ X, rputP d s r = X := ⟨_, rfl⟩
  rw [hX]
  unfold rputP at hX
  have hr' := hr
  obtain ⟨A, ca, rfl, ha1, ha2⟩ := hr.form
  have c6 := hb.cell_of (i := 6) rfl
  obtain ⟨al, tk, cn, cl⟩ := s
  dsimp only at *
  cases cl
  rotate_left
  · have HX := Lib.hid hX
    have HB := Lib.hid hb
    unfold oneI at c6
    simp only [if_true] at c6
    clear hX hb
    go_enter Try.func35, Try.ntmps35
    go_wp2_with (fail)
    go_ret
    have hx := HX.out
    simp only [if_true] at hx
    subst hx
    exact ⟨rfl, HB.out, Keeps.refl _ _⟩
  unfold oneI at c6
  simp only [Bool.false_eq_true, if_false] at c6 hX
  obtain ⟨z0, hz0⟩ : ∃ z0, (cn == 0) = z0 := ⟨_, rfl⟩
  have hz0' : ((cn : Int) == 0) = z0 := by rw [← hz0, Bool.eq_iff_iff, beq_iff_eq, beq_iff_eq]; omega
  rw [hz0] at hX
  have hll := Wr.line_len d r z0
  have HM := Lib.hid (may_c (.slice A r.length ca) r B1 w hr' h2)
  have HLL := Lib.hid (fun N hN w' h hB => rline_c d (.slice A r.length ca) r z0 N hN B1 w' h hB h1 h2)
  unfold rdiaV at HLL
  generalize Wr.lineB d r z0 = LB at *
  generalize Wr.may r = M at *
  have HX := Lib.hid hX
  have HR := Lib.hid hr'
  clear hX hr hr' hz0
  go_enter Try.func35, Try.ntmps35
  go_wp2_with (fail)
  with_reducible refine HM.out.mono ?_
  rintro e w1 ⟨rfl, k1⟩
  have hb1 := hb.keep k1 (by simp)
  have c5 := hb1.cell_of (i := 5) rfl
  clear c6 hb HM
  by_cases hM : M = 0
  rotate_left
  · have hM' : ((M : Int) != 0) = true := by rw [bne_iff_ne]; omega
    have HX2 := Lib.hid ((if_neg hM).symm.trans HX.out)
    have HB := Lib.hid hb1
    clear hM hb1
    go_wp2_with (fail)
    go_ret
    exact ⟨by rw [← HX2.out]; rfl, by rw [← HX2.out]; exact HB.out, k1.sub (by simp)⟩
  subst hM
  have HX2 := Lib.hid ((if_pos rfl).symm.trans HX.out)
  clear HX
  have hcat := cat_mk al LB
  have hsum : ¬ (9223372036854775807 < al.length + LB.length) := by omega
  have hw1 : IntKind.i64.wrap ((cn : Int) + 1) = (cn : Int) + 1 := IntWalk.i64_in _ (by omega)
  have HE : Hid (∀ w2, Keeps [] w w2 → Blk w2 g 69 (rwC d ⟨al, tk, cn, false⟩) → Blk ((w2.setCell ⟨g, 3, none⟩ (sv (al ++ LB))).setCell ⟨g, 5, none⟩ (.int .i64 ((cn : Int) + 1))) g 69 (rwC d X.1) ∧ Keeps [g] w ((w2.setCell ⟨g, 3, none⟩ (sv (al ++ LB))).setCell ⟨g, 5, none⟩ (.int .i64 ((cn : Int) + 1)))) := Lib.hid (fun w2 k b => by
    refine ⟨?_, ((k.sub (by simp)).set1 ⟨g, 3, none⟩ _ (by simp)).set1 ⟨g, 5, none⟩ _ (by simp)⟩
    rw [← HX2.out]
    have := (b.set_ 3 (sv (al ++ LB))).set_ 5 (.int .i64 ((cn : Int) + 1))
    simpa [rwC] using this)
  have HX0 : Hid (X.2 = 0) := Lib.hid (by rw [← HX2.out])
  clear HX2
  have h3 := hb1.cell_of (i := 3) rfl
  have f3 := hb1.frozen (i := 3) (by simp [rwC])
  have f5 := hb1.frozen (i := 5) (by simp [rwC])
  have d0 := hb1.cell_of (i := 0) rfl
  have d1 := hb1.cell_of (i := 1) rfl
  have d2 := hb1.cell_of (i := 2) rfl
  have kq := k1.drew1
  have hbq := hb1.drew
  clear hb1 k1
  cases z0
  · have HL := Lib.hid (HLL.out 0 rfl)
    clear HLL
    go_wp2_with (fail)
    go_region_law (first
      | (refine step_call (HL.out _ (HR.out.keepB kq (by simp)) (Nat.le_trans hB kq.size)) Try.func17 ⟨by kernel_rfl, by kernel_rfl⟩ _ _ rfl rfl rfl ?_; rintro e w' ⟨rfl, k2⟩; refine ⟨_, rfl, ?_⟩; replace kq := kq.trans k2 (by simp); replace hbq := hbq.keep k2 (by simp); replace h3 := kC k2 h3 (by simp); replace c5 := kC k2 c5 (by simp); replace d0 := kC k2 d0 (by simp); replace d1 := kC k2 d1 (by simp); replace d2 := kC k2 d2 (by simp); replace f3 := hbq.frozen (i := 3) (by simp [rwC]); replace f5 := hbq.frozen (i := 5) (by simp [rwC])))
    all_goals
      go_wp2_with (fail)
      go_ret
      exact ⟨by rw [HX0.out]; rfl, HE.out _ kq hbq⟩
  · have HL := Lib.hid (HLL.out 1 rfl)
    clear HLL
    go_wp2_with (fail)
    go_region_law (first
      | (refine step_call (HL.out _ (HR.out.keepB kq (by simp)) (Nat.le_trans hB kq.size)) Try.func17 ⟨by kernel_rfl, by kernel_rfl⟩ _ _ rfl rfl rfl ?_; rintro e w' ⟨rfl, k2⟩; refine ⟨_, rfl, ?_⟩; replace kq := kq.trans k2 (by simp); replace hbq := hbq.keep k2 (by simp); replace h3 := kC k2 h3 (by simp); replace c5 := kC k2 c5 (by simp); replace d0 := kC k2 d0 (by simp); replace d1 := kC k2 d1 (by simp); replace d2 := kC k2 d2 (by simp); replace f3 := hbq.frozen (i := 3) (by simp [rwC]); replace f5 := hbq.frozen (i := 5) (by simp [rwC])))
    all_goals
      go_wp2_with (fail)
      go_ret
      exact ⟨by rw [HX0.out]; rfl, HE.out _ kq hbq⟩
def SmallP (ops : List Q.Op) (w : World) (e : Ending) (w' : World) : Prop := ∃ b, e = .returned (.bool b) ∧ Keeps [] w w' ∧ (b = true → ops.length ≤ 60 ∧ fieldsOf (ops.map Q.Op.r) ≤ 100 ∧ bytesOf (ops.map Q.Op.r) ≤ 800)
theorem infoStrs : (Try.prog.info? 24).map (fun i => (i.zero, i.size, i.bytes)) = some (some (.slice none 0 0), 1, 24) := by kernel_rfl
set_option maxHeartbeats 8000000 in
theorem small_c (A : Value) (ops : List Q.Op) (w : World) (B : Nat) (hB : B ≤ w.heap.size) (hv : Rd w B 3 A ops.length (ops.flatMap opC)) (ho : ∀ o ∈ ops, OpOk w B o) (hsm : Small (ops.map Q.Op.r)) : Calls Try.prog 34 #[A] w (SmallP ops w) := by
  obtain ⟨A, ca, rfl, ha1, ha2⟩ := hv.form
  unfold maxLen at ha2
  obtain ⟨iS, hiS, hS0, hS1, hS2⟩ := info_parts infoStrs
  go_enter Try.func34, Try.ntmps34
  go_wp2_with (fail)
  go_loopw [3, 8] (fun vt vi wr => ∃ k : Nat, k ≤ ops.length ∧ vi = .int .i64 k ∧ k ≤ 61 ∧ Own wr w.heap.size 24 1 vt k ((ops.take k).map Q.Op.v) ∧ Keeps [] w wr) (fun _ vi _ => ops.length - (intOf vi).toNat)
  case atStart => exact ⟨0, Nat.zero_le _, rfl, by omega, Own.nil_ _ _ _ _, Keeps.refl _ _⟩
  case round =>
    obtain ⟨k, hk, rfl, hk61, hO, kw⟩ := hrel
    have hO' := hO
    obtain ⟨At, ct, rfl, ht1, ht2⟩ := hO.form
    unfold maxLen at ht2
    by_cases hlt : k < ops.length
    · obtain ⟨b1, o1, rfl, hb1, hc1⟩ := op_cells (hv.keepB kw (by simp)) k hlt
      have hok := (ho _ (List.getElem_mem hlt)).rd
      have htk : (ops.take (k + 1)).map Q.Op.v = (ops.take k).map Q.Op.v ++ [(ops[k]).v] := by rw [List.take_succ_eq_append_getElem hlt, List.map_append]; rfl
      have HTK := Lib.hid htk
      clear htk
      generalize ops[k] = o at *
      obtain ⟨ok, on, ov, orr⟩ := o
      dsimp only at *
      obtain ⟨Ao, co, rfl, ho1, ho2⟩ := hok.form
      have p0 := hc1 0 _ rfl
      have p1 := hc1 1 _ rfl
      have p2 := hc1 2 _ rfl
      rw [Nat.add_zero] at p0
      have hk0 : (0 : Int) ≤ (k : Int) := by omega
      have hkl : (k : Int) < (ops.length : Int) := by omega
      have kA : Keeps [] wr (wr.alloc (.cells #[bv ok, .int .i64 on, .slice Ao orr.length co] 71)) := Keeps.alloc [] wr _
      have HKA := Lib.hid (kw.trans kA (by simp))
      clear hc1 hok kA
      by_cases hk60 : 60 < k
      · go_wp2_with (fail)
        go_ret
        exact ⟨false, rfl, HKA.out, by simp⟩
      · have hO2 := hO'.keep (Keeps.alloc [] wr (.cells #[bv ok, .int .i64 on, .slice Ao orr.length co] 71)) (by simp)
        obtain ⟨v8, w8, hap, hown8, k8, hb8⟩ := run_append1 (P := Try.prog) (ty := 26) (y := .slice Ao orr.length co) Try.underlying26 hiS hS0 hS1 hS2 rfl hO2 rfl (by unfold maxLen; omega) (by omega) (by have := kw.size; simp; omega)
        obtain ⟨A8, c8, rfl, h81, h82⟩ := hown8.form
        simp only [World.size_alloc] at hap
        have HO8 := Lib.hid hown8
        have K8 := Lib.hid k8
        have HO3 := Lib.hid (fun x hx => (hO.lt x hx).1)
        clear hown8 k8 hb8 hO2 hO' hO
        go_wp2_with (with_reducible refine wpList_append hap _ _ rfl rfl rfl rfl rfl ?_)
        refine ⟨⟨k + 1, by omega, by go_num, by omega, by rw [HTK.out]; exact HO8.out, HKA.out.trans K8.out (fun x hx hl => by have := HO3.out x hx; omega)⟩, by simp [intOf]; omega⟩
    · obtain rfl : k = ops.length := by omega
      have hkl : ¬ ((ops.length : Int) < (ops.length : Int)) := by omega
      rw [List.take_length] at hO'
      have htb : Tbl wr wr.heap.size (.slice At ops.length ct) (ops.map Q.Op.r) := by
        refine ⟨ops.map Q.Op.v, by simp, by simpa using hO'.rd (Nat.le_refl _), ?_⟩
        intro i u r hu hr
        rw [List.getElem?_map] at hu hr
        cases he : ops[i]? with
        | none => rw [he] at hu; simp at hu
        | some o =>
          rw [he] at hu hr
          simp only [Option.map_some, Option.some.injEq] at hu hr
          subst hu hr
          exact ((ho o (List.mem_of_getElem? he)).rd.keepB kw (by simp)).more (Nat.le_trans hB kw.size)
      have HG := Lib.hid (Same.great_c (.slice At ops.length ct) (ops.map Q.Op.r) 60 100 800 (by omega) (by omega) (by omega) wr.heap.size wr htb hsm)
      clear hO hO' htb
      go_wp2_with (fail)
      refine HG.out.mono ?_
      rintro e w1 ⟨b, rfl, hb, m1, rfl⟩
      cases b
      all_goals
        go_wp2_with (fail)
        go_ret
      · refine ⟨true, rfl, kw.drewN1 m1, fun _ => ?_⟩
        obtain ⟨g1, g2, g3⟩ := hb trivial
        exact ⟨by simpa using g1, g2, g3⟩
      · exact ⟨false, rfl, kw.drewN1 m1, by simp⟩
end Go.Proofs.Ytcmoldondflilaa.Pcs
