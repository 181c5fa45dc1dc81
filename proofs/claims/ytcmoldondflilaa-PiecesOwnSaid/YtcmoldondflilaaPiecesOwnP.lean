/- PROVED: for every dialect d, record r and byte n, PiecesOwn(d, r, n) returns true and leaves its arguments as they were. No condition. -/
import Derived.Test.YtcmoldondflilaaRows
import Derived.Test.YtcmoldondflilaaTxt2
import Derived.Test.YtcmoldondflilaaRef10
import Derived.Test.YtcmoldondflilaaPcs2
import Derived.Test.YtcmoldondflilaaOpenD
import Derived.Test.YtcmoldondflilaaSame
import Derived.BigCall
import Derived.Deep.RegionLaw
import Derived.BigRegion
namespace Go.Proofs.Ytcmoldondflilaa.PiecesOwnP
set_option linter.unusedVariables false
set_option linter.unusedSimpArgs false
set_option maxRecDepth 100000
open Go.ChangeShapes Go.WideShapes Go.ChangeAt Go.RowKit Q Mach Dia Need Bld Quo WLine Par Wide Pcs
open Tab (fieldsOf bytesOf bytesOfRow)
attribute [local go_sem ↓] Go.wp_at_zero Go.wp_at_succ

theorem own : ownKnob Try.prog.godebug = none := by kernel_rfl
theorem laidOut : laidOutB Try.prog = true := by kernel_rfl
theorem tbl1 {w : World} {B g : Nat} {u : Value} {r : Row} (hB : g < B) (h : w.cell? ⟨g, 0, none⟩ = some u) (hr : Rd w B 1 u r.length (r.map sv)) : Tbl w B (.slice (some ⟨g, 0, none⟩) 1 1) [r] := by
  refine ⟨[u], rfl, rdc1 hB h, ?_⟩
  intro i x y hx hy
  match i, hx, hy with
  | 0, hx, hy => simp at hx hy; subst hx hy; exact hr
def AllP (w0 : World) (g : Nat) (T2 : Bs) (e : Ending) (w' : World) : Prop := ∃ p2, e = .returned p2 ∧ Own w' w0.heap.size 5 1 p2 T2.length (T2.map bv) ∧ Keeps [g] w0 w'
theorem all_c (w0 : World) (base g : Nat) (d : Dia) (T2 : Bs) (n tt : Nat) (v9 : Value) (h0 : WAt w0 base g d ⟨T2, n, tt, false⟩ v9) (hl : T2.length ≤ 1000) : Calls Try.prog 31 #[.pointer (some ⟨g, 0, none⟩), .int .i64 1048576] w0 (AllP w0 g T2) := by
  refine (take_c w0 base g d _ v9 h0 1048576 (by decide) (by simp only; omega)).mono ?_
  rintro e w' ⟨p2, v2, rfl, h1, h2, h3, _⟩
  have ht : takeN ⟨T2, n, tt, false⟩ 1048576 = T2.length := by unfold takeN; simp only; omega
  rw [ht, List.take_length] at h1
  exact ⟨p2, rfl, h1, h3⟩
theorem u8_w (b : UInt8) : wrap64 (b.toNat : Int) = b.toNat ∧ IntKind.i64.wrap (b.toNat : Int) = b.toNat ∧ (-9223372036854775808 ≤ (b.toNat : Int) ∧ (b.toNat : Int) ≤ 9223372036854775807) := by
  have := b.toNat_lt
  exact ⟨IntWalk.wrap64_in _ (by omega), IntWalk.i64_in _ (by omega), by omega, by omega⟩
theorem Fldinfo : (Try.prog.info? 9).map (fun i => (i.zero, i.size, i.bytes)) = some (some (.string ⟨#[]⟩), 1, 16) := by kernel_rfl
theorem step_call {P : Program} {ops : Array Oper} {o : Oper} {a : Act} {w : World} {Q : Exit → Act → World → Prop} {E : Prop} {K : Act → World → Prop} {f : FuncId} {args : Array Value} {Post : Ending → World → Prop} {fn : Func} (hc : Calls P f args w Post) (hf : P.funcs[f]? = some fn)
    (hb : (fn.name == "runtime.NumGoroutine") = false ∧ fn.body.isNone = false) (xs : Array Operand) (tys : Array TypeId) (ho : o.op = .call { callee := .value (.func f), args := xs, argTypes := tys }) (hg : Region.wanted o (yielded ops a.tmps) = true) (hargs : xs.toList.map a.eval = args.toList)
    (hp : ∀ e w', Post e w' → ∃ v, e = .returned v ∧ K (a.put o.dst v) w') : if Region.wanted o (yielded ops a.tmps) = true then Oper.wp P o a w K Q else E := by
  rw [if_pos hg]
  unfold Oper.wp
  have hrun : (execOp a.eval o).run P w = .ok (.enter f args) w := by
    obtain ⟨dst, op, ty, pos, after, guard⟩ := o
    dsimp only at ho
    subst ho
    have hargs' : #[] ++ xs.map a.eval ++ #[] = args := by
      apply Array.ext'
      simpa using hargs
    rw [execOp_call_go, hargs']
    unfold callFunc
    have n1 : fn.name ≠ "runtime.NumGoroutine" := by simpa using hb.1
    have n2 : fn.body ≠ none := by
      intro e
      rw [e] at hb
      simp at hb
    simp [go_sem, hf, n1, n2]
  rw [hrun, Oper.upon_enter]
  refine hc.mono ?_
  intro e w' h
  obtain ⟨v, rfl, hk⟩ := hp e w' h
  exact hk
set_option maxHeartbeats 20000000 in
theorem walk (d : Dia) (A : Value) (r : Row) (nb : UInt8) (w : World) (hr : Rd w w.heap.size 1 A r.length (r.map sv)) (hs : ∀ s ∈ r, s.length ≤ reachBytes) (hrl : r.length ≤ reachBytes) : Calls Try.prog 7 #[diaV d, A, bv nb] w fun e w' => e = .returned (.bool true) ∧ Below w.heap.size w w' := by
  have HA := Lib.hid awake11_c
  have HR := Lib.hid (fun w => ref_c d w)
  have HRR := Lib.hid (fun w => right_c d w)
  have hr' := hr
  obtain ⟨A, ca, rfl, ha1, ha2⟩ := hr.form
  unfold maxLen at ha2
  have kp : Keeps [] w (w.alloc (.cells #[bv d.delim, bv d.quote, .int .i64 d.fin] 23)) := Keeps.alloc [] w _
  have hbx := Blk.new w 23 [bv d.delim, bv d.quote, .int .i64 d.fin]
  have kpA := kp.alloc1 (.cells #[.slice A r.length ca] 24)
  have hbA := hbx.alloc (.cells #[.slice A r.length ca] 24)
  have hbT := Blk.new (w.alloc (.cells #[bv d.delim, bv d.quote, .int .i64 d.fin] 23)) 24 [.slice A r.length ca]
  rw [World.size_alloc] at hbT
  have htb := tbl1 (B := w.heap.size + 2) (by omega) (hbT.cell_of (i := 0) rfl) ((hr'.keepB kpA (by simp)).more (by omega))
  have HG := Lib.hid (Same.great_c _ [r] 1 20 400 (by omega) (by omega) (by omega) _ _ htb (by
    refine ⟨by simp [reachBytes], ?_⟩
    intro x hx
    simp only [List.mem_singleton] at hx
    subst hx
    exact ⟨hrl, hs⟩))
  have HMY := Lib.hid (fun w' h h2 => may_c (.slice A r.length ca) r w.heap.size w' h h2)
  obtain ⟨R, hR⟩ : ∃ R, d.right = R := ⟨_, rfl⟩
  rw [hR] at HRR
  have HRI := Lib.hid hR
  obtain ⟨M, hM⟩ : ∃ M, Wr.may r = M := ⟨_, rfl⟩
  rw [hM] at HMY
  have HMM := Lib.hid hM
  clear hR hbT htb hbx kp hM
  obtain ⟨DD, hDD⟩ : ∃ D : Dia, D = d := ⟨_, rfl⟩
  have HDD := Lib.hid hDD
  clear hDD
  obtain ⟨x, y, z⟩ := d
  go_enter Try.func7, Try.ntmps7
  go_wp2_with (fail)
  refine HG.out.mono ?_
  rintro e w1 ⟨b, rfl, hb, m1, rfl⟩
  have k1 := kpA.drewN1 m1
  have hb1 := hbA.drewN m1
  clear HG kpA hbA
  generalize ((w.alloc (.cells #[bv x, bv y, .int .i64 z] 23)).alloc (.cells #[.slice A r.length ca] 24)).drewN m1 = w1 at *
  cases b
  rotate_left
  · go_wp2_with (fail)
    refine (HA.out _).mono ?_
    rintro e w2 ⟨rfl, k2⟩
    go_wp2_with (fail)
    go_ret
    exact ⟨rfl, (k1.trans k2 (by simp)).below (Nat.le_refl _) (by simp)⟩
  obtain ⟨g1, g2, g3⟩ := hb rfl
  have g2 : r.length ≤ 20 := by simpa [fieldsOf] using g2
  have g3 : bytesOfRow r ≤ 400 := by simpa [bytesOf] using g3
  clear hb g1
  have c0 := hb1.cell_of (i := 0) rfl
  have c1 := hb1.cell_of (i := 1) rfl
  have c2 := hb1.cell_of (i := 2) rfl
  go_wp2_with (fail)
  refine (HR.out _).mono ?_
  rintro e w2 ⟨rfl, k2⟩
  go_wp2_with (fail)
  refine (HRR.out _).mono ?_
  rintro e w3 ⟨rfl, k3⟩
  have k03 := (k1.trans k2 (by simp)).trans k3 (by simp)
  have hb3 := (hb1.keep k2 (by simp)).keep k3 (by simp)
  clear c0 c1 c2 k1 k2 k3 hb1
  cases R
  · go_wp2_with (fail)
    refine (HA.out _).mono ?_
    rintro e w4 ⟨rfl, k4⟩
    go_wp2_with (fail)
    go_ret
    exact ⟨rfl, (k03.trans k4 (by simp)).below (Nat.le_refl _) (by simp)⟩
  have HMC := Lib.hid (HMY.out w3 (hr'.keepB k03 (by simp)) (by omega))
  clear HMY
  go_wp2_with (fail)
  refine HMC.out.mono ?_
  rintro e w4 ⟨rfl, k4⟩
  have k04 := k03.trans k4 (by simp)
  have hb4 := hb3.keep k4 (by simp)
  clear k03 k4 hb3 HMC
  by_cases hM0 : M = 0
  rotate_left
  · have hM2 : ((M : Int) != 0) = true := by rw [bne_iff_ne]; omega
    clear hM0
    go_wp2_with (fail)
    refine (HA.out _).mono ?_
    rintro e w5 ⟨rfl, k5⟩
    go_wp2_with (fail)
    go_ret
    exact ⟨rfl, (k04.trans k5 (by simp)).below (Nat.le_refl _) (by simp)⟩
  subst hM0
  have c0 := hb4.cell_of (i := 0) rfl
  have c1 := hb4.cell_of (i := 1) rfl
  have c2 := hb4.cell_of (i := 2) rfl
  have HN := Lib.hid (new_c ⟨x, y, z⟩ HRI.out w4)
  go_wp2_with (fail)
  refine HN.out.mono ?_
  rintro e w5 ⟨g, rfl, hW5, k5⟩
  have k05 := k04.trans k5 (by simp)
  have hb5 := hb4.keep k5 (by simp)
  have hW5 := hW5.less (b := w.heap.size) k04.size
  have hlg : w.heap.size < g := by
    have h1 := hb5.lt
    rcases Nat.lt_or_ge w.heap.size g with h | h
    · exact h
    · have := hW5.low
      have e : g = w.heap.size := by omega
      exact absurd rfl (fun h' : g = g => hW5.blk.ne_ (e ▸ hb5) (by decide) rfl)
  have hl5 := hb5.lt
  clear c0 c1 c2 k04 k5 hb4 HN HRR
  obtain ⟨iS, hiS, hS0, hS1, hS2⟩ := info_parts Fldinfo
  have o0 : Own (w5.alloc (.cells #[] 9)) w5.heap.size 9 1 (.slice (some ⟨w5.heap.size, 0, none⟩) 0 0) 0 [] := by simpa using own_lit w5 9 [] (by simp [maxLen])
  have k05a := k05.alloc1 (.cells #[] 9)
  have ra1 := hr'.keepB k05a (by simp)
  obtain ⟨vo, w6, hap, hown6, hk6, hb6⟩ := run_append (P := Try.prog) (base := w5.heap.size) (u := 24) (ty := 24) Try.underlying24 hiS hS0 hS1 hS2 rfl o0 (ra1.src Try.underlying24) (one_sv _) (by simp only [maxLen]; omega) (by omega) (by simp)
  simp only [Nat.zero_add, List.nil_append] at hown6
  have hk56 : Keeps [] w5 w6 := (Keeps.alloc [] w5 _).trans hk6 (by intro x hx hl; simp [blkOf] at hx; omega)
  have hW6 := hW5.keep hk56
  have hb6x := hb5.keep hk56 (by simp)
  have k06 := k05.trans hk56 (by simp)
  have HPT := Lib.hid (put_c w6 w.heap.size g ⟨x, y, z⟩ HRI.out ⟨[], 0, 0, false⟩ _ vo hW6 r w6.heap.size (hown6.rd (Nat.le_refl _)) (Nat.le_refl _) (by omega) (by omega) (by simp) (by simp) (by simp))
  have hpt : putP ⟨x, y, z⟩ ⟨[], 0, 0, false⟩ r = (⟨Wr.lineB ⟨x, y, z⟩ r true, 1, (Wr.lineB ⟨x, y, z⟩ r true).length, false⟩, 0) := by
    unfold putP
    rw [if_neg (by simp), if_pos HMM.out]
    simp
  rw [hpt] at HPT
  obtain ⟨Ao, co, rfl, ho1, ho2⟩ := hown6.form
  unfold maxLen at ho2
  have hll := Wr.line_len ⟨x, y, z⟩ r true
  have HAO := Lib.hid (hown6.apartBlk hW6.blk (by decide))
  have HO6 := Lib.hid hown6
  have HB6 := Lib.hid hb6x
  have K06 := Lib.hid k06
  clear hiS hS0 hS1 hS2 o0 k05a ra1 hown6 hk6 hb6 hk56 hW6 hW5 hb6x k06 hpt hb5 k05 HMM
  go_wp2_with (with_reducible refine wpList_append hap _ _ rfl rfl rfl rfl rfl ?_)
  refine HPT.out.mono ?_
  rintro e w7 ⟨rfl, v7, hW7, k7, hv7⟩
  dsimp only at hW7
  simp only [blkOf] at k7
  have ho7 := HO6.out.keep k7 (fun a ha hm => by simp at hm; subst hm; exact HAO.out _ ha rfl)
  have hb7 := HB6.out.keep k7 (by simp; omega)
  have K07 := Lib.hid (K06.out.trans k7 (F' := [g]) (F := []) (by intro x hx hl; simp at hx; omega))
  have hgl7 := hW7.blk.lt
  generalize hLB : Wr.lineB ⟨x, y, z⟩ r true = LB at *
  have HLB := Lib.hid hLB
  have HB7 := Lib.hid hb7
  have HW7 := Lib.hid hW7
  have HO7 := Lib.hid ho7
  clear hLB hb7 hW7 k7 hv7 HO6 HB6 K06 HPT hr
  go_wp2_with (fail)
  go_loopw [48] (fun i wr => ∃ (j : Nat) (xs : List Value), j ≤ r.length ∧ i = .int .i64 j ∧ Own wr w5.heap.size 9 1 (.slice Ao r.length co) r.length xs ∧ Keeps (blkOf (.slice Ao r.length co)) w7 wr) (fun i _ => r.length - (intOf i).toNat)
  case atStart => exact ⟨0, _, Nat.zero_le _, rfl, ho7, Keeps.refl _ _⟩
  case round =>
    obtain ⟨j, xs, hj, rfl, hox, hkx⟩ := hrel
    clear ho7
    by_cases hjl : j < r.length
    · obtain ⟨gs, os, us, rfl, hgs, hgs2, hus, cus, fus, hset⟩ := hox.at_ hjl
      have hj0 : (0 : Int) ≤ (j : Int) := by omega
      have hjl2 : (j : Int) < (r.length : Int) := by omega
      have HSET := Lib.hid hset
      have HKX := Lib.hid hkx
      clear hset hkx hox
      go_wp2_with (fail)
      exact ⟨⟨j + 1, _, by omega, by go_num, HSET.out _, HKX.out.set1 _ _ (by simp [blkOf])⟩, by simp [intOf]; omega⟩
    · obtain rfl : j = r.length := by omega
      have hW8 := HW7.out.keepF hkx (fun hm => HAO.out _ hm rfl) (fun a ha hm => HW7.out.own.apart HO7.out (by decide) a ha hm)
      have hb8 := HB7.out.keep hkx (fun hm => by have := (HO7.out.lt _ hm).1; omega)
      have K08 := Lib.hid (K07.out.trans hkx (F' := blkOf (.slice Ao r.length co)) (F := []) (by intro x hx hl; have := (HO7.out.lt _ hx).1; omega))
      have hwb := (u8_w nb).1
      have hwb2 := (u8_w nb).2.1
      have HTK := Lib.hid (take_c wr w.heap.size g ⟨x, y, z⟩ ⟨LB, 1, LB.length, false⟩ v7 hW8 nb.toNat (u8_w nb).2.2 (by simp only; omega))
      have hgr := hW8.blk.lt
      have HW8L := Lib.hid (fun a ha => (hW8.own.lt a ha).2)
      have HB8 := Lib.hid hb8
      clear hb8 hW8 hox hkx hj HW7 HO7 HB7 K07 hap HAO
      go_wp2_with (fail)
      with_reducible refine HTK.out.mono ?_
      rintro e w9 ⟨pp, v9, rfl, hp9, hW9, k9, hv9⟩
      unfold takeP at hW9
      generalize hkk : takeN ⟨LB, 1, LB.length, false⟩ (nb.toNat : Int) = kk at *
      dsimp only at hp9 hW9
      have hstr : (convert 60 9 pp).run Try.prog w9 = .ok (sv (LB.take kk)) w9 := run_toString (hp9.rd (Nat.le_refl _)) Try.underlying60 Try.underlying5 Try.underlying9
      have hapP : ∀ a ∈ blkOf pp, a ∉ blkOf v9 := fun a ha hm => by
        have := (hp9.lt a ha).1
        have := HW8L.out a (hv9 a hm)
        omega
      have hb9 := HB8.out.keep k9 (by simp; omega)
      have K09 := Lib.hid (K08.out.trans k9 (F' := [g]) (F := []) (by intro x hx hl; simp at hx; omega))
      obtain ⟨Ap, cp, rfl, hp91, hp92⟩ := hp9.form
      unfold maxLen at hp92
      generalize hT : LB.take kk = T1 at *
      have HT1 := Lib.hid hT
      have HAP := Lib.hid hapP
      have HW9 := Lib.hid hW9
      have HB9 := Lib.hid hb9
      have HP9 := Lib.hid hp9
      clear hT hapP hW9 hb9 hv9 HTK HW8L HB8 K08 hkk hwb hwb2
      go_wp2_with (with_reducible refine wpList_convert hstr _ rfl rfl rfl ?_)
      go_loopw [63] (fun i wx => ∃ (j : Nat) (xs : List Value), j ≤ T1.length ∧ i = .int .i64 j ∧ Own wx wr.heap.size 5 1 (.slice Ap T1.length cp) T1.length xs ∧ (∀ u ∈ xs, ∃ q, u = .int .u8 q) ∧ Keeps (blkOf (.slice Ap T1.length cp)) w9 wx) (fun i _ => T1.length - (intOf i).toNat)
      case atStart => exact ⟨0, _, Nat.zero_le _, rfl, hp9, by intro u hu; simp at hu; obtain ⟨b, _, rfl⟩ := hu; exact ⟨_, rfl⟩, Keeps.refl _ _⟩
      case round =>
        obtain ⟨j, xs, hj, rfl, hox, hall, hkx⟩ := hrel
        clear hp9 hstr k9
        by_cases hjl : j < T1.length
        · obtain ⟨gs, os, us, rfl, hgs, hgs2, hus, cus, fus, hset⟩ := hox.at_ hjl
          obtain ⟨q, rfl⟩ := hall us (List.mem_of_getElem? hus)
          have hj0 : (0 : Int) ≤ (j : Int) := by omega
          have hjl2 : (j : Int) < (T1.length : Int) := by omega
          have HSET := Lib.hid hset
          have HKX := Lib.hid hkx
          have HALL := Lib.hid hall
          clear hset hkx hox hus hall
          go_wp2_with (fail)
          refine ⟨⟨j + 1, _, by omega, by go_num, HSET.out _, ?_, HKX.out.set1 _ _ (by simp [blkOf])⟩, by simp [intOf]; omega⟩
          intro u hu
          rcases List.mem_or_eq_of_mem_set hu with h | h
          · exact HALL.out u h
          · exact ⟨_, h⟩
        · obtain rfl : j = T1.length := by omega
          have hW10 := HW9.out.keepF hkx (fun hm => HP9.out.apartBlk HW9.out.blk (by decide) _ hm rfl) (fun a ha hm => HAP.out a hm ha)
          have hb10 := HB9.out.keep hkx (fun hm => by have := (HP9.out.lt _ hm).1; omega)
          have K10 := K09.out.trans hkx (F' := blkOf (.slice Ap T1.length cp)) (F := []) (by intro x hx hl; have := (HP9.out.lt _ hx).1; omega)
          have hle10 : (LB.drop kk).length ≤ 1000 := by rw [List.length_drop]; omega
          obtain ⟨T2, hT2⟩ : ∃ T, LB.drop kk = T := ⟨_, rfl⟩
          rw [hT2] at hW10 hle10
          have hcc : T1 ++ T2 = LB := by rw [← HT1.out, ← hT2, List.take_append_drop]
          have heq : (T1 ++ T2 == LB) = true := by rw [hcc]; simp
          have HTK := Lib.hid (fun w0 (h0 : WAt w0 w.heap.size g ⟨x, y, z⟩ ⟨T2, 1, LB.length, false⟩ v9) => all_c w0 w.heap.size g ⟨x, y, z⟩ T2 1 LB.length v9 h0 hle10)
          have HLL := Lib.hid (fun w' h hB => rline_c ⟨x, y, z⟩ (.slice A r.length ca) r true 1 rfl w.heap.size w' h hB (by omega) (by omega))
          rw [HLB.out] at HLL
          have HRR := Lib.hid hr'
          have hl1 : T1.length ≤ 2000 := by have := congrArg List.length hcc; simp at this; omega
          have hsum : ¬ (9223372036854775807 < T1.length + T2.length) := by omega
          have hcat := cat_mk T1 T2
          have c0 := hb10.cell_of (i := 0) rfl
          have c1 := hb10.cell_of (i := 1) rfl
          have c2 := hb10.cell_of (i := 2) rfl
          have hlbx := hb10.lt
          have hW := hW10.keep (Keeps.drew [] wr)
          have kq := K10.drew1
          clear hW10 hb10 K10 HP9 HB9 HW9 HAP HT1 K09 hkx hox hall hj hjl HLB hT2 hcc hp91 hp92 hgl7 hgr hW5 ho1 ho2 hr' hs hrl ha1 ha2 g2 g3
          go_wp2_with (fail)
          go_region_law (first
            | (refine step_call (HTK.out _ hW) Try.func31 ⟨by kernel_rfl, by kernel_rfl⟩ _ _ rfl rfl rfl ?_; rintro e w' ⟨p2, rfl, hp2, k2⟩; refine ⟨_, rfl, ?_⟩; replace c0 := kC k2 c0 (by simp; omega); replace c1 := kC k2 c1 (by simp; omega); replace c2 := kC k2 c2 (by simp; omega); replace kq := kq.trans k2 (F' := [g]) (F := []) (by intro x hx hl; simp at hx; omega); have hcv := run_toString (src := 60) (dst := 9) (P := Try.prog) (hp2.rd (Nat.le_refl _)) Try.underlying60 Try.underlying5 Try.underlying9; clear hW)
            | (refine step_call (HR.out _) Try.func15 ⟨by kernel_rfl, by kernel_rfl⟩ _ _ rfl rfl rfl ?_; rintro e w' ⟨rfl, k2⟩; refine ⟨_, rfl, ?_⟩; (try replace hW := hW.keep k2); (try replace hp2 := hp2.keep k2 (by simp)); (try replace hcv := run_toString (src := 60) (dst := 9) (P := Try.prog) (hp2.rd (Nat.le_refl _)) Try.underlying60 Try.underlying5 Try.underlying9); replace kq := kq.trans k2 (by simp))
            | (refine step_call (HLL.out _ (HRR.out.keepB kq (by simp)) kq.size) Try.func17 ⟨by kernel_rfl, by kernel_rfl⟩ _ _ rfl rfl rfl ?_; rintro e w' ⟨rfl, k2⟩; refine ⟨_, rfl, ?_⟩; (try replace hW := hW.keep k2); (try replace hp2 := hp2.keep k2 (by simp)); (try replace hcv := run_toString (src := 60) (dst := 9) (P := Try.prog) (hp2.rd (Nat.le_refl _)) Try.underlying60 Try.underlying5 Try.underlying9); replace kq := kq.trans k2 (by simp))
            | (refine step_call (HA.out _) Try.func28 ⟨by kernel_rfl, by kernel_rfl⟩ _ _ rfl rfl rfl ?_; rintro e w' ⟨rfl, k2⟩; refine ⟨_, rfl, ?_⟩; replace kq := kq.trans k2 (by simp)))
          all_goals
            go_wp2_with (fail)
            go_ret
            exact ⟨rfl, kq.below (Nat.le_refl _) (by simp)⟩
set_option maxRecDepth 100000 in
theorem lifted (os : Os) (started : os.Started) (H : Type) (enc : TypeId × Value → H) :
    ReturnsInHanded {} Try.checked os 7 .any (Rows.piecesOwnSpec.pre6 enc Try.prog Try.f7 Rows.piecesOwnRow.domain false) (Rows.piecesOwnSpec.post enc Try.prog Try.f7 false true false false) := by
  refine returnsInHanded_of_change_sized (C := Try.checked) own started (by kernel_rfl) Try.func7
    (ChangeSpec.witness6 (enc := enc) (C := Try.checked) false ⟨#[], #[.agg #[.int .u8 0, .int .u8 0, .int .i64 0], .slice none 0 0, .int .u8 0], []⟩ 8 (by kernel_rfl) (by kernel_rfl) (by kernel_rfl) (by kernel_rfl)) ?_
  intro W base args ds gs before hval0 hW hcnd hsz0 _
  have hval : ∀ (j : Nat) t v, Try.f7.params[j]? = some t → args[j]? = some v → Value.okWide Try.prog W .any base t v := hval0
  have hW' := hW
  obtain ⟨p, q, hA0, hV, rfl, hfz, hnd⟩ := hW
  have hA : DataW.TrodAll enc Try.prog W 0 (fun _ => true) true Try.f7.params.toList args.toList ds p := hA0
  have hsz : (DataW.weightsEach Try.prog (Try.f7.params.toList ++ Rows.piecesOwnSpec.plain.varTypes Try.prog) (ds ++ gs)).all (· ≤ reachBytes) = true := hsz0
  rw [Try.params7] at hA hval hsz
  obtain ⟨v0, vs0, d0, ds0, p0, q0, hargs, rfl, rfl, k0, r0⟩ := trodAll_cons hA
  obtain ⟨v1, vs1, d1, ds1, p1, q1, rfl, rfl, rfl, k1, r1⟩ := trodAll_cons r0
  obtain ⟨v2, vs2, d2, ds2, p2, q2, rfl, rfl, rfl, k2, r2⟩ := trodAll_cons r1
  obtain ⟨rfl, rfl, rfl⟩ := trodAll_nil r2
  obtain rfl : args = #[v0, v1, v2] := by cases args; simp_all
  obtain ⟨rfl, rfl⟩ := trodVars_none hV
  have lt0 := Trod_lt k0
  have lt1 := Trod_lt k1
  have lt2 := Trod_lt k2
  obtain ⟨x0, y0, z0, rfl, hz0⟩ := Trod_dialect Try.underlying23 (by kernel_rfl) (by kernel_rfl) Try.underlying5 Try.underlying5 Try.underlying3 (hval 0 23 v0 rfl rfl) k0
  obtain ⟨l1, rd1, hl1, hs1⟩ := Trod_strs Try.underlying24 Try.underlying9 (by kernel_rfl) (of_decide_eq_true (by kernel_rfl)) (hval 1 24 v1 rfl rfl) k1 (wt_of hsz (j := 1) rfl rfl)
  obtain ⟨b2, rfl⟩ := Trod_u8 Try.underlying5 (hval 2 5 v2 rfl rfl) k2
  clear hA0 hval0 hsz0
  refine (walk ⟨x0, y0, z0⟩ v1 l1 b2 W rd1 hs1 hl1).mono fun e W' ⟨he, bel⟩ => ?_
  subst he
  exact ⟨_, rfl, _, _, _, [], _, [], hW', trodAll_mk1 (shut_bool Try.underlying4 _), (trodAll_cons_mk (Below.trod laidOut (by kernel_rfl) (of_decide_eq_true (by kernel_rfl)) k0 bel lt0) (trodAll_cons_mk (Below.trod laidOut (by kernel_rfl) (of_decide_eq_true (by kernel_rfl)) k1 bel lt1) (trodAll_cons_mk (Below.trod laidOut (by kernel_rfl) (of_decide_eq_true (by kernel_rfl)) k2 bel lt2) trodAll_mk0))), rfl, bel.frame _, fun h => by cases h⟩

theorem proved : Rows.PiecesOwnSaid :=
  OpenClaim.holds_of_wide 7 Try.f7 rfl rfl rfl rfl rfl rfl rfl ⟨rfl, rfl, rfl, rfl, rfl⟩ rfl rfl rfl rfl rfl (by kernel_rfl) Try.func7 (by kernel_rfl)
    (of_decide_eq_true (by kernel_rfl)) (by unfold Func.isWrapper; first | (rw [if_pos (by decide +kernel)]; kernel_rfl) | (rw [if_neg (by decide +kernel)]; exact ⟨rfl, rfl⟩))
    (fun os started H enc _ => lifted os started H enc)
end Go.Proofs.Ytcmoldondflilaa.PiecesOwnP
namespace Go.Proofs.Ytcmoldondflilaa
theorem piecesOwn_holds : Rows.PiecesOwnSaid := PiecesOwnP.proved
#print axioms piecesOwn_holds
end Go.Proofs.Ytcmoldondflilaa
