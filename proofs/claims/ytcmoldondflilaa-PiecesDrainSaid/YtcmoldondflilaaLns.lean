/- write.Lines, its closure (an iterator), write.Size. -/
import Derived.Test.YtcmoldondflilaaRf
import Derived.Test.YtcmoldondflilaaTxt2
import Derived.RangeFuncNested
import Derived.RangeFuncBound
import Derived.RangeFuncCalls
import Derived.RangeFuncLeaves
import Derived.Shelf.Abstract
import Derived.Shelf.RegionOpen
import Derived.WalkKit
import Derived.OwnWalkIn
import Derived.TacticsInMore
import Derived.LoopNIn
import Derived.LoopIn
namespace Go.Proofs.Ytcmoldondflilaa.WLine
set_option linter.unusedVariables false
set_option linter.unusedSimpArgs false
set_option maxRecDepth 100000
open Go.RowKit Go.Shelf Q Mach Dia
open Tab (fieldsOf bytesOf bytesOfRow)
attribute [local go_sem] Oper.semAt_some
/-- How many lines there are. -/
def nL (d : Dia) (t : Tb) : Nat := if d.right then Wr.front t else 0
theorem nl_le (d : Dia) (t : Tb) : nL d t ≤ t.length := by unfold nL; split; exact Wr.front_le t; omega
theorem nl_stop {d : Dia} {t : Tb} {k : Nat} (hk : k < t.length) (h : ∀ (j : Nat) (hj : j < t.length), j < k → d.right = true ∧ Wr.may t[j] = 0) (hb : (lineR d t[k] (k == 0)).2 ≠ 0) : nL d t = k := by
  unfold nL
  unfold lineR at hb
  cases hr : d.right
  · rw [if_neg (by simp)]
    rcases Nat.eq_zero_or_pos k with h0 | h0
    · exact h0.symm
    · have := (h 0 (by omega) h0).1
      rw [hr] at this
      cases this
  · rw [if_pos rfl]
    rw [hr, if_pos rfl] at hb
    refine Wr.front_of hk (fun j hj hjk => (h j hj hjk).2) (fun h0 => ?_)
    rw [if_pos h0] at hb
    exact hb rfl
theorem nl_end {d : Dia} {t : Tb} (h : ∀ (j : Nat) (hj : j < t.length), j < t.length → d.right = true ∧ Wr.may t[j] = 0) : nL d t = t.length := by
  unfold nL
  cases hr : d.right
  · rw [if_neg (by simp)]
    rcases Nat.eq_zero_or_pos t.length with h0 | h0
    · exact h0.symm
    · have := (h 0 h0 h0).1
      rw [hr] at this
      cases this
  · rw [if_pos rfl]
    exact Wr.front_all (fun j hj => (h j hj hj).2)
theorem nl_step {d : Dia} {t : Tb} {k : Nat} (hk : k < t.length) (hb : (lineR d t[k] (k == 0)).2 = 0) : d.right = true ∧ Wr.may t[k] = 0 ∧ (lineR d t[k] (k == 0)).1 = Wr.lineB d t[k] (k == 0) := by
  unfold lineR at hb ⊢
  cases hr : d.right
  · rw [hr] at hb; simp at hb
  · rw [hr, if_pos rfl] at hb
    by_cases hm : Wr.may t[k] = 0
    · exact ⟨rfl, hm, by simp [hm]⟩
    · rw [if_neg hm] at hb
      exact absurd hb hm
set_option maxHeartbeats 1000000 in
theorem lines_c (d : Dia) (A : Option Addr) (n c : Nat) (w : World) : Calls Try.prog 24 #[diaV d, .slice A n c] w fun e w' => e = .returned (.func (.func 55) #[] #[.pointer (some ⟨w.heap.size + 1, 0, none⟩), .pointer (some ⟨w.heap.size, 0, none⟩)]) ∧
    w' = (w.alloc (.cells #[bv d.delim, bv d.quote, .int .i64 d.fin] 23)).alloc (.cells #[.slice A n c] 26) := by
  obtain ⟨x, y, z⟩ := d
  go_enter Try.func24, Try.ntmps24
  go_wp2_with (fail)
  go_ret
  exact ⟨rfl, rfl⟩
/-- A line with its number. -/
def encL (x : Nat × Bs) : Array Value := #[.int .i64 (x.1 : Int), sv x.2]
/-- What the iterator hands on behind 'pre'. -/
def PrL (d : Dia) (t : Tb) (pre : List (Nat × Bs)) (x : Nat × Bs) (W : World) : Prop := ∃ h : pre.length < t.length, pre.length < nL d t ∧ x = (pre.length, Wr.lineB d t[pre.length] (pre.length == 0))
def SL (d : Dia) (t : Tb) (xs : List (Nat × Bs)) (W : World) : Prop := xs.length = nL d t
/-- Where the iterator stands. -/
structure LAt (d : Dia) (t : Tb) (Fb : List Nat) (B : Nat) (w : World) (J : List (Nat × Bs) → World → Prop) (k : Nat) (wr : World) : Prop where
  pre : ∃ pre, pre.length = k ∧ J pre wr
  le : k ≤ t.length
  kb : KB B Fb w wr
  all : ∀ (j : Nat) (hj : j < t.length), j < k → d.right = true ∧ Wr.may t[j] = 0
set_option maxHeartbeats 8000000 in
theorem lines_itr (d : Dia) (A : Value) (t : Tb) (w : World) (gd gt B0 : Nat) (hd : Blk w gd 23 [bv d.delim, bv d.quote, .int .i64 d.fin]) (ht : Blk w gt 26 [A]) (htb : Tbl w B0 A t) (hB0 : B0 ≤ w.heap.size) (h0 : t.length ≤ 10000) (h1 : fieldsOf t ≤ 10000) (h2 : bytesOf t ≤ 10000)
    (Fb : List Nat) (hFb : ∀ x ∈ Fb, B0 ≤ x ∧ x ≠ gd ∧ x ≠ gt) : Itr Try.prog 55 #[.pointer (some ⟨gt, 0, none⟩), .pointer (some ⟨gd, 0, none⟩)] encL w.heap.size [] Fb (PrL d t) (SL d t) (fun _ _ => True) w := by
  intro l J Jx W hW hJ hJx hY hJ0
  obtain ⟨A, ca, rfl, ha1, ha2⟩ := htb.form
  unfold maxLen at ha2
  have hdl := hd.lt
  have htl := ht.lt
  have KBW : KB w.heap.size Fb w W := KB.of_keeps (hW.sub (by simp)) (Nat.le_refl _)
  have L0 : LAt d t Fb w.heap.size w J 0 W := ⟨⟨[], rfl, hJ0⟩, Nat.zero_le _, KBW, fun j _ h => by omega⟩
  have hF1 : gd ∉ Fb := fun h => (hFb _ h).2.1 rfl
  have hF2 : gt ∉ Fb := fun h => (hFb _ h).2.2 rfl
  have ctW := (KBW.blk ht htl hF2).cell_of (i := 0) rfl
  have HLC := Lib.hid (fun A r first B1 w h hB h1 h2 => line_c d A r first B1 w h hB h1 h2)
  clear KBW hJ0
  obtain ⟨DD, hDD⟩ : ∃ D : Dia, D = d := ⟨_, rfl⟩
  rw [← hDD] at L0 hY ⊢
  have HDDE := Lib.hid hDD
  clear hDD
  obtain ⟨x, y, z⟩ := d
  refine callsIn_of_wp Try.func55 rfl trivial ?_ rfl
  simp only [Try.ntmps55, List.size_toArray, List.length_cons, List.length_nil, Nat.reduceAdd, Nat.reduceSub, Array.replicate_succ, Array.replicate_zero, List.push_toArray, List.append_toArray, List.nil_append, List.cons_append]
  gi_wp2
  gi_loopw [10] (fun i wr => ∃ k : Nat, i = .int .i64 k ∧ LAt DD t Fb w.heap.size w J k wr) (fun i _ => t.length - (intOf i).toNat)
  case atStart => exact ⟨0, rfl, L0⟩
  case round =>
    obtain ⟨k, rfl, hL⟩ := hrel
    clear L0 ctW
    obtain ⟨⟨pre, hpl, hJk⟩, hk, hkb, hall⟩ := hL
    by_cases hlt : k < t.length
    · obtain ⟨b, o, A1, n1, rfl, hb, cf, rr⟩ := htb.at_ hlt
      have cf := (hkb.cell (p := ⟨b, o + k, none⟩) (by simp only; omega) (fun hm => by have := (hFb _ hm).1; simp only at this; omega)).trans cf
      have hbd := hkb.blk hd hdl hF1
      have d0 := hbd.cell_of (i := 0) rfl
      have d1 := hbd.cell_of (i := 1) rfl
      have d2 := hbd.cell_of (i := 2) rfl
      have hk0 : (0 : Int) ≤ (k : Int) := by omega
      have hkl : (k : Int) < (t.length : Int) := by omega
      have rr := rr.keep (fun p hp => hkb.cell (p := p) (by omega) (fun hm => by have := (hFb _ hm).1; omega))
      obtain ⟨hs1, hs2⟩ := Wr.mem_table (List.getElem_mem hlt)
      obtain ⟨z0, hz0⟩ : ∃ z0, (k == 0) = z0 := ⟨_, rfl⟩
      have hz0' : ((k : Int) == 0) = z0 := by rw [← hz0, Bool.eq_iff_iff, beq_iff_eq, beq_iff_eq]; omega
      have HL := Lib.hid (HLC.out _ t[k] z0 B0 wr rr (by have := hkb.size; omega) (by omega) (by omega))
      obtain ⟨X, hX⟩ : ∃ X, lineR DD t[k] z0 = X := ⟨_, rfl⟩
      rw [← HDDE.out, hX] at HL
      have HE : Hid (X.2 ≠ 0 → nL DD t = k) := Lib.hid (fun h => nl_stop hlt hall (by rw [hz0, hX]; exact h))
      have HG : Hid (X.2 = 0 → DD.right = true ∧ Wr.may t[k] = 0 ∧ X.1 = Wr.lineB DD t[k] z0) := Lib.hid (fun h => by
        have := nl_step hlt (d := DD) (by rw [hz0, hX]; exact h)
        rw [hz0, hX] at this
        exact this)
      rw [HDDE.out] at HL
      have HZ0 := Lib.hid hz0
      obtain ⟨X1, X2⟩ := X
      unfold lineV at HL
      dsimp only at HL HE HG
      have HPR : Hid (X2 = 0 → PrL DD t pre (k, X1) wr) := Lib.hid (fun h => by
        obtain ⟨g1, g2, g3⟩ := HG.out h
        subst hpl
        refine ⟨hlt, ?_, by rw [g3, HZ0.out]⟩
        unfold nL
        rw [g1, if_pos rfl]
        have hle := Wr.front_le t
        rcases Nat.lt_or_ge pre.length (Wr.front t) with h' | h'
        · exact h'
        · have hf : Wr.front t < t.length := by omega
          have hbad := front_bad t hf
          have he : t.getD (Wr.front t) [] = t[Wr.front t] := by simp [List.getD, List.getElem?_eq_getElem hf]
          rw [he] at hbad
          refine absurd ?_ hbad
          by_cases e : Wr.front t = pre.length
          · simp only [e]; exact g2
          · exact (hall _ hf (by omega)).2)
      clear hz0 hX
      gi_wp2
      refine ⟨trivial, ?_⟩
      refine (callsIn_wide.2 HL.out).mono ?_
      rintro e w2 ⟨rfl, k2⟩
      have hJ2 := hJ _ _ _ hJk k2
      have hkb2 := hkb.trans (KB.of_keeps (k2.sub (F' := Fb) (by simp)) hkb.size)
      clear d0 d1 d2 hbd
      by_cases hX0 : X2 = 0
      · subst hX0
        obtain ⟨fn, tmps, assign, body, hy, hR⟩ := hY pre (k, X1) w2 hJ2 (HPR.out rfl)
        unfold encL at hy
        dsimp only at hy
        gi_wp2
        refine hR.mono ?_
        rintro e W3 ⟨kb3, (⟨rfl, hJ3⟩ | ⟨rfl, hJx3⟩)⟩
        · gi_wp2
          go_roundw
          case rel => exact ⟨k + 1, by go_num, ⟨pre ++ [(k, X1)], by simp [hpl], hJ3⟩, by omega, hkb2.trans kb3, fun j hj hjk => by
            by_cases e : j = k
            · subst e; exact ⟨(HG.out trivial).1, (HG.out trivial).2.1⟩
            · exact hall j hj (by omega)⟩
          case measure => simp [intOf]; omega
        · gi_wp2
          refine bodyPost_ret (results_none rfl _ _ _) rfl ?_
          exact ⟨⟨_, rfl⟩, .inr ⟨_, trivial, hJx3⟩⟩
      · have hX2 : ((X2 : Int) != 0) = true := by rw [bne_iff_ne]; omega
        gi_wp2
        refine ⟨fun _ h => (by cases h), ?_⟩
        gi_wp2
        refine bodyPost_ret (results_none rfl _ _ _) rfl ?_
        exact ⟨⟨_, rfl⟩, .inl ⟨pre, hpl.trans (HE.out hX0).symm, hJ2⟩⟩
    · obtain rfl : k = t.length := by omega
      have hkl : ¬ ((t.length : Int) < (t.length : Int)) := by omega
      gi_wp2
      go_end0
      exact ⟨⟨_, rfl⟩, .inl ⟨pre, hpl.trans (nl_end hall).symm, hJk⟩⟩
/-- A function value is not nil. -/
theorem run_eql_func_nil {P : Program} (w : World) {t : TypeId} {ps rs : Array TypeId} {v : Bool} (f : Nat) (lb : Array Value) (h : P.underlying t = some (.func ps rs v)) : (binOp .eql t (.func (.func f) #[] lb) .nilFunc).run P w = .ok (.bool false) w := by
  have h : ∀ d : Nat, (Op.equalIn (d + 1) t (.func (.func f) #[] lb) .nilFunc).run P w = .ok false w := fun d => by simp [Op.equalIn, run_underlying h]
  simp only [binOp]
  simp [Op.equal, Op.maxDepth, h 9999]
end Go.Proofs.Ytcmoldondflilaa.WLine
