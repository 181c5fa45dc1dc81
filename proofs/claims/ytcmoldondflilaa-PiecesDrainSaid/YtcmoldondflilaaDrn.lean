/- pieces.Writer.Drain and its closure (an iterator that takes). -/
import Derived.Test.YtcmoldondflilaaRf
import Derived.Test.YtcmoldondflilaaLns2
import Derived.Test.YtcmoldondflilaaPcs2
import Derived.RangeFuncNested
import Derived.RangeFuncBound
import Derived.RangeFuncCalls
import Derived.RangeFuncLeaves
import Derived.Shelf.Abstract
import Derived.Shelf.RegionOpen
import Derived.WalkKit
import Derived.OwnWalkIn
import Derived.TacticsInMore
import Derived.LoopNIn
import Derived.LoopIn
namespace Go.Proofs.Ytcmoldondflilaa.Pcs
set_option linter.unusedVariables false
set_option linter.unusedSimpArgs false
set_option maxRecDepth 100000
open Go.RowKit Go.Shelf Q Mach Dia WLine
open Tab (fieldsOf bytesOf bytesOfRow)
attribute [local go_sem] Oper.semAt_some
theorem own_kb {B base s n : Nat} {F : List Nat} {w w' : World} {e : TypeId} {v : Value} {xs : List Value} (h : Q.Own w base e s v n xs) (k : KB B F w w') (hF : ∀ a ∈ blkOf v, a < B ∧ a ∉ F) : Q.Own w' base e s v n xs := by
  obtain ⟨h1, h2⟩ := h
  refine ⟨h1, ?_⟩
  rcases h2 with h2 | ⟨g, pre, post, cap, rfl, hb, hg, h3⟩
  · exact .inl h2
  · have := hF g (by simp [blkOf])
    exact .inr ⟨g, pre, post, cap, rfl, hb, k.blk hg this.1 this.2, h3⟩
theorem wat_kb {B base g : Nat} {F : List Nat} {w w' : World} {d : Dia} {s : PSt} {v : Value} (h : WAt w base g d s v) (k : KB B F w w') (hF : ∀ a ∈ g :: blkOf v, a < B ∧ a ∉ F) : WAt w' base g d s v :=
  ⟨k.blk h.blk (hF g (by simp)).1 (hF g (by simp)).2, h.low, own_kb h.own k (fun a ha => hF a (by simp [ha]))⟩
theorem take_min {α : Type} (l : List α) (n : Nat) : l.take (min n l.length) = l.take n := by
  rcases Nat.le_total n l.length with h | h
  · rw [Nat.min_eq_left h]
  · rw [Nat.min_eq_right h, List.take_length, List.take_of_length_le h]
theorem drop_min {α : Type} (l : List α) (n : Nat) : l.drop (min n l.length) = l.drop n := by
  rcases Nat.le_total n l.length with h | h
  · rw [Nat.min_eq_left h]
  · rw [Nat.min_eq_right h, List.drop_length, List.drop_of_length_le h]
set_option maxHeartbeats 1000000 in
theorem drain_c (g : Nat) (n : Int) (w : World) : Calls Try.prog 40 #[.pointer (some ⟨g, 0, none⟩), .int .i64 n] w fun e w' => e = .returned (.func (.func 57) #[] #[.pointer (some ⟨w.heap.size, 0, none⟩), .pointer (some ⟨w.heap.size + 1, 0, none⟩)]) ∧
    w' = (w.alloc (.cells #[.pointer (some ⟨g, 0, none⟩)] 56)).alloc (.cells #[.int .i64 n] 3) := by
  go_enter Try.func40, Try.ntmps40
  go_wp2_with (fail)
  go_ret
  exact ⟨rfl, rfl⟩
/-- A piece: its value and its bytes. -/
def encP (x : Value × Bs) : Array Value := #[x.1]
/-- Behind j pieces of q bytes of the text T: what the writer has. -/
def WD (base g : Nat) (d : Dia) (T : Bs) (q cn tt : Nat) (L : List Nat) (j : Nat) (W : World) : Prop := ∃ v, WAt W base g d ⟨T.drop (j * q), cn, tt, false⟩ v ∧ ∀ a ∈ g :: blkOf v, a ∈ L
theorem WD.kb {base g q cn tt B j : Nat} {d : Dia} {T : Bs} {L F : List Nat} {W W' : World} (h : WD base g d T q cn tt L j W) (k : KB B F W W') (hL : ∀ a ∈ L, a < B ∧ a ∉ F) : WD base g d T q cn tt L j W' := by
  obtain ⟨v, h1, h2⟩ := h
  exact ⟨v, wat_kb h1 k (fun a ha => hL a (h2 a ha)), h2⟩
def PrD (B : Nat) (T : Bs) (q : Nat) (pre : List (Value × Bs)) (x : Value × Bs) (W : World) : Prop := pre.length * q < T.length ∧ x.2 = (T.drop (pre.length * q)).take q ∧ Q.Own W B 5 1 x.1 x.2.length (x.2.map bv)
def SD (base g : Nat) (d : Dia) (T : Bs) (q cn tt : Nat) (L : List Nat) (xs : List (Value × Bs)) (W : World) : Prop := T.length ≤ xs.length * q ∧ WD base g d T q cn tt L xs.length W
/-- Where the iterator stands. -/
structure DAt (base g : Nat) (d : Dia) (T : Bs) (q cn tt : Nat) (L Fb : List Nat) (B : Nat) (w : World) (J : List (Value × Bs) → World → Prop) (j : Nat) (wr : World) : Prop where
  pre : ∃ pre, pre.length = j ∧ J pre wr
  wd : WD base g d T q cn tt L j wr
  kb : KB B (g :: Fb) w wr
/-- How many bytes are ready, read off the world. -/
def left (g : Nat) (W : World) : Nat := match W.cell? ⟨g, 3, none⟩ with | some (.slice _ n _) => n | _ => 0
theorem WD.left {base g q cn tt j : Nat} {d : Dia} {T : Bs} {L : List Nat} {W : World} (h : WD base g d T q cn tt L j W) : left g W = (T.drop (j * q)).length := by
  obtain ⟨v, h1, _⟩ := h
  obtain ⟨A, c, rfl, _, _⟩ := h1.own.form
  have := h1.c (i := 3) rfl
  unfold Pcs.left
  rw [this]
set_option maxHeartbeats 8000000 in
theorem drain_itr (w : World) (base g gw gs : Nat) (d : Dia) (T : Bs) (q cn tt : Nat) (sz : Nat) (hq : q = max sz 1) (hsz : sz ≤ 1000) (hT : T.length ≤ 1000000) (L Fb : List Nat)
    (hL : ∀ a ∈ L, a < w.heap.size ∧ a ∉ Fb) (hg : g ∈ L) (hd : WD base g d T q cn tt L 0 w) (hbw : Blk w gw 56 [.pointer (some ⟨g, 0, none⟩)]) (hbs : Blk w gs 3 [.int .i64 (sz : Nat)]) (h1 : gw ∉ g :: Fb) (h2 : gs ∉ g :: Fb) :
    Itr Try.prog 57 #[.pointer (some ⟨gw, 0, none⟩), .pointer (some ⟨gs, 0, none⟩)] encP w.heap.size [g] Fb (PrD w.heap.size T q) (SD base g d T q cn tt L) (fun pre => WD base g d T q cn tt L pre.length) w := by
  intro l J Jx W hW hJ hJx hY hJ0
  have hgw := hbw.lt
  have hgs := hbs.lt
  have KBW : KB w.heap.size (g :: Fb) w W := KB.of_keeps (hW.sub (by simp)) (Nat.le_refl _)
  have D0 : DAt base g d T q cn tt L Fb w.heap.size w J 0 W := ⟨⟨[], rfl, hJ0⟩, by
    obtain ⟨v, hv1, hv2⟩ := hd
    exact ⟨v, hv1.keep hW, hv2⟩, KBW⟩
  clear KBW hJ0 hd
  refine callsIn_of_wp Try.func57 rfl trivial ?_ rfl
  simp only [Try.ntmps57, List.size_toArray, List.length_cons, List.length_nil, Nat.reduceAdd, Nat.reduceSub, Array.replicate_succ, Array.replicate_zero, List.push_toArray, List.append_toArray, List.nil_append, List.cons_append]
  gi_wp2
  gi_loopw [4] (fun _ wr => ∃ j : Nat, DAt base g d T q cn tt L Fb w.heap.size w J j wr) (fun _ wr => left g wr)
  case atStart => exact ⟨0, D0⟩
  case round =>
    obtain ⟨j, ⟨pre, hpl, hJk⟩, hwd, hkb⟩ := hrel
    clear D0
    have hlf := hwd.left
    obtain ⟨v, hW1, hvL⟩ := hwd
    have cw := (hkb.blk hbw hgw h1).cell_of (i := 0) rfl
    have cs := (hkb.blk hbs hgs h2).cell_of (i := 0) rfl
    have HRD := Lib.hid (ready_c hW1)
    obtain ⟨R, hR⟩ : ∃ R, T.drop (j * q) = R := ⟨_, rfl⟩
    rw [hR] at hW1 hlf HRD
    dsimp only at HRD
    by_cases hR0 : R.length = 0
    · have hTl : T.length ≤ j * q := by
        have h := List.length_eq_zero_iff.1 hR0
        rw [← hR] at h
        exact List.drop_eq_nil_iff.1 h
      have HWD : Hid (WD base g d T q cn tt L j wr) := Lib.hid ⟨v, by rw [hR]; exact hW1, hvL⟩
      have hlz : ¬ ((0 : Int) < (R.length : Int)) := by omega
      clear hR hlf hW1
      gi_wp2
      refine ⟨trivial, ?_⟩
      refine (callsIn_wide.2 HRD.out).mono ?_
      rintro e w2 ⟨rfl, rfl⟩
      gi_wp2
      go_end0
      subst hpl
      exact ⟨⟨_, rfl⟩, .inl ⟨pre, ⟨hTl, HWD.out⟩, hJk⟩⟩
    · have hTl : j * q < T.length := by
        rcases Nat.lt_or_ge (j * q) T.length with h | h
        · exact h
        · exact absurd (by rw [← hR, List.drop_of_length_le h]; rfl) hR0
      have hlz : ((0 : Int) < (R.length : Int)) := by omega
      have hRl : R.length ≤ 1000000 := by rw [← hR, List.length_drop]; omega
      have HTK := Lib.hid (take_c wr base g d _ v hW1 (q : Int) (by omega) (by simp only; omega))
      rcases (by omega : sz = 0 ∨ 1 ≤ sz) with h0 | h0
      · obtain rfl : q = 1 := by omega
        have hlt1 : ((sz : Int) < 1) := by omega
        clear hq h0
        gi_wp2
        refine ⟨trivial, ?_⟩
        refine (callsIn_wide.2 HRD.out).mono ?_
        rintro e w2 ⟨rfl, rfl⟩
        gi_wp2
        refine ⟨trivial, ?_⟩
        refine (callsIn_wide.2 HTK.out).mono ?_
        rintro e w3 ⟨p, v3, rfl, hp, hW3, k3, hv3⟩
        have hkn : takeN ⟨R, cn, tt, false⟩ ((1 : Nat) : Int) = min 1 R.length := by unfold takeN; simp
        rw [hkn, take_min] at hp
        unfold takeP at hW3
        rw [hkn] at hW3
        dsimp only at hp hW3
        rw [drop_min] at hW3
        obtain ⟨fn, tmps, assign, body, hy, hRR⟩ := hY pre (p, R.take 1) w3 (hJ _ _ _ hJk k3) ⟨by rw [hpl]; exact hTl, by rw [hpl, hR], hp.less (by have := hkb.size; omega)⟩
        unfold encP at hy
        dsimp only at hy
        have hW3n : WD base g d T 1 cn tt L (j + 1) w3 := by
          refine ⟨v3, ?_, fun a ha => ?_⟩
          · rw [Nat.add_mul, Nat.one_mul, ← List.drop_drop, hR]
            exact hW3
          · rcases List.mem_cons.1 ha with rfl | ha
            · exact hg
            · exact hvL a (by simp [hv3 a ha])
        have hkb3 := hkb.trans (KB.of_keeps (k3.sub (F' := g :: Fb) (by simp)) hkb.size)
        have hsm : (T.drop ((j + 1) * 1)).length < R.length := by
          rw [← hR, List.length_drop, List.length_drop, Nat.add_mul]
          omega
        clear hp hW3 k3 HTK HRD hW1 cw cs
        gi_wp2
        refine hRR.mono ?_
        rintro e W3 ⟨kb3, (⟨rfl, hJ3⟩ | ⟨rfl, hJx3⟩)⟩
        · have hWn := hW3n.kb kb3 hL
          gi_wp2
          go_roundw
          case rel => exact ⟨j + 1, ⟨pre ++ [(p, R.take 1)], by simp [hpl], hJ3⟩, hWn, hkb3.trans (kb3.sub (fun a ha _ => by simp [ha]))⟩
          case measure => rw [hWn.left, hlf]; exact hsm
        · have hWn := hW3n.kb kb3 hL
          gi_wp2
          refine bodyPost_ret (results_none rfl _ _ _) rfl ?_
          exact ⟨⟨_, rfl⟩, .inr ⟨_, by simpa [hpl] using hWn, hJx3⟩⟩
      · obtain rfl : q = sz := by omega
        have hlt1 : ¬ ((q : Int) < 1) := by omega
        clear hq h0
        gi_wp2
        refine ⟨trivial, ?_⟩
        refine (callsIn_wide.2 HRD.out).mono ?_
        rintro e w2 ⟨rfl, rfl⟩
        gi_wp2
        refine ⟨trivial, ?_⟩
        refine (callsIn_wide.2 HTK.out).mono ?_
        rintro e w3 ⟨p, v3, rfl, hp, hW3, k3, hv3⟩
        have hkn : takeN ⟨R, cn, tt, false⟩ ((q : Nat) : Int) = min q R.length := by unfold takeN; simp
        rw [hkn, take_min] at hp
        unfold takeP at hW3
        rw [hkn] at hW3
        dsimp only at hp hW3
        rw [drop_min] at hW3
        obtain ⟨fn, tmps, assign, body, hy, hRR⟩ := hY pre (p, R.take q) w3 (hJ _ _ _ hJk k3) ⟨by rw [hpl]; exact hTl, by rw [hpl, hR], hp.less (by have := hkb.size; omega)⟩
        unfold encP at hy
        dsimp only at hy
        have hW3n : WD base g d T q cn tt L (j + 1) w3 := by
          refine ⟨v3, ?_, fun a ha => ?_⟩
          · rw [Nat.add_mul, Nat.one_mul, ← List.drop_drop, hR]
            exact hW3
          · rcases List.mem_cons.1 ha with rfl | ha
            · exact hg
            · exact hvL a (by simp [hv3 a ha])
        have hkb3 := hkb.trans (KB.of_keeps (k3.sub (F' := g :: Fb) (by simp)) hkb.size)
        have hsm : (T.drop ((j + 1) * q)).length < R.length := by
          rw [← hR, List.length_drop, List.length_drop, Nat.add_mul]
          omega
        clear hp hW3 k3 HTK HRD hW1 cw cs
        gi_wp2
        refine hRR.mono ?_
        rintro e W3 ⟨kb3, (⟨rfl, hJ3⟩ | ⟨rfl, hJx3⟩)⟩
        · have hWn := hW3n.kb kb3 hL
          gi_wp2
          go_roundw
          case rel => exact ⟨j + 1, ⟨pre ++ [(p, R.take q)], by simp [hpl], hJ3⟩, hWn, hkb3.trans (kb3.sub (fun a ha _ => by simp [ha]))⟩
          case measure => rw [hWn.left, hlf]; exact hsm
        · have hWn := hW3n.kb kb3 hL
          gi_wp2
          refine bodyPost_ret (results_none rfl _ _ _) rfl ?_
          exact ⟨⟨_, rfl⟩, .inr ⟨_, by simpa [hpl] using hWn, hJx3⟩⟩
end Go.Proofs.Ytcmoldondflilaa.Pcs
