/- The contracts of package bom's functions, and of the document's (ref03). -/
import Derived.Test.YtbjejmdbpikgjaaProg
import Derived.Test.YtbjejmdbpikgjaaRef3
import Derived.Outline
import Derived.Deep.QuietTactic
import Derived.BigQuiet
namespace Go.Proofs.Ytbjejmdbpikgjaa.Bom
set_option linter.unusedVariables false
set_option linter.unusedSimpArgs false
set_option maxRecDepth 100000
open Go.RowKit Q

def St.cells (s : St) : List Value := [.int .i64 s.held, .bool s.past, .bool s.stripped, .bool s.closed]

set_option maxHeartbeats 400000 in
theorem new_c (w : World) : Calls Try.prog 34 #[] w fun e w' => e = .returned (.pointer (some ⟨w.heap.size, 0, none⟩)) ∧ w.alloc (.cells (St.cells ⟨0, false, false, false⟩).toArray 78) = w' := by
  go_enter Try.func34, Try.ntmps34
  go_wp2
  go_ret
  exact ⟨rfl, rfl⟩

theorem Try.infoU8 : (Try.prog.info? 5).map (fun i => (i.zero, i.size, i.bytes)) = some (some (.int .u8 0), 1, 1) := by kernel_rfl

/-- The state's cells, in the middle of a block. -/
structure StAt (w : World) (g : Nat) (e : TypeId) (pre post : List Value) (s : St) : Prop where
  blk : Blk w g e (pre ++ s.cells ++ post)

theorem StAt.c0 {w : World} {g : Nat} {e : TypeId} {pre post : List Value} {s : St} (h : StAt w g e pre post s) : w.cell? ⟨g, pre.length, none⟩ = some (.int .i64 s.held) := by
  rw [h.blk.cell]; simp [St.cells]
theorem StAt.c1 {w : World} {g : Nat} {e : TypeId} {pre post : List Value} {s : St} (h : StAt w g e pre post s) : w.cell? ⟨g, pre.length + 1, none⟩ = some (.bool s.past) := by
  rw [h.blk.cell]; simp [St.cells]
theorem StAt.c2 {w : World} {g : Nat} {e : TypeId} {pre post : List Value} {s : St} (h : StAt w g e pre post s) : w.cell? ⟨g, pre.length + 2, none⟩ = some (.bool s.stripped) := by
  rw [h.blk.cell]; simp [St.cells]
theorem StAt.c3 {w : World} {g : Nat} {e : TypeId} {pre post : List Value} {s : St} (h : StAt w g e pre post s) : w.cell? ⟨g, pre.length + 3, none⟩ = some (.bool s.closed) := by
  rw [h.blk.cell]; simp [St.cells]
theorem StAt.fr {w : World} {g : Nat} {e : TypeId} {pre post : List Value} {s : St} (h : StAt w g e pre post s) (i : Nat) (hi : i < 4) : w.frozen? ⟨g, pre.length + i, none⟩ = false :=
  h.blk.frozen (by simp [St.cells]; omega)

theorem StAt.set0 {w : World} {g : Nat} {e : TypeId} {pre post : List Value} {s : St} (h : StAt w g e pre post s) (n : Nat) : StAt (w.setCell ⟨g, pre.length, none⟩ (.int .i64 n)) g e pre post { s with held := n } :=
  ⟨by have := h.blk.set_ pre.length (.int .i64 n); simpa [St.cells, List.set_append] using this⟩
theorem StAt.set1 {w : World} {g : Nat} {e : TypeId} {pre post : List Value} {s : St} (h : StAt w g e pre post s) (b : Bool) : StAt (w.setCell ⟨g, pre.length + 1, none⟩ (.bool b)) g e pre post { s with past := b } :=
  ⟨by have := h.blk.set_ (pre.length + 1) (.bool b); simpa [St.cells, List.set_append] using this⟩
theorem StAt.set2 {w : World} {g : Nat} {e : TypeId} {pre post : List Value} {s : St} (h : StAt w g e pre post s) (b : Bool) : StAt (w.setCell ⟨g, pre.length + 2, none⟩ (.bool b)) g e pre post { s with stripped := b } :=
  ⟨by have := h.blk.set_ (pre.length + 2) (.bool b); simpa [St.cells, List.set_append] using this⟩
theorem StAt.set3 {w : World} {g : Nat} {e : TypeId} {pre post : List Value} {s : St} (h : StAt w g e pre post s) (b : Bool) : StAt (w.setCell ⟨g, pre.length + 3, none⟩ (.bool b)) g e pre post { s with closed := b } :=
  ⟨by have := h.blk.set_ (pre.length + 3) (.bool b); simpa [St.cells, List.set_append] using this⟩

/-- A closed stripper hands nothing on. -/
theorem feed_closed (g : Nat) (e : TypeId) (pre post : List Value) (s : St) (v : Value) (w : World) (hs : StAt w g e pre post s) (hc : s.closed = true) :
    Calls Try.prog 36 #[.pointer (some ⟨g, pre.length, none⟩), v] w fun e w' => e = .returned (.slice none 0 0) ∧ w = w' := by
  have h3 := hs.c3
  rw [hc] at h3
  clear hs hc
  go_enter Try.func36, Try.ntmps36
  go_wp2
  go_ret
  exact ⟨rfl, rfl⟩

/-- The mark, indexed and cut. -/
theorem markAt (k : Nat) (hk : k ≤ 2) (w : World) : (Instr.index 9 (.string ⟨#[239, 187, 191]⟩) (.int .i64 (k : Int))).run Try.prog w = .ok (bv (mark.getD k 0)) w := by
  match k, hk with
  | 0, _ => show _ = _; kernel_rfl
  | 1, _ => show _ = _; kernel_rfl
  | 2, _ => show _ = _; kernel_rfl
theorem markUpto (k : Nat) (hk : k ≤ 3) (w : World) : (Instr.sliceAt 9 (.string ⟨#[239, 187, 191]⟩) none (some (.int .i64 (k : Int))) none).run Try.prog w = .ok (sv (mark.take k)) w := by
  match k, hk with
  | 0, _ => show _ = _; kernel_rfl
  | 1, _ => show _ = _; kernel_rfl
  | 2, _ => show _ = _; kernel_rfl
  | 3, _ => show _ = _; kernel_rfl

def lenOf' : Value → Nat | .slice _ n _ => n | _ => 0

set_option maxHeartbeats 400000 in
theorem feed_open (g : Nat) (e : TypeId) (pre post : List Value) (s : St) (hok : s.ok) (B : Nat) (v : Value) (l : List UInt8) (w : World) (hs : StAt w g e pre post s) (hc : s.closed = false)
    (hv : Rd w B 1 v l.length (l.map bv)) (hd : l = [] ∨ ∀ x ∈ blkOf v, x ≠ g) (hl : l.length ≤ 1000000) :
    Calls Try.prog 36 #[.pointer (some ⟨g, pre.length, none⟩), v] w fun e' w' => ∃ v', e' = .returned v' ∧ Own w' w.heap.size 5 1 v' (feedOut s l).length ((feedOut s l).map bv) ∧ StAt w' g e pre post (feedSt s l) ∧ Keeps [g] w w' := by
  have h3 := hs.c3
  rw [hc] at h3
  obtain ⟨i0, hi, hz0, hz1, hz2⟩ := info_parts Try.infoU8
  obtain ⟨A, c, rfl, hnc, hcm, hlen, hx⟩ := hv.toSize
  go_enter Try.func36, Try.ntmps36
  go_wp2
  go_loopw [1] (fun v1 wr => ∃ (s' : St) (l' : List UInt8), s'.ok ∧ s'.closed = false ∧ Rd wr w.heap.size 1 v1 l'.length (l'.map bv) ∧ (l' = [] ∨ ∀ x ∈ blkOf v1, x ≠ g) ∧ StAt wr g e pre post s' ∧ Keeps [g] w wr ∧ l'.length ≤ l.length ∧ feedOut s l = feedOut s' l' ∧ feedSt s l = feedSt s' l')
    (fun v1 _ => lenOf' v1)
  case atStart => exact ⟨s, l, hok, hc, ⟨A, c, rfl, hnc, hcm, hlen, hx⟩, hd, hs, Keeps.refl _ _, Nat.le_refl _, rfl, rfl⟩
  case round =>
    obtain ⟨s', l', hok', hc', hv', hd', hs', hk', hll, ho', hst'⟩ := hrel
    have HO := Lib.hid ho'; have HS := Lib.hid hst'; clear ho' hst'
    have HC := Lib.hid hc'; clear hc'
    obtain ⟨A1, c1, rfl, hnc1, hcm1, hlen1, hx1⟩ := hv'
    have c0 := hs'.c0
    have c1' := hs'.c1
    have c2 := hs'.c2
    by_cases hp : s'.past = true
    · rw [hp] at c1'
      obtain ⟨v2, w2, hrun, hown, hkeep, hblk⟩ := run_append (P := Try.prog) (w := wr) (base := w.heap.size) (u := 37) (ty := 37) Try.underlying37 hi hz0 hz1 hz2 rfl (Own.nil_ wr w.heap.size 5 1) (Rd.src (B := w.heap.size) ⟨A1, c1, rfl, hnc1, hcm1, hlen1, hx1⟩ Try.underlying37) (one_bv _) (by simp only [maxLen]; omega) (by omega) hk'.size
      have HP := Lib.hid hp; clear hp
      go_wp2_with (refine wpList_append hrun _ _ rfl rfl rfl rfl rfl ?_)
      go_ret
      have e := out_past HC.out HP.out l'
      rw [HO.out, HS.out, e.1, e.2]
      exact ⟨v2, rfl, by simpa using hown, ⟨hs'.blk.keep hkeep (by simp [blkOf])⟩, hk'.trans hkeep (by simp [blkOf])⟩
    · have hp' : s'.past = false := by simpa using hp
      rw [hp'] at c1'
      have HP := Lib.hid hp'; clear hp hp'
      match l', hll, HO, HS, hlen1, hx1, hnc1, hd' with
      | [], hll, HO, HS, hlen1, hx1, hnc1, hd' =>
        obtain ⟨v2, w2, hrun, hown, hkeep, hblk⟩ := run_append (P := Try.prog) (w := wr) (base := w.heap.size) (u := 37) (ty := 37) Try.underlying37 hi hz0 hz1 hz2 rfl (Own.nil_ wr w.heap.size 5 1) (Rd.src (B := w.heap.size) ⟨A1, c1, rfl, hnc1, hcm1, hlen1, hx1⟩ Try.underlying37) (by simp) (by simp only [maxLen]; omega) (by omega) hk'.size
        simp only [List.length_nil] at hrun ⊢
        go_wp2_with (refine wpList_append hrun _ _ rfl rfl rfl rfl rfl ?_)
        go_ret
        have e := out_nil hok' HC.out HP.out
        rw [HO.out, HS.out, e.1, e.2]
        exact ⟨v2, rfl, by simpa using hown, ⟨hs'.blk.keep hkeep (by simp [blkOf])⟩, hk'.trans hkeep (by simp [blkOf])⟩
      | b :: l2, hll, HO, HS, hlen1, hx1, hnc1, hd' =>
        replace hd' := hd'.resolve_left (by simp)
        rcases hx1 with hx1 | ⟨bb, off, rfl, hbb, hcell⟩
        · simp at hx1
        have cb := hcell 0 (bv b) (by simp)
        simp only [Nat.add_zero] at cb
        simp only [List.length_cons] at hll hlen1 hnc1 ⊢
        have hmk := markAt s'.held hok'.1
        have hmu := markUpto s'.held (by have := hok'.1; omega)
        have hh2 := hok'.1
        have f0 := hs'.fr 0 (by omega)
        have f1 := hs'.fr 1 (by omega)
        have f2 := hs'.fr 2 (by omega)
        simp only [Nat.add_zero] at f0
        obtain ⟨mb, hmb⟩ : ∃ mb, mark.getD s'.held 0 = mb := ⟨_, rfl⟩
        rw [hmb] at hmk
        have HM := Lib.hid hmb; clear hmb
        by_cases he : b = mb
        · have hne : ((b.toNat : Int) != (mb.toNat : Int)) = false := by simp [he]
          have HE := Lib.hid he; clear he
          have hfrom := fun w2 => run_sliceFrom (P := Try.prog) Try.underlying37 hi hz1 (some ⟨bb, off, none⟩) (l2.length + 1) c1 1 (by omega) w2
          have hrd : Rd wr w.heap.size 1 (.slice (some ⟨bb, off, none⟩) (l2.length + 1) c1) (l2.length + 1) ((b :: l2).map bv) := ⟨_, _, rfl, hnc1, hcm1, by simp, .inr ⟨bb, off, rfl, hbb, hcell⟩⟩
          have hrd2 := hrd.from_ (k := 1) (by omega)
          have hbl := blkOf_from (size := 1) (some ⟨bb, off, none⟩) (l2.length + 1) c1 1 (l2.length + 1 - 1) (c1 - 1)
          generalize (Value.slice (if c1 = 1 then some ⟨bb, off, none⟩ else (some (⟨bb, off, none⟩ : Addr)).map (·.add (1 * 1))) (l2.length + 1 - 1) (c1 - 1)) = v5 at hfrom hrd2 hbl
          by_cases h3 : s'.held + 1 = 3
          · have hb3 : (((s'.held : Int) + 1) == 3) = true := by rw [beq_iff_eq]; omega
            have H3 := Lib.hid h3; clear h3
            go_wp2_with (fail)
            go_quiet (fail)
            go_wp2_with (refine wpList_slice (hfrom _) _ _ _ _ rfl rfl rfl rfl rfl rfl ?_)
            go_roundw
            case rel =>
              have e := out_end (l := l2) HC.out HP.out (HE.out.trans HM.out.symm) H3.out
              have hk2 : Keeps [g] wr _ := (((((Keeps.drewN [g] wr nq).set1 ⟨g, pre.length, none⟩ (.int .i64 (s'.held + 1)) (by simp)).set1 ⟨g, pre.length, none⟩ (.int .i64 0) (by simp)).set1 ⟨g, pre.length + 1, none⟩ (.bool true) (by simp)).set1 ⟨g, pre.length + 2, none⟩ (.bool true) (by simp))
              have hst := ((((hs'.set0 (s'.held + 1)).set0 0).set1 true).set2 true)
              refine ⟨⟨0, true, true, false⟩, l2, e.1, rfl, ?_, .inr fun x hx => hd' x (hbl x hx), ⟨?_⟩, hk'.trans hk2 (by simp), by omega, ?_, ?_⟩
              · exact Rd.keepF (by simpa using hrd2) hk2 (fun x hx => by simpa using hd' x (hbl x hx))
              · have := hst.blk
                simp only [HC.out] at this
                exact this
              · rw [HO.out, e.2.1]
              · rw [HS.out, e.2.2]
            case measure =>
              obtain ⟨A5, c5, rfl, _⟩ := hrd2
              simp [lenOf']
          · have hb3 : (((s'.held : Int) + 1) == 3) = false := by rw [beq_eq_false_iff_ne]; omega
            have H3 := Lib.hid h3; clear h3
            go_wp2_with (fail)
            go_quiet (fail)
            go_wp2_with (refine wpList_slice (hfrom _) _ _ _ _ rfl rfl rfl rfl rfl rfl ?_)
            go_roundw
            case rel =>
              have e := out_on (l := l2) hok' HC.out HP.out (HE.out.trans HM.out.symm) H3.out
              have hk2 : Keeps [g] wr _ := (Keeps.drewN [g] wr nq).set1 ⟨g, pre.length, none⟩ (.int .i64 (s'.held + 1)) (by simp)
              have hst := hs'.set0 (s'.held + 1)
              refine ⟨⟨s'.held + 1, false, false, false⟩, l2, e.1, rfl, ?_, .inr fun x hx => hd' x (hbl x hx), ⟨?_⟩, hk'.trans hk2 (by simp), by omega, ?_, ?_⟩
              · exact Rd.keepF (by simpa using hrd2) hk2 (fun x hx => by simpa using hd' x (hbl x hx))
              · have := hst.blk
                simp only [HC.out, HP.out, hok'.2.2 HP.out] at this
                exact this
              · rw [HO.out, e.2.1]
              · rw [HS.out, e.2.2]
            case measure =>
              obtain ⟨A5, c5, rfl, _⟩ := hrd2
              simp [lenOf']
        · have hne : ((b.toNat : Int) != (mb.toNat : Int)) = true := by
            rw [bne_iff_ne]; intro hx; exact he (UInt8.toNat_inj.1 (by omega))
          have HE := Lib.hid he; clear he
          go_wp2_with (fail)
          go_quiet (fail)
          obtain ⟨v3, w3, hcv, hown3, hk3, hb3⟩ := run_toBytes (P := Try.prog) (wr.drewN nq) (mark.take s'.held) Try.underlying9 Try.underlying37 Try.underlying5 (by simp [mark, maxLen]; omega)
          have hrd : Rd w3 w3.heap.size 1 (.slice (some ⟨bb, off, none⟩) (l2.length + 1) c1) (l2.length + 1) ((b :: l2).map bv) :=
            Rd.keepF (w := wr.drewN nq) (F := []) (Rd.more (B := w.heap.size) ⟨_, _, rfl, hnc1, hcm1, by simp, .inr ⟨bb, off, rfl, hbb, hcell⟩⟩ (Nat.le_trans hk'.size hk3.size)) hk3 (by simp)
          obtain ⟨v4, w4, hap, hown4, hk4, hb4⟩ := run_append (P := Try.prog) (w := w3) (base := w.heap.size) (u := 37) (ty := 37) Try.underlying37 hi hz0 hz1 hz2 rfl (hown3.less hk'.size) (hrd.src Try.underlying37) (one_bv _) (by simp [maxLen, mark]; omega) (by simp [mark]; omega) (Nat.le_trans hk'.size hk3.size)
          have hg3 : g ∉ blkOf v3 := by rw [hb3]; simp; have := hs'.blk.lt; show g ≠ wr.heap.size; omega
          have hs4 : StAt w4 g e pre post s' := ⟨(Blk.keep (w := wr.drewN nq) hs'.blk hk3 (by simp)).keep hk4 hg3⟩
          have d0 := hs4.c0
          have d1 := hs4.c1
          have g0 := hs4.fr 0 (by omega)
          have g1 := hs4.fr 1 (by omega)
          simp only [Nat.add_zero] at g0
          go_wp2_with (first | refine wpList_slice (hmu _) _ _ _ _ rfl rfl rfl rfl rfl rfl ?_ | refine wpList_convert hcv _ rfl rfl rfl ?_ | refine wpList_append hap _ _ rfl rfl rfl rfl rfl ?_)
          go_ret
          have e := out_off (l := l2) HC.out HP.out (fun hx => HE.out (hx.trans HM.out))
          rw [HO.out, HS.out, e.1, e.2]
          have hst := (hs4.set0 0).set1 true
          refine ⟨v4, rfl, ?_, ⟨?_⟩, ?_⟩
          · have h5 : Own w4 w.heap.size 5 1 v4 ((mark.take s'.held ++ b :: l2).length) ((mark.take s'.held ++ b :: l2).map bv) := by
              simpa using hown4
            exact h5.keep (((Keeps.refl [g] w4).set1 ⟨g, pre.length, none⟩ (.int .i64 0) (by simp)).set1 ⟨g, pre.length + 1, none⟩ (.bool true) (by simp)) (fun x hx => by
              rcases hb4 x hx with h | h
              · rw [hb3] at h; simp at h ⊢; have := hs'.blk.lt; change x = wr.heap.size at h; omega
              · simp; have := hs'.blk.lt; have := hk3.size; change wr.heap.size ≤ _ at this; omega)
          · have := hst.blk
            simp only [HC.out, hok'.2.2 HP.out] at this
            exact this
          · have k3 : Keeps [g] w w3 := hk'.trans (Keeps.trans (Keeps.drewN [] wr nq) hk3 (by simp)) (by simp)
            have k4 : Keeps [g] w w4 := k3.trans hk4 (by rw [hb3]; intro x hx hl; simp at hx; have := hk'.size; change x = wr.heap.size at hx; omega)
            exact (k4.set1 ⟨g, pre.length, none⟩ (.int .i64 0) (by simp)).set1 ⟨g, pre.length + 1, none⟩ (.bool true) (by simp)

set_option maxHeartbeats 400000 in
theorem close_c (g : Nat) (e : TypeId) (pre post : List Value) (s : St) (hok : s.ok) (w : World) (hs : StAt w g e pre post s) :
    Calls Try.prog 37 #[.pointer (some ⟨g, pre.length, none⟩)] w fun e' w' => ∃ v', e' = .returned v' ∧ Own w' w.heap.size 5 1 v' (closeOut s).length ((closeOut s).map bv) ∧ StAt w' g e pre post (closeSt s) ∧ Keeps [g] w w' := by
  obtain ⟨i0, hi, hz0, hz1, hz2⟩ := info_parts Try.infoU8
  have hh2 := hok.1
  have c0 := hs.c0
  have hmu := markUpto s.held (by omega)
  obtain ⟨v4, w4, hap, hown4, hk4, hb4⟩ := run_append (P := Try.prog) (w := w) (base := w.heap.size) (u := 9) (ty := 37) Try.underlying37 hi hz0 hz1 hz2 rfl (Own.nil_ w w.heap.size 5 1) (src_string (mark.take s.held) Try.underlying9) (one_bv _) (by simp [maxLen, mark]; omega) (by simp [mark]; omega) (Nat.le_refl _)
  have hs4 : StAt w4 g e pre post s := ⟨hs.blk.keep hk4 (by simp [blkOf])⟩
  have d0 := hs4.c0
  have d1 := hs4.c3
  have g0 := hs4.fr 0 (by omega)
  have g1 := hs4.fr 3 (by omega)
  simp only [Nat.add_zero] at g0
  go_enter Try.func37, Try.ntmps37
  go_wp2_with (first | refine wpList_slice (hmu _) _ _ _ _ rfl rfl rfl rfl rfl rfl ?_ | refine wpList_append hap _ _ rfl rfl rfl rfl rfl ?_)
  go_ret
  refine ⟨v4, rfl, ?_, (hs4.set0 0).set3 true, ((hk4.sub (by simp [blkOf])).set1 ⟨g, pre.length, none⟩ (.int .i64 0) (by simp)).set1 ⟨g, pre.length + 3, none⟩ (.bool true) (by simp)⟩
  have h5 : Own w4 w.heap.size 5 1 v4 (closeOut s).length ((closeOut s).map bv) := by simpa [closeOut] using hown4
  exact h5.keep (((Keeps.refl [g] w4).set1 ⟨g, pre.length, none⟩ (.int .i64 0) (by simp)).set1 ⟨g, pre.length + 3, none⟩ (.bool true) (by simp)) (fun x hx => by
    rcases hb4 x hx with h | h
    · simp [blkOf] at h
    · simp; have := hs.blk.lt; omega)
end Go.Proofs.Ytbjejmdbpikgjaa.Bom
