/- The contracts of package pieces. -/
import Derived.Test.YtcmoldondflilaaTxt2
import Derived.Test.YtcmoldondflilaaRef10
namespace Go.Proofs.Ytcmoldondflilaa.Pcs
set_option linter.unusedVariables false
set_option linter.unusedSimpArgs false
set_option maxRecDepth 100000
open Go.RowKit Q Mach Dia WLine
open Tab (fieldsOf bytesOf bytesOfRow)
attribute [local go_sem ↓] Go.wp_at_zero Go.wp_at_succ
theorem infoU8 : (Try.prog.info? 5).map (fun i => (i.zero, i.size, i.bytes)) = some (some (.int .u8 0), 1, 1) := by kernel_rfl
/-- What a writer has. -/
structure PSt where
  rdy : Bs
  count : Nat
  total : Nat
  cl : Bool
deriving DecidableEq
def wC (d : Dia) (s : PSt) (v : Value) : List Value := [bv d.delim, bv d.quote, .int .i64 d.fin, v, .int .i64 s.count, .int .i64 s.total, .bool s.cl]
structure WAt (w : World) (base g : Nat) (d : Dia) (s : PSt) (v : Value) : Prop where
  blk : Blk w g 105 (wC d s v)
  low : base ≤ g
  own : Own w base 5 1 v s.rdy.length (s.rdy.map bv)
section wat
variable {w w' : World} {base g : Nat} {d : Dia} {s s' : PSt} {v : Value}
theorem WAt.c (h : WAt w base g d s v) {i : Nat} {u : Value} (hi : (wC d s v)[i]? = some u) : w.cell? ⟨g, i, none⟩ = some u := h.blk.cell_of hi
theorem WAt.f (h : WAt w base g d s v) {i : Nat} (hi : i < 7) : w.frozen? ⟨g, i, none⟩ = false := h.blk.frozen (by simp [wC]; omega)
theorem WAt.apart (h : WAt w base g d s v) : ∀ k ∈ blkOf v, k ≠ g := h.own.apartBlk h.blk (by decide)
theorem WAt.keepF (h : WAt w base g d s v) {F : List Nat} (k : Keeps F w w') (h1 : g ∉ F) (h2 : ∀ x ∈ blkOf v, x ∉ F) : WAt w' base g d s v := ⟨h.blk.keep k h1, h.low, h.own.keep k h2⟩
theorem WAt.keep (h : WAt w base g d s v) (k : Keeps [] w w') : WAt w' base g d s v := h.keepF k (by simp) (by simp)
theorem WAt.less (h : WAt w base g d s v) {b : Nat} (hb : b ≤ base) : WAt w b g d s v := ⟨h.blk, Nat.le_trans hb h.low, h.own.less hb⟩
theorem WAt.set (h : WAt w base g d s v) (i : Nat) (u : Value) (hi : (wC d s v).set i u = wC d s' v) (hr : s'.rdy = s.rdy) : WAt (w.setCell ⟨g, i, none⟩ u) base g d s' v := by
  refine ⟨?_, h.low, ?_⟩
  · rw [← hi]; exact h.blk.set_ i u
  · rw [hr]; exact h.own.keep (Keeps.setCell w _ _) (fun a ha hm => by simp at hm; exact h.apart a ha hm)
end wat
def NewP (d : Dia) (w : World) (e : Ending) (w' : World) : Prop := ∃ g, e = .returned (.tuple #[.pointer (some ⟨g, 0, none⟩), .int .i64 0]) ∧ WAt w' w.heap.size g d ⟨[], 0, 0, false⟩ (.slice none 0 0) ∧ Keeps [] w w'
set_option maxHeartbeats 1000000 in
theorem new_c (d : Dia) (hd : d.right = true) (w : World) : Calls Try.prog 29 #[diaV d] w (NewP d w) := by
  have HC := Lib.hid (fun w => check_c d w)
  rw [hd] at HC
  simp only [if_true] at HC
  have kp : Keeps [] w (w.alloc (.cells #[bv d.delim, bv d.quote, .int .i64 d.fin] 23)) := Keeps.alloc [] w _
  have hbx := Blk.new w 23 [bv d.delim, bv d.quote, .int .i64 d.fin]
  have c0 := hbx.cell_of (i := 0) rfl
  have c1 := hbx.cell_of (i := 1) rfl
  have c2 := hbx.cell_of (i := 2) rfl
  clear hd
  obtain ⟨x, y, z⟩ := d
  go_enter Try.func29, Try.ntmps29
  go_wp2_with (fail)
  refine (HC.out _).mono ?_
  rintro e w1 ⟨rfl, k1⟩
  have hb1 := hbx.keep k1 (by simp)
  have k01 := kp.trans k1 (by simp)
  clear c0 c1 c2
  have c0 := hb1.cell_of (i := 0) rfl
  have c1 := hb1.cell_of (i := 1) rfl
  have c2 := hb1.cell_of (i := 2) rfl
  go_wp2_with (fail)
  go_ret2
  refine ⟨w1.heap.size, rfl, ⟨Blk.new w1 105 _, k01.size, Own.nil_ _ _ _ _⟩, k01.alloc1 _⟩
set_option maxHeartbeats 1000000 in
theorem new_bad (d : Dia) (hd : d.right = false) (w : World) : Calls Try.prog 29 #[diaV d] w fun e w' => e = .returned (.tuple #[.pointer none, .int .i64 1]) ∧ Keeps [] w w' := by
  have HC := Lib.hid (fun w => check_c d w)
  rw [hd] at HC
  simp only [Bool.false_eq_true, if_false] at HC
  have kp : Keeps [] w (w.alloc (.cells #[bv d.delim, bv d.quote, .int .i64 d.fin] 23)) := Keeps.alloc [] w _
  clear hd
  obtain ⟨x, y, z⟩ := d
  go_enter Try.func29, Try.ntmps29
  go_wp2_with (fail)
  refine (HC.out _).mono ?_
  rintro e w1 ⟨rfl, k1⟩
  go_wp2_with (fail)
  go_ret2
  exact ⟨rfl, kp.trans k1 (by simp)⟩
section num
variable {w : World} {base g : Nat} {d : Dia} {s : PSt} {v : Value} (h : WAt w base g d s v)
include h
theorem ready_c : Calls Try.prog 33 #[.pointer (some ⟨g, 0, none⟩)] w fun e w' => e = .returned (.int .i64 s.rdy.length) ∧ w' = w := by
  obtain ⟨A, c, rfl, h1, h2⟩ := h.own.form
  have c3 := h.c (i := 3) rfl
  clear h
  go_enter Try.func33, Try.ntmps33
  go_wp2_with (fail)
  go_ret
  exact ⟨rfl, rfl⟩
theorem count_c : Calls Try.prog 37 #[.pointer (some ⟨g, 0, none⟩)] w fun e w' => e = .returned (.int .i64 s.count) ∧ w' = w := by
  have c4 := h.c (i := 4) rfl
  clear h
  go_enter Try.func37, Try.ntmps37
  go_wp2_with (fail)
  go_ret
  exact ⟨rfl, rfl⟩
theorem total_c : Calls Try.prog 38 #[.pointer (some ⟨g, 0, none⟩)] w fun e w' => e = .returned (.int .i64 s.total) ∧ w' = w := by
  have c5 := h.c (i := 5) rfl
  clear h
  go_enter Try.func38, Try.ntmps38
  go_wp2_with (fail)
  go_ret
  exact ⟨rfl, rfl⟩
theorem closed_c : Calls Try.prog 39 #[.pointer (some ⟨g, 0, none⟩)] w fun e w' => e = .returned (.bool s.cl) ∧ w' = w := by
  have c6 := h.c (i := 6) rfl
  clear h
  go_enter Try.func39, Try.ntmps39
  go_wp2_with (fail)
  go_ret
  exact ⟨rfl, rfl⟩
theorem close_c : Calls Try.prog 32 #[.pointer (some ⟨g, 0, none⟩)] w fun e w' => e = .returned (.tuple #[]) ∧ WAt w' base g d { s with cl := true } v ∧ Keeps [g] w w' := by
  have c6 := h.c (i := 6) rfl
  have f6 := h.f (i := 6) (by omega)
  have HW := Lib.hid (h.set (s' := { s with cl := true }) 6 (.bool true) (by simp [wC]) rfl)
  clear h
  go_enter Try.func32, Try.ntmps32
  go_wp2_with (fail)
  go_end0
  exact ⟨rfl, HW.out, Keeps.setCell w ⟨g, 6, none⟩ _⟩
end num
def BCloneP (l : Bs) (w : World) (e : Ending) (w' : World) : Prop := ∃ v, e = .returned v ∧ Own w' w.heap.size 5 1 v l.length (l.map bv) ∧ Keeps [] w w'
set_option maxHeartbeats 400000 in
theorem bclone_c (A : Value) (l : Bs) (B1 : Nat) (w : World) (ha : Rd w B1 1 A l.length (l.map bv)) (hl : l.length ≤ 1000000) :
    Calls Try.prog 56 #[A] w (BCloneP l w) := by
  obtain ⟨iS, hiS, hS0, hS1, hS2⟩ := info_parts infoU8
  have ha' := ha
  obtain ⟨A, ca, rfl, ha1, ha2⟩ := ha.form
  have hnil := fun w2 => Lib.run_eql_slice_nil (P := Try.prog) w2 60 5 A l.length ca 0 0 Try.underlying60
  cases A with
  | none =>
    have hr : l = [] := by
      obtain ⟨A', c', hv, hn, hc, hl, hx⟩ := ha'
      rcases hx with hx | ⟨b, off, hA, _⟩
      · simpa using hx
      · injection hv with h1; rw [← h1] at hA; cases hA
    subst hr
    clear ha ha'
    simp only [List.length_nil, Option.isNone_none] at *
    go_enter Try.func56, Try.ntmps56
    go_wp2_with (fail)
    go_ret
    exact ⟨_, rfl, Own.nil_ w _ _ _, Keeps.refl _ _⟩
  | some a =>
    simp only [Option.isNone_some] at hnil
    have o0 : Own (w.alloc (.cells #[] 5)) w.heap.size 5 1 (.slice (some ⟨w.heap.size, 0, none⟩) 0 0) 0 [] := by simpa using own_lit w 5 [] (by simp [maxLen])
    have ra1 := ha'.keepF (Keeps.alloc [] w (.cells #[] 5)) (by simp)
    obtain ⟨v2, w2, hap, hown2, hk2, hb2⟩ := run_append (P := Try.prog) (base := w.heap.size) (u := 60) (ty := 60) Try.underlying60 hiS hS0 hS1 hS2 rfl o0 (ra1.src Try.underlying60) (one_bv _) (by simp only [maxLen]; omega) (by omega) (by simp)
    simp only [Nat.zero_add, List.nil_append] at hown2
    go_enter Try.func56, Try.ntmps56
    go_wp2_with (refine wpList_append hap _ _ rfl rfl rfl rfl rfl ?_)
    go_ret
    exact ⟨v2, rfl, hown2, (Keeps.alloc [] w _).trans hk2 (by intro x hx hl; simp [blkOf] at hx; omega)⟩
/-- What Put does, and answers. -/
def putP (d : Dia) (s : PSt) (r : Row) : PSt × Nat :=
  if s.cl then (s, 24) else if Wr.may r = 0 then (⟨s.rdy ++ Wr.lineB d r (s.count == 0), s.count + 1, s.total + (Wr.lineB d r (s.count == 0)).length, false⟩, 0) else (s, Wr.may r)
def PutP (w : World) (base g : Nat) (d : Dia) (X : PSt × Nat) (v : Value) (e : Ending) (w' : World) : Prop :=
  e = .returned (.int .i64 X.2) ∧ ∃ v', WAt w' base g d X.1 v' ∧ Keeps (g :: blkOf v) w w' ∧ ∀ k ∈ blkOf v', k ∈ blkOf v ∨ w.heap.size ≤ k
set_option maxHeartbeats 20000000 in
theorem put_c (w : World) (base g : Nat) (d : Dia) (hd : d.right = true) (s : PSt) (v A : Value) (h : WAt w base g d s v) (r : Row) (B1 : Nat) (hr : Rd w B1 1 A r.length (r.map sv)) (hB : B1 ≤ w.heap.size) (h1 : r.length ≤ 10000) (h2 : bytesOfRow r ≤ 10000)
    (hs1 : s.rdy.length ≤ 1000000) (hs2 : s.count ≤ 1000000) (hs3 : s.total ≤ 1000000) :
    Calls Try.prog 30 #[.pointer (some ⟨g, 0, none⟩), A] w (PutP w base g d (putP d s r) v) := by
  obtain ⟨X, hX⟩ : ∃ X, putP d s r = X := ⟨_, rfl⟩
  rw [hX]
  unfold putP at hX
  have c6 := h.c (i := 6) rfl
  obtain ⟨C, hC⟩ : ∃ C, s.cl = C := ⟨_, rfl⟩
  rw [hC] at c6 hX
  cases C
  rotate_left
  · simp only [if_true] at hX
    have HX := Lib.hid hX
    have HH := Lib.hid h
    obtain ⟨A, ca, rfl, ha1, ha2⟩ := hr.form
    clear h hX hr hC
    go_enter Try.func30, Try.ntmps30
    go_wp2_with (fail)
    go_ret
    exact ⟨by rw [← HX.out]; rfl, v, by rw [← HX.out]; exact HH.out, Keeps.refl _ _, fun k hk => .inl hk⟩
  simp only [Bool.false_eq_true, if_false] at hX
  obtain ⟨A, ca, rfl, ha1, ha2⟩ := hr.form
  obtain ⟨z0, hz0⟩ : ∃ z0, (s.count == 0) = z0 := ⟨_, rfl⟩
  have hz0' : ((s.count : Int) == 0) = z0 := by rw [← hz0, Bool.eq_iff_iff, beq_iff_eq, beq_iff_eq]; omega
  rw [hz0] at hX
  have hll := Wr.line_len d r z0
  have HL : Hid (∀ w', Keeps [] w w' → Calls Try.prog 13 #[diaV d, .slice A r.length ca, .bool z0] w' fun e w'' => e = .returned (lineV (if Wr.may r = 0 then (Wr.lineB d r z0, 0) else ([], Wr.may r))) ∧ Keeps [] w' w'') := Lib.hid (fun w' k => by
    have := line_c d (.slice A r.length ca) r z0 B1 w' (hr.keepB k (by simp)) (by have := k.size; omega) h1 h2
    unfold lineR at this
    rw [hd, if_pos rfl] at this
    exact this)
  have HX := Lib.hid hX
  have HH := Lib.hid h
  have c0 := h.c (i := 0) rfl
  have c1 := h.c (i := 1) rfl
  have c2 := h.c (i := 2) rfl
  have c4 := h.c (i := 4) rfl
  have hgl := h.blk.lt
  have HCL := Lib.hid hC
  clear hX hr h hz0 hC
  generalize Wr.lineB d r z0 = LB at *
  generalize Wr.may r = M at *
  obtain ⟨x, y, z⟩ := d
  go_enter Try.func30, Try.ntmps30
  go_wp2_with (fail)
  obtain ⟨⟨Y1, Y2⟩, hY⟩ : ∃ Y : Bs × Nat, (if M = 0 then (LB, 0) else ([], M)) = Y := ⟨_, rfl⟩
  rw [hY] at HL
  unfold lineV at HL
  dsimp only at HL
  have hLX : ∀ w', Below w.heap.size w w' → Calls Try.prog 13 #[.agg #[bv x, bv y, .int .i64 z], .slice A r.length ca, .bool z0] w' fun e w'' => e = .returned (.tuple #[sv Y1, .int .i64 Y2]) ∧ Keeps [] w' w'' := fun w' b => HL.out w' (below_keeps b (Nat.le_refl _))
  have HLX := Lib.hid hLX
  have HY := Lib.hid hY
  clear hLX HL hY
  have HSS := fun w' (hb : Below (w.heap.size) (w) w') => ((⟨(hb.cell (p := ⟨g, 0, none⟩) (hgl)).trans (c0), (hb.cell (p := ⟨g, 1, none⟩) (hgl)).trans (c1), (hb.cell (p := ⟨g, 2, none⟩) (hgl)).trans (c2), (hb.cell (p := ⟨g, 4, none⟩) (hgl)).trans (c4), hb⟩) : w'.cell? ⟨g, 0, none⟩ = some (bv x) ∧ w'.cell? ⟨g, 1, none⟩ = some (bv y) ∧ w'.cell? ⟨g, 2, none⟩ = some (.int .i64 z) ∧ w'.cell? ⟨g, 4, none⟩ = some (.int .i64 s.count) ∧ Below (w.heap.size) (w) w')
  have HSSb : w.heap.size ≤ (w).heap.size := Nat.le_refl _
  go_region_held3 (fun w' => w'.cell? ⟨g, 0, none⟩ = some (bv x) ∧ w'.cell? ⟨g, 1, none⟩ = some (bv y) ∧ w'.cell? ⟨g, 2, none⟩ = some (.int .i64 z) ∧ w'.cell? ⟨g, 4, none⟩ = some (.int .i64 s.count) ∧ Below (w.heap.size) (w) w') (((try go_split_ands); (with_reducible apply HSS); first | (with_reducible assumption) | (with_reducible (apply bC HSSb k1; assumption)) | (with_reducible (apply bAA HSSl; assumption)) | (repeat (first | (with_reducible assumption) | (with_reducible apply Below.refl) | (with_reducible apply bS (hp := HSSb)) | (with_reducible apply bSe) | (with_reducible apply bSg; · with_reducible assumption) | (with_reducible apply bA HSSb) | (with_reducible apply bD))))) (first | ((go_at_call 13; refine (HLX.out _ (by first | assumption | exact bD (Below.refl _ _))).mono ?_; rintro e w7 ⟨rfl, k1⟩)))
  all_goals go_split_ands
  have hb7 := (by assumption : Below w.heap.size w w7)
  have k7 := below_keeps hb7 (Nat.le_refl _)
  have hH7 := HH.out.keep k7
  have hF7 : ∀ k ∈ blkOf v, k ∈ blkOf v ∨ w.heap.size ≤ k := fun k hk => .inl hk
  clear c0 c1 c2 c4 HSS HSSb k1 HLX HH hb7
  by_cases hM : M = 0
  rotate_left
  · have hY2 := HY.out
    rw [if_neg hM] at hY2
    injection hY2 with e1 e2
    subst e2
    have hM' : ((M : Int) != 0) = true := by rw [bne_iff_ne]; omega
    have HX2 := Lib.hid ((if_neg hM).symm.trans HX.out)
    have HH7 := Lib.hid hH7
    clear hM hH7
    go_wp2_with (fail)
    go_ret
    refine ⟨by rw [← HX2.out]; rfl, v, by rw [← HX2.out]; exact HH7.out, k7.sub (by simp), fun k hk => .inl hk⟩
  have hY2 := HY.out
  subst hM
  rw [if_pos rfl] at hY2
  injection hY2 with e1 e2
  subst e1 e2
  have HX2 := Lib.hid ((if_pos rfl).symm.trans HX.out)
  clear HY HX
  obtain ⟨iS, hiS, hS0, hS1, hS2⟩ := info_parts infoU8
  have hlow := hH7.low
  have hlb7 := hH7.blk.lt
  obtain ⟨v', w8, hap, hown8, k8, hb8⟩ := run_append (P := Try.prog) (base := base) (u := 9) (ty := 60) Try.underlying60 hiS hS0 hS1 hS2 rfl hH7.own (src_string LB Try.underlying9) (one_bv _) (by simp only [maxLen]; omega) (by omega) (by omega)
  obtain ⟨A8, c8, rfl, h81, h82⟩ := hown8.form
  obtain ⟨A7, c7, rfl, h71, h72⟩ := hH7.own.form
  have hblk8 := hH7.blk.keep k8 (fun hm => hH7.apart _ hm rfl)
  have c3 := hH7.c (i := 3) rfl
  have e3 := hblk8.cell_of (i := 3) rfl
  have f3 := hblk8.frozen (i := 3) (by simp [wC])
  have e4 := hblk8.cell_of (i := 4) rfl
  have f4 := hblk8.frozen (i := 4) (by simp [wC])
  have e5 := hblk8.cell_of (i := 5) rfl
  have f5 := hblk8.frozen (i := 5) (by simp [wC])
  have hw1 : IntKind.i64.wrap ((s.count : Int) + 1) = (s.count : Int) + 1 := IntWalk.i64_in _ (by omega)
  have hw2 : IntKind.i64.wrap ((s.total : Int) + (LB.length : Int)) = (s.total : Int) + (LB.length : Int) := IntWalk.i64_in _ (by omega)
  have HAP := Lib.hid hH7.apart
  have HB8 := Lib.hid hblk8
  have HO8 := Lib.hid hown8
  have K8 := Lib.hid ((k7.sub (F' := g :: blkOf (.slice A7 s.rdy.length c7)) (by simp)).trans (k8.sub (F' := g :: blkOf (.slice A7 s.rdy.length c7)) (fun x hx _ => by simp [hx])) (fun x hx _ => hx))
  have HN8 := Lib.hid hb8
  have HG7 := Lib.hid k7.size
  clear hown8 hblk8 k8 hb8 hH7 hiS hS0 hS1 hS2 k7 hF7
  go_wp2_with (with_reducible refine wpList_append hap _ _ rfl rfl rfl rfl rfl ?_)
  go_ret
  have hne8 : ∀ a ∈ blkOf (.slice A8 (s.rdy.length + LB.length) c8), a ≠ g := by
    intro a ha e
    rcases HN8.out a ha with h | h
    · exact HAP.out a h e
    · have := HG7.out; omega
  have kS : Keeps [g] w8 (((w8.setCell ⟨g, 3, none⟩ (.slice A8 (s.rdy.length + LB.length) c8)).setCell ⟨g, 4, none⟩ (.int .i64 (s.count + 1))).setCell ⟨g, 5, none⟩ (.int .i64 (s.total + LB.length))) := ((Keeps.setCell w8 ⟨g, 3, none⟩ _).set1 ⟨g, 4, none⟩ _ (by simp)).set1 ⟨g, 5, none⟩ _ (by simp)
  refine ⟨by rw [← HX2.out]; rfl, .slice A8 (s.rdy.length + LB.length) c8, ?_, ?_, ?_⟩
  · rw [← HX2.out]
    refine ⟨?_, hlow, ?_⟩
    · have h9 := ((HB8.out.set_ 3 (.slice A8 (s.rdy.length + LB.length) c8)).set_ 4 (.int .i64 (s.count + 1))).set_ 5 (.int .i64 (s.total + LB.length))
      simpa [wC, HCL.out] using h9
    · have h9 := HO8.out.keep kS (fun a ha hm => by simp at hm; exact hne8 a ha hm)
      simpa using h9
  · exact K8.out.trans (kS.sub (F' := g :: blkOf (.slice A7 s.rdy.length c7)) (by simp)) (fun x hx _ => hx)
  · intro k hk
    rcases HN8.out k hk with h | h
    · exact .inl h
    · exact .inr (by have := HG7.out; omega)
/-- What Take does, and hands on. -/
def takeN (s : PSt) (n : Int) : Nat := min n.toNat s.rdy.length
def takeP (s : PSt) (n : Int) : PSt := { s with rdy := s.rdy.drop (takeN s n) }
def TakeP (w : World) (base g : Nat) (d : Dia) (s : PSt) (n : Int) (v : Value) (e : Ending) (w' : World) : Prop :=
  ∃ p v', e = .returned p ∧ Own w' w.heap.size 5 1 p (s.rdy.take (takeN s n)).length ((s.rdy.take (takeN s n)).map bv) ∧ WAt w' base g d (takeP s n) v' ∧ Keeps [g] w w' ∧ ∀ k ∈ blkOf v', k ∈ blkOf v
set_option maxHeartbeats 20000000 in
theorem take_c (w : World) (base g : Nat) (d : Dia) (s : PSt) (v : Value) (h : WAt w base g d s v) (n : Int) (hn : -9223372036854775808 ≤ n ∧ n ≤ 9223372036854775807) (hs1 : s.rdy.length ≤ 1000000) :
    Calls Try.prog 31 #[.pointer (some ⟨g, 0, none⟩), .int .i64 n] w (TakeP w base g d s n v) := by
  obtain ⟨A, c, rfl, h1, h2⟩ := h.own.form
  have c3 := h.c (i := 3) rfl
  have HH := Lib.hid h
  clear h
  go_enter Try.func31, Try.ntmps31
  have hk : takeN s n ≤ s.rdy.length := by unfold takeN; omega
  have HK : Hid (takeN s n = min n.toNat s.rdy.length) := Lib.hid rfl
  go_upto_region 1 with (fail)
  go_cut [1] from 5 (fun v wx => v = .int .i64 (takeN s n : Nat) ∧ wx = w)
  case first =>
    go_wp2_with (fail)
    all_goals
      go_meet
      refine ⟨?_, rfl⟩
      congr 1
      rw [HK.out]
      omega
  case rest =>
  obtain ⟨rfl, rfl⟩ := hcut
  obtain ⟨k, hkk⟩ : ∃ k, takeN s n = k := ⟨_, rfl⟩
  rw [hkk] at hk ⊢
  have HKK := Lib.hid hkk
  clear hkk HK
  have hsl1 : ∀ w, (Instr.sliceAt 60 (.slice A s.rdy.length c) none (some (.int .i64 (k : Int))) none).run Try.prog w = .ok (.slice A k c) w := fun w => by
    obtain ⟨iU, hiU, hU0, hU1, hU2⟩ := info_parts infoU8
    exact run_sliceUpto Try.underlying60 hiU A s.rdy.length c k (by omega) w
  obtain ⟨A2, hA2⟩ : ∃ A2, (if c = k then A else A.map (·.add (k * 1))) = A2 := ⟨_, rfl⟩
  have hsl2 : ∀ w, (Instr.sliceAt 60 (.slice A s.rdy.length c) (some (.int .i64 (k : Int))) none none).run Try.prog w = .ok (.slice A2 (s.rdy.length - k) (c - k)) w := fun w => by
    obtain ⟨iU, hiU, hU0, hU1, hU2⟩ := info_parts infoU8
    rw [← hA2]
    exact run_sliceFrom Try.underlying60 hiU hU1 A s.rdy.length c k hk w
  have HA2 := Lib.hid hA2
  have htl : (s.rdy.take k).length = k := by rw [List.length_take]; omega
  have HCL := Lib.hid (bclone_c (.slice A k c) (s.rdy.take k) _ wc (by
    have := (HH.out.own.rd (Nat.le_refl _)).upto_ hk
    rw [htl, List.map_take]
    simpa using this) (by omega))
  clear hA2
  go_wp2_with (with_reducible refine wpList_slice (hsl1 _) _ _ _ _ rfl rfl rfl rfl rfl rfl ?_)
  with_reducible refine HCL.out.mono ?_
  rintro e w2 ⟨p, rfl, hp, k2⟩
  have hglc := HH.out.blk.lt
  have hH2 := HH.out.keep k2
  clear c3
  have c3 := hH2.c (i := 3) rfl
  have f3 := hH2.f (i := 3) (by omega)
  have hgl := hH2.blk.lt
  have HP := Lib.hid hp
  have K2 := Lib.hid k2
  have HH2 := Lib.hid hH2
  clear hp k2 hH2 HCL HH htl
  obtain ⟨m, hm⟩ : ∃ m, s.rdy.length - k = m := ⟨_, rfl⟩
  rw [hm] at hsl2
  have HMM := Lib.hid hm
  clear hm
  have hnl : (s.rdy.drop k).length = m := by rw [List.length_drop]; exact HMM.out
  by_cases he : m = 0
  · have he' : ((m : Int) == 0) = true := by rw [he]; rfl
    have HE := Lib.hid he
    clear he hnl
    go_wp2_with (with_reducible refine wpList_slice (hsl2 _) _ _ _ _ rfl rfl rfl rfl rfl rfl ?_)
    go_ret
    have hd0 : s.rdy.drop k = [] := List.drop_eq_nil_of_le (by have := HMM.out; have := HE.out; omega)
    have kS : Keeps [g] w2 ((w2.setCell ⟨g, 3, none⟩ (.slice A2 m (c - k))).setCell ⟨g, 3, none⟩ (.slice none 0 0)) := (Keeps.setCell w2 ⟨g, 3, none⟩ _).set1 ⟨g, 3, none⟩ _ (by simp)
    refine ⟨p, .slice none 0 0, rfl, ?_, ⟨?_, HH2.out.low, ?_⟩, (K2.out.sub (F' := [g]) (by simp)).trans kS (fun x hx _ => hx), by simp [blkOf]⟩
    · rw [HKK.out]
      refine HP.out.keep kS (fun a ha hm => ?_)
      simp at hm
      subst hm
      have := (HP.out.lt a ha).1
      omega
    · have h9 := (HH2.out.blk.set_ 3 (.slice A2 m (c - k))).set_ 3 (.slice none 0 0)
      simpa [wC, takeP] using h9
    · unfold takeP
      rw [HKK.out, hd0]
      exact Own.nil_ _ _ _ _
  · have he' : ((m : Int) == 0) = false := by rw [beq_eq_false_iff_ne]; omega
    clear he
    go_wp2_with (with_reducible refine wpList_slice (hsl2 _) _ _ _ _ rfl rfl rfl rfl rfl rfl ?_)
    go_ret
    have kS : Keeps [g] w2 (w2.setCell ⟨g, 3, none⟩ (.slice A2 m (c - k))) := Keeps.setCell w2 ⟨g, 3, none⟩ _
    have hsub : ∀ x ∈ blkOf (.slice A2 m (c - k)), x ∈ blkOf (.slice A s.rdy.length c) := by
      rw [← HA2.out]
      exact blkOf_from (size := 1) A s.rdy.length c k m (c - k)
    refine ⟨p, .slice A2 m (c - k), rfl, ?_, ⟨?_, HH2.out.low, ?_⟩, (K2.out.sub (F' := [g]) (by simp)).trans kS (fun x hx _ => hx), hsub⟩
    · rw [HKK.out]
      refine HP.out.keep kS (fun a ha hm => ?_)
      simp at hm
      subst hm
      have := (HP.out.lt a ha).1
      omega
    · have h9 := HH2.out.blk.set_ 3 (.slice A2 m (c - k))
      simpa [wC, takeP] using h9
    · have h9 := HH2.out.own.from_ hk
      rw [HA2.out, HMM.out] at h9
      have h10 := h9.keep kS (fun a ha hm => by simp at hm; exact HH2.out.apart a (hsub a ha) hm)
      unfold takeP
      rw [HKK.out]
      simp only [hnl]
      rw [List.map_drop]
      simpa using h10
end Go.Proofs.Ytcmoldondflilaa.Pcs
