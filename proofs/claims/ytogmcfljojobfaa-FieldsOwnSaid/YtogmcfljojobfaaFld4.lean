/- fields.New, Open, Stopped, Count, Begun, and the document's example of layer 5. -/
import Derived.Test.YtogmcfljojobfaaFld3
import Derived.Test.YtogmcfljojobfaaLimits
namespace Go.Proofs.Ytogmcfljojobfaa.Fld
set_option linter.unusedVariables false
set_option linter.unusedSimpArgs false
open Go.RowKit Q Mach Dia Scan Ref4 Limits
attribute [local go_sem ↓] Go.wp_at_zero Go.wp_at_succ

theorem fine0 (l : Lim) (ha : l.field ≤ 2147483648) (hb : l.fields ≤ 2147483648) (hc : l.records ≤ 2147483648) : Fine (mk0 l) := ⟨ha, hb, hc, by simp [mk0], by simp [mk0], by simp [mk0], by simp [mk0]⟩
/-- A maker that was made: a block of its own. -/
def NewPost (l : Lim) (w : World) (r : Ending) (w' : World) : Prop :=
  ∃ g, r = .returned (.tuple #[.pointer (some ⟨g, 0, none⟩), .int .i64 0]) ∧ MkAt w' w.heap.size g 77 [] [] (mk0 l) (.slice none 0 0) (.slice none 0 0) ∧ Keeps [] w w'
set_option maxHeartbeats 1000000 in
theorem new_c (l : Lim) (ha : 1 ≤ l.field ∧ l.field ≤ 2147483648) (hb : 1 ≤ l.fields ∧ l.fields ≤ 2147483648) (hc : 1 ≤ l.records ∧ l.records ≤ 2147483648) (w : World) :
    Calls Try.prog 10 #[limV l.field l.fields l.records l.uniform] w (NewPost l w) := by
  have hok : limOk l.field l.fields l.records = true := by rw [limOk_iff]; omega
  have HC := checkLimits_c l.field l.fields l.records l.uniform
  rw [hok] at HC
  have HC := Lib.hid HC
  have kp : Keeps [] w (w.alloc (.cells #[.int .i64 l.field, .int .i64 l.fields, .int .i64 l.records, .bool l.uniform] 24)) := Keeps.alloc [] w _
  have hb := Blk.new w 24 [.int .i64 l.field, .int .i64 l.fields, .int .i64 l.records, .bool l.uniform]
  clear hok
  obtain ⟨a, b, c, u⟩ := l
  go_enter Try.func10, Try.ntmps10
  go_wp2_with (fail)
  refine (HC.out _).mono ?_
  rintro e w1 ⟨rfl, k1⟩
  have hb1 := hb.keep k1 (by simp)
  have c0 := hb1.cell_of (i := 0) rfl
  have c1 := hb1.cell_of (i := 1) rfl
  have c2 := hb1.cell_of (i := 2) rfl
  have c3 := hb1.cell_of (i := 3) rfl
  have kk := kp.trans k1 (by simp)
  have hsz := kk.size
  clear hb hb1 k1 kp
  go_wp2_with (fail)
  go_ret2
  refine ⟨_, rfl, ⟨?_, by simpa using hsz, Own.nil_ _ _ _ _, Own.nil_ _ _ _ _⟩, kk.alloc1 _⟩
  exact Blk.new w1 77 _
set_option maxHeartbeats 1000000 in
theorem new_bad (a b c : Int) (u : Bool) (h : limOk a b c = false) (w : World) :
    Calls Try.prog 10 #[limV a b c u] w fun e w' => e = .returned (.tuple #[.pointer none, .int .i64 2]) ∧ Keeps [] w w' := by
  have HC := checkLimits_c a b c u
  rw [h] at HC
  have HC := Lib.hid HC
  have kp : Keeps [] w (w.alloc (.cells #[.int .i64 a, .int .i64 b, .int .i64 c, .bool u] 24)) := Keeps.alloc [] w _
  clear h
  go_enter Try.func10, Try.ntmps10
  go_wp2_with (fail)
  refine (HC.out _).mono ?_
  rintro e w1 ⟨rfl, k1⟩
  have kk := kp.trans k1 (by simp)
  clear k1 kp
  go_wp2_with (fail)
  go_ret2
  exact ⟨rfl, kk⟩

section num
variable (base g : Nat) (e : TypeId) (pre post : List Value) (m : Mk) (vf vr : Value) (w : World) (h : MkAt w base g e pre post m vf vr)
include h
theorem stopped_c : Calls Try.prog 18 #[.pointer (some ⟨g, pre.length, none⟩)] w fun r w' => r = .returned (.int .i64 m.stopped) ∧ w = w' := by
  have c9 := h.c (i := 9) rfl
  clear h
  go_enter Try.func18, Try.ntmps18
  go_wp2_with (fail)
  go_ret
  exact ⟨rfl, rfl⟩
theorem begun_c : Calls Try.prog 20 #[.pointer (some ⟨g, pre.length, none⟩)] w fun r w' => r = .returned (.int .i64 m.begun) ∧ w = w' := by
  have c6 := h.c (i := 6) rfl
  clear h
  go_enter Try.func20, Try.ntmps20
  go_wp2_with (fail)
  go_ret
  exact ⟨rfl, rfl⟩
theorem count_c : Calls Try.prog 19 #[.pointer (some ⟨g, pre.length, none⟩)] w fun r w' => r = .returned (.int .i64 m.count) ∧ w = w' := by
  have c7 := h.c (i := 7) rfl
  clear h
  go_enter Try.func19, Try.ntmps19
  go_wp2_with (fail)
  go_ret
  exact ⟨rfl, rfl⟩
end num

def ClonePost (r : Row) (w : World) (e : Ending) (w' : World) : Prop := ∃ v, e = .returned v ∧ Own w' w.heap.size 9 1 v r.length (r.map sv) ∧ Keeps [] w w'
set_option maxHeartbeats 400000 in
theorem clone_c (A : Value) (r : Row) (B1 : Nat) (w : World) (ha : Rd w B1 1 A r.length (r.map sv)) (hl : r.length ≤ 1000000) :
    Calls Try.prog 33 #[A] w (ClonePost r w) := by
  obtain ⟨iS, hiS, hS0, hS1, hS2⟩ := info_parts infoStr
  have ha' := ha
  obtain ⟨A, ca, rfl, ha1, ha2⟩ := ha.form
  have hnil := fun w2 => Lib.run_eql_slice_nil (P := Try.prog) w2 34 9 A r.length ca 0 0 Try.underlying34
  cases A with
  | none =>
    have hr : r = [] := by
      obtain ⟨A', c', hv, hn, hc, hl, hx⟩ := ha'
      rcases hx with hx | ⟨b, off, hA, _⟩
      · simpa using hx
      · injection hv with h1; rw [← h1] at hA; cases hA
    subst hr
    clear ha ha'
    simp only [List.length_nil, Option.isNone_none] at *
    go_enter Try.func33, Try.ntmps33
    go_wp2_with (fail)
    go_ret
    exact ⟨_, rfl, Own.nil_ w _ _ _, Keeps.refl _ _⟩
  | some a =>
    simp only [Option.isNone_some] at hnil
    have o0 : Own (w.alloc (.cells #[] 9)) w.heap.size 9 1 (.slice (some ⟨w.heap.size, 0, none⟩) 0 0) 0 [] := by simpa using own_lit w 9 [] (by simp [maxLen])
    have ra1 := ha'.keepF (Keeps.alloc [] w (.cells #[] 9)) (by simp)
    obtain ⟨v2, w2, hap, hown2, hk2, hb2⟩ := run_append (P := Try.prog) (base := w.heap.size) (u := 34) (ty := 34) Try.underlying34 hiS hS0 hS1 hS2 rfl o0 (ra1.src Try.underlying34) (one_sv _) (by simp only [maxLen]; omega) (by omega) (by simp)
    simp only [Nat.zero_add, List.nil_append] at hown2
    go_enter Try.func33, Try.ntmps33
    go_wp2_with (refine wpList_append hap _ _ rfl rfl rfl rfl rfl ?_)
    go_ret
    exact ⟨v2, rfl, hown2, (Keeps.alloc [] w _).trans hk2 (by intro x hx hl; simp [blkOf] at hx; omega)⟩

/-- What is told of the open record: a copy, and the field's bytes. -/
def OpenPost (m : Mk) (w : World) (r : Ending) (w' : World) : Prop := ∃ v, r = .returned (.tuple #[v, sv m.field]) ∧ Own w' w.heap.size 9 1 v m.record.length (m.record.map sv) ∧ Keeps [] w w'
set_option maxHeartbeats 1000000 in
theorem open_c (base g : Nat) (e : TypeId) (pre post : List Value) (m : Mk) (vf vr : Value) (w : World) (h : MkAt w base g e pre post m vf vr) (hl : m.record.length ≤ 1000000) :
    Calls Try.prog 17 #[.pointer (some ⟨g, pre.length, none⟩)] w (OpenPost m w) := by
  have c4 := h.c (i := 4) rfl
  have c5 := h.c (i := 5) rfl
  have hgl := h.blk.lt
  obtain ⟨A, c, rfl, hn1, hx1⟩ := h.rcd.form
  obtain ⟨A', c', rfl, hn2, hx2⟩ := h.fld.form
  have hrd := h.rcd.rd (B := w.heap.size) (Nat.le_refl _)
  have hfd := h.fld.rd (B := w.heap.size) (Nat.le_refl _)
  have HCL := Lib.hid (fun w' (hb : Below w.heap.size w w') => clone_c (.slice A m.record.length c) m.record w.heap.size w' (hrd.below hb (Nat.le_refl _)) hl)
  have HCV := Lib.hid (fun w' (hb : Below w.heap.size w w') => run_toString (P := Try.prog) (hfd.below hb (Nat.le_refl _)) Try.underlying75 Try.underlying5 Try.underlying9)
  clear h hrd hfd
  go_enter Try.func17, Try.ntmps17
  go_wp2_with (fail)
  have HS := fun w' (hb : Below (w.heap.size) (w) w') => ((⟨(hb.cell (p := ⟨g, pre.length + 5, none⟩) (hgl)).trans (c5), (hb.cell (p := ⟨g, pre.length + 4, none⟩) (hgl)).trans (c4), (HCV.out w' hb), hb⟩) : w'.cell? ⟨g, pre.length + 5, none⟩ = some (.slice A m.record.length c) ∧ w'.cell? ⟨g, pre.length + 4, none⟩ = some (.slice A' m.field.length c') ∧ ((convert 75 9 (.slice A' m.field.length c')).run Try.prog w' = .ok (sv m.field) w') ∧ Below (w.heap.size) (w) w')
  have HSb : w.heap.size ≤ (w).heap.size := Nat.le_refl _
  go_region_held3 (fun w' => w'.cell? ⟨g, pre.length + 5, none⟩ = some (.slice A m.record.length c) ∧ w'.cell? ⟨g, pre.length + 4, none⟩ = some (.slice A' m.field.length c') ∧ ((convert 75 9 (.slice A' m.field.length c')).run Try.prog w' = .ok (sv m.field) w') ∧ Below (w.heap.size) (w) w') (((try go_split_ands); (with_reducible apply HS); first | (with_reducible assumption) | (with_reducible (apply bC HSb k1; assumption)) | (with_reducible (apply bAA HSl; assumption)) | (repeat (first | (with_reducible assumption) | (with_reducible apply Below.refl) | (with_reducible apply bS (hp := HSb)) | (with_reducible apply bSe) | (with_reducible apply bA HSb) | (with_reducible apply bD))))) (((go_at_call 33; refine (HCL.out _ (by first | assumption | exact Below.refl _ _ | exact bD (Below.refl _ _))).mono ?_; rintro e wa hcl; obtain ⟨v, rfl, hown, k1⟩ := hcl)))
  go_split_ands
  go_wp2_with (fail)
  go_ret2
  exact ⟨v, rfl, hown, (Keeps.drew [] w).trans k1 (by simp)⟩

/-! ### A maker of the caller's own -/
def Mk1 (w : World) (base g : Nat) (m : Mk) : Prop := ∃ vf vr, MkAt w base g 77 [] [] m vf vr
theorem Mk1.keep {w w' : World} {base g : Nat} {m : Mk} (h : Mk1 w base g m) (k : Keeps [] w w') : Mk1 w' base g m := by obtain ⟨vf, vr, h⟩ := h; exact ⟨vf, vr, h.keep k⟩
theorem Mk1.less {w : World} {base b' g : Nat} {m : Mk} (h : Mk1 w base g m) (hb : b' ≤ base) : Mk1 w b' g m := by
  obtain ⟨vf, vr, h⟩ := h
  exact ⟨vf, vr, h.blk, Nat.le_trans hb h.low, h.fld.less hb, h.rcd.less hb⟩
theorem Mk1.lt {w : World} {base g : Nat} {m : Mk} (h : Mk1 w base g m) : base ≤ g ∧ g < w.heap.size := by obtain ⟨vf, vr, h⟩ := h; exact ⟨h.low, h.blk.lt⟩
def TakeP (w : World) (base g : Nat) (m : Mk) (ev : Ev) (r : Ending) (w' : World) : Prop :=
  ∃ v, r = .returned (.tuple #[v, .bool (take m ev).2.1.isSome, .int .i64 (take m ev).2.2]) ∧ Own w' base 9 1 v ((take m ev).2.1.getD []).length (((take m ev).2.1.getD []).map sv) ∧ ((take m ev).2.1 = none → v = .slice none 0 0) ∧
    (∀ w2, Keeps (blkOf v) w' w2 → Mk1 w2 base g (take m ev).1) ∧ Below base w w'
theorem take1_c (base g : Nat) (m : Mk) (ev : Ev) (w : World) (h : Mk1 w base g m) (hm : Fine m) :
    Calls Try.prog 13 #[.pointer (some ⟨g, 0, none⟩), evV ev] w (TakeP w base g m ev) := by
  obtain ⟨vf, vr, h⟩ := h
  refine (take_c base g 77 [] [] m vf vr ev w h ⟨by decide, by decide, by decide⟩ hm).mono ?_
  rintro r w' ⟨v, hr, hown, hn, hv, vf', vr', hM, hap, hK, hF, hR⟩
  refine ⟨v, hr, hown, hn, fun w2 k2 => ⟨vf', vr', hM.blk.keep k2 (fun hm => ?_), hM.low, hM.fld.keep k2 (fun x hx hm => hM.fld.apart hown (by decide) x hx hm), hM.rcd.keep k2 (fun x hx hm => hap x hm hx)⟩, ?_⟩
  · exact hown.apartBlk hM.blk (by decide) _ hm rfl
  · have hlw := h.blk.lt
    refine hK.below (Nat.le_of_lt (Nat.lt_of_le_of_lt h.low hlw)) ?_
    intro x hx
    simp only [List.mem_cons, List.mem_append] at hx
    rcases hx with rfl | hx | hx
    · exact h.low
    · exact (h.fld.lt x hx).1
    · exact (h.rcd.lt x hx).1
theorem stopped1_c (base g : Nat) (m : Mk) (w : World) (h : Mk1 w base g m) : Calls Try.prog 18 #[.pointer (some ⟨g, 0, none⟩)] w fun r w' => r = .returned (.int .i64 m.stopped) ∧ w = w' := by
  obtain ⟨vf, vr, h⟩ := h
  exact stopped_c base g 77 [] [] m vf vr w h
theorem begun1_c (base g : Nat) (m : Mk) (w : World) (h : Mk1 w base g m) : Calls Try.prog 20 #[.pointer (some ⟨g, 0, none⟩)] w fun r w' => r = .returned (.int .i64 m.begun) ∧ w = w' := by
  obtain ⟨vf, vr, h⟩ := h
  exact begun_c base g 77 [] [] m vf vr w h
theorem count1_c (base g : Nat) (m : Mk) (w : World) (h : Mk1 w base g m) : Calls Try.prog 19 #[.pointer (some ⟨g, 0, none⟩)] w fun r w' => r = .returned (.int .i64 m.count) ∧ w = w' := by
  obtain ⟨vf, vr, h⟩ := h
  exact count_c base g 77 [] [] m vf vr w h
theorem open1_c (base g : Nat) (m : Mk) (w : World) (h : Mk1 w base g m) (hl : m.record.length ≤ 1000000) : Calls Try.prog 17 #[.pointer (some ⟨g, 0, none⟩)] w (OpenPost m w) := by
  obtain ⟨vf, vr, h⟩ := h
  exact open_c base g 77 [] [] m vf vr w h hl
def New1 (l : Lim) (w : World) (r : Ending) (w' : World) : Prop :=
  ∃ g, r = .returned (.tuple #[.pointer (some ⟨g, 0, none⟩), .int .i64 0]) ∧ Mk1 w' w.heap.size g (mk0 l) ∧ Keeps [] w w'
theorem new1_c (l : Lim) (ha : 1 ≤ l.field ∧ l.field ≤ 2147483648) (hb : 1 ≤ l.fields ∧ l.fields ≤ 2147483648) (hc : 1 ≤ l.records ∧ l.records ≤ 2147483648) (w : World) :
    Calls Try.prog 10 #[limV l.field l.fields l.records l.uniform] w (New1 l w) :=
  (new_c l ha hb hc w).mono fun _ _ ⟨g, h1, h2, h3⟩ => ⟨g, h1, ⟨_, _, h2⟩, h3⟩

/-! ### The example -/
def lim5 : Lim := ⟨2, 1, 1, false⟩
def ma : Mk := ⟨lim5, [97], [], 1, 0, 0, 0⟩
def mb : Mk := ⟨lim5, [97, 98], [], 1, 0, 0, 0⟩
def mc : Mk := ⟨lim5, [97, 98], [], 1, 0, 0, 7⟩
theorem tk_a : take (mk0 lim5) ⟨true, true, false, false, false, 97⟩ = (ma, none, 0) := by rfl
theorem tk_b : take ma ⟨false, true, false, false, false, 98⟩ = (mb, none, 0) := by rfl
theorem tk_c : take mb ⟨false, true, false, false, false, 99⟩ = (mc, none, 7) := by rfl
theorem fine_a : Fine (mk0 lim5) := by constructor <;> decide
theorem fine_b : Fine ma := by constructor <;> decide
theorem fine_c : Fine mb := by constructor <;> decide
set_option maxHeartbeats 1000000 in
theorem awake5_c (w : World) : Calls Try.prog 11 #[] w fun e w' => e = .returned (.bool true) ∧ Keeps [] w w' := by
  have HN := Lib.hid (fun w => new1_c lim5 (by decide) (by decide) (by decide) w)
  go_enter Try.func11, Try.ntmps11
  go_wp2_with (fail)
  refine (HN.out _).mono ?_
  rintro r w1 ⟨g, rfl, hM1, k1⟩
  go_wp2_with (fail)
  have HA := Lib.hid (take1_c w.heap.size g (mk0 lim5) ⟨true, true, false, false, false, 97⟩ w1 hM1 fine_a)
  refine HA.out.mono ?_
  unfold TakeP
  rw [tk_a]
  rintro r w2 ⟨v2, rfl, _, hn2, hM2, k2⟩
  obtain rfl := hn2 rfl
  have hM2 := hM2 w2 (Keeps.refl _ _)
  clear HA hn2
  go_wp2_with (fail)
  have HA := Lib.hid (take1_c w.heap.size g ma ⟨false, true, false, false, false, 98⟩ w2 hM2 fine_b)
  refine HA.out.mono ?_
  unfold TakeP
  rw [tk_b]
  rintro r w3 ⟨v2, rfl, _, hn2, hM3, k3⟩
  obtain rfl := hn2 rfl
  have hM3 := hM3 w3 (Keeps.refl _ _)
  clear HA hn2
  go_wp2_with (fail)
  have HA := Lib.hid (take1_c w.heap.size g mb ⟨false, true, false, false, false, 99⟩ w3 hM3 fine_c)
  refine HA.out.mono ?_
  unfold TakeP
  rw [tk_c]
  rintro r w4 ⟨v2, rfl, _, hn2, hM4, k4⟩
  obtain rfl := hn2 rfl
  have hM4 := hM4 w4 (Keeps.refl _ _)
  clear HA hn2
  go_wp2_with (fail)
  have HA := Lib.hid (open1_c w.heap.size g mc w4 hM4 (by decide))
  refine HA.out.mono ?_
  rintro r w5 ⟨v5, rfl, _, k5⟩
  have HB := Lib.hid (begun1_c w.heap.size g mc w5 (hM4.keep k5))
  clear HA
  have kk := (((k1.below (Nat.le_refl _) (by simp)).trans k2).trans k3).trans k4
  have kk := Keeps.of_below (kk.trans (k5.below (B := w.heap.size) kk.size (by simp))) []
  have hf : mc.field = [97, 98] := rfl
  go_wp2_with (fail)
  refine HB.out.mono ?_
  rintro r w6 ⟨rfl, rfl⟩
  have hbg : ((mc.begun : Int) == 1) = true := by decide
  go_wp2_with (fail)
  go_ret
  exact ⟨rfl, kk⟩
end Go.Proofs.Ytogmcfljojobfaa.Fld
