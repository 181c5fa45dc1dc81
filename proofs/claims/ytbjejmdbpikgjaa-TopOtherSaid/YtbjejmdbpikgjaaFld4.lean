/- fields.New, Open, Stopped, Count, Begun, and the document's example of layer 5. -/
import Derived.Test.YtbjejmdbpikgjaaFld3
import Derived.Test.YtbjejmdbpikgjaaLimits
namespace Go.Proofs.Ytbjejmdbpikgjaa.Fld
set_option linter.unusedVariables false
set_option linter.unusedSimpArgs false
set_option maxRecDepth 100000
open Go.RowKit Q Mach Dia Scan Ref4 Limits
attribute [local go_sem ↓] Go.wp_at_zero Go.wp_at_succ

theorem fine0 (l : Lim) (ha : l.field ≤ 2147483648) (hb : l.fields ≤ 2147483648) (hc : l.records ≤ 2147483648) : Fine (mk0 l) := ⟨ha, hb, hc, by simp [mk0], by simp [mk0], by simp [mk0], by simp [mk0]⟩
/-- A maker that was made: a block of its own. -/
def NewPost (l : Lim) (w : World) (r : Ending) (w' : World) : Prop :=
  ∃ g, r = .returned (.tuple #[.pointer (some ⟨g, 0, none⟩), .int .i64 0]) ∧ MkAt w' w.heap.size g 82 [] [] (mk0 l) (.slice none 0 0) (.slice none 0 0) ∧ Keeps [] w w'
set_option maxHeartbeats 1000000 in
theorem new_c (l : Lim) (ha : 1 ≤ l.field ∧ l.field ≤ 2147483648) (hb : 1 ≤ l.fields ∧ l.fields ≤ 2147483648) (hc : 1 ≤ l.records ∧ l.records ≤ 2147483648) (w : World) :
    Calls Try.prog 33 #[limV l.field l.fields l.records l.uniform] w (NewPost l w) := by
  have hok : limOk l.field l.fields l.records = true := by rw [limOk_iff]; omega
  have HC := checkLimits_c l.field l.fields l.records l.uniform
  rw [hok] at HC
  have HC := Lib.hid HC
  have kp : Keeps [] w (w.alloc (.cells #[.int .i64 l.field, .int .i64 l.fields, .int .i64 l.records, .bool l.uniform] 25)) := Keeps.alloc [] w _
  have hb := Blk.new w 25 [.int .i64 l.field, .int .i64 l.fields, .int .i64 l.records, .bool l.uniform]
  clear hok
  obtain ⟨a, b, c, u⟩ := l
  go_enter Try.func33, Try.ntmps33
  go_wp2_with (fail)
  refine (HC.out _).mono ?_
  rintro e w1 ⟨rfl, k1⟩
  have hb1 := hb.keep k1 (by simp)
  have c0 := hb1.cell_of (i := 0) rfl
  have c1 := hb1.cell_of (i := 1) rfl
  have c2 := hb1.cell_of (i := 2) rfl
  have c3 := hb1.cell_of (i := 3) rfl
  have kk := kp.trans k1 (by simp)
  have hsz := kk.size
  clear hb hb1 k1 kp
  go_wp2_with (fail)
  go_ret2
  refine ⟨_, rfl, ⟨?_, by simpa using hsz, Own.nil_ _ _ _ _, Own.nil_ _ _ _ _⟩, kk.alloc1 _⟩
  exact Blk.new w1 82 _
set_option maxHeartbeats 1000000 in
theorem new_bad (a b c : Int) (u : Bool) (h : limOk a b c = false) (w : World) :
    Calls Try.prog 33 #[limV a b c u] w fun e w' => e = .returned (.tuple #[.pointer none, .int .i64 2]) ∧ Keeps [] w w' := by
  have HC := checkLimits_c a b c u
  rw [h] at HC
  have HC := Lib.hid HC
  have kp : Keeps [] w (w.alloc (.cells #[.int .i64 a, .int .i64 b, .int .i64 c, .bool u] 25)) := Keeps.alloc [] w _
  clear h
  go_enter Try.func33, Try.ntmps33
  go_wp2_with (fail)
  refine (HC.out _).mono ?_
  rintro e w1 ⟨rfl, k1⟩
  have kk := kp.trans k1 (by simp)
  clear k1 kp
  go_wp2_with (fail)
  go_ret2
  exact ⟨rfl, kk⟩

/-! ### A maker of the caller's own -/
def Mk1 (w : World) (base g : Nat) (m : Mk) : Prop := ∃ vf vr, MkAt w base g 82 [] [] m vf vr
theorem Mk1.keep {w w' : World} {base g : Nat} {m : Mk} (h : Mk1 w base g m) (k : Keeps [] w w') : Mk1 w' base g m := by obtain ⟨vf, vr, h⟩ := h; exact ⟨vf, vr, h.keep k⟩
theorem Mk1.less {w : World} {base b' g : Nat} {m : Mk} (h : Mk1 w base g m) (hb : b' ≤ base) : Mk1 w b' g m := by
  obtain ⟨vf, vr, h⟩ := h
  exact ⟨vf, vr, h.blk, Nat.le_trans hb h.low, h.fld.less hb, h.rcd.less hb⟩
theorem Mk1.lt {w : World} {base g : Nat} {m : Mk} (h : Mk1 w base g m) : base ≤ g ∧ g < w.heap.size := by obtain ⟨vf, vr, h⟩ := h; exact ⟨h.low, h.blk.lt⟩
def TakeP (w : World) (base g : Nat) (m : Mk) (ev : Ev) (r : Ending) (w' : World) : Prop :=
  ∃ v, r = .returned (.tuple #[v, .bool (take m ev).2.1.isSome, .int .i64 (take m ev).2.2]) ∧ Own w' base 9 1 v ((take m ev).2.1.getD []).length (((take m ev).2.1.getD []).map sv) ∧ ((take m ev).2.1 = none → v = .slice none 0 0) ∧
    (∀ w2, Keeps (blkOf v) w' w2 → Mk1 w2 base g (take m ev).1) ∧ Below base w w'
theorem take1_c (base g : Nat) (m : Mk) (ev : Ev) (w : World) (h : Mk1 w base g m) (hm : Fine m) :
    Calls Try.prog 59 #[.pointer (some ⟨g, 0, none⟩), evV ev] w (TakeP w base g m ev) := by
  obtain ⟨vf, vr, h⟩ := h
  refine (take_c base g 82 [] [] m vf vr ev w h ⟨by decide, by decide, by decide⟩ hm).mono ?_
  rintro r w' ⟨v, hr, hown, hn, hv, vf', vr', hM, hap, hK, hF, hR⟩
  refine ⟨v, hr, hown, hn, fun w2 k2 => ⟨vf', vr', hM.blk.keep k2 (fun hm => ?_), hM.low, hM.fld.keep k2 (fun x hx hm => hM.fld.apart hown (by decide) x hx hm), hM.rcd.keep k2 (fun x hx hm => hap x hm hx)⟩, ?_⟩
  · exact hown.apartBlk hM.blk (by decide) _ hm rfl
  · have hlw := h.blk.lt
    refine hK.below (Nat.le_of_lt (Nat.lt_of_le_of_lt h.low hlw)) ?_
    intro x hx
    simp only [List.mem_cons, List.mem_append] at hx
    rcases hx with rfl | hx | hx
    · exact h.low
    · exact (h.fld.lt x hx).1
    · exact (h.rcd.lt x hx).1
def New1 (l : Lim) (w : World) (r : Ending) (w' : World) : Prop :=
  ∃ g, r = .returned (.tuple #[.pointer (some ⟨g, 0, none⟩), .int .i64 0]) ∧ Mk1 w' w.heap.size g (mk0 l) ∧ Keeps [] w w'
theorem new1_c (l : Lim) (ha : 1 ≤ l.field ∧ l.field ≤ 2147483648) (hb : 1 ≤ l.fields ∧ l.fields ≤ 2147483648) (hc : 1 ≤ l.records ∧ l.records ≤ 2147483648) (w : World) :
    Calls Try.prog 33 #[limV l.field l.fields l.records l.uniform] w (New1 l w) :=
  (new_c l ha hb hc w).mono fun _ _ ⟨g, h1, h2, h3⟩ => ⟨g, h1, ⟨_, _, h2⟩, h3⟩

end Go.Proofs.Ytbjejmdbpikgjaa.Fld
