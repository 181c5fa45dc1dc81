/- The contracts of package whole: the end, the closure, the example's text stripped. -/
import Derived.Test.YtbjejmdbpikgjaaWh1
namespace Go.Proofs.Ytbjejmdbpikgjaa.Wh
set_option linter.unusedVariables false
set_option linter.unusedSimpArgs false
set_option maxRecDepth 100000
open Go.RowKit Q Mach Dia Scan Ref4 Fld
attribute [local go_sem ↓] Go.wp_at_zero Go.wp_at_succ
def exS : Bs := [97, 44, 34, 98, 34, 10]
def exD : Dia := ⟨44, 34, 1⟩
def exL : Lim := ⟨9, 9, 9, false⟩
set_option maxHeartbeats 400000 in
theorem hasPrefix_x (w : World) : Calls Try.prog 110 #[sv exS, .string ⟨#[239, 187, 191]⟩] w fun e w' => e = .returned (.bool false) ∧ Keeps [] w w' := by
  unfold exS
  go_enter Try.func110, Try.ntmps110
  go_wp2_with (fail)
  go_ret
  exact ⟨ret_bool (by decide +kernel), Keeps.refl _ _⟩
set_option maxHeartbeats 400000 in
theorem cutPrefix_x (w : World) : Calls Try.prog 106 #[sv exS, .string ⟨#[239, 187, 191]⟩] w fun e w' => e = .returned (.tuple #[sv exS, .bool false]) ∧ Keeps [] w w' := by
  have HP := Lib.hid hasPrefix_x
  generalize exS = s at *
  go_enter Try.func106, Try.ntmps106
  go_wp2_with (fail)
  refine (HP.out _).mono ?_
  rintro e w1 ⟨rfl, k1⟩
  go_wp2_with (fail)
  go_ret2
  exact ⟨rfl, k1⟩
set_option maxHeartbeats 400000 in
theorem cutPrefix_s (w : World) : Calls Try.prog 96 #[sv exS, .string ⟨#[239, 187, 191]⟩] w fun e w' => e = .returned (.tuple #[sv exS, .bool false]) ∧ Keeps [] w w' := by
  have HP := Lib.hid cutPrefix_x
  generalize exS = s at *
  go_enter Try.func96, Try.ntmps96
  go_wp2_with (fail)
  refine (HP.out _).mono ?_
  rintro e w1 ⟨rfl, k1⟩
  go_wp2_with (fail)
  go_ret2
  exact ⟨rfl, k1⟩
set_option maxHeartbeats 400000 in
theorem strip_x (w : World) : Calls Try.prog 76 #[sv exS] w fun e w' => e = .returned (.tuple #[sv exS, .bool false]) ∧ Keeps [] w w' := by
  have HP := Lib.hid cutPrefix_s
  generalize exS = s at *
  go_enter Try.func76, Try.ntmps76
  go_wp2_with (fail)
  refine (HP.out _).mono ?_
  rintro e w1 ⟨rfl, k1⟩
  go_wp2_with (fail)
  go_ret2
  exact ⟨rfl, k1⟩
set_option maxHeartbeats 4000000 in
/-- The closure puts a record behind the others. -/
theorem put_c (w : World) (base g gm gt : Nat) (d : Dia) (sq st : Nat) (m : Mk) (vf vr vq v : Value) (vs : List Value) (recs : Tb) (row : Row) (h : WAt w base g gm gt d sq st m vf vr vq vs recs) (hv : Own w base 9 1 v row.length (row.map sv)) (ha : ∀ k ∈ blkOf v, k ∉ blkOf vr) (hbw : base ≤ w.heap.size) (hl : recs.length ≤ 1000) :
    Calls Try.prog 53 #[v, .pointer (some ⟨gt, 0, none⟩)] w fun e w' => e = .returned (.bool true) ∧ ∃ vq', WAt w' base g gm gt d sq st m vf vr vq' (vs ++ [v]) (recs ++ [row]) ∧ BF base w w' := by
  obtain ⟨iS, hiS, hS0, hS1, hS2⟩ := info_parts Rd.infoStrs
  obtain ⟨vq', w5, hap, hq6, k6, n6⟩ := run_append1 (P := Try.prog) (t := 42) Try.underlying42 hiS hS0 hS1 hS2 rfl h.tab.2.1 (y := v) (by obtain ⟨a, b, rfl, _, _⟩ := hv.form; rfl) (by simp only [maxLen]; omega) (by omega) hbw 42
  have c0 := h.box.cell_of (i := 0) rfl
  have hgl := h.box.lt
  have hq := h.tab.2.1
  have hbx := h.box.keep k6 (fun hm => hq.apartBlk h.box (by decide) _ hm rfl)
  have hwk := h.blk.keep k6 (fun hm => hq.apartBlk h.blk (by decide) _ hm rfl)
  have hmk := h.mka.blk.keep k6 (fun hm => hq.apartBlk h.mka.blk (by decide) _ hm rfl)
  have hf := h.mka.fld.keep k6 (fun x hx hm => h.mka.fld.apart hq (by decide) x hx hm)
  have hr := h.mka.rcd.keep k6 (fun x hx hm => h.mka.rcd.apart hq (by decide) x hx hm)
  have ht := h.tab.push (by decide) hv hq6 k6
  have hb5 : BF base w w5 := ⟨k6.below hbw (fun x hx => (hq.lt x hx).1), fun r cs hb => hb.keep k6 (fun hm => hq.apartBlk hb (by decide) _ hm rfl)⟩
  have k7 := Keeps.setCell w5 ⟨gt, 0, none⟩ vq'
  have hA : WAt (w5.setCell ⟨gt, 0, none⟩ vq') base g gm gt d sq st m vf vr vq' (vs ++ [v]) (recs ++ [row]) := by
    refine ⟨hwk.keep k7 ?_, ⟨hmk.keep k7 ?_, h.mka.low, hf.keep k7 ?_, hr.keep k7 ?_⟩, ht.keep k7 ?_, ?_, hbx.set_ 0 vq', h.low⟩
    · intro hm; simp only [List.mem_singleton] at hm; exact hwk.ne_ hbx (by decide) hm
    · intro hm; simp only [List.mem_singleton] at hm; exact hmk.ne_ hbx (by decide) hm
    · intro x hx hm; simp only [List.mem_singleton] at hm; exact hf.apartBlk hbx (by decide) x hx hm
    · intro x hx hm; simp only [List.mem_singleton] at hm; exact hr.apartBlk hbx (by decide) x hx hm
    · intro x hx hm; simp only [List.mem_singleton] at hm; exact OTb.apartB ht hbx (by decide) (by decide) x hx hm
    · intro x hx
      simp only [List.flatMap_append, List.mem_append, List.flatMap_cons, List.flatMap_nil, List.append_nil] at hx
      rcases hx with hx | hx
      · exact h.ap x hx
      · exact ha x hx
  have hb6 : BF base w (w5.setCell ⟨gt, 0, none⟩ vq') := hb5.trans (BF.cell (i := 0) hbx (by decide) h.low.2 (Nat.le_trans hbw hb5.size) vq')
  have e0 := hbx.cell_of (i := 0) rfl
  have f0 := hbx.frozen (i := 0) (by simp)
  have hgx := hbx.lt
  obtain ⟨A8, c8, rfl, _, _⟩ := hq6.form
  obtain ⟨A9, c9, rfl, _, _⟩ := hv.form
  have HA := Lib.hid hA
  have HB := Lib.hid hb6
  clear hA hb6 hbx hwk hmk hf hr ht hb5 k7 k6 n6 hq6 h hv ha hq hiS hS0 hS1 hS2
  go_enter Try.func53, Try.ntmps53
  go_wp2_with (with_reducible refine wpList_append hap _ _ rfl rfl rfl rfl rfl ?_)
  go_ret
  exact ⟨rfl, _, HA.out, HB.out⟩
end Go.Proofs.Ytbjejmdbpikgjaa.Wh
