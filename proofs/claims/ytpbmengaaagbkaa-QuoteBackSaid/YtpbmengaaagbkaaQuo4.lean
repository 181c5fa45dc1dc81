/- The contracts of the document's Written; the document's example of layer 9. -/
import Derived.Test.YtpbmengaaagbkaaQuo3
namespace Go.Proofs.Ytpbmengaaagbkaa.Quo
set_option linter.unusedVariables false
set_option linter.unusedSimpArgs false
open Go.RowKit Q Mach Dia Need Bld QuoPlain
attribute [local go_sem ↓] Go.wp_at_zero Go.wp_at_succ

set_option maxHeartbeats 1000000 in
theorem rwritten_c (d : Dia) (f : Bs) (alone first : Bool) (A F : Int) (hA : (A == 1) = alone) (hF : (F == 1) = first) (hf : f.length ≤ 100000) (w : World) : Calls Try.prog 29 #[rdiaV d, sv f, .int .i64 A, .int .i64 F] w fun e w' => e = .returned (sv (writB d f alone first)) ∧ Keeps [] w w' := by
  have HW := Lib.hid (fun w => rwhy_c d f alone first A F hA hF (by unfold maxLen; omega) w)
  have HQ := Lib.hid (fun w => rquoted_c d f hf w)
  have hb0 := Blk.new w 26 [.int .i64 d.delim.toNat, .int .i64 d.quote.toNat, .int .i64 d.fin]
  have kp := Keeps.alloc [] w (.cells #[.int .i64 d.delim.toNat, .int .i64 d.quote.toNat, .int .i64 d.fin] 26)
  unfold writB
  generalize whyB d f alone first = n at *
  obtain ⟨x, q, z⟩ := d
  clear hA hF
  by_cases hn : n = 0
  · have hn' : decide (0 < (n : Int)) = false := by simp; omega
    have hn2 : decide (0 < n) = false := by simp; omega
    obtain ⟨o, ho⟩ : ∃ o, (if (n != 0) = true then quoB q f else f) = o := ⟨_, rfl⟩
    rw [ho]
    have HN : Hid (o = f) := Lib.hid (by rw [← ho, if_neg (by simpa using hn)])
    clear hn ho
    go_enter Try.func29, Try.ntmps29
    go_wp2_with (fail)
    refine (HW.out _).mono ?_
    rintro e w1 ⟨rfl, k1⟩
    go_wp2_with (fail)
    go_ret
    exact ⟨by rw [HN.out]; rfl, kp.trans k1 (by simp)⟩
  · have hn' : decide (0 < (n : Int)) = true := by simp; omega
    have hn2 : decide (0 < n) = true := by simp; omega
    obtain ⟨o, ho⟩ : ∃ o, (if (n != 0) = true then quoB q f else f) = o := ⟨_, rfl⟩
    rw [ho]
    have HN : Hid (o = quoB q f) := Lib.hid (by rw [← ho, if_pos (by simpa using hn)])
    clear hn ho
    go_enter Try.func29, Try.ntmps29
    go_wp2_with (fail)
    refine (HW.out _).mono ?_
    rintro e w1 ⟨rfl, k1⟩
    have hb1 := hb0.keep k1 (by simp)
    have c0 := hb1.cell_of (i := 0) rfl
    have c1 := hb1.cell_of (i := 1) rfl
    have c2 := hb1.cell_of (i := 2) rfl
    clear hb0
    go_wp2_with (fail)
    refine (HQ.out _).mono ?_
    rintro e w2 ⟨rfl, k2⟩
    go_wp2_with (fail)
    go_ret
    exact ⟨by rw [HN.out]; rfl, (kp.trans k1 (by simp)).trans k2 (by simp)⟩
theorem one9_c (b : Bool) (w : World) : Calls Try.prog 30 #[.bool b] w fun e w' => e = .returned (.int .i64 (if b then 1 else 0)) ∧ w = w' := by
  cases b
  all_goals
    go_enter Try.func30, Try.ntmps30
    go_wp2_with (fail)
    go_ret
    exact ⟨rfl, rfl⟩
theorem ex9a : unquoB ⟨44, 39, 1⟩ [39, 105, 116, 39, 39, 115, 39] = ([105, 116, 39, 115], true, 0) := by decide
theorem ex9b : quoB 39 [105, 116, 39, 115] = [39, 105, 116, 39, 39, 115, 39] := by decide
set_option maxHeartbeats 1000000 in
theorem awake9_c (w : World) : Calls Try.prog 24 #[] w fun e w' => e = .returned (.bool true) ∧ Keeps [] w w' := by
  have HU := unquote_c ⟨44, 39, 1⟩ [39, 105, 116, 39, 39, 115, 39] (by simp)
  have HQ := quoted_c ⟨44, 39, 1⟩ [105, 116, 39, 115] (by simp)
  rw [ex9a] at HU
  rw [ex9b] at HQ
  have HU := Lib.hid HU
  have HQ := Lib.hid HQ
  have hb0 := Blk.new w 23 [bv 44, bv 39, .int .i64 1]
  have kp := Keeps.alloc [] w (.cells #[bv 44, bv 39, .int .i64 1] 23)
  go_enter Try.func24, Try.ntmps24
  go_wp2_with (fail)
  refine (HU.out _).mono ?_
  rintro e w1 ⟨rfl, k1⟩
  have hb1 := hb0.keep k1 (by simp)
  have c0 := hb1.cell_of (i := 0) rfl
  have c1 := hb1.cell_of (i := 1) rfl
  have c2 := hb1.cell_of (i := 2) rfl
  unfold unV
  go_wp2_with (fail)
  refine (HQ.out _).mono ?_
  rintro e w2 ⟨rfl, k2⟩
  go_wp2_with (fail)
  go_ret
  exact ⟨rfl, (kp.trans k1 (by simp)).trans k2 (by simp)⟩
end Go.Proofs.Ytpbmengaaagbkaa.Quo
