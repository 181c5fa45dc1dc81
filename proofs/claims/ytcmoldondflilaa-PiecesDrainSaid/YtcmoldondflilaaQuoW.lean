/- The contract of the document's Written. -/
import Derived.Test.YtcmoldondflilaaQuo
namespace Go.Proofs.Ytcmoldondflilaa.Quo
set_option linter.unusedVariables false
set_option linter.unusedSimpArgs false
set_option maxRecDepth 100000
open Go.RowKit Q Mach Dia Need Bld QuoPlain
attribute [local go_sem ↓] Go.wp_at_zero Go.wp_at_succ

set_option maxHeartbeats 1000000 in
theorem rwritten_c (d : Dia) (f : Bs) (alone first : Bool) (A F : Int) (hA : (A == 1) = alone) (hF : (F == 1) = first) (hf : f.length ≤ 100000) (w : World) : Calls Try.prog 49 #[rdiaV d, sv f, .int .i64 A, .int .i64 F] w fun e w' => e = .returned (sv (writB d f alone first)) ∧ Keeps [] w w' := by
  have HW := Lib.hid (fun w => rwhy_c d f alone first A F hA hF (by unfold maxLen; omega) w)
  have HQ := Lib.hid (fun w => rquoted_c d f hf w)
  have hb0 := Blk.new w 33 [.int .i64 d.delim.toNat, .int .i64 d.quote.toNat, .int .i64 d.fin]
  have kp := Keeps.alloc [] w (.cells #[.int .i64 d.delim.toNat, .int .i64 d.quote.toNat, .int .i64 d.fin] 33)
  unfold writB
  generalize whyB d f alone first = n at *
  obtain ⟨x, q, z⟩ := d
  clear hA hF
  by_cases hn : n = 0
  · have hn' : decide (0 < (n : Int)) = false := by simp; omega
    have hn2 : decide (0 < n) = false := by simp; omega
    obtain ⟨o, ho⟩ : ∃ o, (if (n != 0) = true then quoB q f else f) = o := ⟨_, rfl⟩
    rw [ho]
    have HN : Hid (o = f) := Lib.hid (by rw [← ho, if_neg (by simpa using hn)])
    clear hn ho
    go_enter Try.func49, Try.ntmps49
    go_wp2_with (fail)
    refine (HW.out _).mono ?_
    rintro e w1 ⟨rfl, k1⟩
    go_wp2_with (fail)
    go_ret
    exact ⟨by rw [HN.out]; rfl, kp.trans k1 (by simp)⟩
  · have hn' : decide (0 < (n : Int)) = true := by simp; omega
    have hn2 : decide (0 < n) = true := by simp; omega
    obtain ⟨o, ho⟩ : ∃ o, (if (n != 0) = true then quoB q f else f) = o := ⟨_, rfl⟩
    rw [ho]
    have HN : Hid (o = quoB q f) := Lib.hid (by rw [← ho, if_pos (by simpa using hn)])
    clear hn ho
    go_enter Try.func49, Try.ntmps49
    go_wp2_with (fail)
    refine (HW.out _).mono ?_
    rintro e w1 ⟨rfl, k1⟩
    have hb1 := hb0.keep k1 (by simp)
    have c0 := hb1.cell_of (i := 0) rfl
    have c1 := hb1.cell_of (i := 1) rfl
    have c2 := hb1.cell_of (i := 2) rfl
    clear hb0
    go_wp2_with (fail)
    refine (HQ.out _).mono ?_
    rintro e w2 ⟨rfl, k2⟩
    go_wp2_with (fail)
    go_ret
    exact ⟨by rw [HN.out]; rfl, (kp.trans k1 (by simp)).trans k2 (by simp)⟩
end Go.Proofs.Ytcmoldondflilaa.Quo
