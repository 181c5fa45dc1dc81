/- The document's answer for layer 2: the longest well-formed beginning; the first byte that does not go on. -/
import Derived.Test.YtcmoldondflilaaUtfW2
import Derived.Deep.RegionHeld3
namespace Go.Proofs.Ytcmoldondflilaa.UtfW
set_option linter.unusedVariables false
set_option linter.unusedSimpArgs false
set_option maxRecDepth 100000
open Go.RowKit Q Mach Dia Utf
attribute [local go_sem ↓] Go.wp_at_zero Go.wp_at_succ
set_option maxRecDepth 100000 in
set_option maxHeartbeats 4000000 in
theorem whole_c (s : List UInt8) (hs : s.length ≤ 200000) (w : World) : Calls Try.prog 48 #[sv s] w fun e w' => e = .returned (.int .i64 (wholeP s)) ∧ Keeps [] w w' := by
  obtain ⟨X, hX⟩ : ∃ X, wholeP s = X := ⟨_, rfl⟩
  rw [hX]
  have HX := Lib.hid hX
  clear hX
  go_enter Try.func48, Try.ntmps48
  go_wp2_with (fail)
  go_loopw [3] (fun v wr => ∃ a f : Nat, v = .int .i64 a ∧ a ≤ s.length ∧ s.length - a < f ∧ a + wholeN f (s.drop a) = X ∧ Keeps [] w wr) (fun v _ => s.length - (intOf v).toNat)
  case atStart => exact ⟨0, s.length + 1, rfl, Nat.zero_le _, by omega, by rw [← HX.out]; simp [wholeP], Keeps.refl _ _⟩
  case round =>
    obtain ⟨a, f, rfl, hal, hf, hq, hk⟩ := hrel
    obtain ⟨f, rfl⟩ : ∃ g, f = g + 1 := ⟨f - 1, by omega⟩
    have HK := Lib.hid hk
    obtain ⟨z, hz⟩ : ∃ z, usize (s.drop a) = z := ⟨_, rfl⟩
    have hzl := usize_le (s.drop a)
    rw [hz] at hzl
    simp only [List.length_drop] at hzl
    have hq2 : a + (if z = 0 then 0 else z + wholeN f (s.drop (a + z))) = X := by
      rw [← hq]
      conv => rhs; unfold wholeN
      rw [hz, List.drop_drop]
    have HQ := Lib.hid hq2
    clear hq hk hq2
    by_cases hlt : a < s.length
    rotate_left
    · have hd : decide ((a : Int) < (s.length : Int)) = false := by simp; omega
      have hd2 : decide (a < s.length) = false := by simp; omega
      have hz0 : z = 0 := by omega
      have hX2 : a = X := by have := HQ.out; rw [if_pos hz0] at this; omega
      have HX2 := Lib.hid hX2
      clear hX2 hz0 hz
      go_wp2_with (fail)
      go_ret
      exact ⟨by rw [← HX2.out]; rfl, HK.out⟩
    have hd : decide ((a : Int) < (s.length : Int)) = true := by simp; omega
    have hd2 : decide (a < s.length) = true := by simp; omega
    have hsl : ∀ w, (Instr.sliceAt 9 (sv s) (some (.int .i64 (a : Int))) none none).run Try.prog w = .ok (sv (s.drop a)) w := fun w => run_strFrom (P := Try.prog) Try.underlying9 s a hal w
    have HS := Lib.hid (fun w' => size_c (s.drop a) (by simp; omega) w')
    rw [hz] at HS
    clear hz
    generalize s.drop a = t at *
    by_cases hz0 : z = 0
    · subst hz0
      have hX2 : a = X := by have := HQ.out; simpa using this
      have HX2 := Lib.hid hX2
      clear hX2 HQ
      go_wp2_with (refine wpList_slice (hsl _) _ _ _ _ rfl rfl rfl rfl rfl rfl ?_)
      with_reducible refine (HS.out _).mono ?_
      rintro r w1 ⟨rfl, k1⟩
      go_wp2_with (fail)
      go_ret
      exact ⟨by rw [← HX2.out]; rfl, HK.out.trans k1 (by simp)⟩
    · have hdz : decide ((0 : Int) < (z : Int)) = true := by simp; omega
      have hdz2 : decide (0 < z) = true := by simp; omega
      have hwi : IntKind.i64.wrap ((a : Int) + (z : Int)) = (a : Int) + (z : Int) := IntWalk.i64_in _ (by omega)
      have hq3 : (a + z) + wholeN f (s.drop (a + z)) = X := by have := HQ.out; rw [if_neg hz0] at this; clear hwi; omega
      have HQ3 := Lib.hid hq3
      clear hq3 HQ
      go_wp2_with (refine wpList_slice (hsl _) _ _ _ _ rfl rfl rfl rfl rfl rfl ?_)
      with_reducible refine (HS.out _).mono ?_
      rintro r w1 ⟨rfl, k1⟩
      go_wp2_with (refine wpList_slice (hsl _) _ _ _ _ rfl rfl rfl rfl rfl rfl ?_)
      with_reducible refine (HS.out _).mono ?_
      rintro r w2 ⟨rfl, k2⟩
      go_wp2_with (fail)
      refine ⟨⟨a + z, f, by push_cast; rfl, by clear hwi; omega, by clear hwi; omega, HQ3.out, (HK.out.trans k1 (by simp)).trans k2 (by simp)⟩, ?_⟩
      simp only [intOf]
      clear hwi
      omega
end Go.Proofs.Ytcmoldondflilaa.UtfW
