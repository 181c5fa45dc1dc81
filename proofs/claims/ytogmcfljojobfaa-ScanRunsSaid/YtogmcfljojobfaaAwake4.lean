/- The document's example of layer 4. -/
import Derived.Test.YtogmcfljojobfaaRun
import Derived.Test.YtogmcfljojobfaaEq
namespace Go.Proofs.Ytogmcfljojobfaa.Scan
set_option linter.unusedVariables false
set_option linter.unusedSimpArgs false
open Go.RowKit Q Mach Dia Eq_
theorem runE_awake : runE ⟨44, 34, 1⟩ 0 [97, 10] 0 = ([⟨true, true, false, false, false, 97⟩, ⟨false, false, false, true, true, 0⟩, ⟨false, false, false, false, false, 0⟩], 0, 0) := by decide
set_option maxHeartbeats 1000000 in
theorem awake4_c (w : World) : Calls Try.prog 23 #[] w fun e w' => e = .returned (.bool true) ∧ Keeps [] w w' := by
  have HR := Lib.hid (fun w => run_c ⟨44, 34, 1⟩ [97, 10] (by simp) w)
  have e1 := fun a b a' b' (w : World) => eqFault a b a' b' w
  have e2 := fun a b c d e f a' b' c' d' e' f' (w : World) => eqEvent a b c d e a' b' c' d' e' f f' w
  go_enter Try.func23, Try.ntmps23
  go_wp2_with (fail)
  refine (HR.out _).mono ?_
  rintro e w1 hrun
  unfold RunPost at hrun
  rw [runE_awake] at hrun
  obtain ⟨v, rfl, hown, k1⟩ := hrun
  obtain ⟨A, c, rfl, hn, hc, hl, hx⟩ := hown.rd (Nat.le_refl _)
  rcases hx with hx | ⟨b, off, rfl, hb, hcell⟩
  · simp [evC] at hx
  have h0 := hcell 0 _ rfl
  have h1 := hcell 1 _ rfl
  have h2 := hcell 2 _ rfl
  have h3 := hcell 3 _ rfl
  have h4 := hcell 4 _ rfl
  have h5 := hcell 5 _ rfl
  have h6 := hcell 6 _ rfl
  have h7 := hcell 7 _ rfl
  have h8 := hcell 8 _ rfl
  have h9 := hcell 9 _ rfl
  have h10 := hcell 10 _ rfl
  have h11 := hcell 11 _ rfl
  have h12 := hcell 12 _ rfl
  have h13 := hcell 13 _ rfl
  have h14 := hcell 14 _ rfl
  have h15 := hcell 15 _ rfl
  have h16 := hcell 16 _ rfl
  have h17 := hcell 17 _ rfl
  clear hcell hl
  rw [Nat.add_zero] at h0
  have hb' : b ≠ w1.heap.size := Nat.ne_of_lt hb
  have K1 := Lib.hid k1
  clear k1 hown
  go_wp2_with (fail)
  go_ret
  exact ⟨rfl, K1.out.alloc1 _⟩
end Go.Proofs.Ytogmcfljojobfaa.Scan
