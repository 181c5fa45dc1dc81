/- Limits: the contracts of CheckLimits, the document's Fits and the law's RefLimits. -/
import Derived.Test.YtogmcfljojobfaaProg
import Derived.Test.YtogmcfljojobfaaTbl
import Derived.Outline
import Derived.Deep.QuietTactic
import Derived.BigQuiet
namespace Go.Proofs.Ytogmcfljojobfaa.Limits
set_option linter.unusedVariables false
set_option linter.unusedSimpArgs false
open Go.RowKit Q

abbrev limV (a b c : Int) (u : Bool) : Value := .agg #[.int .i64 a, .int .i64 b, .int .i64 c, .bool u]
abbrev rlimV (a b c : Int) (u : Bool) : Value := .agg #[.int .i64 a, .int .i64 b, .int .i64 c, .int .i64 (if u then 1 else 0)]
def okLim (n : Int) : Bool := decide (1 ≤ n) && decide (n ≤ 2147483648)
def limOk (a b c : Int) : Bool := okLim a && okLim b && okLim c
theorem okLim_iff {n : Int} : okLim n = true ↔ 1 ≤ n ∧ n ≤ 2147483648 := by simp [okLim]
theorem limOk_iff {a b c : Int} : limOk a b c = true ↔ (1 ≤ a ∧ a ≤ 2147483648) ∧ (1 ≤ b ∧ b ≤ 2147483648) ∧ 1 ≤ c ∧ c ≤ 2147483648 := by
  simp only [limOk, Bool.and_eq_true, okLim_iff, and_assoc]

set_option maxHeartbeats 400000 in
theorem mayLimit_c (n : Int) (w : World) : Calls Try.prog 37 #[.int .i64 n] w fun e w' => e = .returned (.bool (okLim n)) ∧ w = w' := by
  by_cases h1 : 1 ≤ n
  · by_cases h2 : n ≤ 2147483648
    · have e : okLim n = true := okLim_iff.2 ⟨h1, h2⟩
      rw [e]; clear e
      go_enter Try.func37, Try.ntmps37
      go_wp2_with (fail)
      go_ret
      exact ⟨rfl, rfl⟩
    · have e : okLim n = false := by simp only [okLim, Bool.and_eq_false_iff, decide_eq_false_iff_not]; exact .inr h2
      rw [e]; clear e
      have h2' : decide (n ≤ 2147483648) = false := by simpa using h2
      go_enter Try.func37, Try.ntmps37
      go_wp2_with (fail)
      go_ret
      exact ⟨rfl, rfl⟩
  · have e : okLim n = false := by simp only [okLim, Bool.and_eq_false_iff, decide_eq_false_iff_not]; exact .inl h1
    rw [e]; clear e
    have h1' : decide (1 ≤ n) = false := by simpa using h1
    go_enter Try.func37, Try.ntmps37
    go_wp2_with (fail)
    go_ret
    exact ⟨rfl, rfl⟩

set_option maxHeartbeats 400000 in
theorem checkLimits_c (a b c : Int) (u : Bool) (w : World) : Calls Try.prog 29 #[limV a b c u] w fun e w' => e = .returned (.int .i64 (if limOk a b c then 0 else 2)) ∧ Keeps [] w w' := by
  have H1 := Lib.hid (fun w => mayLimit_c a w)
  have H2 := Lib.hid (fun w => mayLimit_c b w)
  have H3 := Lib.hid (fun w => mayLimit_c c w)
  unfold limOk
  generalize okLim a = x at *
  generalize okLim b = y at *
  generalize okLim c = z at *
  cases x
  · go_enter Try.func29, Try.ntmps29
    go_wp2_with (fail)
    refine (H1.out _).mono ?_
    rintro e w1 ⟨rfl, rfl⟩
    go_wp2_with (fail)
    go_ret
    exact ⟨rfl, Keeps.alloc _ _ _⟩
  · cases y
    · go_enter Try.func29, Try.ntmps29
      go_wp2_with (fail)
      refine (H1.out _).mono ?_
      rintro e w1 ⟨rfl, rfl⟩
      go_wp2_with (fail)
      refine (H2.out _).mono ?_
      rintro e w1 ⟨rfl, rfl⟩
      go_wp2_with (fail)
      go_ret
      exact ⟨rfl, Keeps.alloc _ _ _⟩
    · cases z
      all_goals
        go_enter Try.func29, Try.ntmps29
        go_wp2_with (fail)
        refine (H1.out _).mono ?_
        rintro e w1 ⟨rfl, rfl⟩
        go_wp2_with (fail)
        refine (H2.out _).mono ?_
        rintro e w1 ⟨rfl, rfl⟩
        go_wp2_with (fail)
        refine (H3.out _).mono ?_
        rintro e w1 ⟨rfl, rfl⟩
        go_wp2_with (fail)
        go_ret
        exact ⟨rfl, Keeps.alloc _ _ _⟩

set_option maxHeartbeats 400000 in
theorem refLimits_c (a b c : Int) (u : Bool) (w : World) : Calls Try.prog 12 #[limV a b c u] w fun e w' => e = .returned (rlimV a b c u) ∧ Keeps [] w w' := by
  cases u
  all_goals
    go_enter Try.func12, Try.ntmps12
    go_wp2_with (fail)
    refine bodyPost_ret (v := rlimV a b c _) (by simp [results, Try.results12, go_sem]) rfl ⟨rfl, ?_⟩
    first
      | exact (((Keeps.refl [] w).alloc1 _).alloc1 _).alloc1 _
      | exact ((((Keeps.refl [] w).alloc1 _).alloc1 _).alloc1 _).set1 _ _ (by simp)
end Go.Proofs.Ytogmcfljojobfaa.Limits
