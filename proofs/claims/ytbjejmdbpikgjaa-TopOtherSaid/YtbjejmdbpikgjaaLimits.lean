/- Limits: the contracts of CheckLimits, the document's Fits and the law's RefLimits. -/
import Derived.Test.YtbjejmdbpikgjaaProg
import Derived.Test.YtbjejmdbpikgjaaTbl
import Derived.Outline
import Derived.Deep.QuietTactic
import Derived.BigQuiet
namespace Go.Proofs.Ytbjejmdbpikgjaa.Limits
set_option linter.unusedVariables false
set_option linter.unusedSimpArgs false
set_option maxRecDepth 100000
open Go.RowKit Q

abbrev limV (a b c : Int) (u : Bool) : Value := .agg #[.int .i64 a, .int .i64 b, .int .i64 c, .bool u]
abbrev rlimV (a b c : Int) (u : Bool) : Value := .agg #[.int .i64 a, .int .i64 b, .int .i64 c, .int .i64 (if u then 1 else 0)]
def okLim (n : Int) : Bool := decide (1 ≤ n) && decide (n ≤ 2147483648)
def limOk (a b c : Int) : Bool := okLim a && okLim b && okLim c
theorem okLim_iff {n : Int} : okLim n = true ↔ 1 ≤ n ∧ n ≤ 2147483648 := by simp [okLim]
theorem limOk_iff {a b c : Int} : limOk a b c = true ↔ (1 ≤ a ∧ a ≤ 2147483648) ∧ (1 ≤ b ∧ b ≤ 2147483648) ∧ 1 ≤ c ∧ c ≤ 2147483648 := by
  simp only [limOk, Bool.and_eq_true, okLim_iff, and_assoc]

set_option maxHeartbeats 400000 in
theorem mayLimit_c (n : Int) (w : World) : Calls Try.prog 79 #[.int .i64 n] w fun e w' => e = .returned (.bool (okLim n)) ∧ w = w' := by
  by_cases h1 : 1 ≤ n
  · by_cases h2 : n ≤ 2147483648
    · have e : okLim n = true := okLim_iff.2 ⟨h1, h2⟩
      rw [e]; clear e
      go_enter Try.func79, Try.ntmps79
      go_wp2_with (fail)
      go_ret
      exact ⟨rfl, rfl⟩
    · have e : okLim n = false := by simp only [okLim, Bool.and_eq_false_iff, decide_eq_false_iff_not]; exact .inr h2
      rw [e]; clear e
      have h2' : decide (n ≤ 2147483648) = false := by simpa using h2
      go_enter Try.func79, Try.ntmps79
      go_wp2_with (fail)
      go_ret
      exact ⟨rfl, rfl⟩
  · have e : okLim n = false := by simp only [okLim, Bool.and_eq_false_iff, decide_eq_false_iff_not]; exact .inl h1
    rw [e]; clear e
    have h1' : decide (1 ≤ n) = false := by simpa using h1
    go_enter Try.func79, Try.ntmps79
    go_wp2_with (fail)
    go_ret
    exact ⟨rfl, rfl⟩

set_option maxHeartbeats 400000 in
theorem checkLimits_c (a b c : Int) (u : Bool) (w : World) : Calls Try.prog 56 #[limV a b c u] w fun e w' => e = .returned (.int .i64 (if limOk a b c then 0 else 2)) ∧ Keeps [] w w' := by
  have H1 := Lib.hid (fun w => mayLimit_c a w)
  have H2 := Lib.hid (fun w => mayLimit_c b w)
  have H3 := Lib.hid (fun w => mayLimit_c c w)
  unfold limOk
  generalize okLim a = x at *
  generalize okLim b = y at *
  generalize okLim c = z at *
  cases x
  · go_enter Try.func56, Try.ntmps56
    go_wp2_with (fail)
    refine (H1.out _).mono ?_
    rintro e w1 ⟨rfl, rfl⟩
    go_wp2_with (fail)
    go_ret
    exact ⟨rfl, Keeps.alloc _ _ _⟩
  · cases y
    · go_enter Try.func56, Try.ntmps56
      go_wp2_with (fail)
      refine (H1.out _).mono ?_
      rintro e w1 ⟨rfl, rfl⟩
      go_wp2_with (fail)
      refine (H2.out _).mono ?_
      rintro e w1 ⟨rfl, rfl⟩
      go_wp2_with (fail)
      go_ret
      exact ⟨rfl, Keeps.alloc _ _ _⟩
    · cases z
      all_goals
        go_enter Try.func56, Try.ntmps56
        go_wp2_with (fail)
        refine (H1.out _).mono ?_
        rintro e w1 ⟨rfl, rfl⟩
        go_wp2_with (fail)
        refine (H2.out _).mono ?_
        rintro e w1 ⟨rfl, rfl⟩
        go_wp2_with (fail)
        refine (H3.out _).mono ?_
        rintro e w1 ⟨rfl, rfl⟩
        go_wp2_with (fail)
        go_ret
        exact ⟨rfl, Keeps.alloc _ _ _⟩

set_option maxHeartbeats 400000 in
theorem refLimits_c (a b c : Int) (u : Bool) (w : World) : Calls Try.prog 19 #[limV a b c u] w fun e w' => e = .returned (rlimV a b c u) ∧ Keeps [] w w' := by
  cases u
  all_goals
    go_enter Try.func19, Try.ntmps19
    go_wp2_with (fail)
    refine bodyPost_ret (v := rlimV a b c _) (by simp [results, Try.results19, go_sem]) rfl ⟨rfl, ?_⟩
    first
      | exact (((Keeps.refl [] w).alloc1 _).alloc1 _).alloc1 _
      | exact ((((Keeps.refl [] w).alloc1 _).alloc1 _).alloc1 _).set1 _ _ (by simp)
theorem idx3 (a b c : Int) (i : Nat) (hi : i < 3) (w : World) : (Instr.index 109 (.agg #[.int .i64 a, .int .i64 b, .int .i64 c]) (.int .i64 (i : Int))).run Try.prog w = .ok (.int .i64 ([a, b, c].getD i 0)) w := by
  match i, hi with
  | 0, _ => show _ = _; kernel_rfl
  | 1, _ => show _ = _; kernel_rfl
  | 2, _ => show _ = _; kernel_rfl
set_option maxHeartbeats 400000 in
theorem rfits_c (a b c u : Int) (w : World) : Calls Try.prog 30 #[.agg #[.int .i64 a, .int .i64 b, .int .i64 c, .int .i64 u]] w fun e w' => e = .returned (.bool (limOk a b c)) ∧ Keeps [] w w' := by
  go_enter Try.func30, Try.ntmps30
  go_wp2_with (fail)
  have kp : Keeps [] w (w.alloc (.cells #[.int .i64 a, .int .i64 b, .int .i64 c, .int .i64 u] 51)) := Keeps.alloc [] w _
  go_loop [12] (fun i => ∃ k : Nat, k ≤ 3 ∧ i = .int .i64 k ∧ ∀ j, j < k → okLim ([a, b, c].getD j 0) = true) (fun i => 3 - (intOf i).toNat)
  case atStart => exact ⟨0, by omega, rfl, by intro j h; omega⟩
  case round =>
    obtain ⟨k, hk, rfl, hall⟩ := hrel
    have HA := Lib.hid hall; clear hall
    by_cases hlt : k < 3
    · have hi := idx3 a b c k hlt
      have hk3 : (k : Int) < 3 := by omega
      obtain ⟨n, hn⟩ : ∃ n, [a, b, c].getD k 0 = n := ⟨_, rfl⟩
      rw [hn] at hi
      have HN := Lib.hid hn; clear hn
      by_cases h1 : n < 1
      · go_wp2_with (fail)
        go_ret
        refine ⟨ret_bool ?_, kp⟩
        symm
        rw [← Bool.not_eq_true, limOk_iff]
        have := HN.out
        match k, hlt, this with
        | 0, _, e => simp at e; omega
        | 1, _, e => simp at e; omega
        | 2, _, e => simp at e; omega
      · by_cases h2 : 2147483648 < n
        · have h1' : decide (n < 1) = false := by simpa using h1
          go_wp2_with (fail)
          go_ret
          refine ⟨ret_bool ?_, kp⟩
          symm
          rw [← Bool.not_eq_true, limOk_iff]
          have := HN.out
          match k, hlt, this with
          | 0, _, e => simp at e; omega
          | 1, _, e => simp at e; omega
          | 2, _, e => simp at e; omega
        · have h1' : decide (n < 1) = false := by simpa using h1
          have h2' : decide (2147483648 < n) = false := by simpa using h2
          go_wp2_with (fail)
          go_round
          case rel =>
            refine ⟨k + 1, by omega, by go_num, fun j hj => ?_⟩
            by_cases e : j = k
            · subst e; rw [HN.out, okLim_iff]; omega
            · exact HA.out j (by omega)
          case measure => simp [intOf]; omega
    · obtain rfl : k = 3 := by omega
      have h0 := HA.out 0 (by omega)
      have h1 := HA.out 1 (by omega)
      have h2 := HA.out 2 (by omega)
      have hf : limOk a b c = true := by
        simp only [List.getD_cons_zero, List.getD_cons_succ] at h0 h1 h2
        simp [limOk, h0, h1, h2]
      have HF := Lib.hid hf; clear hf h0 h1 h2
      go_wp2_with (fail)
      go_ret
      exact ⟨ret_bool HF.out.symm, kp⟩
end Go.Proofs.Ytbjejmdbpikgjaa.Limits
