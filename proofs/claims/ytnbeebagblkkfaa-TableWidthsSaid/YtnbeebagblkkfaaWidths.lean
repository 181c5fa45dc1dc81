/- The contracts of Widths, the program's and the document's. -/
import Derived.Test.YtnbeebagblkkfaaTab3
namespace Go.Proofs.Ytnbeebagblkkfaa.Tab
set_option linter.unusedVariables false
set_option linter.unusedSimpArgs false
open Go.RowKit Q Same

theorem widths_drop {t : Tb} {k : Nat} (h : k < t.length) (f : Bool) (a b : Nat) : widths f (t.drop k) a b = widths false (t.drop (k + 1)) (if f || decide (t[k].length < a) then t[k].length else a) (max b t[k].length) := by
  rw [List.drop_eq_getElem_cons h, widths]
theorem widths_end {t : Tb} (f : Bool) (a b : Nat) : widths f (t.drop t.length) a b = (a, b) := by simp [widths]

set_option maxHeartbeats 400000 in
theorem widths_c (A : Value) (t : Tb) (B1 : Nat) (w : World) (ht : Tbl w B1 A t) :
    Calls Try.prog 14 #[A] w fun e w' => e = .returned (.tuple #[.int .i64 (widths true t 0 0).1, .int .i64 (widths true t 0 0).2]) ∧ w = w' := by
  obtain ⟨A, ca, rfl, ha1, ha2⟩ := ht.form
  unfold maxLen at ha2
  go_enter Try.func14, Try.ntmps14
  go_wp2_with (fail)
  go_loop [2, 3, 8] (fun x y i => ∃ k a b : Nat, k ≤ t.length ∧ i = .int .i64 k ∧ x = .int .i64 a ∧ y = .int .i64 b ∧ widths (decide (k = 0)) (t.drop k) a b = widths true t 0 0) (fun _ _ i => t.length - (intOf i).toNat)
  case atStart => exact ⟨0, 0, 0, by omega, rfl, rfl, rfl, rfl⟩
  case round =>
    obtain ⟨k, a, b, hk, rfl, rfl, rfl, hw⟩ := hrel
    by_cases hlt : k < t.length
    · rw [widths_drop hlt] at hw
      obtain ⟨g1, o1, A1, n1, rfl, _, c1, r1⟩ := ht.at_ hlt
      generalize t[k].length = l at *
      have HW := Lib.hid hw; clear hw r1
      by_cases h0 : k = 0
      · have h0' : ((k : Int) == 0) = true := by simp [h0]
        have H0 := Lib.hid h0; clear h0
        go_wp2_with (fail)
        all_goals
          go_round
          case rel =>
            refine ⟨k + 1, l, max b l, by omega, by go_num, rfl, by first | rfl | (congr 1; omega), ?_⟩
            rw [← HW.out]
            simp [H0.out]
          case measure => simp [intOf]; omega
      · have h0' : ((k : Int) == 0) = false := by rw [beq_eq_false_iff_ne]; omega
        have H0 := Lib.hid h0; clear h0
        by_cases h1 : l < a
        · have h1' : decide ((l : Int) < (a : Int)) = true := by simpa using h1
          go_wp2_with (fail)
          all_goals
            go_round
            case rel =>
              refine ⟨k + 1, l, max b l, by omega, by go_num, rfl, by first | rfl | (congr 1; omega), ?_⟩
              rw [← HW.out]
              simp [H0.out, h1]
            case measure => simp [intOf]; omega
        · have h1' : decide ((l : Int) < (a : Int)) = false := by simpa using h1
          go_wp2_with (fail)
          all_goals
            go_round
            case rel =>
              refine ⟨k + 1, a, max b l, by omega, by go_num, rfl, by first | rfl | (congr 1; omega), ?_⟩
              rw [← HW.out]
              simp [H0.out, h1]
            case measure => simp [intOf]; omega
    · obtain rfl : k = t.length := by omega
      rw [widths_end] at hw
      have HW := Lib.hid hw; clear hw
      go_wp2_with (fail)
      go_ret2
      rw [← HW.out]
      exact ⟨rfl, rfl⟩
set_option maxHeartbeats 400000 in
theorem rwidths_c (A : Value) (t : Tb) (B1 : Nat) (w : World) (ht : Tbl w B1 A t) :
    Calls Try.prog 15 #[A] w fun e w' => e = .returned (.tuple #[.int .i64 (widths true t 0 0).1, .int .i64 (widths true t 0 0).2]) ∧ w = w' := by
  obtain ⟨A, ca, rfl, ha1, ha2⟩ := ht.form
  unfold maxLen at ha2
  go_enter Try.func15, Try.ntmps15
  go_wp2_with (fail)
  go_loop [4, 5, 10] (fun x y i => ∃ k a b : Nat, k ≤ t.length ∧ i = .int .i64 k ∧ x = .int .i64 a ∧ y = .int .i64 b ∧ widths (decide (k = 0)) (t.drop k) a b = widths true t 0 0) (fun _ _ i => t.length - (intOf i).toNat)
  case atStart => exact ⟨0, 0, 0, by omega, rfl, rfl, rfl, rfl⟩
  case round =>
    obtain ⟨k, a, b, hk, rfl, rfl, rfl, hw⟩ := hrel
    by_cases hlt : k < t.length
    · rw [widths_drop hlt] at hw
      obtain ⟨g1, o1, A1, n1, rfl, _, c1, r1⟩ := ht.at_ hlt
      generalize t[k].length = l at *
      have HW := Lib.hid hw; clear hw r1
      by_cases h0 : k = 0
      · have h0' : ((k : Int) == 0) = true := by simp [h0]
        have H0 := Lib.hid h0; clear h0
        by_cases h2 : b < l
        all_goals
          go_wp2_with (fail)
          go_round
          case rel =>
            refine ⟨k + 1, l, max b l, by omega, by go_num, rfl, by first | rfl | (congr 1; omega), ?_⟩
            rw [← HW.out]
            simp [H0.out]
          case measure => simp [intOf]; omega
      · have h0' : ((k : Int) == 0) = false := by rw [beq_eq_false_iff_ne]; omega
        have H0 := Lib.hid h0; clear h0
        by_cases h1 : l < a
        · have h1' : decide ((l : Int) < (a : Int)) = true := by simpa using h1
          by_cases h2 : b < l
          all_goals
            go_wp2_with (fail)
            go_round
            case rel =>
              refine ⟨k + 1, l, max b l, by omega, by go_num, rfl, by first | rfl | (congr 1; omega), ?_⟩
              rw [← HW.out]
              simp [H0.out, h1]
            case measure => simp [intOf]; omega
        · have h1' : decide ((l : Int) < (a : Int)) = false := by simpa using h1
          by_cases h2 : b < l
          all_goals
            go_wp2_with (fail)
            go_round
            case rel =>
              refine ⟨k + 1, a, max b l, by omega, by go_num, rfl, by first | rfl | (congr 1; omega), ?_⟩
              rw [← HW.out]
              simp [H0.out, h1]
            case measure => simp [intOf]; omega
    · obtain rfl : k = t.length := by omega
      rw [widths_end] at hw
      have HW := Lib.hid hw; clear hw
      go_wp2_with (fail)
      go_ret2
      rw [← HW.out]
      exact ⟨rfl, rfl⟩
end Go.Proofs.Ytnbeebagblkkfaa.Tab
