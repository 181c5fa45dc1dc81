/- The contracts of the document's Same and SameTable (ref05) and Great (ref10). -/
import Derived.Test.YtogmcfljojobfaaProg
import Derived.Test.YtogmcfljojobfaaTbl
import Derived.Test.YtogmcfljojobfaaTabPlain
import Derived.Outline
import Derived.Deep.QuietTactic
import Derived.BigQuiet
namespace Go.Proofs.Ytogmcfljojobfaa.Same
set_option linter.unusedVariables false
set_option linter.unusedSimpArgs false
open Go.RowKit Q

theorem take_eq_succ {α : Type} {a b : List α} {k : Nat} (ha : k < a.length) (hb : k < b.length) (h : a.take k = b.take k) (e : a[k] = b[k]) : a.take (k + 1) = b.take (k + 1) := by
  rw [List.take_succ_eq_append_getElem ha, List.take_succ_eq_append_getElem hb, h, e]
theorem eq_of_take {α : Type} {a b : List α} (hl : a.length = b.length) (h : a.take a.length = b.take a.length) : a = b := by
  rw [List.take_length] at h
  rw [h, hl, List.take_length]
theorem ne_of_at {α : Type} {a b : List α} {k : Nat} (ha : k < a.length) (hb : k < b.length) (e : a[k] ≠ b[k]) : a ≠ b := by
  rintro rfl
  exact e rfl

set_option maxHeartbeats 400000 in
theorem same_c (A B : Value) (a b : List (List UInt8)) (B1 B2 : Nat) (w : World) (ha : Rd w B1 1 A a.length (a.map sv)) (hb : Rd w B2 1 B b.length (b.map sv)) :
    Calls Try.prog 16 #[A, B] w fun e w' => e = .returned (.bool (decide (a = b))) ∧ ∃ m, w' = w.drewN m := by
  obtain ⟨A, ca, rfl, ha1, ha2⟩ := ha.form
  obtain ⟨B, cb, rfl, hb1, hb2⟩ := hb.form
  unfold maxLen at ha2 hb2
  by_cases hl : a.length = b.length
  · have hne : ((a.length : Int) != (b.length : Int)) = false := by simp [hl]
    have HL := Lib.hid hl; clear hl
    go_enter Try.func16, Try.ntmps16
    go_wp2
    go_loopw [13] (fun i wr => ∃ k : Nat, k ≤ a.length ∧ i = .int .i64 k ∧ a.take k = b.take k ∧ ∃ m, wr = w.drewN m) (fun i _ => a.length - (intOf i).toNat)
    case atStart => exact ⟨0, by omega, rfl, rfl, 0, rfl⟩
    case round =>
      obtain ⟨k, hk, rfl, ht, m, rfl⟩ := hrel
      have HT := Lib.hid ht; clear ht
      by_cases hlt : k < a.length
      · have hltb : k < b.length := by have := HL.out; omega
        obtain ⟨g1, o1, rfl, _, c1⟩ := ha.str_at hlt
        obtain ⟨g2, o2, rfl, _, c2⟩ := hb.str_at hltb
        have e0 : (0 : Int) ≤ (k : Int) := by omega
        have e1 : (k : Int) < (a.length : Int) := by omega
        have e2 : (k : Int) < (b.length : Int) := by omega
        by_cases he : a[k] = b[k]
        · have hbe : (a[k] == b[k]) = true := by simp [he]
          have HE := Lib.hid he; clear he
          go_wp2_with (fail)
          go_quiet (fail)
          go_wp2_with (fail)
          go_roundw
          case rel => exact ⟨k + 1, by omega, by go_num, take_eq_succ hlt hltb HT.out HE.out, _, rfl⟩
          case measure => simp [intOf]; omega
        · have hbe : (a[k] == b[k]) = false := by simp [he]
          have HE := Lib.hid he; clear he
          go_wp2_with (fail)
          go_quiet (fail)
          go_wp2_with (fail)
          go_ret
          exact ⟨ret_bool (by simp [ne_of_at hlt hltb HE.out]), _, World.drewN_drewN _ _ _⟩
      · go_wp2_with (fail)
        go_ret
        obtain rfl : k = a.length := by omega
        exact ⟨ret_bool (by simp [eq_of_take HL.out HT.out]), _, rfl⟩
  · have hne : ((a.length : Int) != (b.length : Int)) = true := by rw [bne_iff_ne]; omega
    have HL := Lib.hid hl; clear hl
    go_enter Try.func16, Try.ntmps16
    go_wp2_with (fail)
    go_ret
    exact ⟨ret_bool (by symm; rw [decide_eq_false_iff_not]; rintro rfl; exact HL.out rfl), 0, rfl⟩


end Go.Proofs.Ytogmcfljojobfaa.Same
