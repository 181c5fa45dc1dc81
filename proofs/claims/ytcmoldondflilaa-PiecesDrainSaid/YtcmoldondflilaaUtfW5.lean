/- The document's answer for layer 2: Goes, Bad. -/
import Derived.Test.YtcmoldondflilaaUtfW4
namespace Go.Proofs.Ytcmoldondflilaa.UtfW
set_option linter.unusedVariables false
set_option linter.unusedSimpArgs false
set_option maxRecDepth 100000
open Go.RowKit Q Mach Dia Utf
attribute [local go_sem ↓] Go.wp_at_zero Go.wp_at_succ
set_option maxHeartbeats 2000000 in
theorem Goes_c (s : List UInt8) (hs : s.length ≤ 200000) (w : World) : Calls Try.prog 72 #[sv s] w fun e w' => e = .returned (.bool (GoesP s)) ∧ Keeps [] w w' := by
  have HS := Lib.hid (fun w' => size_c s hs w')
  obtain ⟨G, hG⟩ : ∃ G, GoesP s = G := ⟨_, rfl⟩
  rw [hG]
  have HG := Lib.hid hG
  unfold GoesP at HG
  clear hG
  by_cases h4 : s.length ≤ 4
  rotate_left
  · have hd : decide ((s.length : Int) ≤ 4) = false := by simp; omega
    have hd2 : decide (s.length ≤ 4) = false := by simp; omega
    obtain rfl : G = false := by rw [← HG.out, hd2]; rfl
    clear h4
    go_enter Try.func72, Try.ntmps72
    go_wp2_with (fail)
    go_ret
    exact ⟨rfl, Keeps.refl _ _⟩
  have hd : decide ((s.length : Int) ≤ 4) = true := by simp; omega
  have hd2 : decide (s.length ≤ 4) = true := by simp; omega
  rw [hd2, Bool.true_and] at HG
  have HL := Lib.hid (fun w' => goes_c s (by omega) w')
  by_cases he : s = []
  · subst he
    obtain rfl : G = true := by rw [← HG.out]; rfl
    clear h4
    go_enter Try.func72, Try.ntmps72
    go_wp2_with (fail)
    go_ret
    exact ⟨rfl, Keeps.refl _ _⟩
  have hse : (s == []) = false := by simp [he]
  have hsl : s.length ≠ 0 := by cases s with | nil => exact absurd rfl he | cons x y => simp
  rw [hse, Bool.false_or] at HG
  have hze : ((usize s : Int) == (s.length : Int)) = (usize s == s.length) := by rw [Bool.eq_iff_iff, beq_iff_eq, beq_iff_eq]; omega
  generalize usize s = z at *
  cases hz : (z == s.length)
  · rw [hz] at hze HG
    rw [Bool.false_or] at HG
    have HGG := Lib.hid HG.out
    clear hz h4
    go_enter Try.func72, Try.ntmps72
    go_wp2_with (fail)
    with_reducible refine (HS.out _).mono ?_
    rintro r w1 ⟨rfl, k1⟩
    go_wp2_with (fail)
    with_reducible refine (HL.out _).mono ?_
    rintro r w2 ⟨rfl, k2⟩
    go_wp2_with (fail)
    go_ret
    exact ⟨by rw [← HGG.out]; rfl, k1.trans k2 (by simp)⟩
  · rw [hz] at hze HG
    obtain rfl : G = true := by rw [← HG.out]; rfl
    clear hz h4
    go_enter Try.func72, Try.ntmps72
    go_wp2_with (fail)
    with_reducible refine (HS.out _).mono ?_
    rintro r w1 ⟨rfl, k1⟩
    go_wp2_with (fail)
    go_ret
    exact ⟨rfl, k1⟩
def badV : Option Nat → Int
  | none => -1
  | some k => (k : Int)
theorem badFrom_step (t : List UInt8) (f n : Nat) : badFrom t (f + 1) n = if n ≤ t.length then (if GoesP (t.take n) then badFrom t f (n + 1) else some (n - 1)) else none := rfl
set_option maxHeartbeats 2000000 in
theorem bad_c (s : List UInt8) (hs : s.length ≤ 200000) (w : World) : Calls Try.prog 53 #[sv s] w fun e w' => e = .returned (.int .i64 (badV (badP s))) ∧ Keeps [] w w' := by
  have HW := Lib.hid (fun w' => whole_c s hs w')
  obtain ⟨X, hX⟩ : ∃ X, badP s = X := ⟨_, rfl⟩
  rw [hX]
  obtain ⟨A, hA⟩ : ∃ A, wholeP s = A := ⟨_, rfl⟩
  have hal : A ≤ s.length := by rw [← hA]; exact (whole_spec s).1
  unfold badP at hX
  rw [hA] at HW hX
  have HX := Lib.hid hX
  clear hX hA
  go_enter Try.func53, Try.ntmps53
  go_wp2_with (fail)
  with_reducible refine (HW.out _).mono ?_
  rintro r w1 ⟨rfl, k1⟩
  go_wp2_with (fail)
  go_loopw [4] (fun v wr => ∃ n f : Nat, v = .int .i64 n ∧ 1 ≤ n ∧ A + n ≤ s.length + 1 ∧ s.length + 1 < f + A + n ∧ (badFrom (s.drop A) f n).map (· + A) = X ∧ Keeps [] w wr) (fun v _ => s.length + 1 - (intOf v).toNat)
  case atStart => exact ⟨1, s.length + 1, rfl, by omega, by omega, by omega, HX.out, k1⟩
  case round =>
    obtain ⟨n, f, rfl, hn1, hn2, hf, hq, hk⟩ := hrel
    have HK := Lib.hid hk
    obtain ⟨f, rfl⟩ : ∃ g, f = g + 1 := ⟨f - 1, by omega⟩
    have hql : (s.drop A).length = s.length - A := by simp
    have hwn : IntKind.i64.wrap ((A : Int) + (n : Int)) = (A : Int) + (n : Int) := IntWalk.i64_in _ (by omega)
    by_cases hle : A + n ≤ s.length
    rotate_left
    · have hd : decide ((A : Int) + (n : Int) ≤ (s.length : Int)) = false := by simp; clear hwn; omega
      obtain rfl : X = none := by
        have hno : ¬ n ≤ (s.drop A).length := by rw [hql]; clear hwn; omega
        rw [← hq, badFrom_step, if_neg hno]
        rfl
      clear hq hk k1
      go_wp2_with (fail)
      go_ret
      exact ⟨rfl, HK.out⟩
    have hd : decide ((A : Int) + (n : Int) ≤ (s.length : Int)) = true := by simp; clear hwn; omega
    have hsl : ∀ w, (Instr.sliceAt 9 (sv s) (some (.int .i64 (A : Int))) (some (.int .i64 ((A : Int) + (n : Int)))) none).run Try.prog w = .ok (sv ((s.drop A).take n)) w := by
      intro w
      have h := run_strMid (P := Try.prog) Try.underlying9 s A (A + n) (by clear hwn; omega) hle w
      rw [List.drop_take, Nat.add_sub_cancel_left] at h
      push_cast at h
      exact h
    obtain ⟨gg, hg⟩ : ∃ gg, GoesP ((s.drop A).take n) = gg := ⟨_, rfl⟩
    have HGO := Lib.hid (fun w' => Goes_c ((s.drop A).take n) (by rw [List.length_take]; clear hwn; omega) w')
    rw [hg] at HGO
    have hq2 : (if gg then badFrom (s.drop A) f (n + 1) else some (n - 1)).map (· + A) = X := by
      have hyes : n ≤ (s.drop A).length := by rw [hql]; clear hwn; omega
      rw [← hq, badFrom_step, if_pos hyes, hg]
    have HQ := Lib.hid hq2
    clear hq hk k1 hq2 hg hql
    generalize (s.drop A).take n = u at *
    go_wp2_with (refine wpList_slice (hsl _) _ _ _ _ rfl rfl rfl rfl rfl rfl ?_)
    with_reducible refine (HGO.out _).mono ?_
    rintro r w2 ⟨rfl, k2⟩
    have HK2 := Lib.hid (HK.out.trans k2 (by simp))
    clear k2 hsl
    cases gg
    · obtain rfl : X = some (n - 1 + A) := HQ.out.symm
      have hwm : IntKind.i64.wrap ((A : Int) + (n : Int) - 1) = (A : Int) + (n : Int) - 1 := IntWalk.i64_in _ (by clear hwn; omega)
      have hv : badV (some (n - 1 + A)) = (A : Int) + (n : Int) - 1 := by show ((n - 1 + A : Nat) : Int) = _; clear hwn hwm; omega
      have HV := Lib.hid hv
      clear hv
      go_wp2_with (fail)
      go_ret
      exact ⟨by rw [HV.out]; rfl, HK2.out⟩
    · have hwp : IntKind.i64.wrap ((n : Int) + 1) = (n : Int) + 1 := IntWalk.i64_in _ (by clear hwn; omega)
      have HQ2 : Hid ((badFrom (s.drop A) f (n + 1)).map (· + A) = X) := Lib.hid HQ.out
      clear HQ
      go_wp2_with (fail)
      refine ⟨⟨n + 1, f, by push_cast; rfl, by clear hwn hwp; omega, by clear hwn hwp; omega, by clear hwn hwp; omega, HQ2.out, HK2.out⟩, ?_⟩
      simp only [intOf]
      clear hwn hwp
      omega
end Go.Proofs.Ytcmoldondflilaa.UtfW
