/- The document's answer for layer 2: the length of a text's first sequence. -/
import Derived.Test.YtcmoldondflilaaUtfW
import Derived.Deep.RegionHeld3
namespace Go.Proofs.Ytcmoldondflilaa.UtfW
set_option linter.unusedVariables false
set_option linter.unusedSimpArgs false
set_option maxRecDepth 100000
open Go.RowKit Q Mach Dia Utf
attribute [local go_sem ↓] Go.wp_at_zero Go.wp_at_succ

theorem sizeFrom_step (s : List UInt8) (n : Nat) (h : n ≤ 4) : usizeFrom s (5 - n) n = if n ≤ s.length then (if cpOk s n then n else usizeFrom s (5 - (n + 1)) (n + 1)) else 0 := by
  rw [show 5 - n = (4 - n) + 1 by omega, show 5 - (n + 1) = 4 - n by omega]
  simp only [usizeFrom, h, true_and]
set_option maxRecDepth 100000 in
set_option maxHeartbeats 4000000 in
theorem size_c (s : List UInt8) (hs : s.length ≤ 200000) (w : World) : Calls Try.prog 64 #[sv s] w fun e w' => e = .returned (.int .i64 (usize s)) ∧ Keeps [] w w' := by
  obtain ⟨X, hX⟩ : ∃ X, usize s = X := ⟨_, rfl⟩
  rw [hX]
  have HX := Lib.hid hX
  clear hX
  go_enter Try.func64, Try.ntmps64
  go_wp2_with (fail)
  go_loopw [3] (fun v wr => ∃ n : Nat, v = .int .i64 n ∧ 1 ≤ n ∧ n ≤ 5 ∧ usizeFrom s (5 - n) n = X ∧ Keeps [] w wr) (fun v _ => 6 - (intOf v).toNat)
  case atStart => exact ⟨1, rfl, by omega, by omega, HX.out, Keeps.refl _ _⟩
  case round =>
    obtain ⟨n, rfl, h1, h5, hq, hk⟩ := hrel
    by_cases h4 : n ≤ 4
    rotate_left
    · obtain rfl : n = 5 := by omega
      have hX2 : X = 0 := by rw [← hq]; rfl
      clear hq h1 h5
      go_wp2_with (fail)
      go_ret
      exact ⟨by rw [hX2]; rfl, hk⟩
    have hd4 : decide ((n : Int) ≤ 4) = true := by simp; omega
    by_cases hl : n ≤ s.length
    rotate_left
    · have hdl : decide ((n : Int) ≤ (s.length : Int)) = false := by simp; omega
      have hX2 : X = 0 := by rw [← hq, sizeFrom_step s n h4, if_neg hl]
      have HX2 := Lib.hid hX2
      clear hq h1 h5 hX2
      go_wp2_with (fail)
      go_ret
      exact ⟨by rw [HX2.out]; rfl, hk⟩
    have hdl : decide ((n : Int) ≤ (s.length : Int)) = true := by simp; omega
    rw [sizeFrom_step s n h4, if_pos hl] at hq
    have HQ := Lib.hid hq
    have HK := Lib.hid hk
    obtain ⟨c, hc⟩ : ∃ c, cp s n = c := ⟨_, rfl⟩
    have HC := Lib.hid hc
    have hix : ∀ k, k < s.length → ∀ w, (Instr.index 9 (.string ⟨s.toArray⟩) (.int .i64 (k : Int))).run Try.prog w = .ok (bv (s.getD k 0)) w := by
      intro k hk w
      rw [show s.getD k 0 = s[k] by simp [List.getD, List.getElem?_eq_getElem hk]]
      exact str_idx (P := Try.prog) Try.underlying9 s k s[k] (List.getElem?_eq_getElem hk) w
    have HIX := Lib.hid hix
    clear hq hk hc hix
    obtain ⟨b, hb⟩ : ∃ b : Int, ((s.getD 0 0).toNat : Int) = b := ⟨_, rfl⟩
    have HB := Lib.hid hb
    have H1 : Hid (n = 1 → b = c) := Lib.hid (by rintro rfl; rw [← hb]; exact HC.out)
    go_upto_region 4 with (fail)
    go_cut [4] (fun v wx => v = .int .i64 b ∧ wx = wr)
    case first =>
      have hi0 : ∀ w, (Instr.index 9 (.string ⟨s.toArray⟩) (.int .i64 0)).run Try.prog w = .ok (bv (s.getD 0 0)) w := HIX.out 0 (by omega)
      have hw0 := wrap_u8 (s.getD 0 0)
      have hs0 : (0 : Int) < (s.length : Int) := by omega
      have hk0 : IntKind.i64.wrap ((s.getD 0 0).toNat : Int) = (s.getD 0 0).toNat := IntWalk.i64_in _ (by omega)
      clear hb
      generalize s.getD 0 0 = b0 at *
      clear hs0
      go_wp2_with (fail)
      go_meet
      exact ⟨by rw [HB.out], rfl⟩
    case rest =>
    obtain ⟨rfl, hwc⟩ := hcut
    have HKs1 : Hid (Keeps [] w wc) := Lib.hid (by rw [hwc]; exact HK.out)
    clear hb hwc HK
    obtain ⟨b1x, hb1x⟩ : ∃ x : Int, (if n = 2 then c else b) = x := ⟨_, rfl⟩
    have HN2 := Lib.hid hb1x
    clear hb1x
    have he2 : ((n : Int) == 2) = decide (n = 2) := by rw [Bool.eq_iff_iff, beq_iff_eq, decide_eq_true_iff]; omega
    go_upto_if 19 with (fail)
    go_cut [4] (fun v wx => v = .int .i64 b1x ∧ ∃ m, wx = wc.drewN m)
    case first =>
      by_cases hn : n = 2
      · rw [decide_eq_true hn] at he2
        have hc : (((s.getD 0 0).toNat : Int) - 192) * 64 + ((s.getD 1 0).toNat : Int) - 128 = c := by have := HC.out; subst hn; exact this
        have hi0 : ∀ w, (Instr.index 9 (.string ⟨s.toArray⟩) (.int .i64 0)).run Try.prog w = .ok (bv (s.getD 0 0)) w := HIX.out 0 (by omega)
        have hw0 := wrap_u8 (s.getD 0 0)
        have hs0 : (0 : Int) < (s.length : Int) := by omega
        have hk0 : IntKind.i64.wrap ((s.getD 0 0).toNat : Int) = (s.getD 0 0).toNat := IntWalk.i64_in _ (by clear hc ; omega)
        have hi1 : ∀ w, (Instr.index 9 (.string ⟨s.toArray⟩) (.int .i64 1)).run Try.prog w = .ok (bv (s.getD 1 0)) w := HIX.out 1 (by omega)
        have hw1 := wrap_u8 (s.getD 1 0)
        have hs1 : (1 : Int) < (s.length : Int) := by omega
        have hk1 : IntKind.i64.wrap ((s.getD 1 0).toNat : Int) = (s.getD 1 0).toNat := IntWalk.i64_in _ (by clear hc hk0; omega)
        have hz0 : IntKind.i64.wrap (((s.getD 0 0).toNat : Int) - 192) = ((s.getD 0 0).toNat : Int) - 192 := IntWalk.i64_in _ (by clear hc hk0 hk1; omega)
        have hz1 : IntKind.i64.wrap ((((s.getD 0 0).toNat : Int) - 192) * 64) = (((s.getD 0 0).toNat : Int) - 192) * 64 := IntWalk.i64_in _ (by clear hc hk0 hk1 hz0; omega)
        have hz2 : IntKind.i64.wrap ((((s.getD 0 0).toNat : Int) - 192) * 64 + ((s.getD 1 0).toNat : Int)) = (((s.getD 0 0).toNat : Int) - 192) * 64 + ((s.getD 1 0).toNat : Int) := IntWalk.i64_in _ (by clear hc hk0 hk1 hz0 hz1; omega)
        have hz3 : IntKind.i64.wrap ((((s.getD 0 0).toNat : Int) - 192) * 64 + ((s.getD 1 0).toNat : Int) - 128) = (((s.getD 0 0).toNat : Int) - 192) * 64 + ((s.getD 1 0).toNat : Int) - 128 := IntWalk.i64_in _ (by clear hc hk0 hk1 hz0 hz1 hz2; omega)
        have HCC := Lib.hid hc
        clear hc HB HC HIX
        generalize s.getD 0 0 = b0 at *
        generalize s.getD 1 0 = b1 at *
        have HV : Hid (b1x = c) := Lib.hid (by subst hn; exact HN2.out.symm)
        clear HN2 H1
        go_wp2_with (fail)
        go_quiet (fail)
        go_wp2_with (fail)
        go_meet
        exact ⟨by rw [HV.out, ← HCC.out], _, rfl⟩
      · rw [decide_eq_false hn] at he2
        have HV : Hid (b1x = b) := Lib.hid (by rw [← HN2.out, if_neg hn])
        clear HB HC HIX H1
        go_wp2_with (fail)
        go_meet
        exact ⟨by rw [HV.out], 0, rfl⟩
    case rest =>
    obtain ⟨rfl, m2, rfl⟩ := hcut
    clear he2
    have hkk2 := (HKs1.out).trans (Keeps.drewN [] wc m2) (by simp)
    have HKs2 := Lib.hid hkk2
    clear hkk2
    generalize wc.drewN m2 = wd at *
    obtain ⟨b2x, hb2x⟩ : ∃ x : Int, (if n = 2 ∨ n = 3 then c else b) = x := ⟨_, rfl⟩
    have HN3 := Lib.hid hb2x
    clear hb2x
    have he3 : ((n : Int) == 3) = decide (n = 3) := by rw [Bool.eq_iff_iff, beq_iff_eq, decide_eq_true_iff]; omega
    go_upto_if 31 with (fail)
    go_cut [4] (fun v wx => v = .int .i64 b2x ∧ ∃ m, wx = wd.drewN m)
    case first =>
      by_cases hn : n = 3
      · rw [decide_eq_true hn] at he3
        have hc : (((s.getD 0 0).toNat : Int) - 224) * 4096 + (((s.getD 1 0).toNat : Int) - 128) * 64 + ((s.getD 2 0).toNat : Int) - 128 = c := by have := HC.out; subst hn; exact this
        have hi0 : ∀ w, (Instr.index 9 (.string ⟨s.toArray⟩) (.int .i64 0)).run Try.prog w = .ok (bv (s.getD 0 0)) w := HIX.out 0 (by omega)
        have hw0 := wrap_u8 (s.getD 0 0)
        have hs0 : (0 : Int) < (s.length : Int) := by omega
        have hk0 : IntKind.i64.wrap ((s.getD 0 0).toNat : Int) = (s.getD 0 0).toNat := IntWalk.i64_in _ (by clear hc ; omega)
        have hi1 : ∀ w, (Instr.index 9 (.string ⟨s.toArray⟩) (.int .i64 1)).run Try.prog w = .ok (bv (s.getD 1 0)) w := HIX.out 1 (by omega)
        have hw1 := wrap_u8 (s.getD 1 0)
        have hs1 : (1 : Int) < (s.length : Int) := by omega
        have hk1 : IntKind.i64.wrap ((s.getD 1 0).toNat : Int) = (s.getD 1 0).toNat := IntWalk.i64_in _ (by clear hc hk0; omega)
        have hi2 : ∀ w, (Instr.index 9 (.string ⟨s.toArray⟩) (.int .i64 2)).run Try.prog w = .ok (bv (s.getD 2 0)) w := HIX.out 2 (by omega)
        have hw2 := wrap_u8 (s.getD 2 0)
        have hs2 : (2 : Int) < (s.length : Int) := by omega
        have hk2 : IntKind.i64.wrap ((s.getD 2 0).toNat : Int) = (s.getD 2 0).toNat := IntWalk.i64_in _ (by clear hc hk0 hk1; omega)
        have hz0 : IntKind.i64.wrap (((s.getD 0 0).toNat : Int) - 224) = ((s.getD 0 0).toNat : Int) - 224 := IntWalk.i64_in _ (by clear hc hk0 hk1 hk2; omega)
        have hz1 : IntKind.i64.wrap ((((s.getD 0 0).toNat : Int) - 224) * 4096) = (((s.getD 0 0).toNat : Int) - 224) * 4096 := IntWalk.i64_in _ (by clear hc hk0 hk1 hk2 hz0; omega)
        have hz2 : IntKind.i64.wrap (((s.getD 1 0).toNat : Int) - 128) = ((s.getD 1 0).toNat : Int) - 128 := IntWalk.i64_in _ (by clear hc hk0 hk1 hk2 hz0 hz1; omega)
        have hz3 : IntKind.i64.wrap ((((s.getD 1 0).toNat : Int) - 128) * 64) = (((s.getD 1 0).toNat : Int) - 128) * 64 := IntWalk.i64_in _ (by clear hc hk0 hk1 hk2 hz0 hz1 hz2; omega)
        have hz4 : IntKind.i64.wrap ((((s.getD 0 0).toNat : Int) - 224) * 4096 + (((s.getD 1 0).toNat : Int) - 128) * 64) = (((s.getD 0 0).toNat : Int) - 224) * 4096 + (((s.getD 1 0).toNat : Int) - 128) * 64 := IntWalk.i64_in _ (by clear hc hk0 hk1 hk2 hz0 hz1 hz2 hz3; omega)
        have hz5 : IntKind.i64.wrap ((((s.getD 0 0).toNat : Int) - 224) * 4096 + (((s.getD 1 0).toNat : Int) - 128) * 64 + ((s.getD 2 0).toNat : Int)) = (((s.getD 0 0).toNat : Int) - 224) * 4096 + (((s.getD 1 0).toNat : Int) - 128) * 64 + ((s.getD 2 0).toNat : Int) := IntWalk.i64_in _ (by clear hc hk0 hk1 hk2 hz0 hz1 hz2 hz3 hz4; omega)
        have hz6 : IntKind.i64.wrap ((((s.getD 0 0).toNat : Int) - 224) * 4096 + (((s.getD 1 0).toNat : Int) - 128) * 64 + ((s.getD 2 0).toNat : Int) - 128) = (((s.getD 0 0).toNat : Int) - 224) * 4096 + (((s.getD 1 0).toNat : Int) - 128) * 64 + ((s.getD 2 0).toNat : Int) - 128 := IntWalk.i64_in _ (by clear hc hk0 hk1 hk2 hz0 hz1 hz2 hz3 hz4 hz5; omega)
        have HCC := Lib.hid hc
        clear hc HB HC HIX
        generalize s.getD 0 0 = b0 at *
        generalize s.getD 1 0 = b1 at *
        generalize s.getD 2 0 = b2 at *
        have HV : Hid (b2x = c) := Lib.hid (by subst hn; exact HN3.out.symm)
        clear HN3 H1
        go_wp2_with (fail)
        go_quiet (fail)
        go_wp2_with (fail)
        go_meet
        exact ⟨by rw [HV.out, ← HCC.out], _, rfl⟩
      · rw [decide_eq_false hn] at he3
        have HV : Hid (b2x = b1x) := Lib.hid (by rw [← HN3.out, ← HN2.out]; by_cases h2 : n = 2; rw [if_pos h2, if_pos (.inl h2)]; rw [if_neg h2, if_neg (by omega)])
        clear HB HC HIX H1
        go_wp2_with (fail)
        go_meet
        exact ⟨by rw [HV.out], 0, rfl⟩
    case rest =>
    obtain ⟨rfl, m3, rfl⟩ := hcut
    clear he3
    have hkk3 := (HKs2.out).trans (Keeps.drewN [] wd m3) (by simp)
    have HKs3 := Lib.hid hkk3
    clear hkk3
    generalize wd.drewN m3 = we at *
    obtain ⟨b3x, hb3x⟩ : ∃ x : Int, c = x := ⟨_, rfl⟩
    have HN4 := Lib.hid hb3x
    clear hb3x
    have he4 : ((n : Int) == 4) = decide (n = 4) := by rw [Bool.eq_iff_iff, beq_iff_eq, decide_eq_true_iff]; omega
    go_upto_if 49 with (fail)
    go_cut [4] (fun v wx => v = .int .i64 b3x ∧ ∃ m, wx = we.drewN m)
    case first =>
      by_cases hn : n = 4
      · rw [decide_eq_true hn] at he4
        have hc : (((s.getD 0 0).toNat : Int) - 240) * 262144 + (((s.getD 1 0).toNat : Int) - 128) * 4096 + (((s.getD 2 0).toNat : Int) - 128) * 64 + ((s.getD 3 0).toNat : Int) - 128 = c := by have := HC.out; subst hn; exact this
        have hi0 : ∀ w, (Instr.index 9 (.string ⟨s.toArray⟩) (.int .i64 0)).run Try.prog w = .ok (bv (s.getD 0 0)) w := HIX.out 0 (by omega)
        have hw0 := wrap_u8 (s.getD 0 0)
        have hs0 : (0 : Int) < (s.length : Int) := by omega
        have hk0 : IntKind.i64.wrap ((s.getD 0 0).toNat : Int) = (s.getD 0 0).toNat := IntWalk.i64_in _ (by clear hc ; omega)
        have hi1 : ∀ w, (Instr.index 9 (.string ⟨s.toArray⟩) (.int .i64 1)).run Try.prog w = .ok (bv (s.getD 1 0)) w := HIX.out 1 (by omega)
        have hw1 := wrap_u8 (s.getD 1 0)
        have hs1 : (1 : Int) < (s.length : Int) := by omega
        have hk1 : IntKind.i64.wrap ((s.getD 1 0).toNat : Int) = (s.getD 1 0).toNat := IntWalk.i64_in _ (by clear hc hk0; omega)
        have hi2 : ∀ w, (Instr.index 9 (.string ⟨s.toArray⟩) (.int .i64 2)).run Try.prog w = .ok (bv (s.getD 2 0)) w := HIX.out 2 (by omega)
        have hw2 := wrap_u8 (s.getD 2 0)
        have hs2 : (2 : Int) < (s.length : Int) := by omega
        have hk2 : IntKind.i64.wrap ((s.getD 2 0).toNat : Int) = (s.getD 2 0).toNat := IntWalk.i64_in _ (by clear hc hk0 hk1; omega)
        have hi3 : ∀ w, (Instr.index 9 (.string ⟨s.toArray⟩) (.int .i64 3)).run Try.prog w = .ok (bv (s.getD 3 0)) w := HIX.out 3 (by omega)
        have hw3 := wrap_u8 (s.getD 3 0)
        have hs3 : (3 : Int) < (s.length : Int) := by omega
        have hk3 : IntKind.i64.wrap ((s.getD 3 0).toNat : Int) = (s.getD 3 0).toNat := IntWalk.i64_in _ (by clear hc hk0 hk1 hk2; omega)
        have hz0 : IntKind.i64.wrap (((s.getD 0 0).toNat : Int) - 240) = ((s.getD 0 0).toNat : Int) - 240 := IntWalk.i64_in _ (by clear hc hk0 hk1 hk2 hk3; omega)
        have hz1 : IntKind.i64.wrap ((((s.getD 0 0).toNat : Int) - 240) * 262144) = (((s.getD 0 0).toNat : Int) - 240) * 262144 := IntWalk.i64_in _ (by clear hc hk0 hk1 hk2 hk3 hz0; omega)
        have hz2 : IntKind.i64.wrap (((s.getD 1 0).toNat : Int) - 128) = ((s.getD 1 0).toNat : Int) - 128 := IntWalk.i64_in _ (by clear hc hk0 hk1 hk2 hk3 hz0 hz1; omega)
        have hz3 : IntKind.i64.wrap ((((s.getD 1 0).toNat : Int) - 128) * 4096) = (((s.getD 1 0).toNat : Int) - 128) * 4096 := IntWalk.i64_in _ (by clear hc hk0 hk1 hk2 hk3 hz0 hz1 hz2; omega)
        have hz4 : IntKind.i64.wrap ((((s.getD 0 0).toNat : Int) - 240) * 262144 + (((s.getD 1 0).toNat : Int) - 128) * 4096) = (((s.getD 0 0).toNat : Int) - 240) * 262144 + (((s.getD 1 0).toNat : Int) - 128) * 4096 := IntWalk.i64_in _ (by clear hc hk0 hk1 hk2 hk3 hz0 hz1 hz2 hz3; omega)
        have hz5 : IntKind.i64.wrap (((s.getD 2 0).toNat : Int) - 128) = ((s.getD 2 0).toNat : Int) - 128 := IntWalk.i64_in _ (by clear hc hk0 hk1 hk2 hk3 hz0 hz1 hz2 hz3 hz4; omega)
        have hz6 : IntKind.i64.wrap ((((s.getD 2 0).toNat : Int) - 128) * 64) = (((s.getD 2 0).toNat : Int) - 128) * 64 := IntWalk.i64_in _ (by clear hc hk0 hk1 hk2 hk3 hz0 hz1 hz2 hz3 hz4 hz5; omega)
        have hz7 : IntKind.i64.wrap ((((s.getD 0 0).toNat : Int) - 240) * 262144 + (((s.getD 1 0).toNat : Int) - 128) * 4096 + (((s.getD 2 0).toNat : Int) - 128) * 64) = (((s.getD 0 0).toNat : Int) - 240) * 262144 + (((s.getD 1 0).toNat : Int) - 128) * 4096 + (((s.getD 2 0).toNat : Int) - 128) * 64 := IntWalk.i64_in _ (by clear hc hk0 hk1 hk2 hk3 hz0 hz1 hz2 hz3 hz4 hz5 hz6; omega)
        have hz8 : IntKind.i64.wrap ((((s.getD 0 0).toNat : Int) - 240) * 262144 + (((s.getD 1 0).toNat : Int) - 128) * 4096 + (((s.getD 2 0).toNat : Int) - 128) * 64 + ((s.getD 3 0).toNat : Int)) = (((s.getD 0 0).toNat : Int) - 240) * 262144 + (((s.getD 1 0).toNat : Int) - 128) * 4096 + (((s.getD 2 0).toNat : Int) - 128) * 64 + ((s.getD 3 0).toNat : Int) := IntWalk.i64_in _ (by clear hc hk0 hk1 hk2 hk3 hz0 hz1 hz2 hz3 hz4 hz5 hz6 hz7; omega)
        have hz9 : IntKind.i64.wrap ((((s.getD 0 0).toNat : Int) - 240) * 262144 + (((s.getD 1 0).toNat : Int) - 128) * 4096 + (((s.getD 2 0).toNat : Int) - 128) * 64 + ((s.getD 3 0).toNat : Int) - 128) = (((s.getD 0 0).toNat : Int) - 240) * 262144 + (((s.getD 1 0).toNat : Int) - 128) * 4096 + (((s.getD 2 0).toNat : Int) - 128) * 64 + ((s.getD 3 0).toNat : Int) - 128 := IntWalk.i64_in _ (by clear hc hk0 hk1 hk2 hk3 hz0 hz1 hz2 hz3 hz4 hz5 hz6 hz7 hz8; omega)
        have HCC := Lib.hid hc
        clear hc HB HC HIX
        generalize s.getD 0 0 = b0 at *
        generalize s.getD 1 0 = b1 at *
        generalize s.getD 2 0 = b2 at *
        generalize s.getD 3 0 = b3 at *
        have HV : Hid (b3x = c) := Lib.hid (by subst hn; exact HN4.out.symm)
        clear HN4 H1
        go_wp2_with (fail)
        go_quiet (fail)
        go_wp2_with (fail)
        go_meet
        exact ⟨by rw [HV.out, ← HCC.out], _, rfl⟩
      · rw [decide_eq_false hn] at he4
        have HV : Hid (b3x = b2x) := Lib.hid (by rw [← HN4.out, ← HN3.out]; by_cases h2 : n = 2 ∨ n = 3; rw [if_pos h2]; rw [if_neg h2]; exact (H1.out (by omega)).symm)
        clear HB HC HIX H1
        go_wp2_with (fail)
        go_meet
        exact ⟨by rw [HV.out], 0, rfl⟩
    case rest =>
    obtain ⟨rfl, m4, rfl⟩ := hcut
    clear he4
    have hkk4 := (HKs3.out).trans (Keeps.drewN [] we m4) (by simp)
    have HKs4 := Lib.hid hkk4
    clear hkk4
    generalize we.drewN m4 = wf at *
    have hck : cpOk s n = (decide (0 ≤ c) && decide (c ≤ 1114111) && (decide (c < 55296) || decide (57343 < c)) && Utf.put c == s.take n) := by
      unfold cpOk
      rw [HC.out]
    obtain ⟨ok, hok⟩ : ∃ ok, cpOk s n = ok := ⟨_, rfl⟩
    rw [hok] at hck
    have hb3 : c = b3x := HN4.out
    clear HN4 HN3 HN2 HB HC HIX H1
    subst hb3
    go_upto_region 11 with (fail)
    go_cut [93] (fun v wx => v = .bool ok ∧ Keeps [] wf wx)
    case first =>
      have HCK := Lib.hid hck
      have HP := Lib.hid (fun h0 h9 w' => put_c c h0 h9 w')
      by_cases p1 : 0 ≤ c
      rotate_left
      · have d1 : decide (0 ≤ c) = false := decide_eq_false p1
        have HV : Hid (ok = false) := Lib.hid (by rw [HCK.out, d1]; rfl)
        clear hck HP p1
        go_quiet (fail)
        go_wp2_with (fail)
        go_meet
        exact ⟨by rw [HV.out], Keeps.drewN [] _ _⟩
      have d1 : decide (0 ≤ c) = true := decide_eq_true p1
      by_cases p2 : c ≤ 1114111
      rotate_left
      · have d2 : decide (c ≤ 1114111) = false := decide_eq_false p2
        have HV : Hid (ok = false) := Lib.hid (by rw [HCK.out, d1, d2]; rfl)
        clear hck HP p1 p2
        go_quiet (fail)
        go_wp2_with (fail)
        go_meet
        exact ⟨by rw [HV.out], Keeps.drewN [] _ _⟩
      have d2 : decide (c ≤ 1114111) = true := decide_eq_true p2
      have HP2 := Lib.hid (HP.out p1 p2)
      have hsl : ∀ w, (Instr.sliceAt 9 (sv s) none (some (.int .i64 (n : Int))) none).run Try.prog w = .ok (sv (s.take n)) w := fun w => run_strUpto (P := Try.prog) Try.underlying9 s n hl w
      by_cases p3 : c < 55296
      · have d3 : decide (c < 55296) = true := decide_eq_true p3
        have HV : Hid (ok = (Utf.put c == s.take n)) := Lib.hid (by rw [HCK.out, d1, d2, d3]; rfl)
        clear hck HP p1 p2 p3
        generalize Utf.put c = pc at *
        generalize s.take n = tk at *
        refine wp_region_held_drew (S := fun _ => True) (by kernel_rfl) trivial (fun _ => ?_)
        refine wpAnyH_take (i := 0) (v := .int .i64 c) rfl (by kernel_rfl) (by kernel_rfl) (by kernel_rfl) (fun _ _ _ h => h) (Or.inl ⟨by rfl, fun w' _ => by go_simp⟩) trivial ?_
        try simp only [Act.put, List.getElem_toArray, List.getElem_cons_succ, List.getElem_cons_zero, List.setIfInBounds_toArray, List.set_cons_zero, List.set_cons_succ]
        refine wpAnyH_take (i := 1) (v := .bool true) rfl (by kernel_rfl) (by kernel_rfl) (by kernel_rfl) (fun _ _ _ h => h) (Or.inl ⟨by rfl, fun w' _ => by go_simp⟩) trivial ?_
        try simp only [Act.put, List.getElem_toArray, List.getElem_cons_succ, List.getElem_cons_zero, List.setIfInBounds_toArray, List.set_cons_zero, List.set_cons_succ]
        refine wpAnyH_take (i := 2) (v := .bool true) rfl (by kernel_rfl) (by kernel_rfl) (by kernel_rfl) (fun _ _ _ h => h) (Or.inl ⟨by rfl, fun w' _ => by go_simp⟩) trivial ?_
        try simp only [Act.put, List.getElem_toArray, List.getElem_cons_succ, List.getElem_cons_zero, List.setIfInBounds_toArray, List.set_cons_zero, List.set_cons_succ]
        refine wpAnyH_take (i := 3) (v := .int .i64 c) rfl (by kernel_rfl) (by kernel_rfl) (by kernel_rfl) (fun _ _ _ h => h) (Or.inl ⟨by rfl, fun w' _ => by go_simp⟩) trivial ?_
        try simp only [Act.put, List.getElem_toArray, List.getElem_cons_succ, List.getElem_cons_zero, List.setIfInBounds_toArray, List.set_cons_zero, List.set_cons_succ]
        refine wpAnyH_take (i := 4) (v := .bool true) rfl (by kernel_rfl) (by kernel_rfl) (by kernel_rfl) (fun _ _ _ h => h) (Or.inl ⟨by rfl, fun w' _ => by go_simp⟩) trivial ?_
        try simp only [Act.put, List.getElem_toArray, List.getElem_cons_succ, List.getElem_cons_zero, List.setIfInBounds_toArray, List.set_cons_zero, List.set_cons_succ]
        refine wpAnyH_take (i := 5) (v := .bool true) rfl (by kernel_rfl) (by kernel_rfl) (by kernel_rfl) (fun _ _ _ h => h) (Or.inl ⟨by rfl, fun w' _ => by go_simp⟩) trivial ?_
        try simp only [Act.put, List.getElem_toArray, List.getElem_cons_succ, List.getElem_cons_zero, List.setIfInBounds_toArray, List.set_cons_zero, List.set_cons_succ]
        refine wpAnyH_take (i := 6) (v := .bool true) rfl (by kernel_rfl) (by kernel_rfl) (by kernel_rfl) (fun _ _ _ h => h) (Or.inl ⟨by rfl, fun w' _ => by go_simp⟩) trivial ?_
        try simp only [Act.put, List.getElem_toArray, List.getElem_cons_succ, List.getElem_cons_zero, List.setIfInBounds_toArray, List.set_cons_zero, List.set_cons_succ]
        refine wpAnyH_take (i := 7) (v := .int .i64 c) rfl (by kernel_rfl) (by kernel_rfl) (by kernel_rfl) (fun _ _ _ h => h) (Or.inl ⟨by rfl, fun w' _ => by go_simp⟩) trivial ?_
        try simp only [Act.put, List.getElem_toArray, List.getElem_cons_succ, List.getElem_cons_zero, List.setIfInBounds_toArray, List.set_cons_zero, List.set_cons_succ]
        refine wpAnyH_take (i := 8) (v := .bool true) rfl (by kernel_rfl) (by kernel_rfl) (by kernel_rfl) (fun _ _ _ h => h) (Or.inl ⟨by rfl, fun w' _ => by go_simp⟩) trivial ?_
        try simp only [Act.put, List.getElem_toArray, List.getElem_cons_succ, List.getElem_cons_zero, List.setIfInBounds_toArray, List.set_cons_zero, List.set_cons_succ]
        refine wpAnyH_take (i := 9) (v := .bool true) rfl (by kernel_rfl) (by kernel_rfl) (by kernel_rfl) (fun _ _ _ h => h) (Or.inl ⟨by rfl, fun w' _ => by go_simp⟩) trivial ?_
        try simp only [Act.put, List.getElem_toArray, List.getElem_cons_succ, List.getElem_cons_zero, List.setIfInBounds_toArray, List.set_cons_zero, List.set_cons_succ]
        refine wpAnyH_take (i := 10) (v := undef) rfl (by kernel_rfl) (by kernel_rfl) (by kernel_rfl) (fun _ _ _ h => h) (Or.inr ⟨by rfl, rfl⟩) trivial ?_
        try simp only [Act.put, List.getElem_toArray, List.getElem_cons_succ, List.getElem_cons_zero, List.setIfInBounds_toArray, List.set_cons_zero, List.set_cons_succ]
        refine wpAnyH_take (i := 11) (v := undef) rfl (by kernel_rfl) (by kernel_rfl) (by kernel_rfl) (fun _ _ _ h => h) (Or.inr ⟨by rfl, rfl⟩) trivial ?_
        try simp only [Act.put, List.getElem_toArray, List.getElem_cons_succ, List.getElem_cons_zero, List.setIfInBounds_toArray, List.set_cons_zero, List.set_cons_succ]
        refine wpAnyH_take (i := 12) (v := .bool true) rfl (by kernel_rfl) (by kernel_rfl) (by kernel_rfl) (fun _ _ _ h => h) (Or.inl ⟨by rfl, fun w' _ => by go_simp⟩) trivial ?_
        try simp only [Act.put, List.getElem_toArray, List.getElem_cons_succ, List.getElem_cons_zero, List.setIfInBounds_toArray, List.set_cons_zero, List.set_cons_succ]
        refine wpAnyH_take (i := 13) (v := .bool true) rfl (by kernel_rfl) (by kernel_rfl) (by kernel_rfl) (fun _ _ _ h => h) (Or.inl ⟨by rfl, fun w' _ => by go_simp⟩) trivial ?_
        try simp only [Act.put, List.getElem_toArray, List.getElem_cons_succ, List.getElem_cons_zero, List.setIfInBounds_toArray, List.set_cons_zero, List.set_cons_succ]
        refine wpAnyH_take (i := 14) (v := .bool true) rfl (by kernel_rfl) (by kernel_rfl) (by kernel_rfl) (fun _ _ _ h => h) (Or.inl ⟨by rfl, fun w' _ => by go_simp⟩) trivial ?_
        try simp only [Act.put, List.getElem_toArray, List.getElem_cons_succ, List.getElem_cons_zero, List.setIfInBounds_toArray, List.set_cons_zero, List.set_cons_succ]
        refine wpAnyH_take (i := 15) (v := .int .i64 c) rfl (by kernel_rfl) (by kernel_rfl) (by kernel_rfl) (fun _ _ _ h => h) (Or.inl ⟨by rfl, fun w' _ => by go_simp⟩) trivial ?_
        try simp only [Act.put, List.getElem_toArray, List.getElem_cons_succ, List.getElem_cons_zero, List.setIfInBounds_toArray, List.set_cons_zero, List.set_cons_succ]
        refine wpAnyH_take (i := 17) (v := sv s) rfl (by kernel_rfl) (by kernel_rfl) (by kernel_rfl) (fun _ _ _ h => h) (Or.inl ⟨by rfl, fun w' _ => by go_simp⟩) trivial ?_
        try simp only [Act.put, List.getElem_toArray, List.getElem_cons_succ, List.getElem_cons_zero, List.setIfInBounds_toArray, List.set_cons_zero, List.set_cons_succ]
        refine wpAnyH_take (i := 18) (v := .int .i64 n) rfl (by kernel_rfl) (by kernel_rfl) (by kernel_rfl) (fun _ _ _ h => h) (Or.inl ⟨by rfl, fun w' _ => by go_simp⟩) trivial ?_
        try simp only [Act.put, List.getElem_toArray, List.getElem_cons_succ, List.getElem_cons_zero, List.setIfInBounds_toArray, List.set_cons_zero, List.set_cons_succ]
        refine wpAnyH_take (i := 19) (v := sv tk) rfl (by kernel_rfl) (by kernel_rfl) (by kernel_rfl) (fun _ _ _ h => h) (Or.inl ⟨by rfl, fun w' _ => by go_simp⟩) trivial ?_
        try simp only [Act.put, List.getElem_toArray, List.getElem_cons_succ, List.getElem_cons_zero, List.setIfInBounds_toArray, List.set_cons_zero, List.set_cons_succ]
        refine wpAnyH_ready (rs := [16]) (by kernel_rfl) (by simp) ?_
        refine AllReadyH.cons rfl (fun K hK => ?_) AllReadyH.nil
        go_simp
        with_reducible refine (HP2.out _).mono ?_
        rintro e wa ⟨rfl, k1⟩
        go_simp
        refine Shut.out hK _ _ trivial (fun _ => ?_)
        clear hK K
        try simp only [Act.put, List.getElem_toArray, List.getElem_cons_succ, List.getElem_cons_zero, List.setIfInBounds_toArray, List.set_cons_zero, List.set_cons_succ]
        refine wpAnyH_take (i := 20) (v := .bool (pc == tk)) rfl (by kernel_rfl) (by kernel_rfl) (by kernel_rfl) (fun _ _ _ h => h) (Or.inl ⟨by rfl, fun w' _ => by go_simp⟩) trivial ?_
        try simp only [Act.put, List.getElem_toArray, List.getElem_cons_succ, List.getElem_cons_zero, List.setIfInBounds_toArray, List.set_cons_zero, List.set_cons_succ]
        refine wpAnyH_take (i := 21) (v := .bool (pc == tk)) rfl (by kernel_rfl) (by kernel_rfl) (by kernel_rfl) (fun _ _ _ h => h) (Or.inl ⟨by rfl, fun w' _ => by go_simp⟩) trivial ?_
        try simp only [Act.put, List.getElem_toArray, List.getElem_cons_succ, List.getElem_cons_zero, List.setIfInBounds_toArray, List.set_cons_zero, List.set_cons_succ]
        refine wpAnyH_done (by kernel_rfl) ?_ _
        go_wp2_with (fail)
        go_meet
        exact ⟨by rw [HV.out], ((Keeps.refl [] wf).drew1).trans k1 (by simp)⟩
      have d3 : decide (c < 55296) = false := decide_eq_false p3
      by_cases p4 : 57343 < c
      · have d4 : decide (57343 < c) = true := decide_eq_true p4
        have HV : Hid (ok = (Utf.put c == s.take n)) := Lib.hid (by rw [HCK.out, d1, d2, d3, d4]; rfl)
        clear hck HP p1 p2 p3 p4
        generalize Utf.put c = pc at *
        generalize s.take n = tk at *
        have HS := fun w' (hb : Below (wf.heap.size) (wf) w') => ((hb) : Below (wf.heap.size) (wf) w')
        have HSb : wf.heap.size ≤ (wf).heap.size := Nat.le_refl _
        first | (go_region_held3 (fun w' => Below (wf.heap.size) (wf) w') (((try go_split_ands); (with_reducible apply HS); first | (with_reducible assumption) | (with_reducible (apply bC HSb k1; assumption)) | (with_reducible (apply bAA HSl; assumption)) | (repeat (first | (with_reducible assumption) | (with_reducible apply Below.refl) | (with_reducible apply bS (hp := HSb)) | (with_reducible apply bSe) | (with_reducible apply bSg; · with_reducible assumption) | (with_reducible apply bA HSb) | (with_reducible apply bD))))) (((go_at_call 76; refine (HP2.out _).mono ?_; rintro e wa ⟨rfl, k1⟩)))) | fail
        all_goals go_wp2_with (fail)
        all_goals go_meet
        all_goals exact ⟨by rw [HV.out], ((Keeps.refl [] wf).drew1).trans k1 (by simp)⟩
      · have d4 : decide (57343 < c) = false := decide_eq_false p4
        have HV : Hid (ok = false) := Lib.hid (by rw [HCK.out, d1, d2, d3, d4]; rfl)
        clear hck HP p1 p2 p3 p4 hsl HP2
        go_quiet (fail)
        go_wp2_with (fail)
        go_meet
        exact ⟨by rw [HV.out], Keeps.drewN [] _ _⟩
    case rest =>
      obtain ⟨rfl, kk⟩ := hcut
      have hq := HQ.out
      rw [hok] at hq
      have HK5 := Lib.hid (HKs4.out.trans kk (by simp))
      clear hck kk
      cases ok
      · have hq2 : usizeFrom s (5 - (n + 1)) (n + 1) = X := by simpa using hq
        have HQ2 := Lib.hid hq2
        have hwn : IntKind.i64.wrap ((n : Int) + 1) = (n : Int) + 1 := IntWalk.i64_in _ (by omega)
        clear hq hq2
        go_wp2_with (fail)
        refine ⟨⟨n + 1, by push_cast; rfl, by omega, by clear hwn; omega, HQ2.out, HK5.out⟩, ?_⟩
        simp only [intOf]
        clear hwn
        omega
      · have hq2 : n = X := by simpa using hq
        have HQ2 := Lib.hid hq2
        clear hq hq2
        go_wp2_with (fail)
        go_ret
        exact ⟨by rw [← HQ2.out]; rfl, HK5.out⟩
end Go.Proofs.Ytcmoldondflilaa.UtfW
