/- The document's answer for layer 2: can more bytes make one sequence of a text? The first byte that does not go on. -/
import Derived.Test.YtcmoldondflilaaUtfW3
namespace Go.Proofs.Ytcmoldondflilaa.UtfW
set_option linter.unusedVariables false
set_option linter.unusedSimpArgs false
set_option maxRecDepth 100000
open Go.RowKit Q Mach Dia Utf
attribute [local go_sem ↓] Go.wp_at_zero Go.wp_at_succ
def goT (p : List UInt8) (a b : Nat) : Bool := decide (p.length ≤ usize (p ++ [UInt8.ofNat (128 + a), UInt8.ofNat (128 + b), 128])) && decide (0 < usize (p ++ [UInt8.ofNat (128 + a), UInt8.ofNat (128 + b), 128]))
def goM (p : List UInt8) : Nat := if p.length > 1 then 1 else 64
theorem goes_true {p : List UInt8} {a b : Nat} (ha : a < 64) (hb : b < goM p) (h : goT p a b = true) : goesP p = true := by
  unfold goesP
  rw [List.any_eq_true]
  refine ⟨a, List.mem_range.2 ha, ?_⟩
  rw [List.any_eq_true]
  exact ⟨b, List.mem_range.2 hb, h⟩
theorem goes_false {p : List UInt8} (h : ∀ a, a < 64 → ∀ b, b < goM p → goT p a b = false) : goesP p = false := by
  unfold goesP
  rw [List.any_eq_false]
  intro a ha
  rw [Bool.not_eq_true, List.any_eq_false]
  intro b hb
  have := h a (List.mem_range.1 ha) b (List.mem_range.1 hb)
  unfold goT at this
  rw [Bool.not_eq_true]
  exact this
set_option maxRecDepth 100000 in
set_option maxHeartbeats 4000000 in
theorem goes_c (s : List UInt8) (hs : s.length ≤ 1000) (w : World) : Calls Try.prog 83 #[sv s] w fun e w' => e = .returned (.bool (goesP s)) ∧ Keeps [] w w' := by
  have hcat : ∀ x y : List UInt8, (ByteArray.mk x.toArray ++ ByteArray.mk y.toArray) = ⟨(x ++ y).toArray⟩ := cat_mk
  obtain ⟨M, hM⟩ : ∃ M, goM s = M := ⟨_, rfl⟩
  obtain ⟨G, hG⟩ : ∃ G, goesP s = G := ⟨_, rfl⟩
  rw [hG]
  have HG := Lib.hid hG
  have HM := Lib.hid hM
  have HMM : Hid (M = if s.length > 1 then 1 else 64) := Lib.hid (by rw [← hM]; rfl)
  clear hG
  have hM1 : 1 ≤ M ∧ M ≤ 64 := by rw [← hM]; unfold goM; split <;> omega
  clear hM
  go_enter Try.func83, Try.ntmps83
  go_wp2_with (fail)
  go_loopw [3] (fun v wr => ∃ a : Nat, v = .int .i64 a ∧ a ≤ 64 ∧ (∀ a', a' < a → ∀ b, b < M → goT s a' b = false) ∧ Keeps [] w wr) (fun v _ => 64 - (intOf v).toNat)
  case atStart => exact ⟨0, rfl, by omega, fun a' h => by omega, Keeps.refl _ _⟩
  case round =>
    obtain ⟨a, rfl, ha, hall, hk⟩ := hrel
    have HA := Lib.hid hall
    have HK := Lib.hid hk
    clear hall hk
    by_cases hlt : a < 64
    rotate_left
    · have hd : decide ((a : Int) < 64) = false := by simp; omega
      have hG : goesP s = false := goes_false (fun a' h b hb => HA.out a' (by omega) b (by rw [← HM.out]; exact hb))
      obtain rfl : G = false := by rw [← HG.out]; exact hG
      clear hG
      go_wp2_with (fail)
      go_ret
      exact ⟨rfl, HK.out⟩
    have hd : decide ((a : Int) < 64) = true := by simp; omega
    go_wp2_with (fail)
    go_loopw [4] (fun v wr => ∃ b : Nat, v = .int .i64 b ∧ b ≤ 64 ∧ (∀ b', b' < b → goT s a b' = false) ∧ (M = 1 → b = 0) ∧ Keeps [] w wr) (fun v _ => 64 - (intOf v).toNat)
    case atStart => exact ⟨0, rfl, by omega, fun b' h => by omega, fun _ => rfl, HK.out⟩
    case round =>
      obtain ⟨b, rfl, hb, hball, hm1, hk⟩ := hrel
      have HB := Lib.hid hball
      have HK2 := Lib.hid hk
      clear hball hk
      by_cases hltb : b < 64
      rotate_left
      · have hdb : decide ((b : Int) < 64) = false := by simp; omega
        have hwa : IntKind.i64.wrap ((a : Int) + 1) = (a : Int) + 1 := IntWalk.i64_in _ (by omega)
        go_wp2_with (fail)
        refine ⟨⟨a + 1, by push_cast; rfl, by clear hwa; omega, ?_, HK2.out⟩, ?_⟩
        · intro a' h b' hb'
          rcases Nat.lt_or_ge a' a with h1 | h1
          · exact HA.out a' h1 b' hb'
          · obtain rfl : a' = a := by clear hwa; omega
            exact HB.out b' (by clear hwa; omega)
        · simp only [intOf]; clear hwa; omega
      have hdb : decide ((b : Int) < 64) = true := by simp; omega
      have e1 : bv (UInt8.ofNat (128 + a)) = .int .u8 (128 + (a : Int)) := by
        show Value.int .u8 ((UInt8.ofNat (128 + a)).toNat : Int) = _
        rw [UInt8.toNat_ofNat']; congr 1; omega
      have e2 : bv (UInt8.ofNat (128 + b)) = .int .u8 (128 + (b : Int)) := by
        show Value.int .u8 ((UInt8.ofNat (128 + b)).toNat : Int) = _
        rw [UInt8.toNat_ofNat']; congr 1; omega
      have hr := run_strL (P := Try.prog) Try.underlying60 Try.underlying5 Try.underlying9 [UInt8.ofNat (128 + a), UInt8.ofNat (128 + b), 128] (by simp [maxLen]) wr
      rw [show ([UInt8.ofNat (128 + a), UInt8.ofNat (128 + b), 128] : List UInt8).length = 3 from rfl] at hr
      simp only [List.map_cons, List.map_nil, e1, e2, show bv 128 = .int .u8 128 from rfl] at hr
      have HS := Lib.hid (fun w' => size_c (s ++ [UInt8.ofNat (128 + a), UInt8.ofNat (128 + b), 128]) (by simp; omega) w')
      have hT : goT s a b = (decide (s.length ≤ usize (s ++ [UInt8.ofNat (128 + a), UInt8.ofNat (128 + b), 128])) && decide (0 < usize (s ++ [UInt8.ofNat (128 + a), UInt8.ofNat (128 + b), 128]))) := rfl
      have HT := Lib.hid hT
      have HKA := Lib.hid (HK2.out.alloc1 (.cells #[.int .u8 (128 + (a : Int)), .int .u8 (128 + (b : Int)), .int .u8 128] 5))
      have hl3 : ([UInt8.ofNat (128 + a), UInt8.ofNat (128 + b), 128] : List UInt8).length = 3 := rfl
      clear hT e1 e2
      generalize ([UInt8.ofNat (128 + a), UInt8.ofNat (128 + b), 128] : List UInt8) = t3 at *
      have hln : s.length + t3.length ≤ 2000 := by omega
      go_wp2_with (refine wpList_convert hr _ rfl rfl rfl ?_)
      obtain ⟨z, hz⟩ : ∃ z, usize (s ++ t3) = z := ⟨_, rfl⟩
      rw [hz] at HT HS
      clear hz hcat hr
      with_reducible refine (HS.out _).mono ?_
      rintro r w2 ⟨rfl, k2⟩
      have HK3 := Lib.hid (HKA.out.trans k2 (by simp))
      clear HS k2 HKA HK2
      by_cases hq1 : s.length ≤ z
      · have hp1 : decide ((s.length : Int) ≤ (z : Int)) = true := by simp; omega
        have hp2 : decide (s.length ≤ z) = true := by simp; omega
        by_cases hq2 : 0 < z
        · have hp3 : decide ((0 : Int) < (z : Int)) = true := by simp; omega
          have hp4 : decide (0 < z) = true := by simp; omega
          have hbM : b < M := by
            have := HMM.out
            by_cases hl1 : s.length > 1
            · rw [if_pos hl1] at this; have := hm1 this; omega
            · rw [if_neg hl1] at this; omega
          obtain rfl : G = true := by
            rw [← HG.out]
            refine goes_true hlt (by rw [HM.out]; exact hbM) ?_
            rw [HT.out, hp2, hp4]; rfl
          clear hbM hm1
          go_wp2_with (fail)
          go_ret
          exact ⟨rfl, HK3.out⟩
        have hp3 : decide ((0 : Int) < (z : Int)) = false := by simp; omega
        have hp4 : decide (0 < z) = false := by simp; omega
        have HTF : Hid (goT s a b = false) := Lib.hid (by rw [HT.out, hp4, Bool.and_false])
        clear hq2
        clear hq1
        by_cases hl1 : 1 < s.length
        · have hd1 : decide ((1 : Int) < (s.length : Int)) = true := by simp; omega
          have hd2 : decide (1 < s.length) = true := by simp; omega
          have hM1 : M = 1 := by have := HMM.out; rw [if_pos hl1] at this; exact this
          have hwa : IntKind.i64.wrap ((a : Int) + 1) = (a : Int) + 1 := IntWalk.i64_in _ (by omega)
          have HB0 := Lib.hid (hm1 hM1)
          have HM1 := Lib.hid hM1
          clear hM1 hm1
          go_wp2_with (fail)
          refine ⟨⟨a + 1, by push_cast; rfl, by clear hwa; omega, ?_, HK3.out⟩, ?_⟩
          · intro a' h b' hb'
            rcases Nat.lt_or_ge a' a with h1 | h1
            · exact HA.out a' h1 b' hb'
            · obtain rfl : a' = a := by clear hwa; omega
              have hb0 := HB0.out
              have hM2 := HM1.out
              obtain rfl : b' = b := by clear hwa; omega
              exact HTF.out
          · simp only [intOf]; clear hwa; omega
        · have hd1 : decide ((1 : Int) < (s.length : Int)) = false := by simp; omega
          have hd2 : decide (1 < s.length) = false := by simp; omega
          have hM64 : M = 64 := by have := HMM.out; rw [if_neg hl1] at this; exact this
          have hwb : IntKind.i64.wrap ((b : Int) + 1) = (b : Int) + 1 := IntWalk.i64_in _ (by omega)
          have HM64 := Lib.hid hM64
          clear hM64 hm1
          go_wp2_with (fail)
          refine ⟨⟨b + 1, by push_cast; rfl, by clear hwb; omega, ?_, fun h => absurd (HM64.out.symm.trans h) (by decide), HK3.out⟩, ?_⟩
          · intro b' h
            rcases Nat.lt_or_ge b' b with h1 | h1
            · exact HB.out b' h1
            · obtain rfl : b' = b := by clear hwb; omega
              exact HTF.out
          · simp only [intOf]; clear hwb; omega
      · have hp1 : decide ((s.length : Int) ≤ (z : Int)) = false := by simp; omega
        have hp2 : decide (s.length ≤ z) = false := by simp; omega
        have HTF : Hid (goT s a b = false) := Lib.hid (by rw [HT.out, hp2, Bool.false_and])
        clear hq1
        by_cases hl1 : 1 < s.length
        · have hd1 : decide ((1 : Int) < (s.length : Int)) = true := by simp; omega
          have hd2 : decide (1 < s.length) = true := by simp; omega
          have hM1 : M = 1 := by have := HMM.out; rw [if_pos hl1] at this; exact this
          have hwa : IntKind.i64.wrap ((a : Int) + 1) = (a : Int) + 1 := IntWalk.i64_in _ (by omega)
          have HB0 := Lib.hid (hm1 hM1)
          have HM1 := Lib.hid hM1
          clear hM1 hm1
          go_wp2_with (fail)
          refine ⟨⟨a + 1, by push_cast; rfl, by clear hwa; omega, ?_, HK3.out⟩, ?_⟩
          · intro a' h b' hb'
            rcases Nat.lt_or_ge a' a with h1 | h1
            · exact HA.out a' h1 b' hb'
            · obtain rfl : a' = a := by clear hwa; omega
              have hb0 := HB0.out
              have hM2 := HM1.out
              obtain rfl : b' = b := by clear hwa; omega
              exact HTF.out
          · simp only [intOf]; clear hwa; omega
        · have hd1 : decide ((1 : Int) < (s.length : Int)) = false := by simp; omega
          have hd2 : decide (1 < s.length) = false := by simp; omega
          have hM64 : M = 64 := by have := HMM.out; rw [if_neg hl1] at this; exact this
          have hwb : IntKind.i64.wrap ((b : Int) + 1) = (b : Int) + 1 := IntWalk.i64_in _ (by omega)
          have HM64 := Lib.hid hM64
          clear hM64 hm1
          go_wp2_with (fail)
          refine ⟨⟨b + 1, by push_cast; rfl, by clear hwb; omega, ?_, fun h => absurd (HM64.out.symm.trans h) (by decide), HK3.out⟩, ?_⟩
          · intro b' h
            rcases Nat.lt_or_ge b' b with h1 | h1
            · exact HB.out b' h1
            · obtain rfl : b' = b := by clear hwb; omega
              exact HTF.out
          · simp only [intOf]; clear hwb; omega
end Go.Proofs.Ytcmoldondflilaa.UtfW
