/- The contracts of package utf: Step, Run, Valid. -/
import Derived.Test.YtcmoldondflilaaDia
import Derived.Test.YtcmoldondflilaaKeep
import Derived.Test.YtcmoldondflilaaUtfPlain
import Derived.Outline
namespace Go.Proofs.Ytcmoldondflilaa.UtfS
set_option linter.unusedVariables false
set_option linter.unusedSimpArgs false
set_option maxRecDepth 100000
open Go.RowKit Q Mach Utf
attribute [local go_sem ↓] Go.wp_at_zero Go.wp_at_succ
def ustepV : Option Nat → Value
  | none => .tuple #[.int .i64 0, .bool false]
  | some s => .tuple #[.int .i64 s, .bool true]
set_option maxHeartbeats 1000000 in
theorem begin_c (b : UInt8) (w : World) : Calls Try.prog 84 #[bv b] w fun e w' => e = .returned (ustepV (ubegin b.toNat)) ∧ w' = w := by
  have h0 := b.toNat_lt
  obtain ⟨V, hV⟩ : ∃ V, ustepV (ubegin b.toNat) = V := ⟨_, rfl⟩
  rw [hV]
  have HV := Lib.hid hV
  clear hV
  go_enter Try.func84, Try.ntmps84
  go_wp2_with (fail)
  all_goals
    go_ret2
    refine ⟨?_, rfl⟩
    rw [← HV.out]
    unfold ubegin
    repeat' split
    all_goals first | rfl | (exfalso; omega) | (exfalso; simp_all; done) | (exfalso; simp_all; omega) | trace_state
theorem follow_c (b : UInt8) (lo hi : Nat) (L H : Int) (hL : (lo : Int) = L) (hH : (hi : Int) = H) (next : Nat) (N : Int) (hN : (next : Int) = N) (w : World) : Calls Try.prog 85 #[bv b, .int .u8 L, .int .u8 H, .int .i64 N] w fun e w' => e = .returned (ustepV (ufollow b.toNat lo hi next)) ∧ w' = w := by
  subst hL hH hN
  obtain ⟨V, hV⟩ : ∃ V, ustepV (ufollow b.toNat lo hi next) = V := ⟨_, rfl⟩
  rw [hV]
  have HV := Lib.hid hV
  clear hV
  go_enter Try.func85, Try.ntmps85
  by_cases h1 : b.toNat < lo
  · go_wp2_with (fail)
    go_ret2
    refine ⟨?_, rfl⟩
    rw [← HV.out, ufollow, if_pos (.inl h1)]; rfl
  · by_cases h2 : hi < b.toNat
    · go_wp2_with (fail)
      go_ret2
      refine ⟨?_, rfl⟩
      rw [← HV.out, ufollow, if_pos (.inr h2)]; rfl
    · go_wp2_with (fail)
      go_ret2
      refine ⟨?_, rfl⟩
      rw [← HV.out, ufollow, if_neg (by omega)]; rfl
set_option maxHeartbeats 2000000 in
theorem step_c (st : Nat) (hst : st ≤ 7) (b : UInt8) (w : World) : Calls Try.prog 73 #[.int .i64 st, bv b] w fun e w' => e = .returned (ustepV (ustep st b.toNat)) ∧ w' = w := by
  have HB := Lib.hid (fun w => begin_c b w)
  have HF := Lib.hid (fun lo hi L H hL hH next N hN w => follow_c b lo hi L H hL hH next N hN w)
  have key : ∀ (lo hi next : Nat) (L H N : Int), (lo : Int) = L → (hi : Int) = H → (next : Int) = N → ∀ w, Calls Try.prog 85 #[bv b, .int .u8 L, .int .u8 H, .int .i64 N] w fun e w' => e = .returned (ustepV (ufollow b.toNat lo hi next)) ∧ w' = w := fun lo hi next L H N h1 h2 h3 w => follow_c b lo hi L H h1 h2 next N h3 w
  have HK := Lib.hid key
  clear key HF
  match st, hst with
  | 0, _ =>
    have e : ustep 0 b.toNat = ubegin b.toNat := rfl
    rw [e]
    generalize ubegin b.toNat = V at *
    cases V
    all_goals
      go_enter Try.func73, Try.ntmps73
      go_wp2_with (fail)
      refine (HB.out _).mono ?_
      rintro e w1 ⟨rfl, rfl⟩
      unfold ustepV
      go_wp2_with (fail)
      go_ret2
      exact ⟨rfl, rfl⟩
  | 1, _ =>
    have e : ustep 1 b.toNat = ufollow b.toNat 128 191 0 := rfl
    rw [e]
    have HK1 := Lib.hid (HK.out 128 191 0 _ _ _ rfl rfl rfl)
    generalize ufollow b.toNat 128 191 0 = V at *
    cases V
    all_goals
      go_enter Try.func73, Try.ntmps73
      go_wp2_with (fail)
      refine (HK1.out _).mono ?_
      rintro e w1 ⟨rfl, rfl⟩
      unfold ustepV
      go_wp2_with (fail)
      go_ret2
      exact ⟨rfl, rfl⟩
  | 2, _ =>
    have e : ustep 2 b.toNat = ufollow b.toNat 128 191 1 := rfl
    rw [e]
    have HK1 := Lib.hid (HK.out 128 191 1 _ _ _ rfl rfl rfl)
    generalize ufollow b.toNat 128 191 1 = V at *
    cases V
    all_goals
      go_enter Try.func73, Try.ntmps73
      go_wp2_with (fail)
      refine (HK1.out _).mono ?_
      rintro e w1 ⟨rfl, rfl⟩
      unfold ustepV
      go_wp2_with (fail)
      go_ret2
      exact ⟨rfl, rfl⟩
  | 3, _ =>
    have e : ustep 3 b.toNat = ufollow b.toNat 128 191 2 := rfl
    rw [e]
    have HK1 := Lib.hid (HK.out 128 191 2 _ _ _ rfl rfl rfl)
    generalize ufollow b.toNat 128 191 2 = V at *
    cases V
    all_goals
      go_enter Try.func73, Try.ntmps73
      go_wp2_with (fail)
      refine (HK1.out _).mono ?_
      rintro e w1 ⟨rfl, rfl⟩
      unfold ustepV
      go_wp2_with (fail)
      go_ret2
      exact ⟨rfl, rfl⟩
  | 4, _ =>
    have e : ustep 4 b.toNat = ufollow b.toNat 160 191 1 := rfl
    rw [e]
    have HK1 := Lib.hid (HK.out 160 191 1 _ _ _ rfl rfl rfl)
    generalize ufollow b.toNat 160 191 1 = V at *
    cases V
    all_goals
      go_enter Try.func73, Try.ntmps73
      go_wp2_with (fail)
      refine (HK1.out _).mono ?_
      rintro e w1 ⟨rfl, rfl⟩
      unfold ustepV
      go_wp2_with (fail)
      go_ret2
      exact ⟨rfl, rfl⟩
  | 5, _ =>
    have e : ustep 5 b.toNat = ufollow b.toNat 128 159 1 := rfl
    rw [e]
    have HK1 := Lib.hid (HK.out 128 159 1 _ _ _ rfl rfl rfl)
    generalize ufollow b.toNat 128 159 1 = V at *
    cases V
    all_goals
      go_enter Try.func73, Try.ntmps73
      go_wp2_with (fail)
      refine (HK1.out _).mono ?_
      rintro e w1 ⟨rfl, rfl⟩
      unfold ustepV
      go_wp2_with (fail)
      go_ret2
      exact ⟨rfl, rfl⟩
  | 6, _ =>
    have e : ustep 6 b.toNat = ufollow b.toNat 144 191 2 := rfl
    rw [e]
    have HK1 := Lib.hid (HK.out 144 191 2 _ _ _ rfl rfl rfl)
    generalize ufollow b.toNat 144 191 2 = V at *
    cases V
    all_goals
      go_enter Try.func73, Try.ntmps73
      go_wp2_with (fail)
      refine (HK1.out _).mono ?_
      rintro e w1 ⟨rfl, rfl⟩
      unfold ustepV
      go_wp2_with (fail)
      go_ret2
      exact ⟨rfl, rfl⟩
  | 7, _ =>
    have e : ustep 7 b.toNat = ufollow b.toNat 128 143 2 := rfl
    rw [e]
    have HK1 := Lib.hid (HK.out 128 143 2 _ _ _ rfl rfl rfl)
    generalize ufollow b.toNat 128 143 2 = V at *
    cases V
    all_goals
      go_enter Try.func73, Try.ntmps73
      go_wp2_with (fail)
      refine (HK1.out _).mono ?_
      rintro e w1 ⟨rfl, rfl⟩
      unfold ustepV
      go_wp2_with (fail)
      go_ret2
      exact ⟨rfl, rfl⟩
/-- What Run comes to. -/
def urunV (x : Nat × Nat) : Value := .tuple #[.int .i64 x.1, .int .i64 x.2]
theorem urunN_at (l : List UInt8) (st n : Nat) (h : n < l.length) : ∀ s, ustep st l[n].toNat = some s → urunN st (l.drop n) = ((urunN s (l.drop (n + 1))).1, (urunN s (l.drop (n + 1))).2 + 1) := by
  intro s hs
  rw [List.drop_eq_getElem_cons h]
  simp only [urunN, hs]
theorem urunN_off (l : List UInt8) (st n : Nat) (h : n < l.length) : ustep st l[n].toNat = none → urunN st (l.drop n) = (st, 0) := by
  intro hs
  rw [List.drop_eq_getElem_cons h]
  simp only [urunN, hs]
set_option maxHeartbeats 1000000 in
theorem run_c (st : Nat) (hst : st ≤ 7) (l : List UInt8) (hl : l.length ≤ 100000) (w : World) : Calls Try.prog 60 #[.int .i64 st, sv l] w fun e w' => e = .returned (urunV (urunN st l)) ∧ w' = w := by
  obtain ⟨X, hX⟩ : ∃ X, urunN st l = X := ⟨_, rfl⟩
  rw [hX]
  have HX := Lib.hid hX
  clear hX
  go_enter Try.func60, Try.ntmps60
  go_wp2_with (fail)
  go_loop [0, 5] (fun s i => ∃ (k s0 : Nat), k ≤ l.length ∧ s0 ≤ 7 ∧ i = .int .i64 k ∧ s = .int .i64 s0 ∧ X = ((urunN s0 (l.drop k)).1, (urunN s0 (l.drop k)).2 + k)) (fun _ i => l.length - (intOf i).toNat)
  case atStart => exact ⟨0, st, Nat.zero_le _, hst, rfl, rfl, by rw [← HX.out]; simp⟩
  case round =>
    obtain ⟨k, s0, hk, hs0, rfl, rfl, hx⟩ := hrel
    by_cases hlt : k < l.length
    · have hi := str_idx (P := Try.prog) Try.underlying9 l k l[k] (List.getElem?_eq_getElem hlt)
      have hk0 : (0 : Int) ≤ (k : Int) := by omega
      have hkl : (k : Int) < (l.length : Int) := by omega
      have HS := Lib.hid (fun w => step_c s0 hs0 l[k] w)
      have H1 := Lib.hid (urunN_at l s0 k hlt)
      have H2 := Lib.hid (urunN_off l s0 k hlt)
      have HXX := Lib.hid hx
      clear hx
      obtain ⟨V, hV⟩ : ∃ V, ustep s0 l[k].toNat = V := ⟨_, rfl⟩
      have HVL := Lib.hid (fun s (h : V = some s) => ustep_lt (hV.trans h))
      rw [hV] at HS H1 H2
      clear hV
      generalize l[k] = b at *
      cases V with
      | none =>
        go_wp2_with (fail)
        refine (HS.out _).mono ?_
        unfold ustepV
        rintro e w1 ⟨rfl, rfl⟩
        go_wp2_with (fail)
        go_ret2
        refine ⟨?_, rfl⟩
        rw [HXX.out, H2.out trivial]
        simp [urunV]
      | some s =>
        go_wp2_with (fail)
        refine (HS.out _).mono ?_
        unfold ustepV
        rintro e w1 ⟨rfl, rfl⟩
        go_wp2_with (fail)
        refine ⟨⟨k + 1, s, by omega, HVL.out s rfl, by go_num, rfl, ?_⟩, by simp [intOf]; omega⟩
        rw [HXX.out, H1.out s rfl]
        simp; omega
    · obtain rfl : k = l.length := by omega
      have hkl : ¬ ((l.length : Int) < (l.length : Int)) := by omega
      have HXX := Lib.hid hx
      clear hx
      go_wp2_with (fail)
      go_ret2
      refine ⟨?_, rfl⟩
      rw [HXX.out]
      simp [urunN, urunV]
theorem valid_c (l : List UInt8) (hl : l.length ≤ 100000) (w : World) : Calls Try.prog 42 #[sv l] w fun e w' => e = .returned (.bool (valid l)) ∧ w' = w := by
  have HR := Lib.hid (fun w => run_c 0 (by omega) l hl w)
  have HV := Lib.hid (valid_iff l)
  generalize hX : urunN 0 l = X at *
  obtain ⟨s, n⟩ := X
  clear hX
  unfold urunV at HR
  dsimp only at HR HV
  obtain ⟨A, hA⟩ : ∃ A, (n == l.length) = A := ⟨_, rfl⟩
  obtain ⟨B, hB⟩ : ∃ B, (s == 0) = B := ⟨_, rfl⟩
  have hA2 : ((n : Int) == (l.length : Int)) = A := by rw [← hA, Bool.eq_iff_iff, beq_iff_eq, beq_iff_eq]; omega
  have hB2 : ((s : Int) == 0) = B := by rw [← hB, Bool.eq_iff_iff, beq_iff_eq, beq_iff_eq]; omega
  rw [hA, hB] at HV
  rw [HV.out]
  clear hA hB HV
  cases A
  all_goals
    go_enter Try.func42, Try.ntmps42
    go_wp2_with (fail)
    refine (HR.out _).mono ?_
    rintro e w1 ⟨rfl, rfl⟩
    go_wp2_with (fail)
    go_ret
    exact ⟨by simp, rfl⟩
end Go.Proofs.Ytcmoldondflilaa.UtfS
