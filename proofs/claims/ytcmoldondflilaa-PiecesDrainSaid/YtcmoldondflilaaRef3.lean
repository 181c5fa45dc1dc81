/- The contracts of the document's words of layer 3 (ref03), strings.HasPrefix and strings.CutPrefix. -/
import Derived.Test.YtcmoldondflilaaProg
import Derived.Test.YtcmoldondflilaaTbl
import Derived.Test.YtcmoldondflilaaBomPlain
import Derived.Outline
import Derived.Deep.QuietTactic
import Derived.BigQuiet
namespace Go.Proofs.Ytcmoldondflilaa.Bom
set_option linter.unusedVariables false
set_option linter.unusedSimpArgs false
set_option maxRecDepth 100000
open Go.RowKit Q

/-! ### The document's (ref03), and strings.CutPrefix -/
theorem idxMark (i : Nat) (h : i < 3) (w : World) : (Instr.index 126 (.agg #[.int .u8 239, .int .u8 187, .int .u8 191]) (.int .i64 (i : Int))).run Try.prog w = .ok (bv (mark.getD i 0)) w := by
  match i, h with
  | 0, _ => show _ = _; kernel_rfl
  | 1, _ => show _ = _; kernel_rfl
  | 2, _ => show _ = _; kernel_rfl
set_option maxHeartbeats 400000 in
theorem has_c (l : List UInt8) (n : Nat) (hn : n ≤ 3) (hl : l.length ≤ maxLen) (w : World) :
    Calls Try.prog 67 #[.string ⟨l.toArray⟩, .int .i64 n] w fun e w' => e = .returned (.bool (hasB l n)) ∧ ∃ m, w' = w.drewN m := by
  unfold maxLen at hl
  by_cases h0 : l.length < n
  · go_enter Try.func67, Try.ntmps67
    go_wp2
    go_ret
    exact ⟨ret_bool (hasB_short l n hn h0).symm, 0, rfl⟩
  · go_enter Try.func67, Try.ntmps67
    go_wp2
    go_loopw [5] (fun i wr => ∃ k : Nat, k ≤ n ∧ i = .int .i64 k ∧ l.take k = mark.take k ∧ ∃ m, wr = w.drewN m) (fun i _ => n - (intOf i).toNat)
    case atStart => exact ⟨0, by omega, rfl, rfl, 0, rfl⟩
    case round =>
      obtain ⟨k, hk, rfl, ht, m, rfl⟩ := hrel
      have HT := Lib.hid ht
      clear ht
      by_cases hlt : k < n
      · have hi := idxMark k (by omega)
        have e1 : (0 : Int) ≤ (k : Int) := by omega
        have e2 : (k : Int) < (l.length : Int) := by omega
        have hkl : k < l.length := by omega
        go_wp2_with (fail)
        go_quiet (fail)
        go_wp2
        · go_ret
          refine ⟨ret_bool (hasB_off l n k hlt hkl ?_ hn).symm, m + nq, World.drewN_drewN _ _ _⟩
          have hx : ((↑l[k].toNat : Int) != ↑(mark[k]?.getD 0).toNat) = true := by assumption
          intro e
          rw [e] at hx
          simp at hx
        · go_roundw
          case rel =>
            refine ⟨k + 1, by omega, by go_num, take_step l k (by omega) hkl HT.out ?_, _, rfl⟩
            have hx : ((↑l[k].toNat : Int) != ↑(mark[k]?.getD 0).toNat) = false := by assumption
            rw [bne_eq_false_iff_eq] at hx
            exact UInt8.toNat_inj.1 (by simpa [List.getD] using Int.ofNat_inj.1 hx)
          case measure => simp [intOf]; omega
      · go_wp2
        go_ret
        obtain rfl : k = n := by omega
        exact ⟨ret_bool (by unfold hasB; rw [HT.out]; simp), m, rfl⟩

theorem hasB_le {l : List UInt8} (h : hasB l 3 = true) : 3 ≤ l.length := by
  rcases Nat.lt_or_ge l.length 3 with h' | h'
  · rw [hasB_short l 3 (by omega) h'] at h; cases h
  · exact h'
set_option maxHeartbeats 400000 in
theorem rstrip_c (l : List UInt8) (hl : l.length ≤ maxLen) (w : World) :
    Calls Try.prog 51 #[.string ⟨l.toArray⟩] w fun e w' => e = .returned (.tuple #[sv (strip l), .int .i64 (if hasB l 3 then 1 else 0)]) ∧ ∃ m, w' = w.drewN m := by
  have hc := has_c l 3 (by omega) hl
  unfold strip
  cases hb : hasB l 3
  · simp only [hb, if_false, Bool.false_eq_true] at hc ⊢
    have H := Lib.hid hc; clear hc hb
    go_enter Try.func51, Try.ntmps51
    go_wp2_with (go_at_call 67; refine (H.out _).mono ?_; rintro e w' ⟨rfl, m, rfl⟩)
    go_ret2
    exact ⟨rfl, _, rfl⟩
  · have hfrom := run_strFrom (P := Try.prog) Try.underlying9 l 3 (hasB_le hb)
    simp only [hb, if_true] at hc ⊢
    have H := Lib.hid hc; clear hc hb
    go_enter Try.func51, Try.ntmps51
    go_wp2_with (first | (go_at_call 67; refine (H.out _).mono ?_; rintro e w' ⟨rfl, m, rfl⟩) | refine wpList_slice (hfrom _) _ _ _ _ rfl rfl rfl rfl rfl rfl ?_)
    go_ret2
    exact ⟨rfl, _, rfl⟩
def hasPre (l p : List UInt8) : Bool := l.take p.length == p
set_option maxHeartbeats 400000 in
theorem litePrefix_c (l p : List UInt8) (hl : l.length ≤ maxLen) (hp : p.length ≤ maxLen) (w : World) :
    Calls Try.prog 90 #[.string ⟨l.toArray⟩, .string ⟨p.toArray⟩] w fun e w' => e = .returned (.bool (hasPre l p)) ∧ w = w' := by
  unfold maxLen at hl hp
  by_cases h : p.length ≤ l.length
  · have hu := run_strUpto (P := Try.prog) Try.underlying9 l p.length h
    go_enter Try.func90, Try.ntmps90
    go_wp2_with (refine wpList_slice (hu _) _ _ _ _ rfl rfl rfl rfl rfl rfl ?_)
    go_ret
    exact ⟨rfl, rfl⟩
  · have hs : hasPre l p = false := by
      unfold hasPre
      rw [beq_eq_false_iff_ne]
      intro e
      have := congrArg List.length e
      rw [List.length_take] at this
      omega
    rw [hs]
    clear hs
    go_enter Try.func90, Try.ntmps90
    go_wp2
    go_ret
    exact ⟨rfl, rfl⟩
theorem hasPre_le {l p : List UInt8} (h : hasPre l p = true) : p.length ≤ l.length := by
  unfold hasPre at h
  have := congrArg List.length (beq_iff_eq.1 h)
  rw [List.length_take] at this
  omega
def cutPre (l p : List UInt8) : List UInt8 := if hasPre l p then l.drop p.length else l
set_option maxHeartbeats 400000 in
theorem prefix_c (l p : List UInt8) (hl : l.length ≤ maxLen) (hp : p.length ≤ maxLen) (w : World) :
    Calls Try.prog 87 #[.string ⟨l.toArray⟩, .string ⟨p.toArray⟩] w fun e w' => e = .returned (.bool (hasPre l p)) ∧ w = w' := by
  have H := Lib.hid (litePrefix_c l p hl hp)
  go_enter Try.func87, Try.ntmps87
  go_wp2_with (go_at_call 90; refine (H.out _).mono ?_; rintro e w' ⟨rfl, rfl⟩)
  go_ret
  exact ⟨rfl, rfl⟩
end Go.Proofs.Ytcmoldondflilaa.Bom
