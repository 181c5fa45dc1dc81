/- strings.CutPrefix, bom.Strip and the document's example of layer 3. -/
import Derived.Test.YtglfjhbfibmfpaaBom
namespace Go.Proofs.Ytglfjhbfibmfpaa.Bom
set_option linter.unusedVariables false
set_option linter.unusedSimpArgs false
open Go.RowKit Q

theorem hasPre_le {l p : List UInt8} (h : hasPre l p = true) : p.length ≤ l.length := by
  unfold hasPre at h
  have := congrArg List.length (beq_iff_eq.1 h)
  rw [List.length_take] at this
  omega
def cutPre (l p : List UInt8) : List UInt8 := if hasPre l p then l.drop p.length else l
set_option maxHeartbeats 400000 in
theorem liteCut_c (l p : List UInt8) (hl : l.length ≤ maxLen) (hp : p.length ≤ maxLen) (w : World) :
    Calls Try.prog 18 #[.string ⟨l.toArray⟩, .string ⟨p.toArray⟩] w fun e w' => e = .returned (.tuple #[sv (cutPre l p), .bool (hasPre l p)]) ∧ w = w' := by
  have hc := litePrefix_c l p hl hp
  unfold maxLen at hl hp
  unfold cutPre
  cases hb : hasPre l p
  · simp only [hb, if_false, Bool.false_eq_true] at hc ⊢
    have H := Lib.hid hc; clear hc hb
    go_enter Try.func18, Try.ntmps18
    go_wp2_with (go_at_call 19; refine (H.out _).mono ?_; rintro e w' ⟨rfl, rfl⟩)
    go_ret2
    exact ⟨rfl, rfl⟩
  · have hu := run_strFrom (P := Try.prog) Try.underlying9 l p.length (hasPre_le hb)
    simp only [hb, if_true] at hc ⊢
    have H := Lib.hid hc; clear hc hb
    go_enter Try.func18, Try.ntmps18
    go_wp2_with (first | (go_at_call 19; refine (H.out _).mono ?_; rintro e w' ⟨rfl, rfl⟩) | refine wpList_slice (hu _) _ _ _ _ rfl rfl rfl rfl rfl rfl ?_)
    go_ret2
    exact ⟨rfl, rfl⟩
set_option maxHeartbeats 400000 in
theorem cut_c (l p : List UInt8) (hl : l.length ≤ maxLen) (hp : p.length ≤ maxLen) (w : World) :
    Calls Try.prog 17 #[.string ⟨l.toArray⟩, .string ⟨p.toArray⟩] w fun e w' => e = .returned (.tuple #[sv (cutPre l p), .bool (hasPre l p)]) ∧ w = w' := by
  have H := Lib.hid (liteCut_c l p hl hp)
  go_enter Try.func17, Try.ntmps17
  go_wp2_with (go_at_call 18; refine (H.out _).mono ?_; rintro e w' ⟨rfl, rfl⟩)
  go_ret2
  exact ⟨rfl, rfl⟩
set_option maxHeartbeats 400000 in
theorem strip_c (l : List UInt8) (hl : l.length ≤ maxLen) (w : World) :
    Calls Try.prog 15 #[.string ⟨l.toArray⟩] w fun e w' => e = .returned (.tuple #[sv (strip l), .bool (hasB l 3)]) ∧ w = w' := by
  have H := Lib.hid (cut_c l mark hl (by simp [mark, maxLen]))
  have e1 : strip l = cutPre l mark := rfl
  have e2 : hasB l 3 = hasPre l mark := rfl
  rw [e1, e2]
  clear e1 e2
  generalize cutPre l mark = a at H
  generalize hasPre l mark = b at H
  go_enter Try.func15, Try.ntmps15
  go_wp2_with (go_at_call 17; refine (H.out _).mono ?_; rintro e w' ⟨rfl, rfl⟩)
  go_ret2
  exact ⟨rfl, rfl⟩

theorem ok0 : (⟨0, false, false, false⟩ : St).ok := ⟨by simp, by simp, by simp⟩
theorem ok1 : (⟨1, false, false, false⟩ : St).ok := ⟨by simp, by simp, by simp⟩
theorem ok2 : (⟨2, false, false, false⟩ : St).ok := ⟨by simp, by simp, by simp⟩
theorem rd_one (w : World) (b : UInt8) (e : TypeId) : Rd (w.alloc (.cells #[bv b] e)) (w.heap.size + 1) 1 (.slice (some ⟨w.heap.size, 0, none⟩) 1 1) 1 ([b].map bv) :=
  ⟨_, _, rfl, by omega, by simp [maxLen], by simp, .inr ⟨w.heap.size, 0, rfl, by omega, fun j u hu => by
    match j, hu with
    | 0, hu => simp at hu; subst hu; simp⟩⟩

set_option maxHeartbeats 400000 in
theorem awake_c (w : World) : Calls Try.prog 7 #[] w fun e w' => e = .returned (.bool true) ∧ Below w.heap.size w w' := by
  go_enter Try.func7, Try.ntmps7
  go_wp2_with (fail)
  refine (new_c _).mono ?_
  rintro e w1 ⟨rfl, hw1⟩
  have hs1 : StAt w1 w.heap.size 40 [] [] ⟨0, false, false, false⟩ := ⟨by rw [← hw1]; exact Blk.new w _ _⟩
  have k1 : Keeps [w.heap.size] w w1 := by rw [← hw1]; exact Keeps.alloc _ w _
  have hz1 : w1.heap.size = w.heap.size + 1 := by rw [← hw1]; simp
  clear hw1
  have HZ1 := Lib.hid hz1; clear hz1
  go_wp2_with (fail)
  refine (feed_open w.heap.size 40 [] [] ⟨0, false, false, false⟩ ok0 _ _ [239] _ ⟨hs1.blk.alloc _⟩ rfl (rd_one w1 239 5) (.inr (by simp [blkOf, HZ1.out])) (by simp)).mono ?_
  rintro e w2 ⟨v2, rfl, hown2, hs2, k2⟩
  have hs2 : StAt w2 w.heap.size 40 [] [] ⟨1, false, false, false⟩ := hs2
  have k2 : Keeps [w.heap.size] w w2 := k1.trans ((Keeps.alloc [w.heap.size] w1 _).trans k2 (by simp)) (by simp)
  have l2 : w.heap.size < w2.heap.size := hs2.blk.lt
  obtain ⟨A2, c2, hv2, _⟩ := hown2.form
  subst hv2
  clear hown2 hs1 k1 HZ1
  go_wp2_with (fail)
  refine (feed_open w.heap.size 40 [] [] ⟨1, false, false, false⟩ ok1 _ _ [187] _ ⟨hs2.blk.alloc _⟩ rfl (rd_one w2 187 5) (.inr (by simp [blkOf]; omega)) (by simp)).mono ?_
  rintro e w3 ⟨v3, rfl, hown3, hs3, k3⟩
  have hs3 : StAt w3 w.heap.size 40 [] [] ⟨2, false, false, false⟩ := hs3
  have k3 : Keeps [w.heap.size] w w3 := k2.trans ((Keeps.alloc [w.heap.size] w2 _).trans k3 (by simp)) (by simp)
  have l3 : w.heap.size < w3.heap.size := hs3.blk.lt
  obtain ⟨A3, c3, hv3, _⟩ := hown3.form
  subst hv3
  clear hown3 hs2 k2 l2
  go_wp2_with (fail)
  refine (feed_open w.heap.size 40 [] [] ⟨2, false, false, false⟩ ok2 _ _ [65] _ ⟨hs3.blk.alloc _⟩ rfl (rd_one w3 65 5) (.inr (by simp [blkOf]; omega)) (by simp)).mono ?_
  rintro e w4 ⟨v4, rfl, hown4, hs4, k4⟩
  have k4 : Keeps [w.heap.size] w w4 := k3.trans ((Keeps.alloc [w.heap.size] w3 _).trans k4 (by simp)) (by simp)
  have hcv := run_toString (P := Try.prog) (l := [239, 187, 65]) (hown4.rd (Nat.le_refl _)) Try.underlying22 Try.underlying5 Try.underlying9
  have e2 : feedOut ⟨0, false, false, false⟩ [239] = [] := by decide
  have e3 : feedOut ⟨1, false, false, false⟩ [187] = [] := by decide
  rw [e2, e3]
  clear hown4 hs3 k3 l3 e2 e3 hs4
  go_wp2_with (refine wpList_convert hcv _ rfl rfl rfl ?_)
  go_ret
  exact ⟨rfl, k4.below (Nat.le_refl _) (by simp)⟩
end Go.Proofs.Ytglfjhbfibmfpaa.Bom
