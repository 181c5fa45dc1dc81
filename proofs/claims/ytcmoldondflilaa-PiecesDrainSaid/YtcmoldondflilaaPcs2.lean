/- The example of layer 11. -/
import Derived.Test.YtcmoldondflilaaPcs
namespace Go.Proofs.Ytcmoldondflilaa.Pcs
set_option linter.unusedVariables false
set_option linter.unusedSimpArgs false
set_option maxRecDepth 100000
open Go.RowKit Q Mach Dia WLine
open Tab (fieldsOf bytesOf bytesOfRow)
attribute [local go_sem ↓] Go.wp_at_zero Go.wp_at_succ
def exS : PSt := ⟨[97, 44, 98, 10], 1, 4, false⟩
theorem ex_put : putP ⟨44, 34, 1⟩ ⟨[], 0, 0, false⟩ [[97], [98]] = (exS, 0) := by unfold putP exS; decide
theorem ex_n2 : takeN exS 2 = 2 := by decide
theorem ex_t2 : takeP exS 2 = ⟨[98, 10], 1, 4, false⟩ := by unfold takeP; rfl
theorem ex_n9 : takeN ⟨[98, 10], 1, 4, false⟩ 9 = 2 := by decide
theorem ex_t9 : takeP ⟨[98, 10], 1, 4, false⟩ 9 = ⟨[], 1, 4, false⟩ := by unfold takeP; rfl
set_option maxHeartbeats 20000000 in
theorem awake11_c (w : World) : Calls Try.prog 28 #[] w fun e w' => e = .returned (.bool true) ∧ Keeps [] w w' := by
  have HN := Lib.hid (new_c ⟨44, 34, 1⟩ (by decide) w)
  go_enter Try.func28, Try.ntmps28
  go_wp2_with (fail)
  refine HN.out.mono ?_
  rintro e w1 ⟨g, rfl, hW, k1⟩
  have hb := (Blk.new w1 9 [.string ⟨#[97]⟩, .string ⟨#[98]⟩])
  have hrd : Rd (w1.alloc (.cells #[.string ⟨#[97]⟩, .string ⟨#[98]⟩] 9)) (w1.heap.size + 1) 1 (.slice (some ⟨w1.heap.size, 0, none⟩) 2 2) 2 ([[97], [98]].map sv) := rdc2 (by omega) (hb.cell_of (i := 0) rfl) (hb.cell_of (i := 1) rfl)
  have k1a := Keeps.alloc [] w1 (.cells #[.string ⟨#[97]⟩, .string ⟨#[98]⟩] 9)
  have HP := Lib.hid (put_c _ w.heap.size g ⟨44, 34, 1⟩ (by decide) ⟨[], 0, 0, false⟩ _ _ (hW.keep k1a) [[97], [98]] _ hrd (by simp) (by decide) (by decide) (by decide) (by decide) (by decide))
  rw [ex_put] at HP
  have HK := Lib.hid (k1.trans k1a (by simp))
  clear hW hb hrd k1 k1a HN
  go_wp2_with (fail)
  refine HP.out.mono ?_
  rintro e w2 ⟨rfl, v2, hW2, k2, _⟩
  dsimp only at hW2
  have HK2 : Hid (Keeps [] w w2) := Lib.hid (HK.out.trans k2 (by
    intro x hx hl
    simp only [blkOf, List.mem_cons, List.not_mem_nil, or_false] at hx
    subst hx
    have := hW2.low
    omega))
  have HT := Lib.hid (take_c w2 w.heap.size g ⟨44, 34, 1⟩ exS v2 hW2 2 (by omega) (by decide))
  clear hW2 k2 HP HK
  go_wp2_with (fail)
  refine HT.out.mono ?_
  rintro e w3 ⟨p3, v3, rfl, hp3, hW3, k3, _⟩
  rw [ex_n2] at hp3
  rw [ex_t2] at hW3
  have HK3 : Hid (Keeps [] w w3) := Lib.hid (HK2.out.trans k3 (by intro x hx hl; simp at hx; subst hx; have := hW3.low; omega))
  have HT9 := Lib.hid (take_c w3 w.heap.size g ⟨44, 34, 1⟩ _ v3 hW3 9 (by omega) (by decide))
  have hne : ∀ x ∈ blkOf p3, x ≠ g := hp3.apartBlk hW3.blk (by decide)
  clear hW3 k3 HT HK2
  go_wp2_with (fail)
  refine HT9.out.mono ?_
  rintro e w4 ⟨p4, v4, rfl, hp4, hW4, k4, _⟩
  rw [ex_n9] at hp4
  rw [ex_t9] at hW4
  have hp3' := hp3.keep k4 (fun x hx hm => by simp at hm; exact hne x hx hm)
  have HK4 : Hid (Keeps [] w w4) := Lib.hid (HK3.out.trans k4 (by intro x hx hl; simp at hx; subst hx; have := hW4.low; omega))
  have hs3 : (convert 60 9 p3).run Try.prog w4 = .ok (sv [97, 44]) w4 := run_toString (hp3'.rd (Nat.le_refl _)) Try.underlying60 Try.underlying5 Try.underlying9
  have hs4 : (convert 60 9 p4).run Try.prog w4 = .ok (sv [98, 10]) w4 := run_toString (hp4.rd (Nat.le_refl _)) Try.underlying60 Try.underlying5 Try.underlying9
  have HR := Lib.hid (ready_c hW4)
  have HTT := Lib.hid (total_c hW4)
  obtain ⟨A3, c3, rfl, _, _⟩ := hp3'.form
  obtain ⟨A4, c4, rfl, _, _⟩ := hp4.form
  clear hp3 hp3' hp4 hW4 k4 hne HK3 HT9
  go_wp2_with (first | (with_reducible refine wpList_convert hs3 _ rfl rfl rfl ?_) | (with_reducible refine wpList_convert hs4 _ rfl rfl rfl ?_))
  refine HR.out.mono ?_
  rintro e w5 ⟨rfl, rfl⟩
  go_wp2_with (fail)
  refine HTT.out.mono ?_
  rintro e w5 ⟨rfl, rfl⟩
  go_wp2_with (fail)
  go_ret
  exact ⟨rfl, HK4.out⟩
end Go.Proofs.Ytcmoldondflilaa.Pcs
