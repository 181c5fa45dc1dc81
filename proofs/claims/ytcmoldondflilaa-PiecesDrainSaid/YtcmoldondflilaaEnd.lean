/- dialect.End. -/
import Derived.Test.YtcmoldondflilaaDia
namespace Go.Proofs.Ytcmoldondflilaa.Dia
set_option linter.unusedVariables false
set_option linter.unusedSimpArgs false
set_option maxRecDepth 100000
open Go.RowKit Q Mach

set_option maxHeartbeats 400000 in
theorem dend_c (d : Dia) (w : World) : Calls Try.prog 46 #[diaV d] w fun e w' => e = .returned (sv (if d.right then endB d.fin else [])) ∧ Keeps [] w w' := by
  have HC := Lib.hid (fun w => check_c d w)
  cases hr : d.right
  · rw [hr] at HC
    simp only [if_false, Bool.false_eq_true] at HC ⊢
    clear hr
    go_enter Try.func46, Try.ntmps46
    go_wp2_with (fail)
    refine (HC.out _).mono ?_
    rintro e w1 ⟨rfl, k1⟩
    go_wp2_with (fail)
    go_ret
    exact ⟨rfl, (Keeps.alloc [] w _).trans k1 (by simp)⟩
  · rw [hr] at HC
    simp only [if_true] at HC ⊢
    clear hr
    obtain ⟨x, y, z⟩ := d
    have hbx := Blk.new w 23 [bv x, bv y, .int .i64 z]
    show Calls _ _ _ _ fun e w' => e = .returned (sv (endB z)) ∧ _
    by_cases z2 : z = 2
    · subst z2
      go_enter Try.func46, Try.ntmps46
      go_wp2_with (fail)
      refine (HC.out _).mono ?_
      rintro e w1 ⟨rfl, k1⟩
      have c2 := (hbx.keep k1 (by simp)).cell 2
      simp only [List.getElem?_cons_zero, List.getElem?_cons_succ] at c2
      go_wp2_with (fail)
      go_ret
      exact ⟨rfl, (Keeps.alloc [] w _).trans k1 (by simp)⟩
    · have z2' : (z == 2) = false := by simpa using z2
      have e : endB z = [10] := by simp [endB, z2]
      rw [e]; clear e z2
      go_enter Try.func46, Try.ntmps46
      go_wp2_with (fail)
      refine (HC.out _).mono ?_
      rintro e w1 ⟨rfl, k1⟩
      have c2 := (hbx.keep k1 (by simp)).cell 2
      simp only [List.getElem?_cons_zero, List.getElem?_cons_succ] at c2
      go_wp2_with (fail)
      go_ret
      exact ⟨rfl, (Keeps.alloc [] w _).trans k1 (by simp)⟩

end Go.Proofs.Ytcmoldondflilaa.Dia
