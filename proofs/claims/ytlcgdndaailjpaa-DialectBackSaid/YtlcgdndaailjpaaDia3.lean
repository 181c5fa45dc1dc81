/- dialect.End, dialect.Wide and the document's example of layer 1. -/
import Derived.Test.YtlcgdndaailjpaaDia2
import Derived.Test.YtlcgdndaailjpaaLimits
namespace Go.Proofs.Ytlcgdndaailjpaa.Dia
set_option linter.unusedVariables false
set_option linter.unusedSimpArgs false
open Go.RowKit Q Mach Limits

set_option maxHeartbeats 400000 in
theorem dend_c (d : Dia) (w : World) : Calls Try.prog 11 #[diaV d] w fun e w' => e = .returned (sv (if d.right then endB d.fin else [])) ∧ Keeps [] w w' := by
  have HC := Lib.hid (fun w => check_c d w)
  cases hr : d.right
  · rw [hr] at HC
    simp only [if_false, Bool.false_eq_true] at HC ⊢
    clear hr
    go_enter Try.func11, Try.ntmps11
    go_wp2_with (fail)
    refine (HC.out _).mono ?_
    rintro e w1 ⟨rfl, k1⟩
    go_wp2_with (fail)
    go_ret
    exact ⟨rfl, (Keeps.alloc [] w _).trans k1 (by simp)⟩
  · rw [hr] at HC
    simp only [if_true] at HC ⊢
    clear hr
    obtain ⟨x, y, z⟩ := d
    have hbx := Blk.new w 23 [bv x, bv y, .int .i64 z]
    show Calls _ _ _ _ fun e w' => e = .returned (sv (endB z)) ∧ _
    by_cases z2 : z = 2
    · subst z2
      go_enter Try.func11, Try.ntmps11
      go_wp2_with (fail)
      refine (HC.out _).mono ?_
      rintro e w1 ⟨rfl, k1⟩
      have c2 := (hbx.keep k1 (by simp)).cell 2
      simp only [List.getElem?_cons_zero, List.getElem?_cons_succ] at c2
      go_wp2_with (fail)
      go_ret
      exact ⟨rfl, (Keeps.alloc [] w _).trans k1 (by simp)⟩
    · have z2' : (z == 2) = false := by simpa using z2
      have e : endB z = [10] := by simp [endB, z2]
      rw [e]; clear e z2
      go_enter Try.func11, Try.ntmps11
      go_wp2_with (fail)
      refine (HC.out _).mono ?_
      rintro e w1 ⟨rfl, k1⟩
      have c2 := (hbx.keep k1 (by simp)).cell 2
      simp only [List.getElem?_cons_zero, List.getElem?_cons_succ] at c2
      go_wp2_with (fail)
      go_ret
      exact ⟨rfl, (Keeps.alloc [] w _).trans k1 (by simp)⟩

theorem ex_text : (if Dia.right ⟨44, 34, 2⟩ then textB ⟨44, 34, 2⟩ else []) = [50, 99, 32, 50, 50, 32, 99, 114, 108, 102] := by decide
theorem ex_right : Dia.right ⟨44, 34, 2⟩ = true := by decide
set_option maxHeartbeats 400000 in
theorem awake_c (w : World) : Calls Try.prog 12 #[] w fun e w' => e = .returned (.bool true) ∧ Keeps [] w w' := by
  have HT := Lib.hid (fun w => text_c ⟨44, 34, 2⟩ w)
  go_enter Try.func12, Try.ntmps12
  go_wp2_with (fail)
  refine (HT.out _).mono ?_
  rintro e w1 ⟨he, k1⟩
  rw [ex_text, ex_right] at he
  subst he
  go_wp2_with (fail)
  go_ret
  exact ⟨rfl, k1⟩
set_option maxHeartbeats 400000 in
theorem wide_c (w : World) : Calls Try.prog 17 #[] w fun e w' => e = .returned (limV 2147483648 2147483648 2147483648 false) ∧ Keeps [] w w' := by
  go_enter Try.func17, Try.ntmps17
  go_wp2_with (fail)
  refine bodyPost_ret (v := limV 2147483648 2147483648 2147483648 false) (by simp [results, Try.results17, go_sem]) rfl ⟨rfl, ?_⟩
  exact (Keeps.refl [] w).alloc1 _
end Go.Proofs.Ytlcgdndaailjpaa.Dia
