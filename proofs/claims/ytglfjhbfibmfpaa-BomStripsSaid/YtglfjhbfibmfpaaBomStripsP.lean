/- PROVED: for every string s, BomStrips(s) returns true and leaves its argument as it was. No condition. -/
import Derived.Test.YtglfjhbfibmfpaaRows
import Derived.Test.YtglfjhbfibmfpaaBom2
import Derived.Test.YtglfjhbfibmfpaaOpen
namespace Go.Proofs.Ytglfjhbfibmfpaa.BomStripsP
set_option linter.unusedVariables false
set_option linter.unusedSimpArgs false
open Go.ChangeShapes Go.WideShapes Go.ChangeAt Go.RowKit Q Bom
open Go.ChangeMaps (open_string shut_string)

theorem own : ownKnob Try.prog.godebug = none := by kernel_rfl
theorem laidOut : laidOutB Try.prog = true := by kernel_rfl

set_option maxHeartbeats 400000 in
theorem walk (l : List UInt8) (hl : l.length ≤ maxLen) (w : World) :
    Calls Try.prog 5 #[.string ⟨l.toArray⟩] w fun e w' => e = .returned (.bool true) ∧ Below w.heap.size w w' := by
  have H1 := Lib.hid (strip_c l hl)
  have H2 := Lib.hid (rstrip_c l hl)
  have H3 := Lib.hid awake_c
  cases hb : hasB l 3
  all_goals
    have H1 := Lib.hid (strip_c l hl)
    have H2 := Lib.hid (rstrip_c l hl)
    rw [hb] at H1 H2
    simp only [if_true, if_false, Bool.false_eq_true] at H2
    generalize strip l = s at H1 H2
    clear hb
    go_enter Try.func5, Try.ntmps5
    go_wp2_with (first | (go_at_call 15; refine (H1.out _).mono ?_; rintro e w' ⟨rfl, rfl⟩) | (go_at_call 10; refine (H2.out _).mono ?_; rintro e w' ⟨rfl, m, rfl⟩) | (go_at_call 7; refine (H3.out _).mono ?_; rintro e w' ⟨rfl, hbel⟩))
    go_ret
    exact ⟨rfl, (below_of_drewN _ w m).trans hbel⟩
set_option maxRecDepth 100000 in
theorem lifted (os : Os) (started : os.Started) (H : Type) (enc : TypeId × Value → H) :
    ReturnsInHanded {} Try.checked os 5 .any (Rows.bomStripsSpec.pre6 enc Try.prog Try.f5 Rows.bomStripsRow.domain false) (Rows.bomStripsSpec.post enc Try.prog Try.f5 false true false false) := by
  refine returnsInHanded_of_change (C := Try.checked) own started (by kernel_rfl) Try.func5
    (ChangeSpec.witness6 (enc := enc) (C := Try.checked) false ⟨#[], #[.string .empty], []⟩ 8 (by kernel_rfl) (by kernel_rfl) (by kernel_rfl) (by kernel_rfl)) ?_
  intro W base args ds gs before hval0 hW hcnd _
  have hval : ∀ (j : Nat) t v, Try.f5.params[j]? = some t → args[j]? = some v → Value.okWide Try.prog W .any base t v := hval0
  have hW' := hW
  obtain ⟨p, q, hA0, hV, rfl, hfz, hnd⟩ := hW
  have hA : DataW.TrodAll enc Try.prog W 0 (fun _ => true) true Try.f5.params.toList args.toList ds p := hA0
  rw [Try.params5] at hA hval
  obtain ⟨v0, vs0, d0, ds0, p0, q0, hargs, rfl, rfl, k0, r0⟩ := trodAll_cons hA
  obtain ⟨rfl, rfl, rfl⟩ := trodAll_nil r0
  obtain rfl : args = #[v0] := by cases args; simp_all
  obtain ⟨rfl, rfl⟩ := trodVars_none hV
  have lt0 := Trod_lt k0
  obtain ⟨l0, rfl, hl0⟩ := Trod_str Try.underlying9 (hval 0 9 v0 rfl rfl) k0
  clear hA0 hval0
  refine (walk l0 hl0 W).mono fun e W' ⟨he, bel⟩ => ?_
  subst he
  exact ⟨_, rfl, _, _, _, [], _, [], hW', trodAll_mk1 (shut_bool Try.underlying4 _), (trodAll_cons_mk (Below.trod laidOut (by kernel_rfl) (of_decide_eq_true (by kernel_rfl)) k0 bel lt0) trodAll_mk0), rfl, bel.frame _, fun h => by cases h⟩

theorem proved : Rows.BomStripsSaid :=
  OpenClaim.holds_of_wide 5 Try.f5 rfl rfl rfl rfl rfl rfl rfl ⟨rfl, rfl, rfl, rfl, rfl⟩ rfl rfl rfl rfl rfl (by kernel_rfl) Try.func5 (by kernel_rfl)
    (of_decide_eq_true (by kernel_rfl)) (by unfold Func.isWrapper; first | (rw [if_pos (by decide +kernel)]; kernel_rfl) | (rw [if_neg (by decide +kernel)]; exact ⟨rfl, rfl⟩))
    (fun os started H enc _ => lifted os started H enc)
end Go.Proofs.Ytglfjhbfibmfpaa.BomStripsP
namespace Go.Proofs.Ytglfjhbfibmfpaa
theorem bomStrips_holds : Rows.BomStripsSaid := BomStripsP.proved
#print axioms bomStrips_holds
end Go.Proofs.Ytglfjhbfibmfpaa
