/- PROVED: for every table t, TableWidths(t) returns true and leaves its argument as it was. No condition. -/
import Derived.Test.YtnbeebagblkkfaaRows
import Derived.Test.YtnbeebagblkkfaaWidths
namespace Go.Proofs.Ytnbeebagblkkfaa.TableWidthsP
set_option linter.unusedVariables false
set_option linter.unusedSimpArgs false
open Go.ChangeShapes Go.WideShapes Go.ChangeAt Go.RowKit Q Tab Same

theorem own : ownKnob Try.prog.godebug = none := by kernel_rfl
theorem laidOut : laidOutB Try.prog = true := by kernel_rfl

set_option maxHeartbeats 400000 in
theorem walk (v : Value) (t : Tb) (w : World) (ht : Tbl w w.heap.size v t) (hs : Small t) :
    Calls Try.prog 4 #[v] w fun e w' => e = .returned (.bool true) ∧ Below w.heap.size w w' := by
  have HA := Lib.hid awake_c
  have HG := Lib.hid (great13_c v t w.heap.size w ht hs)
  have H1 := Lib.hid (fun m => widths_c v t w.heap.size (w.drewN m) (ht.drewN m))
  have H2 := Lib.hid (fun m => rwidths_c v t w.heap.size (w.drewN m) (ht.drewN m))
  have H3 := Lib.hid (fun m => even_c v t w.heap.size (w.drewN m) (ht.drewN m))
  have H4 := Lib.hid (fun m => reven_c v t w.heap.size (w.drewN m) (ht.drewN m))
  generalize widths true t 0 0 = p at *
  obtain ⟨x, y⟩ := p
  obtain ⟨A, ca, rfl, ha1, ha2⟩ := ht.form
  cases evenT t
  all_goals
    go_enter Try.func4, Try.ntmps4
    go_wp2_with (fail)
    refine HG.out.mono ?_
    rintro e w1 ⟨b, rfl, hb, m, rfl⟩
    cases b
    · go_wp2_with (fail)
      refine (H1.out _).mono ?_
      rintro e w1 ⟨rfl, rfl⟩
      go_wp2_with (fail)
      refine (H2.out _).mono ?_
      rintro e w1 ⟨rfl, rfl⟩
      go_wp2_with (fail)
      refine (H3.out _).mono ?_
      rintro e w1 ⟨rfl, rfl⟩
      go_wp2_with (fail)
      refine (H4.out _).mono ?_
      rintro e w1 ⟨rfl, rfl⟩
      go_wp2_with (fail)
      refine (HA.out _).mono ?_
      rintro e w4 ⟨rfl, hbel⟩
      go_wp2_with (fail)
      go_ret
      exact ⟨rfl, (below_of_drewN _ w m).trans hbel⟩
    · go_wp2_with (fail)
      refine (HA.out _).mono ?_
      rintro e w4 ⟨rfl, hbel⟩
      go_wp2_with (fail)
      go_ret
      exact ⟨rfl, (below_of_drewN _ w m).trans hbel⟩
set_option maxRecDepth 100000 in
theorem lifted (os : Os) (started : os.Started) (H : Type) (enc : TypeId × Value → H) :
    ReturnsInHanded {} Try.checked os 4 .any (Rows.tableWidthsSpec.pre6 enc Try.prog Try.f4 Rows.tableWidthsRow.domain false) (Rows.tableWidthsSpec.post enc Try.prog Try.f4 false true false false) := by
  refine returnsInHanded_of_change_sized (C := Try.checked) own started (by kernel_rfl) Try.func4
    (ChangeSpec.witness6 (enc := enc) (C := Try.checked) false ⟨#[], #[.slice none 0 0], []⟩ 8 (by kernel_rfl) (by kernel_rfl) (by kernel_rfl) (by kernel_rfl)) ?_
  intro W base args ds gs before hval0 hW hcnd hsz0 _
  have hval : ∀ (j : Nat) t v, Try.f4.params[j]? = some t → args[j]? = some v → Value.okWide Try.prog W .any base t v := hval0
  have hW' := hW
  obtain ⟨p, q, hA0, hV, rfl, hfz, hnd⟩ := hW
  have hA : DataW.TrodAll enc Try.prog W 0 (fun _ => true) true Try.f4.params.toList args.toList ds p := hA0
  have hsz : (DataW.weightsEach Try.prog (Try.f4.params.toList ++ Rows.tableWidthsSpec.plain.varTypes Try.prog) (ds ++ gs)).all (· ≤ reachBytes) = true := hsz0
  rw [Try.params4] at hA hval hsz
  obtain ⟨v0, vs0, d0, ds0, p0, q0, hargs, rfl, rfl, k0, r0⟩ := trodAll_cons hA
  obtain ⟨rfl, rfl, rfl⟩ := trodAll_nil r0
  obtain rfl : args = #[v0] := by cases args; simp_all
  obtain ⟨rfl, rfl⟩ := trodVars_none hV
  have lt0 := Trod_lt k0
  obtain ⟨tb0, rd0, hs0⟩ := Trod_tbl Try.underlying22 (by kernel_rfl) (of_decide_eq_true (by kernel_rfl)) Try.underlying33 Try.underlying9 (by kernel_rfl) (of_decide_eq_true (by kernel_rfl)) (hval 0 22 v0 rfl rfl) k0 (wt_of hsz (j := 0) rfl rfl)
  clear hA0 hval0 hsz0
  refine (walk v0 tb0 W rd0 hs0).mono fun e W' ⟨he, bel⟩ => ?_
  subst he
  exact ⟨_, rfl, _, _, _, [], _, [], hW', trodAll_mk1 (shut_bool Try.underlying4 _), (trodAll_cons_mk (Below.trod laidOut (by kernel_rfl) (of_decide_eq_true (by kernel_rfl)) k0 bel lt0) trodAll_mk0), rfl, bel.frame _, fun h => by cases h⟩

theorem proved : Rows.TableWidthsSaid :=
  OpenClaim.holds_of_wide 4 Try.f4 rfl rfl rfl rfl rfl rfl rfl ⟨rfl, rfl, rfl, rfl, rfl⟩ rfl rfl rfl rfl rfl (by kernel_rfl) Try.func4 (by kernel_rfl)
    (of_decide_eq_true (by kernel_rfl)) (by unfold Func.isWrapper; first | (rw [if_pos (by decide +kernel)]; kernel_rfl) | (rw [if_neg (by decide +kernel)]; exact ⟨rfl, rfl⟩))
    (fun os started H enc _ => lifted os started H enc)
end Go.Proofs.Ytnbeebagblkkfaa.TableWidthsP
namespace Go.Proofs.Ytnbeebagblkkfaa
theorem tableWidths_holds : Rows.TableWidthsSaid := TableWidthsP.proved
#print axioms tableWidths_holds
end Go.Proofs.Ytnbeebagblkkfaa
