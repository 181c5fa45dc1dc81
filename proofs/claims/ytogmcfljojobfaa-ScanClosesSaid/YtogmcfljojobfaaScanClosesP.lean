/- PROVED: for every byte state, ScanCloses(state) returns true. No condition. -/
import Derived.Test.YtogmcfljojobfaaRows
import Derived.Test.YtogmcfljojobfaaAwake4
import Derived.Test.YtogmcfljojobfaaOpenD
namespace Go.Proofs.Ytogmcfljojobfaa.ScanClosesP
set_option linter.unusedVariables false
set_option linter.unusedSimpArgs false
open Go.ChangeShapes Go.WideShapes Go.ChangeAt Go.RowKit Q Mach Dia Scan Ref4 Eq_
attribute [local go_sem ↓] Go.wp_at_zero Go.wp_at_succ

theorem own : ownKnob Try.prog.godebug = none := by kernel_rfl
theorem laidOut : laidOutB Try.prog = true := by kernel_rfl
theorem mod7 (n : Nat) : ((n : Int) % 7) = ((n % 7 : Nat) : Int) := by omega

set_option maxHeartbeats 1000000 in
theorem walk (b : UInt8) (w : World) : Calls Try.prog 7 #[bv b] w fun e w' => e = .returned (.bool true) ∧ Below w.heap.size w w' := by
  have hw := wrap_u8 b
  have hm := mod7 b.toNat
  have hst : b.toNat % 7 ≤ 6 := by omega
  have hst0 : 0 ≤ ((b.toNat % 7 : Nat) : Int) := by omega
  generalize b.toNat % 7 = st at *
  have HC := Lib.hid (fun w => close_c st hst w)
  have HR := Lib.hid (fun w => rclose_c st hst w)
  have HA := Lib.hid awake4_c
  obtain ⟨⟨⟨e1, e2, e3, e4, e5, e6⟩, r⟩, hX⟩ : ∃ X, closeEv st = X := ⟨_, rfl⟩
  rw [hX] at HC HR
  clear hX
  simp only [closeV, rcloseV] at HC HR
  have HL := Lib.hid (fun w => lref_c ⟨e1, e2, e3, e4, e5, e6⟩ w)
  have heq := fun w => eqREvent (Ref4.one e1) (Ref4.one e2) (Ref4.one e3) (Ref4.one e4) (Ref4.one e5) e6.toNat (Ref4.one e1) (Ref4.one e2) (Ref4.one e3) (Ref4.one e4) (Ref4.one e5) e6.toNat w
  simp only [beq_self_eq_true, Bool.and_self] at heq
  have hrr : ((r : Int) == (r : Int)) = true := by simp
  go_enter Try.func7, Try.ntmps7
  go_wp2_with (fail)
  refine (HC.out _).mono ?_
  rintro e w1 ⟨rfl, k1⟩
  go_wp2_with (fail)
  refine (HR.out _).mono ?_
  rintro e w2 ⟨rfl, k2⟩
  have hb := ((Blk.new w1 38 [.bool e1, .bool e2, .bool e3, .bool e4, .bool e5, bv e6]).keep k2 (by simp)).alloc (.cells #[.int .i64 (Ref4.one e1), .int .i64 (Ref4.one e2), .int .i64 (Ref4.one e3), .int .i64 (Ref4.one e4), .int .i64 (Ref4.one e5), .int .i64 e6.toNat] 44)
  have hc := Blk.new w2 44 [.int .i64 (Ref4.one e1), .int .i64 (Ref4.one e2), .int .i64 (Ref4.one e3), .int .i64 (Ref4.one e4), .int .i64 (Ref4.one e5), .int .i64 e6.toNat]
  have kk := ((k1.alloc1 (.cells #[.bool e1, .bool e2, .bool e3, .bool e4, .bool e5, bv e6] 38)).trans k2 (by simp)).alloc1 (.cells #[.int .i64 (Ref4.one e1), .int .i64 (Ref4.one e2), .int .i64 (Ref4.one e3), .int .i64 (Ref4.one e4), .int .i64 (Ref4.one e5), .int .i64 e6.toNat] 44)
  go_wp2_with (fail)
  have hsz : w1.heap.size < w2.heap.size := by have := k2.size; simp at this; omega
  have hlt2 := hc.lt
  have hlt1 := hb.lt
  generalize hW : w2.alloc (.cells #[.int .i64 (Ref4.one e1), .int .i64 (Ref4.one e2), .int .i64 (Ref4.one e3), .int .i64 (Ref4.one e4), .int .i64 (Ref4.one e5), .int .i64 e6.toNat] 44) = w3 at *
  change Blk w3 _ _ _ at hc
  change w2.heap.size < w3.heap.size at hlt2
  have b0 := hb.cell_of (i := 0) rfl
  have b1 := hb.cell_of (i := 1) rfl
  have b2 := hb.cell_of (i := 2) rfl
  have b3 := hb.cell_of (i := 3) rfl
  have b4 := hb.cell_of (i := 4) rfl
  have b5 := hb.cell_of (i := 5) rfl
  have c0 := hc.cell_of (i := 0) rfl
  have c1 := hc.cell_of (i := 1) rfl
  have c2 := hc.cell_of (i := 2) rfl
  have c3 := hc.cell_of (i := 3) rfl
  have c4 := hc.cell_of (i := 4) rfl
  have c5 := hc.cell_of (i := 5) rfl
  clear hb hc k1 k2 hW
  have HS := fun w' (hb : Below (w3.heap.size) (w3) w') => ((⟨(hb.cell (p := ⟨w1.heap.size, 0, none⟩) (hlt1)).trans (b0), (hb.cell (p := ⟨w1.heap.size, 1, none⟩) (hlt1)).trans (b1), (hb.cell (p := ⟨w1.heap.size, 2, none⟩) (hlt1)).trans (b2), (hb.cell (p := ⟨w1.heap.size, 3, none⟩) (hlt1)).trans (b3), (hb.cell (p := ⟨w1.heap.size, 4, none⟩) (hlt1)).trans (b4), (hb.cell (p := ⟨w1.heap.size, 5, none⟩) (hlt1)).trans (b5), (hb.cell (p := ⟨w2.heap.size, 0, none⟩) (hlt2)).trans (c0), (hb.cell (p := ⟨w2.heap.size, 1, none⟩) (hlt2)).trans (c1), (hb.cell (p := ⟨w2.heap.size, 2, none⟩) (hlt2)).trans (c2), (hb.cell (p := ⟨w2.heap.size, 3, none⟩) (hlt2)).trans (c3), (hb.cell (p := ⟨w2.heap.size, 4, none⟩) (hlt2)).trans (c4), (hb.cell (p := ⟨w2.heap.size, 5, none⟩) (hlt2)).trans (c5), hb⟩) : w'.cell? ⟨w1.heap.size, 0, none⟩ = some (.bool e1) ∧ w'.cell? ⟨w1.heap.size, 1, none⟩ = some (.bool e2) ∧ w'.cell? ⟨w1.heap.size, 2, none⟩ = some (.bool e3) ∧ w'.cell? ⟨w1.heap.size, 3, none⟩ = some (.bool e4) ∧ w'.cell? ⟨w1.heap.size, 4, none⟩ = some (.bool e5) ∧ w'.cell? ⟨w1.heap.size, 5, none⟩ = some (bv e6) ∧ w'.cell? ⟨w2.heap.size, 0, none⟩ = some (.int .i64 (Ref4.one e1)) ∧ w'.cell? ⟨w2.heap.size, 1, none⟩ = some (.int .i64 (Ref4.one e2)) ∧ w'.cell? ⟨w2.heap.size, 2, none⟩ = some (.int .i64 (Ref4.one e3)) ∧ w'.cell? ⟨w2.heap.size, 3, none⟩ = some (.int .i64 (Ref4.one e4)) ∧ w'.cell? ⟨w2.heap.size, 4, none⟩ = some (.int .i64 (Ref4.one e5)) ∧ w'.cell? ⟨w2.heap.size, 5, none⟩ = some (.int .i64 e6.toNat) ∧ Below (w3.heap.size) (w3) w')
  have HSb : w3.heap.size ≤ (w3).heap.size := Nat.le_refl _
  go_region_held3 (fun w' => w'.cell? ⟨w1.heap.size, 0, none⟩ = some (.bool e1) ∧ w'.cell? ⟨w1.heap.size, 1, none⟩ = some (.bool e2) ∧ w'.cell? ⟨w1.heap.size, 2, none⟩ = some (.bool e3) ∧ w'.cell? ⟨w1.heap.size, 3, none⟩ = some (.bool e4) ∧ w'.cell? ⟨w1.heap.size, 4, none⟩ = some (.bool e5) ∧ w'.cell? ⟨w1.heap.size, 5, none⟩ = some (bv e6) ∧ w'.cell? ⟨w2.heap.size, 0, none⟩ = some (.int .i64 (Ref4.one e1)) ∧ w'.cell? ⟨w2.heap.size, 1, none⟩ = some (.int .i64 (Ref4.one e2)) ∧ w'.cell? ⟨w2.heap.size, 2, none⟩ = some (.int .i64 (Ref4.one e3)) ∧ w'.cell? ⟨w2.heap.size, 3, none⟩ = some (.int .i64 (Ref4.one e4)) ∧ w'.cell? ⟨w2.heap.size, 4, none⟩ = some (.int .i64 (Ref4.one e5)) ∧ w'.cell? ⟨w2.heap.size, 5, none⟩ = some (.int .i64 e6.toNat) ∧ Below (w3.heap.size) (w3) w') (((try go_split_ands); (with_reducible apply HS); first | (with_reducible assumption) | (with_reducible (apply bC HSb k1; assumption)) | (with_reducible (apply bAA HSl; assumption)) | (repeat (first | (with_reducible assumption) | (with_reducible apply Below.refl) | (with_reducible apply bS (hp := HSb)) | (with_reducible apply bA HSb) | (with_reducible apply bD))))) (first | ((go_at_call 15; refine (HL.out _).mono ?_; rintro e w4 ⟨rfl, k1⟩)) | ((go_at_call 23; refine (HA.out _).mono ?_; rintro e w4 ⟨rfl, k1⟩)))
  go_split_ands
  go_wp2_with (fail)
  go_ret
  exact ⟨rfl, (kk.below (Nat.le_refl _) (by simp)).trans ((by assumption : Below w3.heap.size w3 w4).mono kk.size)⟩
set_option maxRecDepth 100000 in
theorem lifted (os : Os) (started : os.Started) (H : Type) (enc : TypeId × Value → H) :
    ReturnsInHanded {} Try.checked os 7 .any (Rows.scanClosesSpec.pre6 enc Try.prog Try.f7 Rows.scanClosesRow.domain false) (Rows.scanClosesSpec.post enc Try.prog Try.f7 false true false false) := by
  refine returnsInHanded_of_change_sized (C := Try.checked) own started (by kernel_rfl) Try.func7
    (ChangeSpec.witness6 (enc := enc) (C := Try.checked) false ⟨#[], #[.int .u8 0], []⟩ 8 (by kernel_rfl) (by kernel_rfl) (by kernel_rfl) (by kernel_rfl)) ?_
  intro W base args ds gs before hval0 hW hcnd hsz0 _
  have hval : ∀ (j : Nat) t v, Try.f7.params[j]? = some t → args[j]? = some v → Value.okWide Try.prog W .any base t v := hval0
  have hW' := hW
  obtain ⟨p, q, hA0, hV, rfl, hfz, hnd⟩ := hW
  have hA : DataW.TrodAll enc Try.prog W 0 (fun _ => true) true Try.f7.params.toList args.toList ds p := hA0
  have hsz : (DataW.weightsEach Try.prog (Try.f7.params.toList ++ Rows.scanClosesSpec.plain.varTypes Try.prog) (ds ++ gs)).all (· ≤ reachBytes) = true := hsz0
  rw [Try.params7] at hA hval hsz
  obtain ⟨v0, vs0, d0, ds0, p0, q0, hargs, rfl, rfl, k0, r0⟩ := trodAll_cons hA
  obtain ⟨rfl, rfl, rfl⟩ := trodAll_nil r0
  obtain rfl : args = #[v0] := by cases args; simp_all
  obtain ⟨rfl, rfl⟩ := trodVars_none hV
  have lt0 := Trod_lt k0
  obtain ⟨b0, rfl⟩ := Trod_u8 Try.underlying5 (hval 0 5 v0 rfl rfl) k0
  clear hA0 hval0 hsz0
  refine (walk b0 W).mono fun e W' ⟨he, bel⟩ => ?_
  subst he
  exact ⟨_, rfl, _, _, _, [], _, [], hW', trodAll_mk1 (shut_bool Try.underlying4 _), (trodAll_cons_mk (Below.trod laidOut (by kernel_rfl) (of_decide_eq_true (by kernel_rfl)) k0 bel lt0) trodAll_mk0), rfl, bel.frame _, fun h => by cases h⟩

theorem proved : Rows.ScanClosesSaid :=
  OpenClaim.holds_of_wide 7 Try.f7 rfl rfl rfl rfl rfl rfl rfl ⟨rfl, rfl, rfl, rfl, rfl⟩ rfl rfl rfl rfl rfl (by kernel_rfl) Try.func7 (by kernel_rfl)
    (of_decide_eq_true (by kernel_rfl)) (by unfold Func.isWrapper; first | (rw [if_pos (by decide +kernel)]; kernel_rfl) | (rw [if_neg (by decide +kernel)]; exact ⟨rfl, rfl⟩))
    (fun os started H enc _ => lifted os started H enc)
end Go.Proofs.Ytogmcfljojobfaa.ScanClosesP
namespace Go.Proofs.Ytogmcfljojobfaa
theorem scanCloses_holds : Rows.ScanClosesSaid := ScanClosesP.proved
#print axioms scanCloses_holds
end Go.Proofs.Ytogmcfljojobfaa
