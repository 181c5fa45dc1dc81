/- PROVED: for every string s, DialectParses(s) returns true and leaves its argument as it was. No condition. -/
import Derived.Test.YtlcgdndaailjpaaRows
import Derived.Test.YtlcgdndaailjpaaDia5
import Derived.Test.YtlcgdndaailjpaaOpenD
import Derived.Test.YtlcgdndaailjpaaEq
namespace Go.Proofs.Ytlcgdndaailjpaa.DialectParsesP
set_option linter.unusedVariables false
set_option linter.unusedSimpArgs false
open Go.ChangeShapes Go.WideShapes Go.ChangeAt Go.RowKit Q Mach Dia Limits Eq_

theorem own : ownKnob Try.prog.godebug = none := by kernel_rfl
theorem laidOut : laidOutB Try.prog = true := by kernel_rfl

theorem parse_any (s : Bs) (hl : s.length ≤ 1000) (w : World) : Calls Try.prog 19 #[sv s] w (ParsePost s w) := by
  match s, hl with
  | [], _ => exact parse_short _ (by simp) w
  | [_], _ => exact parse_short _ (by simp) w
  | [_, _], _ => exact parse_short _ (by simp) w
  | [_, _, _], _ => exact parse_short _ (by simp) w
  | [_, _, _, _], _ => exact parse_short _ (by simp) w
  | [_, _, _, _, _], _ => exact parse_short _ (by simp) w
  | a :: b :: c :: d :: e :: f :: r, hl => exact parse_long a b c d e f r _ rfl hl w
theorem rparse_any (s : Bs) (hl : s.length ≤ 1000) (w : World) : Calls Try.prog 20 #[sv s] w (RParsePost s w) := by
  by_cases h : 8 ≤ s.length ∧ s.length ≤ 12
  · match s, h with
    | [], h => simp at h
    | [_], h => simp at h
    | [_, _], h => simp at h
    | [_, _, _], h => simp at h
    | [_, _, _, _], h => simp at h
    | [_, _, _, _, _], h => simp at h
    | a :: b :: c :: d :: e :: f :: r, h => exact rparse_c a b c d e f r _ rfl h.1 h.2 w
  · exact rparse_len s h hl w
/-- What is parsed has just that text. -/
theorem raw_text {s : Bs} {x y z : Nat} (h : parseRaw s = some (x, y, z)) : x < 256 ∧ y < 256 ∧ textB (dia3 x y z) = s := by
  match s, h with
  | a :: b :: c :: d :: e :: f :: r, h =>
    by_cases hcf : c = 32 ∧ f = 32
    · obtain ⟨rfl, rfl⟩ := hcf
      rw [raw_yes] at h
      cases hU : unspellO a b with
      | none => rw [hU] at h; cases h
      | some x' =>
        cases hV : unspellO d e with
        | none => rw [hU, hV] at h; cases h
        | some y' =>
          cases hE : endOfO r with
          | none => rw [hU, hV, hE] at h; cases h
          | some z' =>
            rw [hU, hV, hE] at h
            simp only [pr3, Option.some.injEq, Prod.mk.injEq] at h
            obtain ⟨rfl, rfl, rfl⟩ := h
            have hx := unspell_lt hU
            have hy := unspell_lt hV
            refine ⟨hx, hy, ?_⟩
            obtain ⟨_, rfl⟩ := endOf_word.1 hE
            unfold unspellO at hU hV
            cases h0 : unhex a with
            | none => simp [h0] at hU
            | some n0 =>
              cases h1 : unhex b with
              | none => simp [h0, h1] at hU
              | some n1 =>
                cases h2 : unhex d with
                | none => simp [h2] at hV
                | some n2 =>
                  cases h3 : unhex e with
                  | none => simp [h2, h3] at hV
                  | some n3 =>
                    simp [h0, h1] at hU
                    simp [h2, h3] at hV
                    subst hU hV
                    have q1 := unhex_lt h1
                    have q3 := unhex_lt h3
                    have q0 := unhex_lt h0
                    have q2 := unhex_lt h2
                    simp only [textB, dia3, spellB, UInt8.toNat_ofNat']
                    rw [show (16 * n0 + n1) % 2 ^ 8 / 16 = n0 by omega, show (16 * n0 + n1) % 2 ^ 8 % 16 = n1 by omega, show (16 * n2 + n3) % 2 ^ 8 / 16 = n2 by omega, show (16 * n2 + n3) % 2 ^ 8 % 16 = n3 by omega,
                      hexd_unhex h0, hexd_unhex h1, hexd_unhex h2, hexd_unhex h3]
                    rfl
    · rw [raw_no _ _ _ _ _ _ _ hcf] at h; cases h

set_option maxHeartbeats 4000000 in
theorem walk (s : Bs) (hl : s.length ≤ reachBytes) (w : World) : Calls Try.prog 5 #[sv s] w fun e w' => e = .returned (.bool true) ∧ Below w.heap.size w w' := by
  unfold reachBytes at hl
  have HA := Lib.hid awake_c
  have heq := eqDialect
  have heqr := eqRDialect
  by_cases h60 : 60 < s.length
  · go_enter Try.func5, Try.ntmps5
    go_wp2_with (fail)
    refine (HA.out _).mono ?_
    rintro e w1 ⟨rfl, k1⟩
    go_wp2_with (fail)
    go_ret
    exact ⟨rfl, k1.below (Nat.le_refl _) (by simp)⟩
  · have h60' : decide (60 < (s.length : Int)) = false := by simp; omega
    have HP := Lib.hid (fun w => parse_any s (by omega) w)
    have HR := Lib.hid (fun w => rparse_any s (by omega) w)
    unfold ParsePost at HP
    unfold RParsePost at HR
    cases hraw : parseRaw s with
    | none =>
      rw [hraw] at HP HR
      clear hraw
      go_enter Try.func5, Try.ntmps5
      go_wp2_with (fail)
      refine (HP.out _).mono ?_
      rintro e w1 ⟨rfl, k1⟩
      have hb1 := Blk.new w1 23 [.int .u8 0, .int .u8 0, .int .i64 0]
      have hk1 := k1.alloc1 (.cells #[.int .u8 0, .int .u8 0, .int .i64 0] 23)
      simp only [parseV, rparseV]
      go_wp2_with (fail)
      refine (HR.out _).mono ?_
      rintro e w2 ⟨rfl, k2⟩
      have hb2 := hb1.keep k2 (by simp)
      have hk2 := hk1.trans k2 (by simp)
      have hb3 := hb2.alloc (.cells #[.int .i64 0, .int .i64 0, .int .i64 0] 29)
      have hk3 := hk2.alloc1 (.cells #[.int .i64 0, .int .i64 0, .int .i64 0] 29)
      have c0 := hb3.cell 0
      have c1 := hb3.cell 1
      have c2 := hb3.cell 2
      simp only [List.getElem?_cons_zero, List.getElem?_cons_succ] at c0 c1 c2
      simp only [rparseV]
      go_wp2_with (fail)
      refine (HA.out _).mono ?_
      rintro e w3 ⟨rfl, k3⟩
      go_wp2_with (fail)
      go_ret
      exact ⟨rfl, (hk3.trans k3 (by simp)).below (Nat.le_refl _) (by simp)⟩
    | some p =>
      obtain ⟨x, y, z⟩ := p
      obtain ⟨hx, hy, htx⟩ := raw_text hraw
      rw [hraw] at HP HR
      clear hraw
      have hD : diaV (dia3 x y z) = .agg #[.int .u8 x, .int .u8 y, .int .i64 z] := by
        simp only [diaV, dia3, bv, UInt8.toNat_ofNat']
        rw [show x % 2 ^ 8 = x by omega, show y % 2 ^ 8 = y by omega]
      have hRD : rdiaV (dia3 x y z) = .agg #[.int .i64 x, .int .i64 y, .int .i64 z] := by
        simp only [rdiaV, dia3, UInt8.toNat_ofNat']
        rw [show x % 2 ^ 8 = x by omega, show y % 2 ^ 8 = y by omega]
      have HRR := Lib.hid (fun w => right_c (dia3 x y z) w)
      have HT := Lib.hid (fun w => text_c (dia3 x y z) w)
      have HRF := Lib.hid (fun w => ref_c (dia3 x y z) w)
      unfold TextPost at HT
      rw [htx] at HT
      rw [hRD] at HRR HRF
      rw [hD] at HT HRF
      have hpv : parseV (some (x, y, z)) = if (dia3 x y z).right then goodV x y z else badV := rfl
      have hrv : rparseV (some (x, y, z)) = .tuple #[.agg #[.int .i64 x, .int .i64 y, .int .i64 z], .bool true] := rfl
      rw [hpv] at HP
      rw [hrv] at HR
      clear hD hRD htx hpv hrv
      generalize (dia3 x y z).right = R at *
      cases R
      · simp only [if_false, Bool.false_eq_true] at HP HT
        go_enter Try.func5, Try.ntmps5
        go_wp2_with (fail)
        refine (HP.out _).mono ?_
        rintro e w1 ⟨rfl, k1⟩
        have hb1 := Blk.new w1 23 [.int .u8 0, .int .u8 0, .int .i64 0]
        have hk1 := k1.alloc1 (.cells #[.int .u8 0, .int .u8 0, .int .i64 0] 23)
        go_wp2_with (fail)
        refine (HR.out _).mono ?_
        rintro e w2 ⟨rfl, k2⟩
        have hb2 := hb1.keep k2 (by simp)
        have hk2 := hk1.trans k2 (by simp)
        have hb3 := hb2.alloc (.cells #[.int .i64 x, .int .i64 y, .int .i64 z] 29)
        have hk3 := hk2.alloc1 (.cells #[.int .i64 x, .int .i64 y, .int .i64 z] 29)
        go_wp2_with (fail)
        refine (HRR.out _).mono ?_
        rintro e w3 ⟨rfl, k3⟩
        have hb4 := hb3.keep k3 (by simp)
        have hk4 := hk3.trans k3 (by simp)
        have c0 := hb4.cell 0
        have c1 := hb4.cell 1
        have c2 := hb4.cell 2
        simp only [List.getElem?_cons_zero, List.getElem?_cons_succ] at c0 c1 c2
        go_wp2_with (fail)
        refine (HA.out _).mono ?_
        rintro e w4 ⟨rfl, k4⟩
        go_wp2_with (fail)
        go_ret
        exact ⟨rfl, (hk4.trans k4 (by simp)).below (Nat.le_refl _) (by simp)⟩
      · simp only [if_true] at HP HT
        go_enter Try.func5, Try.ntmps5
        go_wp2_with (fail)
        refine (HP.out _).mono ?_
        rintro e w1 ⟨rfl, k1⟩
        have hb1 := Blk.new w1 23 [.int .u8 x, .int .u8 y, .int .i64 z]
        have hk1 := k1.alloc1 (.cells #[.int .u8 x, .int .u8 y, .int .i64 z] 23)
        go_wp2_with (fail)
        refine (HR.out _).mono ?_
        rintro e w2 ⟨rfl, k2⟩
        have hb2 := hb1.keep k2 (by simp)
        have hk2 := hk1.trans k2 (by simp)
        have hb3 := hb2.alloc (.cells #[.int .i64 x, .int .i64 y, .int .i64 z] 29)
        have hr3 := Blk.new w2 29 [.int .i64 x, .int .i64 y, .int .i64 z]
        have hk3 := hk2.alloc1 (.cells #[.int .i64 x, .int .i64 y, .int .i64 z] 29)
        go_wp2_with (fail)
        refine (HRR.out _).mono ?_
        rintro e w3 ⟨rfl, k3⟩
        have hb4 := hb3.keep k3 (by simp)
        have hr4 := hr3.keep k3 (by simp)
        have hk4 := hk3.trans k3 (by simp)
        have c0 := hb4.cell 0
        have c1 := hb4.cell 1
        have c2 := hb4.cell 2
        simp only [List.getElem?_cons_zero, List.getElem?_cons_succ] at c0 c1 c2
        go_wp2_with (fail)
        refine (HT.out _).mono ?_
        rintro e w4 ⟨rfl, k4⟩
        have hb5 := hb4.keep k4 (by simp)
        have hr5 := hr4.keep k4 (by simp)
        have kk := hk4.trans k4 (by simp)
        have d0 := hb5.cell 0
        have d1 := hb5.cell 1
        have d2 := hb5.cell 2
        have d3 := hr5.cell 0
        have d4 := hr5.cell 1
        have d5 := hr5.cell 2
        simp only [List.getElem?_cons_zero, List.getElem?_cons_succ] at d0 d1 d2 d3 d4 d5
        have hlt := hb5.lt
        have hlt2 := hr5.lt
        have hss : (s == s) = true := by simp
        clear hb1 hb2 hb3 hb4 hb5 hr3 hr4 hr5 k1 k2 k3 k4 hk1 hk2 hk3 hk4 c0 c1 c2
        go_wp2_with (fail)
        go_region_held3 (fun w' => w'.cell? ⟨w1.heap.size, 0, none⟩ = some (.int .u8 x) ∧ w'.cell? ⟨w1.heap.size, 1, none⟩ = some (.int .u8 y) ∧ w'.cell? ⟨w1.heap.size, 2, none⟩ = some (.int .i64 z) ∧ w'.cell? ⟨w2.heap.size, 0, none⟩ = some (.int .i64 x) ∧ w'.cell? ⟨w2.heap.size, 1, none⟩ = some (.int .i64 y) ∧ w'.cell? ⟨w2.heap.size, 2, none⟩ = some (.int .i64 z) ∧ (w1.heap.size < w'.heap.size ∧ w2.heap.size < w'.heap.size) ∧ Keeps [] w w') (first | exact ⟨d0, d1, d2, d3, d4, d5, ⟨hlt, hlt2⟩, kk.drew1⟩ | exact ⟨d0, d1, d2, d3, d4, d5, ⟨hlt, hlt2⟩, kk⟩ | (go_split_ands; exact ⟨(hk.cell (p := ⟨w1.heap.size, 0, none⟩) (by assumption) (by simp)).trans (by assumption), (hk.cell (p := ⟨w1.heap.size, 1, none⟩) (by assumption) (by simp)).trans (by assumption), (hk.cell (p := ⟨w1.heap.size, 2, none⟩) (by assumption) (by simp)).trans (by assumption), (hk.cell (p := ⟨w2.heap.size, 0, none⟩) (by assumption) (by simp)).trans (by assumption), (hk.cell (p := ⟨w2.heap.size, 1, none⟩) (by assumption) (by simp)).trans (by assumption), (hk.cell (p := ⟨w2.heap.size, 2, none⟩) (by assumption) (by simp)).trans (by assumption), ⟨Nat.lt_of_lt_of_le (by assumption) hk.size, Nat.lt_of_lt_of_le (by assumption) hk.size⟩, Keeps.trans (by assumption) hk (by simp)⟩)) (first | (go_at_call 9; refine (HRF.out _).mono ?_; rintro e w' ⟨rfl, hk⟩) | (go_at_call 12; refine (HA.out _).mono ?_; rintro e w' ⟨rfl, hk⟩))
        all_goals
          go_wp2_with (fail)
          go_ret
          refine ⟨rfl, Keeps.below (F := []) ?_ (Nat.le_refl _) (by simp)⟩
          go_split_ands
          assumption
set_option maxRecDepth 100000 in
theorem lifted (os : Os) (started : os.Started) (H : Type) (enc : TypeId × Value → H) :
    ReturnsInHanded {} Try.checked os 5 .any (Rows.dialectParsesSpec.pre6 enc Try.prog Try.f5 Rows.dialectParsesRow.domain false) (Rows.dialectParsesSpec.post enc Try.prog Try.f5 false true false false) := by
  refine returnsInHanded_of_change_sized (C := Try.checked) own started (by kernel_rfl) Try.func5
    (ChangeSpec.witness6 (enc := enc) (C := Try.checked) false ⟨#[], #[.string .empty], []⟩ 8 (by kernel_rfl) (by kernel_rfl) (by kernel_rfl) (by kernel_rfl)) ?_
  intro W base args ds gs before hval0 hW hcnd hsz0 _
  have hval : ∀ (j : Nat) t v, Try.f5.params[j]? = some t → args[j]? = some v → Value.okWide Try.prog W .any base t v := hval0
  have hW' := hW
  obtain ⟨p, q, hA0, hV, rfl, hfz, hnd⟩ := hW
  have hA : DataW.TrodAll enc Try.prog W 0 (fun _ => true) true Try.f5.params.toList args.toList ds p := hA0
  have hsz : (DataW.weightsEach Try.prog (Try.f5.params.toList ++ Rows.dialectParsesSpec.plain.varTypes Try.prog) (ds ++ gs)).all (· ≤ reachBytes) = true := hsz0
  rw [Try.params5] at hA hval hsz
  obtain ⟨v0, vs0, d0, ds0, p0, q0, hargs, rfl, rfl, k0, r0⟩ := trodAll_cons hA
  obtain ⟨rfl, rfl, rfl⟩ := trodAll_nil r0
  obtain rfl : args = #[v0] := by cases args; simp_all
  obtain ⟨rfl, rfl⟩ := trodVars_none hV
  have lt0 := Trod_lt k0
  obtain ⟨l0, rfl, hl0⟩ := Trod_str Try.underlying9 (hval 0 9 v0 rfl rfl) k0 (wt_of hsz (j := 0) rfl rfl)
  clear hA0 hval0 hsz0
  refine (walk l0 hl0 W).mono fun e W' ⟨he, bel⟩ => ?_
  subst he
  exact ⟨_, rfl, _, _, _, [], _, [], hW', trodAll_mk1 (shut_bool Try.underlying4 _), (trodAll_cons_mk (Below.trod laidOut (by kernel_rfl) (of_decide_eq_true (by kernel_rfl)) k0 bel lt0) trodAll_mk0), rfl, bel.frame _, fun h => by cases h⟩

theorem proved : Rows.DialectParsesSaid :=
  OpenClaim.holds_of_wide 5 Try.f5 rfl rfl rfl rfl rfl rfl rfl ⟨rfl, rfl, rfl, rfl, rfl⟩ rfl rfl rfl rfl rfl (by kernel_rfl) Try.func5 (by kernel_rfl)
    (of_decide_eq_true (by kernel_rfl)) (by unfold Func.isWrapper; first | (rw [if_pos (by decide +kernel)]; kernel_rfl) | (rw [if_neg (by decide +kernel)]; exact ⟨rfl, rfl⟩))
    (fun os started H enc _ => lifted os started H enc)
end Go.Proofs.Ytlcgdndaailjpaa.DialectParsesP
namespace Go.Proofs.Ytlcgdndaailjpaa
theorem dialectParses_holds : Rows.DialectParsesSaid := DialectParsesP.proved
#print axioms dialectParses_holds
end Go.Proofs.Ytlcgdndaailjpaa
