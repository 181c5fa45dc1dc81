/- PROVED: for all dialects a and b, DialectBack(a, b) returns true and leaves its arguments as they were. No condition. -/
import Derived.Test.YtlcgdndaailjpaaDialectParsesP
namespace Go.Proofs.Ytlcgdndaailjpaa.DialectBackP
set_option linter.unusedVariables false
set_option linter.unusedSimpArgs false
open Go.ChangeShapes Go.WideShapes Go.ChangeAt Go.RowKit Q Mach Dia Limits Eq_

theorem own : ownKnob Try.prog.godebug = none := by kernel_rfl
theorem laidOut : laidOutB Try.prog = true := by kernel_rfl
theorem right_fin {d : Dia} (h : d.right = true) : 1 ≤ d.fin ∧ d.fin ≤ 3 := by
  have : rightFin d.fin = true := by simp [Dia.right] at h; exact h.2
  simp [rightFin] at this
  omega
theorem raw_of_text {d : Dia} (h : d.right = true) : parseRaw (textB d) = some (d.delim.toNat, d.quote.toNat, d.fin.toNat) := by
  obtain ⟨x, y, z⟩ := d
  have hz := right_fin h
  obtain ⟨zn, rfl⟩ : ∃ zn : Nat, z = zn := ⟨z.toNat, by simp at hz; omega⟩
  have hx := x.toNat_lt
  have hy := y.toNat_lt
  have e1 : unspellO (hexd (x.toNat / 16)) (hexd (x.toNat % 16)) = some x.toNat := by
    simp only [unspellO, unhex_hexd (show x.toNat / 16 < 16 by omega), unhex_hexd (show x.toNat % 16 < 16 by omega)]
    congr 1
    omega
  have e2 : unspellO (hexd (y.toNat / 16)) (hexd (y.toNat % 16)) = some y.toNat := by
    simp only [unspellO, unhex_hexd (show y.toNat / 16 < 16 by omega), unhex_hexd (show y.toNat % 16 < 16 by omega)]
    congr 1
    omega
  have e3 : endOfO (wordB zn) = some zn := endOf_word.2 ⟨by simp at hz; omega, rfl⟩
  show parseRaw (hexd (x.toNat / 16) :: hexd (x.toNat % 16) :: 32 :: hexd (y.toNat / 16) :: hexd (y.toNat % 16) :: 32 :: wordB zn) = _
  rw [raw_yes, e1, e2, e3]
  simp [pr3]
theorem text_inj {a b : Dia} (ha : a.right = true) (hb : b.right = true) (h : textB a = textB b) : a = b := by
  have h1 := raw_of_text ha
  rw [h, raw_of_text hb] at h1
  simp only [Option.some.injEq, Prod.mk.injEq] at h1
  have f1 := right_fin ha
  have f2 := right_fin hb
  obtain ⟨x, y, z⟩ := a
  obtain ⟨x', y', z'⟩ := b
  simp at h1 f1 f2
  obtain ⟨h3, h4, h5⟩ := h1
  have e1 := UInt8.toNat_inj.1 h3
  have e2 := UInt8.toNat_inj.1 h4
  subst e1 e2
  have : z = z' := by omega
  subst this
  rfl
theorem text_le (d : Dia) : (textB d).length ≤ 12 := by
  have := word_len d.fin
  simp [textB, spellB]
  omega
set_option maxHeartbeats 4000000 in
theorem walk (a b : Dia) (w : World) : Calls Try.prog 6 #[diaV a, diaV b] w fun e w' => e = .returned (.bool true) ∧ Below w.heap.size w w' := by
  have HA := Lib.hid awake_c
  have heq := eqDialect
  have HTA := Lib.hid (fun w => text_c a w)
  have HTB := Lib.hid (fun w => text_c b w)
  unfold TextPost at HTA HTB
  have k0 := (Keeps.alloc [] w (.cells #[bv a.delim, bv a.quote, .int .i64 a.fin] 23)).alloc1 (.cells #[bv b.delim, bv b.quote, .int .i64 b.fin] 23)
  have ba := (Blk.new w 23 [bv a.delim, bv a.quote, .int .i64 a.fin]).alloc (.cells #[bv b.delim, bv b.quote, .int .i64 b.fin] 23)
  have bb := Blk.new (w.alloc (.cells #[bv a.delim, bv a.quote, .int .i64 a.fin] 23)) 23 [bv b.delim, bv b.quote, .int .i64 b.fin]
  rw [show (w.alloc (.cells #[bv a.delim, bv a.quote, .int .i64 a.fin] 23)).heap.size = w.heap.size + 1 by simp] at bb
  cases hra : a.right
  · rw [hra] at HTA
    simp only [if_false, Bool.false_eq_true] at HTA
    clear hra
    generalize (if b.right = true then textB b else []) = T at *
    generalize (if b.right = true then (0 : Int) else 1) = N at *
    obtain ⟨x, y, z⟩ := a
    obtain ⟨x', y', z'⟩ := b
    go_enter Try.func6, Try.ntmps6
    go_wp2_with (fail)
    refine (HTA.out _).mono ?_
    rintro e w1 ⟨rfl, k1⟩
    have bb1 := bb.keep k1 (by simp)
    have c0 := bb1.cell 0
    have c1 := bb1.cell 1
    have c2 := bb1.cell 2
    simp only [List.getElem?_cons_zero, List.getElem?_cons_succ] at c0 c1 c2
    go_wp2_with (fail)
    refine (HTB.out _).mono ?_
    rintro e w2 ⟨rfl, k2⟩
    go_wp2_with (fail)
    refine (HA.out _).mono ?_
    rintro e w3 ⟨rfl, k3⟩
    go_wp2_with (fail)
    go_ret
    exact ⟨rfl, (((k0.trans k1 (by simp)).trans k2 (by simp)).trans k3 (by simp)).below (Nat.le_refl _) (by simp)⟩
  · cases hrb : b.right
    · rw [hra] at HTA
      rw [hrb] at HTB
      simp only [if_false, if_true, Bool.false_eq_true] at HTA HTB
      clear hra hrb
      generalize textB a = S at *
      obtain ⟨x, y, z⟩ := a
      obtain ⟨x', y', z'⟩ := b
      go_enter Try.func6, Try.ntmps6
      go_wp2_with (fail)
      refine (HTA.out _).mono ?_
      rintro e w1 ⟨rfl, k1⟩
      have bb1 := bb.keep k1 (by simp)
      have c0 := bb1.cell 0
      have c1 := bb1.cell 1
      have c2 := bb1.cell 2
      simp only [List.getElem?_cons_zero, List.getElem?_cons_succ] at c0 c1 c2
      go_wp2_with (fail)
      refine (HTB.out _).mono ?_
      rintro e w2 ⟨rfl, k2⟩
      go_wp2_with (fail)
      refine (HA.out _).mono ?_
      rintro e w3 ⟨rfl, k3⟩
      go_wp2_with (fail)
      go_ret
      exact ⟨rfl, (((k0.trans k1 (by simp)).trans k2 (by simp)).trans k3 (by simp)).below (Nat.le_refl _) (by simp)⟩
    · have hla := text_le a
      have HP := Lib.hid (fun w => DialectParsesP.parse_any (textB a) (by omega) w)
      unfold ParsePost at HP
      rw [raw_of_text hra] at HP
      have hfa := right_fin hra
      have hd3 : dia3 a.delim.toNat a.quote.toNat a.fin.toNat = a := by
        obtain ⟨x, y, z⟩ := a
        simp [dia3]
        simp at hfa
        omega
      have hpv : parseV (some (a.delim.toNat, a.quote.toNat, a.fin.toNat)) = .tuple #[.agg #[bv a.delim, bv a.quote, .int .i64 a.fin], .int .i64 0] := by
        show (if (dia3 a.delim.toNat a.quote.toNat a.fin.toNat).right then goodV a.delim.toNat a.quote.toNat a.fin.toNat else badV) = _
        rw [hd3, hra, if_pos rfl]
        have : ((a.fin.toNat : Nat) : Int) = a.fin := by omega
        simp [goodV, this]
      rw [hpv] at HP
      rw [hra] at HTA
      rw [hrb] at HTB
      simp only [if_true] at HTA HTB
      have HST := Lib.hid (fun h => text_inj hra hrb h)
      obtain ⟨S, hS⟩ : ∃ S, textB a = S := ⟨_, rfl⟩
      obtain ⟨T, hT⟩ : ∃ T, textB b = T := ⟨_, rfl⟩
      rw [hS] at HTA HP hla
      rw [hT] at HTB
      rw [hS, hT] at HST
      have hcmp : (S == T) = ((a.delim.toNat : Int) == (b.delim.toNat : Int) && (a.quote.toNat : Int) == (b.quote.toNat : Int) && a.fin == b.fin) := by
        by_cases hab : a = b
        · subst hab
          rw [← hS, ← hT]
          simp
        · have h1 : (S == T) = false := by
            rw [beq_eq_false_iff_ne]
            exact fun h => hab (HST.out h)
          rw [h1]
          symm
          rw [← Bool.not_eq_true]
          simp only [Bool.and_eq_true, u8_beq, beq_iff_eq]
          rintro ⟨⟨h1, h2⟩, h3⟩
          apply hab
          obtain ⟨x, y, z⟩ := a
          obtain ⟨x', y', z'⟩ := b
          simp at h1 h2 h3
          simp [h1, h2, h3]
      clear hS hT hra hrb hd3 hpv HST hfa
      obtain ⟨x, y, z⟩ := a
      obtain ⟨x', y', z'⟩ := b
      generalize hq : ((x.toNat : Int) == (x'.toNat : Int) && (y.toNat : Int) == (y'.toNat : Int) && z == z') = q at hcmp
      go_enter Try.func6, Try.ntmps6
      go_wp2_with (fail)
      refine (HTA.out _).mono ?_
      rintro e w1 ⟨rfl, k1⟩
      have bb1 := bb.keep k1 (by simp)
      have ba1 := ba.keep k1 (by simp)
      have c0 := bb1.cell 0
      have c1 := bb1.cell 1
      have c2 := bb1.cell 2
      simp only [List.getElem?_cons_zero, List.getElem?_cons_succ] at c0 c1 c2
      go_wp2_with (fail)
      refine (HTB.out _).mono ?_
      rintro e w2 ⟨rfl, k2⟩
      have k02 := (k0.trans k1 (by simp)).trans k2 (by simp)
      have bb2 := bb1.keep k2 (by simp)
      have ba2 := ba1.keep k2 (by simp)
      go_wp2_with (fail)
      refine (HP.out _).mono ?_
      rintro e w3 ⟨rfl, k3⟩
      have k03 := (k02.trans k3 (by simp)).alloc1 (.cells #[bv x, bv y, .int .i64 z] 23)
      have bb3 := (bb2.keep k3 (by simp)).alloc (.cells #[bv x, bv y, .int .i64 z] 23)
      have ba3 := (ba2.keep k3 (by simp)).alloc (.cells #[bv x, bv y, .int .i64 z] 23)
      have d0 := bb3.cell 0
      have d1 := bb3.cell 1
      have d2 := bb3.cell 2
      have e0 := ba3.cell 0
      have e1 := ba3.cell 1
      have e2 := ba3.cell 2
      simp only [List.getElem?_cons_zero, List.getElem?_cons_succ] at d0 d1 d2 e0 e1 e2
      clear c0 c1 c2
      cases q
      all_goals
        go_wp2_with (fail)
        refine (HA.out _).mono ?_
        rintro e w4 ⟨rfl, k4⟩
        go_wp2_with (fail)
        go_ret
        exact ⟨rfl, (k03.trans k4 (by simp)).below (Nat.le_refl _) (by simp)⟩
set_option maxRecDepth 100000 in
theorem lifted (os : Os) (started : os.Started) (H : Type) (enc : TypeId × Value → H) :
    ReturnsInHanded {} Try.checked os 6 .any (Rows.dialectBackSpec.pre6 enc Try.prog Try.f6 Rows.dialectBackRow.domain false) (Rows.dialectBackSpec.post enc Try.prog Try.f6 false true false false) := by
  refine returnsInHanded_of_change_sized (C := Try.checked) own started (by kernel_rfl) Try.func6
    (ChangeSpec.witness6 (enc := enc) (C := Try.checked) false ⟨#[], #[.agg #[.int .u8 0, .int .u8 0, .int .i64 0], .agg #[.int .u8 0, .int .u8 0, .int .i64 0]], []⟩ 8 (by kernel_rfl) (by kernel_rfl) (by kernel_rfl) (by kernel_rfl)) ?_
  intro W base args ds gs before hval0 hW hcnd hsz0 _
  have hval : ∀ (j : Nat) t v, Try.f6.params[j]? = some t → args[j]? = some v → Value.okWide Try.prog W .any base t v := hval0
  have hW' := hW
  obtain ⟨p, q, hA0, hV, rfl, hfz, hnd⟩ := hW
  have hA : DataW.TrodAll enc Try.prog W 0 (fun _ => true) true Try.f6.params.toList args.toList ds p := hA0
  have hsz : (DataW.weightsEach Try.prog (Try.f6.params.toList ++ Rows.dialectBackSpec.plain.varTypes Try.prog) (ds ++ gs)).all (· ≤ reachBytes) = true := hsz0
  rw [Try.params6] at hA hval hsz
  obtain ⟨v0, vs0, d0, ds0, p0, q0, hargs, rfl, rfl, k0, r0⟩ := trodAll_cons hA
  obtain ⟨v1, vs1, d1, ds1, p1, q1, rfl, rfl, rfl, k1, r1⟩ := trodAll_cons r0
  obtain ⟨rfl, rfl, rfl⟩ := trodAll_nil r1
  obtain rfl : args = #[v0, v1] := by cases args; simp_all
  obtain ⟨rfl, rfl⟩ := trodVars_none hV
  have lt0 := Trod_lt k0
  have lt1 := Trod_lt k1
  obtain ⟨x0, y0, z0, rfl, hz0⟩ := Trod_dialect Try.underlying23 (by kernel_rfl) (by kernel_rfl) Try.underlying5 Try.underlying5 Try.underlying3 (hval 0 23 v0 rfl rfl) k0
  obtain ⟨x1, y1, z1, rfl, hz1⟩ := Trod_dialect Try.underlying23 (by kernel_rfl) (by kernel_rfl) Try.underlying5 Try.underlying5 Try.underlying3 (hval 1 23 v1 rfl rfl) k1
  clear hA0 hval0 hsz0
  refine (walk ⟨x0, y0, z0⟩ ⟨x1, y1, z1⟩ W).mono fun e W' ⟨he, bel⟩ => ?_
  subst he
  exact ⟨_, rfl, _, _, _, [], _, [], hW', trodAll_mk1 (shut_bool Try.underlying4 _), (trodAll_cons_mk (Below.trod laidOut (by kernel_rfl) (of_decide_eq_true (by kernel_rfl)) k0 bel lt0) (trodAll_cons_mk (Below.trod laidOut (by kernel_rfl) (of_decide_eq_true (by kernel_rfl)) k1 bel lt1) trodAll_mk0)), rfl, bel.frame _, fun h => by cases h⟩

theorem proved : Rows.DialectBackSaid :=
  OpenClaim.holds_of_wide 6 Try.f6 rfl rfl rfl rfl rfl rfl rfl ⟨rfl, rfl, rfl, rfl, rfl⟩ rfl rfl rfl rfl rfl (by kernel_rfl) Try.func6 (by kernel_rfl)
    (of_decide_eq_true (by kernel_rfl)) (by unfold Func.isWrapper; first | (rw [if_pos (by decide +kernel)]; kernel_rfl) | (rw [if_neg (by decide +kernel)]; exact ⟨rfl, rfl⟩))
    (fun os started H enc _ => lifted os started H enc)
end Go.Proofs.Ytlcgdndaailjpaa.DialectBackP
namespace Go.Proofs.Ytlcgdndaailjpaa
theorem dialectBack_holds : Rows.DialectBackSaid := DialectBackP.proved
#print axioms dialectBack_holds
end Go.Proofs.Ytlcgdndaailjpaa
