/- Dialects: the contracts of Check, End, the document's Right and End, and the law's Ref. -/
import Derived.Test.YtcmoldondflilaaProg
import Derived.Test.YtcmoldondflilaaTbl
import Derived.Test.YtcmoldondflilaaMach
import Derived.Outline
import Derived.Deep.QuietTactic
import Derived.BigQuiet
namespace Go.Proofs.Ytcmoldondflilaa.Dia
set_option linter.unusedVariables false
set_option linter.unusedSimpArgs false
set_option maxRecDepth 100000
open Go.RowKit Q Mach

abbrev diaV (d : Dia) : Value := .agg #[bv d.delim, bv d.quote, .int .i64 d.fin]
abbrev rdiaV (d : Dia) : Value := .agg #[.int .i64 d.delim.toNat, .int .i64 d.quote.toNat, .int .i64 d.fin]

theorem u8_beq (b c : UInt8) : ((b.toNat : Int) == (c.toNat : Int)) = (b == c) := by
  rw [Bool.eq_iff_iff, beq_iff_eq, beq_iff_eq, ← UInt8.toNat_inj]; omega
theorem u8_beq_n (b : UInt8) (n : Nat) (h : n < 256) : ((b.toNat : Int) == (n : Int)) = (b == UInt8.ofNat n) := by
  rw [Bool.eq_iff_iff, beq_iff_eq, beq_iff_eq, ← UInt8.toNat_inj, UInt8.toNat_ofNat']; omega
theorem u8_13 (b : UInt8) : ((b.toNat : Int) == 13) = (b == 13) := u8_beq_n b 13 (by omega)
theorem u8_10 (b : UInt8) : ((b.toNat : Int) == 10) = (b == 10) := u8_beq_n b 10 (by omega)

theorem mayPart_iff {b : UInt8} : mayPart b = true ↔ b.toNat < 128 ∧ b ≠ 13 ∧ b ≠ 10 := by simp [mayPart, and_assoc]
theorem wrap_u8 (b : UInt8) : 0 ≤ (b.toNat : Int) ∧ (b.toNat : Int) ≤ 255 := by have := b.toNat_lt; omega

set_option maxHeartbeats 400000 in
theorem ref_c (d : Dia) (w : World) : Calls Try.prog 15 #[diaV d] w fun e w' => e = .returned (rdiaV d) ∧ Keeps [] w w' := by
  obtain ⟨x, y, z⟩ := d
  have hx := wrap_u8 x
  have hy := wrap_u8 y
  go_enter Try.func15, Try.ntmps15
  go_wp2_with (fail)
  refine bodyPost_ret (v := rdiaV ⟨x, y, z⟩) (by simp [results, Try.results15, go_sem]) rfl ⟨rfl, ?_⟩
  exact ((Keeps.refl [] w).alloc1 _).alloc1 _

theorem idx2 (a b : Int) (i : Nat) (hi : i < 2) (w : World) : (Instr.index 92 (.agg #[.int .i64 a, .int .i64 b]) (.int .i64 (i : Int))).run Try.prog w = .ok (.int .i64 ([a, b].getD i 0)) w := by
  match i, hi with
  | 0, _ => show _ = _; kernel_rfl
  | 1, _ => show _ = _; kernel_rfl
theorem right_no {x y : UInt8} {z : Int} (k : Nat) (hk : k < 2) (h : mayPart ([x, y].getD k 0) = false) : Dia.right ⟨x, y, z⟩ = false := by
  match k, hk with
  | 0, _ => simp at h; simp [Dia.right, h]
  | 1, _ => simp at h; simp [Dia.right, h]
set_option maxHeartbeats 1000000 in
theorem right_c (d : Dia) (w : World) : Calls Try.prog 14 #[rdiaV d] w fun e w' => e = .returned (.bool d.right) ∧ Keeps [] w w' := by
  obtain ⟨x, y, z⟩ := d
  go_enter Try.func14, Try.ntmps14
  go_wp2_with (fail)
  have kp : Keeps [] w (w.alloc (.cells #[.int .i64 (x.toNat : Int), .int .i64 (y.toNat : Int), .int .i64 z] 33)) := Keeps.alloc [] w _
  go_loop [10] (fun i => ∃ k : Nat, k ≤ 2 ∧ i = .int .i64 k ∧ ∀ j, j < k → mayPart ([x, y].getD j 0) = true) (fun i => 2 - (intOf i).toNat)
  case atStart => exact ⟨0, by omega, rfl, by intro j h; omega⟩
  case round =>
    obtain ⟨k, hk, rfl, hall⟩ := hrel
    have HA := Lib.hid hall; clear hall
    by_cases hlt : k < 2
    · have hi := idx2 x.toNat y.toNat k hlt
      have hk3 : (k : Int) < 2 := by omega
      obtain ⟨b, hb⟩ : ∃ b, [x, y].getD k 0 = b := ⟨_, rfl⟩
      have e : [(x.toNat : Int), (y.toNat : Int)].getD k 0 = (b.toNat : Int) := by
        rw [← hb]
        match k, hlt with
        | 0, _ => rfl
        | 1, _ => rfl
      rw [e] at hi
      have HB := Lib.hid hb; clear hb e
      have hr := wrap_u8 b
      have h0 : decide ((b.toNat : Int) < 0) = false := by simp
      by_cases h1 : 127 < b.toNat
      · have h1' : decide (127 < (b.toNat : Int)) = true := by simp; omega
        go_wp2_with (fail)
        go_ret
        exact ⟨ret_bool (right_no k hlt (by rw [HB.out, ← Bool.not_eq_true, mayPart_iff]; omega)).symm, kp⟩
      · have h1' : decide (127 < (b.toNat : Int)) = false := by simp; omega
        by_cases h2 : b = 10
        · have h2' : ((b.toNat : Int) == 10) = true := by rw [u8_10]; simp [h2]
          have H2 := Lib.hid h2; clear h2
          go_wp2_with (fail)
          go_ret
          exact ⟨ret_bool (right_no k hlt (by rw [HB.out, ← Bool.not_eq_true, mayPart_iff]; intro h; exact h.2.2 H2.out)).symm, kp⟩
        · have h2' : ((b.toNat : Int) == 10) = false := by rw [u8_10]; simp [h2]
          have H2 := Lib.hid h2; clear h2
          by_cases h3 : b = 13
          · have h3' : ((b.toNat : Int) == 13) = true := by rw [u8_13]; simp [h3]
            have H3 := Lib.hid h3; clear h3
            go_wp2_with (fail)
            go_ret
            exact ⟨ret_bool (right_no k hlt (by rw [HB.out, ← Bool.not_eq_true, mayPart_iff]; intro h; exact h.2.1 H3.out)).symm, kp⟩
          · have h3' : ((b.toNat : Int) == 13) = false := by rw [u8_13]; simp [h3]
            have H3 := Lib.hid h3; clear h3
            go_wp2_with (fail)
            go_round
            case rel =>
              refine ⟨k + 1, by omega, by go_num, fun j hj => ?_⟩
              by_cases e : j = k
              · subst e; rw [HB.out, mayPart_iff]; exact ⟨by omega, H3.out, H2.out⟩
              · exact HA.out j (by omega)
            case measure => simp [intOf]; omega
    · obtain rfl : k = 2 := by omega
      have h0 := HA.out 0 (by omega)
      have h1 := HA.out 1 (by omega)
      simp only [List.getD_cons_zero, List.getD_cons_succ] at h0 h1
      have hf : Dia.right ⟨x, y, z⟩ = (x != y && rightFin z) := by simp [Dia.right, h0, h1]
      have HF := Lib.hid hf; clear hf h0 h1
      by_cases hxy : x = y
      · have e : ((x.toNat : Int) != (y.toNat : Int)) = false := by simp [hxy]
        have HX := Lib.hid hxy; clear hxy
        go_wp2_with (fail)
        go_ret
        exact ⟨ret_bool (by rw [HF.out, HX.out]; simp), kp⟩
      · have e : ((x.toNat : Int) != (y.toNat : Int)) = true := by rw [bne_iff_ne]; intro h; exact hxy (UInt8.toNat_inj.1 (by omega))
        have HX := Lib.hid hxy; clear hxy
        by_cases z1 : z = 1
        · subst z1
          go_wp2_with (fail)
          go_ret
          exact ⟨ret_bool (by rw [HF.out]; simp [HX.out, rightFin]), kp⟩
        · have z1' : (z == 1) = false := by simpa using z1
          by_cases z2 : z = 2
          · subst z2
            go_wp2_with (fail)
            go_ret
            exact ⟨ret_bool (by rw [HF.out]; simp [HX.out, rightFin]), kp⟩
          · have z2' : (z == 2) = false := by simpa using z2
            by_cases z3 : z = 3
            · subst z3
              go_wp2_with (fail)
              go_ret
              exact ⟨ret_bool (by rw [HF.out]; simp [HX.out, rightFin]), kp⟩
            · have z3' : (z == 3) = false := by simpa using z3
              go_wp2_with (fail)
              go_ret
              exact ⟨ret_bool (by rw [HF.out]; simp [rightFin, z1, z2, z3]), kp⟩

set_option maxRecDepth 100000 in
set_option maxHeartbeats 400000 in
theorem mayPart_c (b : UInt8) (w : World) : Calls Try.prog 58 #[bv b] w fun e w' => e = .returned (.bool (mayPart b)) ∧ w = w' := by
  have hr := wrap_u8 b
  by_cases h1 : b.toNat < 128
  · have h1' : decide ((b.toNat : Int) < 128) = true := by simp; omega
    by_cases h2 : b = 13
    · have h2' : ((b.toNat : Int) != 13) = false := by simp [h2]
      have e : mayPart b = false := by rw [← Bool.not_eq_true, mayPart_iff]; intro h; exact h.2.1 h2
      rw [e]; clear e h2
      go_enter Try.func58, Try.ntmps58
      go_wp2_with (fail)
      go_ret
      exact ⟨rfl, rfl⟩
    · have h2' : ((b.toNat : Int) != 13) = true := by rw [bne_iff_ne, ← beq_eq_false_iff_ne, u8_13]; simpa using h2
      by_cases h3 : b = 10
      · have h3' : ((b.toNat : Int) != 10) = false := by simp [h3]
        have e : mayPart b = false := by rw [← Bool.not_eq_true, mayPart_iff]; intro h; exact h.2.2 h3
        rw [e]; clear e h2 h3
        go_enter Try.func58, Try.ntmps58
        go_wp2_with (fail)
        go_ret
        exact ⟨rfl, rfl⟩
      · have h3' : ((b.toNat : Int) != 10) = true := by rw [bne_iff_ne, ← beq_eq_false_iff_ne, u8_10]; simpa using h3
        have e : mayPart b = true := mayPart_iff.2 ⟨h1, h2, h3⟩
        rw [e]; clear e h2 h3
        go_enter Try.func58, Try.ntmps58
        go_wp2_with (fail)
        go_ret
        exact ⟨rfl, rfl⟩
  · have e : mayPart b = false := by rw [← Bool.not_eq_true, mayPart_iff]; omega
    rw [e]; clear e
    have h1' : decide ((b.toNat : Int) < 128) = false := by simp; omega
    go_enter Try.func58, Try.ntmps58
    go_wp2_with (fail)
    go_ret
    exact ⟨rfl, rfl⟩

def wordB (z : Int) : Bs := if z = 1 then [108, 102] else if z = 2 then [99, 114, 108, 102] else if z = 3 then [101, 105, 116, 104, 101, 114] else []
theorem word_one : wordB 1 = [108, 102] := rfl
theorem word_two : wordB 2 = [99, 114, 108, 102] := rfl
theorem word_three : wordB 3 = [101, 105, 116, 104, 101, 114] := rfl
set_option maxHeartbeats 400000 in
theorem word_c (z : Int) (w : World) : Calls Try.prog 59 #[.int .i64 z] w fun e w' => e = .returned (sv (wordB z)) ∧ w = w' := by
  by_cases z1 : z = 1
  · subst z1
    rw [word_one]
    go_enter Try.func59, Try.ntmps59
    go_wp2_with (fail)
    go_ret
    exact ⟨rfl, rfl⟩
  · have z1' : (z == 1) = false := by simpa using z1
    by_cases z2 : z = 2
    · subst z2
      rw [word_two]
      go_enter Try.func59, Try.ntmps59
      go_wp2_with (fail)
      go_ret
      exact ⟨rfl, rfl⟩
    · have z2' : (z == 2) = false := by simpa using z2
      by_cases z3 : z = 3
      · subst z3
        rw [word_three]
        go_enter Try.func59, Try.ntmps59
        go_wp2_with (fail)
        go_ret
        exact ⟨rfl, rfl⟩
      · have z3' : (z == 3) = false := by simpa using z3
        have e : wordB z = [] := by simp [wordB, z1, z2, z3]
        rw [e]; clear e z1 z2 z3
        go_enter Try.func59, Try.ntmps59
        go_wp2_with (fail)
        go_ret
        exact ⟨rfl, rfl⟩

set_option maxHeartbeats 1000000 in
theorem check_c (d : Dia) (w : World) : Calls Try.prog 41 #[diaV d] w fun e w' => e = .returned (.int .i64 (if d.right then 0 else 1)) ∧ Keeps [] w w' := by
  obtain ⟨x, y, z⟩ := d
  have H1 := Lib.hid (fun w => mayPart_c x w)
  have H2 := Lib.hid (fun w => mayPart_c y w)
  have H3 := Lib.hid (fun w => word_c z w)
  have kp : Keeps [] w (w.alloc (.cells #[bv x, bv y, .int .i64 z] 23)) := Keeps.alloc [] w _
  have hR : Dia.right ⟨x, y, z⟩ = (mayPart x && mayPart y && x != y && !(wordB z).isEmpty) := by
    have : rightFin z = !(wordB z).isEmpty := by
      unfold wordB rightFin
      by_cases z1 : z = 1 <;> by_cases z2 : z = 2 <;> by_cases z3 : z = 3 <;> simp [z1, z2, z3]
    simp [Dia.right, this]
  rw [hR]
  clear hR
  generalize mayPart x = p at *
  generalize mayPart y = q at *
  generalize wordB z = s at *
  cases p
  · go_enter Try.func41, Try.ntmps41
    go_wp2_with (fail)
    refine (H1.out _).mono ?_
    rintro e w1 ⟨rfl, rfl⟩
    go_wp2_with (fail)
    go_ret
    exact ⟨rfl, kp⟩
  · cases q
    · go_enter Try.func41, Try.ntmps41
      go_wp2_with (fail)
      refine (H1.out _).mono ?_
      rintro e w1 ⟨rfl, rfl⟩
      go_wp2_with (fail)
      refine (H2.out _).mono ?_
      rintro e w1 ⟨rfl, rfl⟩
      go_wp2_with (fail)
      go_ret
      exact ⟨rfl, kp⟩
    · by_cases hxy : x = y
      · have e : ((x.toNat : Int) == (y.toNat : Int)) = true := by simp [hxy]
        have e2 : (x != y) = false := by simp [hxy]
        rw [e2]; clear e2 hxy
        go_enter Try.func41, Try.ntmps41
        go_wp2_with (fail)
        refine (H1.out _).mono ?_
        rintro e w1 ⟨rfl, rfl⟩
        go_wp2_with (fail)
        refine (H2.out _).mono ?_
        rintro e w1 ⟨rfl, rfl⟩
        go_wp2_with (fail)
        go_ret
        exact ⟨rfl, kp⟩
      · have e : ((x.toNat : Int) == (y.toNat : Int)) = false := by rw [u8_beq]; simpa using hxy
        have e2 : (x != y) = true := by simpa using hxy
        rw [e2]; clear e2 hxy
        cases s with
        | nil =>
          go_enter Try.func41, Try.ntmps41
          go_wp2_with (fail)
          refine (H1.out _).mono ?_
          rintro e w1 ⟨rfl, rfl⟩
          go_wp2_with (fail)
          refine (H2.out _).mono ?_
          rintro e w1 ⟨rfl, rfl⟩
          go_wp2_with (fail)
          refine (H3.out _).mono ?_
          rintro e w1 ⟨rfl, rfl⟩
          go_wp2_with (fail)
          go_ret
          exact ⟨rfl, kp⟩
        | cons a s =>
          go_enter Try.func41, Try.ntmps41
          go_wp2_with (fail)
          refine (H1.out _).mono ?_
          rintro e w1 ⟨rfl, rfl⟩
          go_wp2_with (fail)
          refine (H2.out _).mono ?_
          rintro e w1 ⟨rfl, rfl⟩
          go_wp2_with (fail)
          refine (H3.out _).mono ?_
          rintro e w1 ⟨rfl, rfl⟩
          go_wp2_with (fail)
          go_ret
          exact ⟨rfl, kp⟩
def endB (z : Int) : Bs := if z = 2 then [13, 10] else [10]
set_option maxHeartbeats 400000 in
theorem rend_c (d : Dia) (w : World) : Calls Try.prog 23 #[rdiaV d] w fun e w' => e = .returned (sv (endB d.fin)) ∧ Keeps [] w w' := by
  obtain ⟨x, y, z⟩ := d
  by_cases z2 : z = 2
  · subst z2
    go_enter Try.func23, Try.ntmps23
    go_wp2_with (fail)
    go_ret
    exact ⟨rfl, Keeps.alloc _ _ _⟩
  · have z2' : (z == 2) = false := by simpa using z2
    have e : endB z = [10] := by simp [endB, z2]
    show Calls _ _ _ _ fun e w' => e = .returned (sv (endB z)) ∧ _
    rw [e]; clear e z2
    go_enter Try.func23, Try.ntmps23
    go_wp2_with (fail)
    go_ret
    exact ⟨rfl, Keeps.alloc _ _ _⟩
end Go.Proofs.Ytcmoldondflilaa.Dia
