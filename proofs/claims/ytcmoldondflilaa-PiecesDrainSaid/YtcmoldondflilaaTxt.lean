/- write.Table. -/
import Derived.Test.YtcmoldondflilaaLine
namespace Go.Proofs.Ytcmoldondflilaa.WLine
set_option linter.unusedVariables false
set_option linter.unusedSimpArgs false
set_option maxRecDepth 100000
open Go.RowKit Q Mach Dia Need Bld Quo
open Tab (fieldsOf bytesOf bytesOfRow)
attribute [local go_sem ↓] Go.wp_at_zero Go.wp_at_succ
/-- A table's text, how many records; or the first one that may not be written, and why. -/
def tableR (d : Dia) (t : Tb) : Bs × Nat × Nat := if d.right then (if Wr.front t < t.length then ([], Wr.front t, Wr.may (t.getD (Wr.front t) [])) else (Wr.textB d true t, t.length, 0)) else ([], 0, 1)
def tableV (x : Bs × Nat × Nat) : Value := .tuple #[sv x.1, .int .i64 x.2.1, .int .i64 x.2.2]
set_option maxHeartbeats 20000000 in
theorem table_c (d : Dia) (A : Value) (t : Tb) (B1 : Nat) (w : World) (ht : Tbl w B1 A t) (hB : B1 ≤ w.heap.size) (h0 : t.length ≤ 10000) (h1 : fieldsOf t ≤ 10000) (h2 : bytesOf t ≤ 10000) :
    Calls Try.prog 18 #[diaV d, A] w fun e w' => e = .returned (tableV (tableR d t)) ∧ Keeps [] w w' := by
  have HC := Lib.hid (fun w => check_c d w)
  have kp : Keeps [] w (w.alloc (.cells #[bv d.delim, bv d.quote, .int .i64 d.fin] 23)) := Keeps.alloc [] w _
  have hbx := Blk.new w 23 [bv d.delim, bv d.quote, .int .i64 d.fin]
  have ht' := ht
  obtain ⟨A, ca, rfl, ha1, ha2⟩ := ht.form
  unfold maxLen at ha2
  obtain ⟨X, hX⟩ : ∃ X, tableR d t = X := ⟨_, rfl⟩
  rw [hX]
  have c0 := hbx.cell_of (i := 0) rfl
  have c1 := hbx.cell_of (i := 1) rfl
  have c2 := hbx.cell_of (i := 2) rfl
  obtain ⟨R, hR⟩ : ∃ R, d.right = R := ⟨_, rfl⟩
  rw [hR] at HC
  unfold tableR at hX
  rw [hR] at hX
  cases R
  · simp only [Bool.false_eq_true, if_false] at HC hX
    have HX := Lib.hid hX
    clear hX ht hR
    obtain ⟨x, y, z⟩ := d
    go_enter Try.func18, Try.ntmps18
    go_wp2_with (fail)
    refine (HC.out _).mono ?_
    rintro e w1 ⟨rfl, k1⟩
    go_wp2_with (fail)
    go_ret3
    exact ⟨by rw [← HX.out]; rfl, kp.trans k1 (by simp)⟩
  simp only [if_true] at HC hX
  have hX1 : ∀ (k : Nat) (hk : k < t.length), (∀ (j : Nat) (hj : j < t.length), j < k → Wr.may t[j] = 0) → Wr.may t[k] ≠ 0 → X = ([], k, Wr.may t[k]) := by
    intro k hk h hb
    have hf := Wr.front_of hk h hb
    rw [← hX, hf, if_pos hk]
    simp [List.getD, List.getElem?_eq_getElem hk]
  have hX0 : (∀ (j : Nat) (hj : j < t.length), Wr.may t[j] = 0) → X = (Wr.textB d true t, t.length, 0) := by
    intro h
    have hf := Wr.front_all h
    rw [← hX, hf, if_neg (by omega)]
  have hln : ∀ (k : Nat) (hk : k < t.length) (fi : Bool), lineR d t[k] fi = if Wr.may t[k] = 0 then (Wr.lineB d t[k] fi, 0) else ([], Wr.may t[k]) := by
    intro k hk fi
    unfold lineR
    rw [hR, if_pos rfl]
  have HX1 := Lib.hid hX1
  have HX0 := Lib.hid hX0
  have HLN := Lib.hid hln
  have HTT := Lib.hid (fun k h => Wr.text_take d true t k h)
  have HTL := Lib.hid (fun k => Wr.text_take_len d true t k)
  have HLC := Lib.hid (fun A r first B1 w h hB h1 h2 => line_c d A r first B1 w h hB h1 h2)
  clear hX hX1 hX0 hln hR
  obtain ⟨DD, hDD⟩ : ∃ D : Dia, D = d := ⟨_, rfl⟩
  rw [← hDD] at HTT HTL HX0 HLN
  have HDDE := Lib.hid hDD
  clear hDD
  obtain ⟨x, y, z⟩ := d
  go_enter Try.func18, Try.ntmps18
  go_wp2_with (fail)
  refine (HC.out _).mono ?_
  rintro e w1 ⟨rfl, k1⟩
  have kk := kp.trans k1 (by simp)
  have hb1 := hbx.keep k1 (by simp)
  have hr1 := ht'.keepB kk (by simp)
  clear c0 c1 c2 hbx kp k1 ht
  go_wp2_with (fail)
  have hB0 := Bd.new w1
  have kA : Keeps [] w1 (w1.alloc (.cells #[.pointer none, .slice none 0 0] 83)) := Keeps.alloc [] w1 _
  have kB : Below w1.heap.size w1 (w1.alloc (.cells #[.pointer none, .slice none 0 0] 83)) := kA.below (Nat.le_refl _) (by simp)
  have hb1l := hb1.lt
  have hkk := kk.size
  generalize hb : w1.heap.size = b at *
  change Bd (w1.alloc (.cells #[.pointer none, .slice none 0 0] 83)) b b [] at hB0
  generalize w1.alloc _ = w2 at *
  go_loopw [20] (fun i wr => ∃ k : Nat, k ≤ t.length ∧ i = .int .i64 k ∧ (∀ (j : Nat) (hj : j < t.length), j < k → Wr.may t[j] = 0) ∧ Bd wr b b (Wr.textB DD true (t.take k)) ∧ Below b w1 wr) (fun i _ => t.length - (intOf i).toNat)
  case atStart => exact ⟨0, Nat.zero_le _, rfl, by intro j _ h; omega, by rw [List.take_zero]; exact hB0, kB⟩
  case round =>
    obtain ⟨k, hk, rfl, hall, hBd, hBl⟩ := hrel
    have HALL := Lib.hid hall
    clear hB0 kA kB hall
    have hbw := hb1.below hBl hb1l
    have kw := below_keeps hBl (by omega)
    have hrw := hr1.keepB kw (by simp)
    have hrl := HTL.out k
    by_cases hlt : k < t.length
    · obtain ⟨g, o, A1, n1, rfl, _, cf, rr⟩ := hrw.at_ hlt
      obtain ⟨hs1, hs2⟩ := Wr.mem_table (List.getElem_mem hlt)
      have hk0 : (0 : Int) ≤ (k : Int) := by omega
      have hkl : (k : Int) < (t.length : Int) := by omega
      obtain ⟨z0, hz0⟩ : ∃ z0, (k == 0) = z0 := ⟨_, rfl⟩
      have hz0' : ((k : Int) == 0) = z0 := by rw [← hz0, Bool.eq_iff_iff, beq_iff_eq, beq_iff_eq]; omega
      have hrt := HTT.out k hlt
      rw [hz0, Bool.true_and] at hrt
      have HT := Lib.hid hrt
      have hll := Wr.line_len DD t[k] z0
      have HL : Hid (Calls Try.prog 13 #[.agg #[bv x, bv y, .int .i64 z], .slice A1 t[k].length n1, .bool z0] wr fun e w' => e = .returned (lineV (if Wr.may t[k] = 0 then (Wr.lineB DD t[k] z0, 0) else ([], Wr.may t[k]))) ∧ Keeps [] wr w') := Lib.hid (by
        rw [← HLN.out k hlt z0, HDDE.out]
        exact HLC.out _ t[k] z0 B1 wr rr (by have := hBl.size; omega) (by omega) (by omega))
      have d0 := hbw.cell_of (i := 0) rfl
      have d1 := hbw.cell_of (i := 1) rfl
      have d2 := hbw.cell_of (i := 2) rfl
      have HBL := Lib.hid hBl
      have HBD := Lib.hid hBd
      have HNX : Hid (Wr.may t[k] = 0 → ∀ (j : Nat) (hj : j < t.length), j < k + 1 → Wr.may t[j] = 0) := Lib.hid (by
        intro h j hj hjk
        by_cases e : j = k
        · subst e; exact h
        · exact HALL.out j hj (by omega))
      have HBAD : Hid (Wr.may t[k] ≠ 0 → X = ([], k, Wr.may t[k])) := Lib.hid (fun h => HX1.out k hlt (fun j hj hjk => HALL.out j hj hjk) h)
      clear hz0 hrt hbw hBl hBd hrw rr HX1 HX0 HALL HC
      generalize Wr.may t[k] = M at *
      generalize Wr.lineB DD t[k] z0 = LB at *
      generalize Wr.textB DD true (t.take k) = P at *
      by_cases hM : M = 0
      · rw [if_pos hM] at HL
        have HM := Lib.hid hM
        clear hM
        unfold lineV at HL
        dsimp only at HL
        go_wp2_with (fail)
        with_reducible refine HL.out.mono ?_
        rintro e w3 ⟨rfl, k3⟩
        have HS := Lib.hid (writeString_c b b P LB w3 (HBD.out.keep k3) (by omega) (by omega))
        have B03 := Lib.hid (HBL.out.trans (k3.below (Nat.le_of_lt HBD.out.lt.2) (by simp)))
        clear k3 d0 d1 d2
        go_wp2_with (fail)
        with_reducible refine HS.out.mono ?_
        rintro e w4 ⟨rfl, hB4, b4⟩
        go_wp2_with (fail)
        refine ⟨⟨k + 1, by omega, by go_num, HNX.out HM.out, ?_, B03.out.trans b4⟩, by simp [intOf]; omega⟩
        rw [HT.out]
        exact hB4
      · rw [if_neg hM] at HL
        have hM' : ((M : Int) != 0) = true := by rw [bne_iff_ne]; omega
        have HM := Lib.hid hM
        clear hM
        unfold lineV at HL
        dsimp only at HL
        go_wp2_with (fail)
        with_reducible refine HL.out.mono ?_
        rintro e w3 ⟨rfl, k3⟩
        go_wp2_with (fail)
        go_ret3
        exact ⟨by rw [HBAD.out HM.out]; rfl, (kk.trans kw (by simp)).trans k3 (by simp)⟩
    · obtain rfl : k = t.length := by omega
      have hkl : ¬ ((t.length : Int) < (t.length : Int)) := by omega
      rw [List.take_length] at hBd hrl
      have hXX := HX0.out (fun j hj => HALL.out j hj hj)
      have HX9 := Lib.hid hXX
      have HG := Lib.hid (string_c b b _ wr hBd)
      clear hbw hBd hrw hXX HX0 HX1 HALL hr1
      generalize Wr.textB DD true t = P at *
      go_wp2_with (fail)
      with_reducible refine HG.out.mono ?_
      rintro e w6 ⟨rfl, b6⟩
      go_wp2_with (fail)
      go_ret3
      exact ⟨by rw [HX9.out]; rfl, kk.trans (below_keeps (hBl.trans b6) (by omega)) (by simp)⟩
end Go.Proofs.Ytcmoldondflilaa.WLine
