/- write.Line. -/
import Derived.Test.YtcmoldondflilaaWPlain4
import Derived.Test.YtcmoldondflilaaUtfS
import Derived.Test.YtcmoldondflilaaQuo
import Derived.Test.YtcmoldondflilaaEnd
import Derived.Test.YtcmoldondflilaaWide
namespace Go.Proofs.Ytcmoldondflilaa.WLine
set_option linter.unusedVariables false
set_option linter.unusedSimpArgs false
set_option maxRecDepth 100000
open Go.RowKit Q Mach Dia Need Bld Quo
open Tab (fieldsOf bytesOf bytesOfRow)
attribute [local go_sem ↓] Go.wp_at_zero Go.wp_at_succ
/-- A record's line, or what bars it. -/
def lineR (d : Dia) (r : Row) (first : Bool) : Bs × Nat := if d.right then (if Wr.may r = 0 then (Wr.lineB d r first, 0) else ([], Wr.may r)) else ([], 1)
def lineV (x : Bs × Nat) : Value := .tuple #[sv x.1, .int .i64 x.2]
theorem writ_eq (d : Dia) (f : Bs) (a b : Bool) : writB d f a b = Wr.writ d f a b := rfl
theorem below_keeps {w w' : World} {B : Nat} (h : Below B w w') (hB : w.heap.size ≤ B) : Keeps [] w w' := ⟨h.os, h.tape, h.output, h.size, fun k hk _ => h.block k (by omega)⟩
set_option maxHeartbeats 20000000 in
theorem line_c (d : Dia) (A : Value) (r : Row) (first : Bool) (B1 : Nat) (w : World) (hr : Rd w B1 1 A r.length (r.map sv)) (hB : B1 ≤ w.heap.size) (h1 : r.length ≤ 10000) (h2 : bytesOfRow r ≤ 10000) :
    Calls Try.prog 13 #[diaV d, A, .bool first] w fun e w' => e = .returned (lineV (lineR d r first)) ∧ Keeps [] w w' := by
  have HC := Lib.hid (fun w => check_c d w)
  have kp : Keeps [] w (w.alloc (.cells #[bv d.delim, bv d.quote, .int .i64 d.fin] 23)) := Keeps.alloc [] w _
  have hbx := Blk.new w 23 [bv d.delim, bv d.quote, .int .i64 d.fin]
  have hr' := hr
  obtain ⟨A, ca, rfl, ha1, ha2⟩ := hr.form
  unfold maxLen at ha2
  obtain ⟨X, hX⟩ : ∃ X, lineR d r first = X := ⟨_, rfl⟩
  rw [hX]
  unfold lineR at hX
  have c0 := hbx.cell_of (i := 0) rfl
  have c1 := hbx.cell_of (i := 1) rfl
  have c2 := hbx.cell_of (i := 2) rfl
  obtain ⟨R, hR⟩ : ∃ R, d.right = R := ⟨_, rfl⟩
  rw [hR] at HC hX
  have HE := Lib.hid (fun w => dend_c d w)
  rw [hR] at HE
  clear hR
  cases R
  · simp only [Bool.false_eq_true, if_false] at HC hX
    have HX := Lib.hid hX
    clear hX hr
    obtain ⟨x, y, z⟩ := d
    go_enter Try.func13, Try.ntmps13
    go_wp2_with (fail)
    refine (HC.out _).mono ?_
    rintro e w1 ⟨rfl, k1⟩
    go_wp2_with (fail)
    go_ret2
    exact ⟨by rw [← HX.out]; rfl, kp.trans k1 (by simp)⟩
  simp only [if_true] at HC hX HE
  by_cases hr0 : r = []
  · have hX2 : X = ([], 13) := by rw [← hX, hr0]; rfl
    have HX := Lib.hid hX2
    have e0 : ((r.length : Int) == 0) = true := by rw [hr0]; rfl
    clear hX hX2 hr hr0
    obtain ⟨x, y, z⟩ := d
    go_enter Try.func13, Try.ntmps13
    go_wp2_with (fail)
    refine (HC.out _).mono ?_
    rintro e w1 ⟨rfl, k1⟩
    go_wp2_with (fail)
    go_ret2
    exact ⟨by rw [HX.out]; rfl, kp.trans k1 (by simp)⟩
  have e0 : ((r.length : Int) == 0) = false := by
    rw [beq_eq_false_iff_ne]
    have := List.length_pos_iff.2 hr0
    omega
  have hX14 : ∀ (j : Nat) (hj : j < r.length), Utf.valid r[j] = false → X = ([], 14) := by
    intro j hj hv
    have hm : Wr.may r = 14 := by
      unfold Wr.may
      have h1 : r.isEmpty = false := by cases r with | nil => exact absurd rfl hr0 | cons => rfl
      have h2 : r.all Utf.valid = false := by
        rw [List.all_eq_false]
        exact ⟨r[j], List.getElem_mem hj, by simp [hv]⟩
      rw [h1, h2]; rfl
    rw [← hX, hm]; rfl
  have hX0 : (∀ (j : Nat) (hj : j < r.length), Utf.valid r[j] = true) → X = (Wr.lineB d r first, 0) := by
    intro h
    have hm : Wr.may r = 0 := by
      unfold Wr.may
      have h1 : r.isEmpty = false := by cases r with | nil => exact absurd rfl hr0 | cons => rfl
      have h2 : r.all Utf.valid = true := by
        rw [List.all_eq_true]
        intro f hf
        obtain ⟨j, hj, rfl⟩ := List.getElem_of_mem hf
        exact h j hj
      rw [h1, h2]; rfl
    rw [← hX, hm]; rfl
  have HX14 := Lib.hid hX14
  have HX0 := Lib.hid hX0
  have HVD := Lib.hid (fun l (hl : l.length ≤ 100000) w => UtfS.valid_c l hl w)
  have HWR := Lib.hid (fun f al fi (hf : f.length ≤ 100000) w => written_c d f al fi hf w)
  clear hX hX14 hX0 hr0
  obtain ⟨al, hal⟩ : ∃ al, (r.length == 1) = al := ⟨_, rfl⟩
  have hal' : ((r.length : Int) == 1) = al := by rw [← hal, Bool.eq_iff_iff, beq_iff_eq, beq_iff_eq]; omega
  have HLB : Hid (Wr.lineB d r first = Wr.rowB d al first r ++ endB d.fin) := Lib.hid (by rw [← hal]; rfl)
  have HRT := Lib.hid (fun k h => Wr.row_take d al first r k h)
  have HRL := Lib.hid (fun k => Wr.row_take_len d al first r k)
  have HDD := Lib.hid (rfl : d = d)
  obtain ⟨DD, hDD⟩ : ∃ D : Dia, D = d := ⟨_, rfl⟩
  rw [← hDD] at HRT HRL HLB HX0
  have HDDE := Lib.hid hDD
  clear hDD HDD hal
  have hel : (endB d.fin).length ≤ 2 := Wr.eol_le d
  obtain ⟨x, y, z⟩ := d
  go_enter Try.func13, Try.ntmps13
  go_wp2_with (fail)
  refine (HC.out _).mono ?_
  rintro e w1 ⟨rfl, k1⟩
  have kk := kp.trans k1 (by simp)
  have hb1 := hbx.keep k1 (by simp)
  have hr1 := hr'.keepB kk (by simp)
  clear c0 c1 c2 hbx kp k1 hr
  go_wp2_with (fail)
  go_loop [24] (fun i => ∃ k : Nat, k ≤ r.length ∧ i = .int .i64 k ∧ ∀ (j : Nat) (hj : j < r.length), j < k → Utf.valid r[j] = true) (fun i => r.length - (intOf i).toNat)
  case atStart => exact ⟨0, by omega, rfl, by intro j _ h; omega⟩
  case round =>
    obtain ⟨k, hk, rfl, hall⟩ := hrel
    have HALL := Lib.hid hall
    clear hall
    by_cases hlt : k < r.length
    · obtain ⟨g, o, rfl, _, cf⟩ := hr1.str_at hlt
      have hsl := Wr.mem_bytes (List.getElem_mem hlt)
      have hk0 : (0 : Int) ≤ (k : Int) := by omega
      have hkl : (k : Int) < (r.length : Int) := by omega
      have HV := Lib.hid (HVD.out r[k] (by omega) w1)
      obtain ⟨V, hV⟩ : ∃ V, Utf.valid r[k] = V := ⟨_, rfl⟩
      rw [hV] at HV
      have HVV := Lib.hid hV
      clear hV
      cases V
      · go_wp2_with (fail)
        refine HV.out.mono ?_
        rintro e w2 ⟨rfl, rfl⟩
        go_wp2_with (fail)
        go_ret2
        exact ⟨by rw [HX14.out k hlt HVV.out]; rfl, kk⟩
      · go_wp2_with (fail)
        refine HV.out.mono ?_
        rintro e w2 ⟨rfl, rfl⟩
        go_wp2_with (fail)
        go_round
        case rel =>
          refine ⟨k + 1, by omega, by go_num, fun j hj hjk => ?_⟩
          by_cases e : j = k
          · subst e; exact HVV.out
          · exact HALL.out j hj (by omega)
        case measure => simp [intOf]; omega
    · obtain rfl : k = r.length := by omega
      have hXX := HX0.out (fun j hj => HALL.out j hj hj)
      have HXX := Lib.hid hXX
      clear hXX HX0 HX14 HALL
      go_wp2_with (fail)
      have hB0 := Bd.new w1
      have kA : Keeps [] w1 (w1.alloc (.cells #[.pointer none, .slice none 0 0] 83)) := Keeps.alloc [] w1 _
      have kB : Below w1.heap.size w1 (w1.alloc (.cells #[.pointer none, .slice none 0 0] 83)) := kA.below (Nat.le_refl _) (by simp)
      have hb1l := hb1.lt
      generalize hb : w1.heap.size = b at *
      change Bd (w1.alloc (.cells #[.pointer none, .slice none 0 0] 83)) b b [] at hB0
      generalize w1.alloc _ = w2 at *
      go_loopw [34] (fun i wr => ∃ k : Nat, k ≤ r.length ∧ i = .int .i64 k ∧ Bd wr b b (Wr.rowB DD al first (r.take k)) ∧ Below b w1 wr) (fun i _ => r.length - (intOf i).toNat)
      case atStart => exact ⟨0, Nat.zero_le _, rfl, by rw [List.take_zero]; exact hB0, kB⟩
      case round =>
        obtain ⟨k, hk, rfl, hBd, hBl⟩ := hrel
        clear hB0 kA kB
        have hbw := hb1.below hBl hb1l
        have hrw := hr1.below hBl (by rw [← hb]; have := kk.size; omega)
        have hrl := HRL.out k
        by_cases hlt : k < r.length
        · obtain ⟨g, o, rfl, _, cf⟩ := hrw.str_at hlt
          have hsl := Wr.mem_bytes (List.getElem_mem hlt)
          have hk0 : (0 : Int) ≤ (k : Int) := by omega
          have hkl : (k : Int) < (r.length : Int) := by omega
          obtain ⟨z0, hz0⟩ : ∃ z0, (k == 0) = z0 := ⟨_, rfl⟩
          have hz0' : ((k : Int) == 0) = z0 := by rw [← hz0, Bool.eq_iff_iff, beq_iff_eq, beq_iff_eq]; omega
          have hz1 : 0 < k ↔ z0 = false := by rw [← hz0, beq_eq_false_iff_ne]; omega
          have HZ1 := Lib.hid hz1
          have hrt := HRT.out k hlt
          rw [hz0] at hrt
          have HT := Lib.hid hrt
          have hwl := Wr.writ_len DD r[k] al (first && z0)
          have HW : Hid (∀ w, Calls Try.prog 45 #[.agg #[bv x, bv y, .int .i64 z], sv r[k], .bool al, .bool (first && z0)] w fun e w' => e = .returned (sv (Wr.writ DD r[k] al (first && z0))) ∧ Keeps [] w w') := Lib.hid (fun w => by
            rw [HDDE.out]
            exact HWR.out r[k] al (first && z0) (by omega) w)
          have HDE := Lib.hid (show DD.delim = x by rw [HDDE.out])
          have d0 := hbw.cell_of (i := 0) rfl
          have d1 := hbw.cell_of (i := 1) rfl
          have d2 := hbw.cell_of (i := 2) rfl
          have HBW := Lib.hid hbw
          have HBL := Lib.hid hBl
          have HBD := Lib.hid hBd
          clear hz1 hz0 hrt hbw hBl hBd hrw
          generalize Wr.writ DD r[k] al (first && z0) = F at *
          generalize Wr.rowB DD al first (r.take k) = P at *
          cases z0
          · have hkp : 0 < k := HZ1.out.2 rfl
            have HY := Lib.hid (writeByte_c b b P x wr HBD.out (by omega))
            go_wp2_with (fail)
            with_reducible refine HY.out.mono ?_
            rintro e w3 ⟨rfl, hB3, b3⟩
            have hbx3 := HBW.out.below b3 hb1l
            have d0 := hbx3.cell_of (i := 0) rfl
            have d1 := hbx3.cell_of (i := 1) rfl
            have d2 := hbx3.cell_of (i := 2) rfl
            have HB3 := Lib.hid hB3
            have B03 := Lib.hid (HBL.out.trans b3)
            clear hB3 b3 hbx3 HBW HBL HBD HY
            cases first
            all_goals
              simp only [Bool.false_and, Bool.true_and, Bool.and_self, Bool.and_false, Bool.and_true] at HW
              go_wp2_with (fail)
              with_reducible refine (HW.out _).mono ?_
              rintro e w4 ⟨rfl, k4⟩
              have HS := Lib.hid (writeString_c b b (P ++ [x]) F w4 (HB3.out.keep k4) (by simp; omega) (by omega))
              have B04 := Lib.hid (B03.out.trans (k4.below (Nat.le_of_lt HB3.out.lt.2) (by simp)))
              clear k4 d0 d1 d2
              go_wp2_with (fail)
              with_reducible refine HS.out.mono ?_
              rintro e w5 ⟨rfl, hB5, b5⟩
              go_wp2_with (fail)
              refine ⟨⟨k + 1, by omega, by go_num, ?_, B04.out.trans b5⟩, by simp [intOf]; omega⟩
              rw [HT.out, HDE.out]
              simpa using hB5
          · have hkp : ¬ 0 < k := fun h => by have := HZ1.out.1 h; cases this
            cases first
            all_goals
              simp only [Bool.false_and, Bool.true_and, Bool.and_self, Bool.and_false, Bool.and_true] at HW
              go_wp2_with (fail)
              with_reducible refine (HW.out _).mono ?_
              rintro e w4 ⟨rfl, k4⟩
              have HS := Lib.hid (writeString_c b b P F w4 (HBD.out.keep k4) (by omega) (by omega))
              have B04 := Lib.hid (HBL.out.trans (k4.below (Nat.le_of_lt HBD.out.lt.2) (by simp)))
              clear k4 d0 d1 d2
              go_wp2_with (fail)
              with_reducible refine HS.out.mono ?_
              rintro e w5 ⟨rfl, hB5, b5⟩
              go_wp2_with (fail)
              refine ⟨⟨k + 1, by omega, by go_num, ?_, B04.out.trans b5⟩, by simp [intOf]; omega⟩
              rw [HT.out]
              simpa using hB5
        · obtain rfl : k = r.length := by omega
          have hkl : ¬ ((r.length : Int) < (r.length : Int)) := by omega
          rw [List.take_length] at hBd hrl
          have d0 := hbw.cell_of (i := 0) rfl
          have d1 := hbw.cell_of (i := 1) rfl
          have d2 := hbw.cell_of (i := 2) rfl
          have HBL := Lib.hid hBl
          have HBD := Lib.hid hBd
          have hXX := HXX.out
          rw [HLB.out] at hXX
          have HX9 := Lib.hid hXX
          clear hbw hBl hBd hrw hr1 hXX
          generalize Wr.rowB DD al first r = P at *
          go_wp2_with (fail)
          with_reducible refine (HE.out _).mono ?_
          rintro e w4 ⟨rfl, k4⟩
          have HS := Lib.hid (writeString_c b b P (endB z) w4 (HBD.out.keep k4) (by omega) (by omega))
          have B04 := Lib.hid (HBL.out.trans (k4.below (Nat.le_of_lt HBD.out.lt.2) (by simp)))
          clear k4 d0 d1 d2
          go_wp2_with (fail)
          with_reducible refine HS.out.mono ?_
          rintro e w5 ⟨rfl, hB5, b5⟩
          have HG := Lib.hid (string_c b b _ w5 hB5)
          go_wp2_with (fail)
          with_reducible refine HG.out.mono ?_
          rintro e w6 ⟨rfl, b6⟩
          go_wp2_with (fail)
          go_ret2
          refine ⟨?_, kk.trans (below_keeps ((B04.out.trans b5).trans b6) (by omega)) (by simp)⟩
          rw [HX9.out, HDDE.out]
          rfl
end Go.Proofs.Ytcmoldondflilaa.WLine
