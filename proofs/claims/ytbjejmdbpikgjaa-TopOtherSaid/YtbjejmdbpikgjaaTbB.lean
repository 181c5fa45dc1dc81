/- Melted of the texts Line Txt Txt2 QuoW Ref10 Ref10b Pcs. -/
import Derived.Test.YtbjejmdbpikgjaaWPlain4
import Derived.Test.YtbjejmdbpikgjaaUtfS
import Derived.Test.YtbjejmdbpikgjaaQuo
import Derived.Test.YtbjejmdbpikgjaaEnd
import Derived.Test.YtbjejmdbpikgjaaWide
import Derived.BigQuiet
import Derived.Test.YtbjejmdbpikgjaaUtfW3
import Derived.Deep.RegionHeld3
import Derived.Deep.RegionWith
import Derived.Deep.RegionLaw
import Derived.BigRegion
import Derived.Test.YtbjejmdbpikgjaaStep
namespace Go.Proofs.Ytbjejmdbpikgjaa.WLine
set_option linter.unusedVariables false
set_option linter.unusedSimpArgs false
set_option maxRecDepth 100000
open Go.RowKit Q Mach Dia Need Bld Quo
open Tab (fieldsOf bytesOf bytesOfRow)
attribute [local go_sem ↓] Go.wp_at_zero Go.wp_at_succ
/-- A record's line, or what bars it. -/
def lineR (d : Dia) (r : Row) (first : Bool) : Bs × Nat := if d.right then (if Wr.may r = 0 then (Wr.lineB d r first, 0) else ([], Wr.may r)) else ([], 1)
def lineV (x : Bs × Nat) : Value := .tuple #[sv x.1, .int .i64 x.2]
theorem writ_eq (d : Dia) (f : Bs) (a b : Bool) : writB d f a b = Wr.writ d f a b := rfl
theorem below_keeps {w w' : World} {B : Nat} (h : Below B w w') (hB : w.heap.size ≤ B) : Keeps [] w w' := ⟨h.os, h.tape, h.output, h.size, fun k hk _ => h.block k (by omega)⟩
set_option maxHeartbeats 20000000 in
theorem line_c (d : Dia) (A : Value) (r : Row) (first : Bool) (B1 : Nat) (w : World) (hr : Rd w B1 1 A r.length (r.map sv)) (hB : B1 ≤ w.heap.size) (h1 : r.length ≤ 10000) (h2 : bytesOfRow r ≤ 10000) :
    Calls Try.prog 50 #[diaV d, A, .bool first] w fun e w' => e = .returned (lineV (lineR d r first)) ∧ Keeps [] w w' := by
  have HC := Lib.hid (fun w => check_c d w)
  have kp : Keeps [] w (w.alloc (.cells #[bv d.delim, bv d.quote, .int .i64 d.fin] 23)) := Keeps.alloc [] w _
  have hbx := Blk.new w 23 [bv d.delim, bv d.quote, .int .i64 d.fin]
  have hr' := hr
  obtain ⟨A, ca, rfl, ha1, ha2⟩ := hr.form
  unfold maxLen at ha2
  obtain ⟨X, hX⟩ : ∃ X, lineR d r first = X := ⟨_, rfl⟩
  rw [hX]
  unfold lineR at hX
  have c0 := hbx.cell_of (i := 0) rfl
  have c1 := hbx.cell_of (i := 1) rfl
  have c2 := hbx.cell_of (i := 2) rfl
  obtain ⟨R, hR⟩ : ∃ R, d.right = R := ⟨_, rfl⟩
  rw [hR] at HC hX
  have HE := Lib.hid (fun w => dend_c d w)
  rw [hR] at HE
  clear hR
  cases R
  · simp only [Bool.false_eq_true, if_false] at HC hX
    have HX := Lib.hid hX
    clear hX hr
    obtain ⟨x, y, z⟩ := d
    go_enter Try.func50, Try.ntmps50
    go_wp2_with (fail)
    refine (HC.out _).mono ?_
    rintro e w1 ⟨rfl, k1⟩
    go_wp2_with (fail)
    go_ret2
    exact ⟨by rw [← HX.out]; rfl, kp.trans k1 (by simp)⟩
  simp only [if_true] at HC hX HE
  by_cases hr0 : r = []
  · have hX2 : X = ([], 13) := by rw [← hX, hr0]; rfl
    have HX := Lib.hid hX2
    have e0 : ((r.length : Int) == 0) = true := by rw [hr0]; rfl
    clear hX hX2 hr hr0
    obtain ⟨x, y, z⟩ := d
    go_enter Try.func50, Try.ntmps50
    go_wp2_with (fail)
    refine (HC.out _).mono ?_
    rintro e w1 ⟨rfl, k1⟩
    go_wp2_with (fail)
    go_ret2
    exact ⟨by rw [HX.out]; rfl, kp.trans k1 (by simp)⟩
  have e0 : ((r.length : Int) == 0) = false := by
    rw [beq_eq_false_iff_ne]
    have := List.length_pos_iff.2 hr0
    omega
  have hX14 : ∀ (j : Nat) (hj : j < r.length), Utf.valid r[j] = false → X = ([], 14) := by
    intro j hj hv
    have hm : Wr.may r = 14 := by
      unfold Wr.may
      have h1 : r.isEmpty = false := by cases r with | nil => exact absurd rfl hr0 | cons => rfl
      have h2 : r.all Utf.valid = false := by
        rw [List.all_eq_false]
        exact ⟨r[j], List.getElem_mem hj, by simp [hv]⟩
      rw [h1, h2]; rfl
    rw [← hX, hm]; rfl
  have hX0 : (∀ (j : Nat) (hj : j < r.length), Utf.valid r[j] = true) → X = (Wr.lineB d r first, 0) := by
    intro h
    have hm : Wr.may r = 0 := by
      unfold Wr.may
      have h1 : r.isEmpty = false := by cases r with | nil => exact absurd rfl hr0 | cons => rfl
      have h2 : r.all Utf.valid = true := by
        rw [List.all_eq_true]
        intro f hf
        obtain ⟨j, hj, rfl⟩ := List.getElem_of_mem hf
        exact h j hj
      rw [h1, h2]; rfl
    rw [← hX, hm]; rfl
  have HX14 := Lib.hid hX14
  have HX0 := Lib.hid hX0
  have HVD := Lib.hid (fun l (hl : l.length ≤ 100000) w => UtfS.valid_c l hl w)
  have HWR := Lib.hid (fun f al fi (hf : f.length ≤ 100000) w => written_c d f al fi hf w)
  clear hX hX14 hX0 hr0
  obtain ⟨al, hal⟩ : ∃ al, (r.length == 1) = al := ⟨_, rfl⟩
  have hal' : ((r.length : Int) == 1) = al := by rw [← hal, Bool.eq_iff_iff, beq_iff_eq, beq_iff_eq]; omega
  have HLB : Hid (Wr.lineB d r first = Wr.rowB d al first r ++ endB d.fin) := Lib.hid (by rw [← hal]; rfl)
  have HRT := Lib.hid (fun k h => Wr.row_take d al first r k h)
  have HRL := Lib.hid (fun k => Wr.row_take_len d al first r k)
  have HDD := Lib.hid (rfl : d = d)
  obtain ⟨DD, hDD⟩ : ∃ D : Dia, D = d := ⟨_, rfl⟩
  rw [← hDD] at HRT HRL HLB HX0
  have HDDE := Lib.hid hDD
  clear hDD HDD hal
  have hel : (endB d.fin).length ≤ 2 := Wr.eol_le d
  obtain ⟨x, y, z⟩ := d
  go_enter Try.func50, Try.ntmps50
  go_wp2_with (fail)
  refine (HC.out _).mono ?_
  rintro e w1 ⟨rfl, k1⟩
  have kk := kp.trans k1 (by simp)
  have hb1 := hbx.keep k1 (by simp)
  have hr1 := hr'.keepB kk (by simp)
  clear c0 c1 c2 hbx kp k1 hr
  go_wp2_with (fail)
  go_loop [24] (fun i => ∃ k : Nat, k ≤ r.length ∧ i = .int .i64 k ∧ ∀ (j : Nat) (hj : j < r.length), j < k → Utf.valid r[j] = true) (fun i => r.length - (intOf i).toNat)
  case atStart => exact ⟨0, by omega, rfl, by intro j _ h; omega⟩
  case round =>
    obtain ⟨k, hk, rfl, hall⟩ := hrel
    have HALL := Lib.hid hall
    clear hall
    by_cases hlt : k < r.length
    · obtain ⟨g, o, rfl, _, cf⟩ := hr1.str_at hlt
      have hsl := Wr.mem_bytes (List.getElem_mem hlt)
      have hk0 : (0 : Int) ≤ (k : Int) := by omega
      have hkl : (k : Int) < (r.length : Int) := by omega
      have HV := Lib.hid (HVD.out r[k] (by omega) w1)
      obtain ⟨V, hV⟩ : ∃ V, Utf.valid r[k] = V := ⟨_, rfl⟩
      rw [hV] at HV
      have HVV := Lib.hid hV
      clear hV
      cases V
      · go_wp2_with (fail)
        refine HV.out.mono ?_
        rintro e w2 ⟨rfl, rfl⟩
        go_wp2_with (fail)
        go_ret2
        exact ⟨by rw [HX14.out k hlt HVV.out]; rfl, kk⟩
      · go_wp2_with (fail)
        refine HV.out.mono ?_
        rintro e w2 ⟨rfl, rfl⟩
        go_wp2_with (fail)
        go_round
        case rel =>
          refine ⟨k + 1, by omega, by go_num, fun j hj hjk => ?_⟩
          by_cases e : j = k
          · subst e; exact HVV.out
          · exact HALL.out j hj (by omega)
        case measure => simp [intOf]; omega
    · obtain rfl : k = r.length := by omega
      have hXX := HX0.out (fun j hj => HALL.out j hj hj)
      have HXX := Lib.hid hXX
      clear hXX HX0 HX14 HALL
      go_wp2_with (fail)
      have hB0 := Bd.new w1
      have kA : Keeps [] w1 (w1.alloc (.cells #[.pointer none, .slice none 0 0] 132)) := Keeps.alloc [] w1 _
      have kB : Below w1.heap.size w1 (w1.alloc (.cells #[.pointer none, .slice none 0 0] 132)) := kA.below (Nat.le_refl _) (by simp)
      have hb1l := hb1.lt
      generalize hb : w1.heap.size = b at *
      change Bd (w1.alloc (.cells #[.pointer none, .slice none 0 0] 132)) b b [] at hB0
      generalize w1.alloc _ = w2 at *
      go_loopw [34] (fun i wr => ∃ k : Nat, k ≤ r.length ∧ i = .int .i64 k ∧ Bd wr b b (Wr.rowB DD al first (r.take k)) ∧ Below b w1 wr) (fun i _ => r.length - (intOf i).toNat)
      case atStart => exact ⟨0, Nat.zero_le _, rfl, by rw [List.take_zero]; exact hB0, kB⟩
      case round =>
        obtain ⟨k, hk, rfl, hBd, hBl⟩ := hrel
        clear hB0 kA kB
        have hbw := hb1.below hBl hb1l
        have hrw := hr1.below hBl (by rw [← hb]; have := kk.size; omega)
        have hrl := HRL.out k
        by_cases hlt : k < r.length
        · obtain ⟨g, o, rfl, _, cf⟩ := hrw.str_at hlt
          have hsl := Wr.mem_bytes (List.getElem_mem hlt)
          have hk0 : (0 : Int) ≤ (k : Int) := by omega
          have hkl : (k : Int) < (r.length : Int) := by omega
          obtain ⟨z0, hz0⟩ : ∃ z0, (k == 0) = z0 := ⟨_, rfl⟩
          have hz0' : ((k : Int) == 0) = z0 := by rw [← hz0, Bool.eq_iff_iff, beq_iff_eq, beq_iff_eq]; omega
          have hz1 : 0 < k ↔ z0 = false := by rw [← hz0, beq_eq_false_iff_ne]; omega
          have HZ1 := Lib.hid hz1
          have hrt := HRT.out k hlt
          rw [hz0] at hrt
          have HT := Lib.hid hrt
          have hwl := Wr.writ_len DD r[k] al (first && z0)
          have HW : Hid (∀ w, Calls Try.prog 73 #[.agg #[bv x, bv y, .int .i64 z], sv r[k], .bool al, .bool (first && z0)] w fun e w' => e = .returned (sv (Wr.writ DD r[k] al (first && z0))) ∧ Keeps [] w w') := Lib.hid (fun w => by
            rw [HDDE.out]
            exact HWR.out r[k] al (first && z0) (by omega) w)
          have HDE := Lib.hid (show DD.delim = x by rw [HDDE.out])
          have d0 := hbw.cell_of (i := 0) rfl
          have d1 := hbw.cell_of (i := 1) rfl
          have d2 := hbw.cell_of (i := 2) rfl
          have HBW := Lib.hid hbw
          have HBL := Lib.hid hBl
          have HBD := Lib.hid hBd
          clear hz1 hz0 hrt hbw hBl hBd hrw
          generalize Wr.writ DD r[k] al (first && z0) = F at *
          generalize Wr.rowB DD al first (r.take k) = P at *
          cases z0
          · have hkp : 0 < k := HZ1.out.2 rfl
            have HY := Lib.hid (writeByte_c b b P x wr HBD.out (by omega))
            go_wp2_with (fail)
            with_reducible refine HY.out.mono ?_
            rintro e w3 ⟨rfl, hB3, b3⟩
            have hbx3 := HBW.out.below b3 hb1l
            have d0 := hbx3.cell_of (i := 0) rfl
            have d1 := hbx3.cell_of (i := 1) rfl
            have d2 := hbx3.cell_of (i := 2) rfl
            have HB3 := Lib.hid hB3
            have B03 := Lib.hid (HBL.out.trans b3)
            clear hB3 b3 hbx3 HBW HBL HBD HY
            cases first
            all_goals
              simp only [Bool.false_and, Bool.true_and, Bool.and_self, Bool.and_false, Bool.and_true] at HW
              go_wp2_with (fail)
              with_reducible refine (HW.out _).mono ?_
              rintro e w4 ⟨rfl, k4⟩
              have HS := Lib.hid (writeString_c b b (P ++ [x]) F w4 (HB3.out.keep k4) (by simp; omega) (by omega))
              have B04 := Lib.hid (B03.out.trans (k4.below (Nat.le_of_lt HB3.out.lt.2) (by simp)))
              clear k4 d0 d1 d2
              go_wp2_with (fail)
              with_reducible refine HS.out.mono ?_
              rintro e w5 ⟨rfl, hB5, b5⟩
              go_wp2_with (fail)
              refine ⟨⟨k + 1, by omega, by go_num, ?_, B04.out.trans b5⟩, by simp [intOf]; omega⟩
              rw [HT.out, HDE.out]
              simpa using hB5
          · have hkp : ¬ 0 < k := fun h => by have := HZ1.out.1 h; cases this
            cases first
            all_goals
              simp only [Bool.false_and, Bool.true_and, Bool.and_self, Bool.and_false, Bool.and_true] at HW
              go_wp2_with (fail)
              with_reducible refine (HW.out _).mono ?_
              rintro e w4 ⟨rfl, k4⟩
              have HS := Lib.hid (writeString_c b b P F w4 (HBD.out.keep k4) (by omega) (by omega))
              have B04 := Lib.hid (HBL.out.trans (k4.below (Nat.le_of_lt HBD.out.lt.2) (by simp)))
              clear k4 d0 d1 d2
              go_wp2_with (fail)
              with_reducible refine HS.out.mono ?_
              rintro e w5 ⟨rfl, hB5, b5⟩
              go_wp2_with (fail)
              refine ⟨⟨k + 1, by omega, by go_num, ?_, B04.out.trans b5⟩, by simp [intOf]; omega⟩
              rw [HT.out]
              simpa using hB5
        · obtain rfl : k = r.length := by omega
          have hkl : ¬ ((r.length : Int) < (r.length : Int)) := by omega
          rw [List.take_length] at hBd hrl
          have d0 := hbw.cell_of (i := 0) rfl
          have d1 := hbw.cell_of (i := 1) rfl
          have d2 := hbw.cell_of (i := 2) rfl
          have HBL := Lib.hid hBl
          have HBD := Lib.hid hBd
          have hXX := HXX.out
          rw [HLB.out] at hXX
          have HX9 := Lib.hid hXX
          clear hbw hBl hBd hrw hr1 hXX
          generalize Wr.rowB DD al first r = P at *
          go_wp2_with (fail)
          with_reducible refine (HE.out _).mono ?_
          rintro e w4 ⟨rfl, k4⟩
          have HS := Lib.hid (writeString_c b b P (endB z) w4 (HBD.out.keep k4) (by omega) (by omega))
          have B04 := Lib.hid (HBL.out.trans (k4.below (Nat.le_of_lt HBD.out.lt.2) (by simp)))
          clear k4 d0 d1 d2
          go_wp2_with (fail)
          with_reducible refine HS.out.mono ?_
          rintro e w5 ⟨rfl, hB5, b5⟩
          have HG := Lib.hid (string_c b b _ w5 hB5)
          go_wp2_with (fail)
          with_reducible refine HG.out.mono ?_
          rintro e w6 ⟨rfl, b6⟩
          go_wp2_with (fail)
          go_ret2
          refine ⟨?_, kk.trans (below_keeps ((B04.out.trans b5).trans b6) (by omega)) (by simp)⟩
          rw [HX9.out, HDDE.out]
          rfl
end Go.Proofs.Ytbjejmdbpikgjaa.WLine
namespace Go.Proofs.Ytbjejmdbpikgjaa.WLine
set_option linter.unusedVariables false
set_option linter.unusedSimpArgs false
set_option maxRecDepth 100000
open Go.RowKit Q Mach Dia Need Bld Quo
open Tab (fieldsOf bytesOf bytesOfRow)
attribute [local go_sem ↓] Go.wp_at_zero Go.wp_at_succ
/-- A table's text, how many records; or the first one that may not be written, and why. -/
def tableR (d : Dia) (t : Tb) : Bs × Nat × Nat := if d.right then (if Wr.front t < t.length then ([], Wr.front t, Wr.may (t.getD (Wr.front t) [])) else (Wr.textB d true t, t.length, 0)) else ([], 0, 1)
def tableV (x : Bs × Nat × Nat) : Value := .tuple #[sv x.1, .int .i64 x.2.1, .int .i64 x.2.2]
end Go.Proofs.Ytbjejmdbpikgjaa.WLine
namespace Go.Proofs.Ytbjejmdbpikgjaa.WLine
set_option linter.unusedVariables false
set_option linter.unusedSimpArgs false
set_option maxRecDepth 100000
open Go.RowKit Q Mach Dia Need Bld Quo
open Tab (fieldsOf bytesOf bytesOfRow)
attribute [local go_sem ↓] Go.wp_at_zero Go.wp_at_succ
theorem rdc1 {w : World} {g B : Nat} {u : Value} (hB : g < B) (h : w.cell? ⟨g, 0, none⟩ = some u) : Rd w B 1 (.slice (some ⟨g, 0, none⟩) 1 1) 1 [u] :=
  ⟨_, _, rfl, Nat.le_refl _, by simp [maxLen], rfl, .inr ⟨g, 0, rfl, hB, by intro j x hx; match j, hx with | 0, hx => simp at hx; subst hx; exact h⟩⟩
theorem rdc2 {w : World} {g B : Nat} {u v : Value} (hB : g < B) (h : w.cell? ⟨g, 0, none⟩ = some u) (h2 : w.cell? ⟨g, 1, none⟩ = some v) : Rd w B 1 (.slice (some ⟨g, 0, none⟩) 2 2) 2 [u, v] :=
  ⟨_, _, rfl, Nat.le_refl _, by simp [maxLen], rfl, .inr ⟨g, 0, rfl, hB, by intro j x hx; match j, hx with | 0, hx => simp at hx; subst hx; exact h | 1, hx => simp at hx; subst hx; exact h2⟩⟩
theorem front_bad : ∀ (t : Tb), Wr.front t < t.length → Wr.may (t.getD (Wr.front t) []) ≠ 0
  | [], h => by simp at h
  | r :: t, h => by
    unfold Wr.front at h ⊢
    simp only [List.takeWhile] at h ⊢
    cases hr : (Wr.may r == 0)
    · simp only [List.length_nil]
      simpa [List.getD] using hr
    · rw [hr] at h
      simp only [List.length_cons] at h ⊢
      have := front_bad t (by unfold Wr.front; omega)
      unfold Wr.front at this
      simpa [List.getD] using this
/-- A table that may be written. -/
theorem table_ok {d : Dia} {t : Tb} (h : (tableR d t).2.2 = 0) : d.right = true ∧ tableR d t = (Wr.textB d true t, t.length, 0) ∧ ∀ r ∈ t, Wr.may r = 0 := by
  unfold tableR at h ⊢
  cases hr : d.right
  · rw [hr] at h; simp at h
  · rw [hr] at h
    simp only [if_true] at h ⊢
    by_cases hf : Wr.front t < t.length
    · rw [if_pos hf] at h
      exact absurd h (front_bad t hf)
    · rw [if_neg hf]
      have := Wr.front_le t
      exact ⟨trivial, rfl, Wr.front_full (by omega)⟩
def endsB (s e : Bs) : Bool := s == [] || (decide (e.length ≤ s.length) && (s.drop (s.length - e.length) == e))
theorem ends_closed {d : Dia} {s : Bs} (h : endsB s (Wr.eol d) = true) : Wr.Closed s := by
  unfold endsB at h
  rw [Bool.or_eq_true, beq_iff_eq, Bool.and_eq_true, decide_eq_true_iff, beq_iff_eq] at h
  rcases h with h | ⟨h1, h2⟩
  · exact .inl h
  · right
    have h3 : (Wr.eol d).getLast? = some 10 := by unfold Wr.eol; split <;> rfl
    rw [← h2, List.getLast?_drop, if_neg] at h3
    · exact h3
    · unfold Wr.eol at h1 ⊢
      split at h1 <;> simp_all <;> omega
end Go.Proofs.Ytbjejmdbpikgjaa.WLine
namespace Go.Proofs.Ytbjejmdbpikgjaa.Quo
set_option linter.unusedVariables false
set_option linter.unusedSimpArgs false
set_option maxRecDepth 100000
open Go.RowKit Q Mach Dia Need Bld QuoPlain
attribute [local go_sem ↓] Go.wp_at_zero Go.wp_at_succ

set_option maxHeartbeats 1000000 in
theorem rwritten_c (d : Dia) (f : Bs) (alone first : Bool) (A F : Int) (hA : (A == 1) = alone) (hF : (F == 1) = first) (hf : f.length ≤ 100000) (w : World) : Calls Try.prog 68 #[rdiaV d, sv f, .int .i64 A, .int .i64 F] w fun e w' => e = .returned (sv (writB d f alone first)) ∧ Keeps [] w w' := by
  have HW := Lib.hid (fun w => rwhy_c d f alone first A F hA hF (by unfold maxLen; omega) w)
  have HQ := Lib.hid (fun w => rquoted_c d f hf w)
  have hb0 := Blk.new w 48 [.int .i64 d.delim.toNat, .int .i64 d.quote.toNat, .int .i64 d.fin]
  have kp := Keeps.alloc [] w (.cells #[.int .i64 d.delim.toNat, .int .i64 d.quote.toNat, .int .i64 d.fin] 48)
  unfold writB
  generalize whyB d f alone first = n at *
  obtain ⟨x, q, z⟩ := d
  clear hA hF
  by_cases hn : n = 0
  · have hn' : decide (0 < (n : Int)) = false := by simp; omega
    have hn2 : decide (0 < n) = false := by simp; omega
    obtain ⟨o, ho⟩ : ∃ o, (if (n != 0) = true then quoB q f else f) = o := ⟨_, rfl⟩
    rw [ho]
    have HN : Hid (o = f) := Lib.hid (by rw [← ho, if_neg (by simpa using hn)])
    clear hn ho
    go_enter Try.func68, Try.ntmps68
    go_wp2_with (fail)
    refine (HW.out _).mono ?_
    rintro e w1 ⟨rfl, k1⟩
    go_wp2_with (fail)
    go_ret
    exact ⟨by rw [HN.out]; rfl, kp.trans k1 (by simp)⟩
  · have hn' : decide (0 < (n : Int)) = true := by simp; omega
    have hn2 : decide (0 < n) = true := by simp; omega
    obtain ⟨o, ho⟩ : ∃ o, (if (n != 0) = true then quoB q f else f) = o := ⟨_, rfl⟩
    rw [ho]
    have HN : Hid (o = quoB q f) := Lib.hid (by rw [← ho, if_pos (by simpa using hn)])
    clear hn ho
    go_enter Try.func68, Try.ntmps68
    go_wp2_with (fail)
    refine (HW.out _).mono ?_
    rintro e w1 ⟨rfl, k1⟩
    have hb1 := hb0.keep k1 (by simp)
    have c0 := hb1.cell_of (i := 0) rfl
    have c1 := hb1.cell_of (i := 1) rfl
    have c2 := hb1.cell_of (i := 2) rfl
    clear hb0
    go_wp2_with (fail)
    refine (HQ.out _).mono ?_
    rintro e w2 ⟨rfl, k2⟩
    go_wp2_with (fail)
    go_ret
    exact ⟨by rw [HN.out]; rfl, (kp.trans k1 (by simp)).trans k2 (by simp)⟩
end Go.Proofs.Ytbjejmdbpikgjaa.Quo
namespace Go.Proofs.Ytbjejmdbpikgjaa.WLine
set_option linter.unusedVariables false
set_option linter.unusedSimpArgs false
set_option maxRecDepth 100000
open Go.RowKit Q Mach Dia Need Bld Quo
open Tab (fieldsOf bytesOf bytesOfRow)
attribute [local go_sem ↓] Go.wp_at_zero Go.wp_at_succ
theorem valid_not {f : Bs} (h : Utf.wholeP f < f.length) : Utf.valid f = false := by
  cases hv : Utf.valid f
  · rfl
  · have := (Utf.whole_auto f).2 hv
    omega
theorem may_14 {r : Row} {j : Nat} (hj : j < r.length) (hv : Utf.valid r[j] = false) : Wr.may r = 14 := by
  unfold Wr.may
  have h1 : r.isEmpty = false := by cases r with | nil => simp at hj | cons => rfl
  have h2 : r.all Utf.valid = false := by
    rw [List.all_eq_false]
    exact ⟨r[j], List.getElem_mem hj, by simp [hv]⟩
  rw [h1, h2]; rfl
theorem may_0 {r : Row} (hr0 : r ≠ []) (h : ∀ (j : Nat) (hj : j < r.length), Utf.valid r[j] = true) : Wr.may r = 0 := by
  unfold Wr.may
  have h1 : r.isEmpty = false := by cases r with | nil => exact absurd rfl hr0 | cons => rfl
  have h2 : r.all Utf.valid = true := by
    rw [List.all_eq_true]
    intro f hf
    obtain ⟨j, hj, rfl⟩ := List.getElem_of_mem hf
    exact h j hj
  rw [h1, h2]; rfl
set_option maxHeartbeats 4000000 in
theorem may_c (A : Value) (r : Row) (B1 : Nat) (w : World) (hr : Rd w B1 1 A r.length (r.map sv)) (h2 : bytesOfRow r ≤ 10000) :
    Calls Try.prog 25 #[A] w fun e w' => e = .returned (.int .i64 (Wr.may r)) ∧ Keeps [] w w' := by
  have hr' := hr
  obtain ⟨A, ca, rfl, ha1, ha2⟩ := hr.form
  unfold maxLen at ha2
  by_cases hr0 : r = []
  · have e0 : ((r.length : Int) == 0) = true := by rw [hr0]; rfl
    have hm : Wr.may r = 13 := by rw [hr0]; rfl
    rw [hm]
    clear hr hr' hr0 hm
    go_enter Try.func25, Try.ntmps25
    go_wp2_with (fail)
    go_ret
    exact ⟨rfl, Keeps.refl _ _⟩
  have e0 : ((r.length : Int) == 0) = false := by
    rw [beq_eq_false_iff_ne]
    have := List.length_pos_iff.2 hr0
    omega
  have H0 := Lib.hid (fun h => may_0 (r := r) hr0 h)
  have H14 := Lib.hid (fun j hj hv => may_14 (r := r) (j := j) hj hv)
  obtain ⟨M, hM⟩ : ∃ M, Wr.may r = M := ⟨_, rfl⟩
  rw [hM]
  rw [hM] at H0 H14
  clear hM hr0
  go_enter Try.func25, Try.ntmps25
  go_wp2_with (fail)
  go_loopw [10] (fun i wr => ∃ k : Nat, k ≤ r.length ∧ i = .int .i64 k ∧ (∀ (j : Nat) (hj : j < r.length), j < k → Utf.valid r[j] = true) ∧ Keeps [] w wr) (fun i _ => r.length - (intOf i).toNat)
  case atStart => exact ⟨0, by omega, rfl, by intro j _ h; omega, Keeps.refl _ _⟩
  case round =>
    obtain ⟨k, hk, rfl, hall, kw⟩ := hrel
    have HALL := Lib.hid hall
    clear hall
    by_cases hlt : k < r.length
    · have hrw := hr'.keepB kw (by simp)
      obtain ⟨g, o, rfl, _, cf⟩ := hrw.str_at hlt
      have hsl := Wr.mem_bytes (List.getElem_mem hlt)
      have hk0 : (0 : Int) ≤ (k : Int) := by omega
      have hkl : (k : Int) < (r.length : Int) := by omega
      have HW := Lib.hid (UtfW.whole_c r[k] (by omega) wr)
      have HB : Hid (Utf.wholeP r[k] < r[k].length → M = 14) := Lib.hid (fun h => H14.out k hlt (valid_not (f := r[k]) h))
      have HG : Hid (¬ Utf.wholeP r[k] < r[k].length → Utf.valid r[k] = true) := Lib.hid (fun h => by
        rw [← Utf.whole_auto]
        have := (Utf.whole_spec r[k]).1
        omega)
      clear hrw hr hr'
      by_cases hv : Utf.wholeP r[k] < r[k].length
      · go_wp2_with (fail)
        with_reducible refine HW.out.mono ?_
        rintro e w1 ⟨rfl, k1⟩
        go_wp2_with (fail)
        go_ret
        exact ⟨by rw [HB.out hv]; rfl, kw.trans k1 (by simp)⟩
      · go_wp2_with (fail)
        with_reducible refine HW.out.mono ?_
        rintro e w1 ⟨rfl, k1⟩
        go_wp2_with (fail)
        refine ⟨⟨k + 1, by omega, by go_num, fun j hj hjk => ?_, kw.trans k1 (by simp)⟩, by simp [intOf]; omega⟩
        by_cases e : j = k
        · subst e; exact HG.out hv
        · exact HALL.out j hj (by omega)
    · obtain rfl : k = r.length := by omega
      have HM := Lib.hid (H0.out (fun j hj => HALL.out j hj hj))
      clear HALL
      go_wp2_with (fail)
      go_ret
      exact ⟨by rw [HM.out]; rfl, kw⟩
def oneI (b : Bool) : Int := if b then 1 else 0
theorem one10_c (b : Bool) (w : World) : Calls Try.prog 48 #[.bool b] w fun e w' => e = .returned (.int .i64 (oneI b)) ∧ w' = w := by
  unfold oneI
  cases b
  all_goals
    go_enter Try.func48, Try.ntmps48
    go_wp2_with (fail)
    go_ret
    exact ⟨rfl, rfl⟩
theorem tail_at {P : Program} {ops : Array Oper} {Q : Exit → Act → World → Prop} {rest : List Oper} {a : Act} {w w' : World} (h : w = w') (k : wpList P ops Q rest a w') : wpList P ops Q rest a w := h ▸ k
set_option maxHeartbeats 20000000 in
theorem rline_c (d : Dia) (A : Value) (r : Row) (first : Bool) (N : Int) (hN : (N == 1) = first) (B1 : Nat) (w : World) (hr : Rd w B1 1 A r.length (r.map sv)) (hB : B1 ≤ w.heap.size) (h1 : r.length ≤ 10000) (h2 : bytesOfRow r ≤ 10000) :
    Calls Try.prog 47 #[rdiaV d, A, .int .i64 N] w fun e w' => e = .returned (sv (Wr.lineB d r first)) ∧ Keeps [] w w' := by
  have hcat : ∀ x y : List UInt8, (ByteArray.mk x.toArray ++ ByteArray.mk y.toArray) = ⟨(x ++ y).toArray⟩ := cat_mk
  have kp := Keeps.alloc [] w (.cells #[.int .i64 d.delim.toNat, .int .i64 d.quote.toNat, .int .i64 d.fin] 48)
  have hbx := Blk.new w 48 [.int .i64 d.delim.toNat, .int .i64 d.quote.toNat, .int .i64 d.fin]
  have hr' := hr
  obtain ⟨A, ca, rfl, ha1, ha2⟩ := hr.form
  unfold maxLen at ha2
  have hwx : IntKind.u8.wrap (d.delim.toNat : Int) = d.delim.toNat := by rw [IntKind.wrap_u8]; have := wrap_u8 d.delim; omega
  obtain ⟨al, hal⟩ : ∃ al, (r.length == 1) = al := ⟨_, rfl⟩
  have hal' : ((r.length : Int) == 1) = al := by rw [← hal, Bool.eq_iff_iff, beq_iff_eq, beq_iff_eq]; omega
  have HLB : Hid (Wr.lineB d r first = Wr.rowB d al first r ++ endB d.fin) := Lib.hid (by rw [← hal]; rfl)
  have HRT := Lib.hid (fun k h => Wr.row_take d al first r k h)
  have HRL := Lib.hid (fun k => Wr.row_take_len d al first r k)
  have HON := Lib.hid one10_c
  have HWR := Lib.hid (fun f al fi A F hA hF (hf : f.length ≤ 100000) w => rwritten_c d f al fi A F hA hF hf w)
  have HE := Lib.hid (fun w => rend_c d w)
  obtain ⟨X, hX⟩ : ∃ X, Wr.lineB d r first = X := ⟨_, rfl⟩
  rw [hX]
  rw [hX] at HLB
  obtain ⟨DD, hDD⟩ : ∃ D : Dia, D = d := ⟨_, rfl⟩
  rw [← hDD] at HRT HRL HLB
  have HDDE := Lib.hid hDD
  clear hDD hal hX
  have hel : (endB d.fin).length ≤ 2 := Wr.eol_le d
  obtain ⟨x, y, z⟩ := d
  go_enter Try.func47, Try.ntmps47
  go_wp2_with (fail)
  generalize w.alloc (.cells #[.int .i64 x.toNat, .int .i64 y.toNat, .int .i64 z] 48) = w1 at *
  have hr1 := hr'.keepB kp (by simp)
  clear hr
  go_loopw [7, 12] (fun s i wr => ∃ k : Nat, k ≤ r.length ∧ i = .int .i64 k ∧ s = sv (Wr.rowB DD al first (r.take k)) ∧ Keeps [] w1 wr) (fun _ i _ => r.length - (intOf i).toNat)
  case atStart => exact ⟨0, Nat.zero_le _, rfl, by rw [List.take_zero]; rfl, Keeps.refl _ _⟩
  case round =>
    obtain ⟨k, hk, rfl, rfl, kw⟩ := hrel
    have hbw := hbx.keep kw (by simp)
    have hrw := hr1.keepB kw (by simp)
    have hrl := HRL.out k
    by_cases hlt : k < r.length
    · obtain ⟨g, o, rfl, _, cf⟩ := hrw.str_at hlt
      have hsl := Wr.mem_bytes (List.getElem_mem hlt)
      have hk0 : (0 : Int) ≤ (k : Int) := by omega
      have hkl : (k : Int) < (r.length : Int) := by omega
      obtain ⟨z0, hz0⟩ : ∃ z0, (k == 0) = z0 := ⟨_, rfl⟩
      have hz0' : ((k : Int) == 0) = z0 := by rw [← hz0, Bool.eq_iff_iff, beq_iff_eq, beq_iff_eq]; omega
      have hz1 : 0 < k ↔ z0 = false := by rw [← hz0, beq_eq_false_iff_ne]; omega
      have HZ1 := Lib.hid hz1
      have hrt := HRT.out k hlt
      rw [hz0] at hrt
      have HT := Lib.hid hrt
      have hwl := Wr.writ_len DD r[k] al (first && z0)
      have HW : Hid (∀ w, Calls Try.prog 68 #[.agg #[.int .i64 x.toNat, .int .i64 y.toNat, .int .i64 z], sv r[k], .int .i64 (oneI al), .int .i64 (oneI (first && z0))] w fun e w' => e = .returned (sv (Wr.writ DD r[k] al (first && z0))) ∧ Keeps [] w w') := Lib.hid (fun w => by
        rw [HDDE.out]
        exact HWR.out r[k] al (first && z0) _ _ (by cases al <;> rfl) (by cases first <;> cases z0 <;> rfl) (by omega) w)
      have HDE := Lib.hid (show DD.delim = x by rw [HDDE.out])
      have d0 := hbw.cell_of (i := 0) rfl
      have d1 := hbw.cell_of (i := 1) rfl
      have d2 := hbw.cell_of (i := 2) rfl
      have hlb := hbw.lt
      have hwF : (Wr.writ DD r[k] al (first && z0)).length ≤ 30000 := by omega
      have hwP : (Wr.rowB DD al first (r.take k)).length ≤ 60000 := by omega
      clear hz1 hz0 hrt hbw hrw HRT HRL HWR HE HLB hwl hrl
      generalize Wr.writ DD r[k] al (first && z0) = F at *
      generalize Wr.rowB DD al first (r.take k) = P at *
      generalize r[k] = f at *
      obtain ⟨P2, hP2⟩ : ∃ P2, P ++ (if z0 then [] else [x]) = P2 := ⟨_, rfl⟩
      have hP2l : P2.length ≤ 60001 := by rw [← hP2]; cases z0 <;> simp <;> omega
      have HP2 := Lib.hid hP2
      have HTT : Hid (Wr.rowB DD al first (r.take (k + 1)) = P2 ++ F) := Lib.hid (by
        rw [HT.out, ← HP2.out, HDE.out]
        cases z0 <;> simp)
      clear hP2 HT HDE
      go_upto_if 18 with (fail)
      go_cut [7] (fun s wx => s = sv P2 ∧ Keeps [] wr wx)
      case first =>
        cases z0
        · have hkp : 0 < k := HZ1.out.2 rfl
          have hstr := run_str1 (P := Try.prog) Try.underlying37 Try.underlying5 Try.underlying9 x x.toNat rfl wr
          go_wp2_with (with_reducible refine wpList_convert hstr _ rfl rfl rfl ?_)
          go_meet
          exact ⟨by rw [← HP2.out]; rfl, Keeps.alloc [] wr _⟩
        · have hkp : ¬ 0 < k := fun h => by have := HZ1.out.1 h; cases this
          go_wp2_with (fail)
          go_meet
          exact ⟨by rw [← HP2.out]; simp, Keeps.refl _ _⟩
      case rest =>
        obtain ⟨rfl, k1⟩ := hcut
        have e0 := kC k1 d0 (by simp)
        have e1 := kC k1 d1 (by simp)
        have e2 := kC k1 d2 (by simp)
        have hlb2 : w.heap.size < wc.heap.size := Nat.lt_of_lt_of_le hlb k1.size
        have k0c := kw.trans k1 (by simp)
        have hcat2 := hcat P2 F
        have hsum : ¬ (9223372036854775807 < P2.length + F.length) := by omega
        have hlen1 : (0 : Int) ≤ (r.length : Int) := by omega
        clear k1 d0 d1 d2 hlb HP2 HZ1 hcat kw hr1 hr' cf hbx
        have HON2 : Hid (∀ b w, Calls Try.prog 48 #[.bool b] w fun e w' => e = .returned (.int .i64 (oneI b)) ∧ Keeps [] w w') := Lib.hid (fun b w => (one10_c b w).mono (by rintro e w' ⟨h1, rfl⟩; exact ⟨h1, Keeps.refl _ _⟩))
        cases first
        · cases z0
          all_goals
            simp only [Bool.false_and, Bool.true_and, Bool.and_self, Bool.and_false, Bool.and_true] at HW
            go_upto_region 7 with (fail)
            first | (go_region_with (first | (go_at_call 48; refine (HON.out _ _).mono ?_; rintro e w7 ⟨rfl, rfl⟩) | (go_at_call 68; refine (HW.out _).mono ?_; rintro e w7 ⟨rfl, k1⟩))) | fail
            all_goals
              have k07 := k0c.drew1.trans k1 (by simp)
              go_wp2_with (fail)
              exact ⟨⟨k + 1, by omega, by go_num, by rw [HTT.out], k07⟩, by simp [intOf]; omega⟩
        · cases z0
          all_goals
            simp only [Bool.false_and, Bool.true_and, Bool.and_self, Bool.and_false, Bool.and_true] at HW
            go_upto_region 7 with (fail)
            have HSS := fun w' (hb : Below (wc.heap.size) (wc) w') => ((⟨(hb.cell (p := ⟨w.heap.size, 0, none⟩) (hlb2)).trans (e0), (hb.cell (p := ⟨w.heap.size, 1, none⟩) (hlb2)).trans (e1), (hb.cell (p := ⟨w.heap.size, 2, none⟩) (hlb2)).trans (e2), hb⟩) : w'.cell? ⟨w.heap.size, 0, none⟩ = some (.int .i64 x.toNat) ∧ w'.cell? ⟨w.heap.size, 1, none⟩ = some (.int .i64 y.toNat) ∧ w'.cell? ⟨w.heap.size, 2, none⟩ = some (.int .i64 z) ∧ Below (wc.heap.size) (wc) w')
            have HSSb : wc.heap.size ≤ (wc).heap.size := Nat.le_refl _
            go_region_held3 (fun w' => w'.cell? ⟨w.heap.size, 0, none⟩ = some (.int .i64 x.toNat) ∧ w'.cell? ⟨w.heap.size, 1, none⟩ = some (.int .i64 y.toNat) ∧ w'.cell? ⟨w.heap.size, 2, none⟩ = some (.int .i64 z) ∧ Below (wc.heap.size) (wc) w') (((try go_split_ands); (with_reducible apply HSS); first | (with_reducible assumption) | (with_reducible (apply bC HSSb k1; assumption)) | (with_reducible (apply bAA HSSl; assumption)) | (repeat (first | (with_reducible assumption) | (with_reducible apply Below.refl) | (with_reducible apply bS (hp := HSSb)) | (with_reducible apply bSe) | (with_reducible apply bSg; · with_reducible assumption) | (with_reducible apply bA HSSb) | (with_reducible apply bD))))) (first | ((go_at_call 48; refine (HON2.out _ _).mono ?_; rintro e w7 ⟨rfl, k1⟩)) | ((go_at_call 68; refine (HW.out _).mono ?_; rintro e w7 ⟨rfl, k1⟩)))
            all_goals go_split_ands
            all_goals
              have k07 := k0c.trans (below_keeps (by assumption : Below wc.heap.size wc w7) (Nat.le_refl _)) (by simp)
              go_wp2_with (fail)
              exact ⟨⟨k + 1, by omega, by go_num, by rw [HTT.out], k07⟩, by simp [intOf]; omega⟩
    · obtain rfl : k = r.length := by omega
      have hkl : ¬ ((r.length : Int) < (r.length : Int)) := by omega
      rw [List.take_length] at *
      have d0 := hbw.cell_of (i := 0) rfl
      have d1 := hbw.cell_of (i := 1) rfl
      have d2 := hbw.cell_of (i := 2) rfl
      have hXX := HLB.out
      rw [HDDE.out] at hXX
      have HX9 := Lib.hid hXX
      rw [HDDE.out] at hrl ⊢
      clear hbw hrw hr1 hr' hbx hXX HRT HRL
      generalize Wr.rowB ⟨x, y, z⟩ al first r = P at *
      go_wp2_with (fail)
      with_reducible refine (HE.out _).mono ?_
      rintro e w4 ⟨rfl, k4⟩
      go_wp2_with (fail)
      go_ret
      exact ⟨by rw [HX9.out]; rfl, (kp.trans kw (by simp)).trans k4 (by simp)⟩
end Go.Proofs.Ytbjejmdbpikgjaa.WLine
namespace Go.Proofs.Ytbjejmdbpikgjaa.WLine
set_option linter.unusedVariables false
set_option linter.unusedSimpArgs false
set_option maxRecDepth 100000
open Go.RowKit Q Mach Dia Need Bld Quo
open Tab (fieldsOf bytesOf bytesOfRow)
attribute [local go_sem ↓] Go.wp_at_zero Go.wp_at_succ
set_option maxHeartbeats 4000000 in
theorem front_c (A : Value) (t : Tb) (B1 : Nat) (w : World) (ht : Tbl w B1 A t) (h2 : bytesOf t ≤ 10000) :
    Calls Try.prog 46 #[A] w fun e w' => e = .returned (.int .i64 (Wr.front t)) ∧ Keeps [] w w' := by
  have ht' := ht
  obtain ⟨A, ca, rfl, ha1, ha2⟩ := ht.form
  unfold maxLen at ha2
  obtain ⟨X, hX⟩ : ∃ X, Wr.front t = X := ⟨_, rfl⟩
  rw [hX]
  have H1 := Lib.hid (fun k hk h hb => (Wr.front_of (t := t) (k := k) hk h hb).symm.trans hX)
  have H0 := Lib.hid (fun h => (Wr.front_all (t := t) h).symm.trans hX)
  clear hX
  go_enter Try.func46, Try.ntmps46
  go_wp2_with (fail)
  go_loopw [7] (fun i wr => ∃ k : Nat, k ≤ t.length ∧ i = .int .i64 k ∧ (∀ (j : Nat) (hj : j < t.length), j < k → Wr.may t[j] = 0) ∧ Keeps [] w wr) (fun i _ => t.length - (intOf i).toNat)
  case atStart => exact ⟨0, by omega, rfl, by intro j _ h; omega, Keeps.refl _ _⟩
  case round =>
    obtain ⟨k, hk, rfl, hall, kw⟩ := hrel
    have HALL := Lib.hid hall
    clear hall
    by_cases hlt : k < t.length
    · obtain ⟨g, o, A1, n1, rfl, _, cf, rr⟩ := (ht'.keepB kw (by simp)).at_ hlt
      obtain ⟨hs1, hs2⟩ := Wr.mem_table (List.getElem_mem hlt)
      have hk0 : (0 : Int) ≤ (k : Int) := by omega
      have hkl : (k : Int) < (t.length : Int) := by omega
      have HM := Lib.hid (may_c _ t[k] B1 wr rr (by omega))
      obtain ⟨M, hM⟩ : ∃ M, Wr.may t[k] = M := ⟨_, rfl⟩
      rw [hM] at HM
      have HMM := Lib.hid hM
      have HB := Lib.hid (fun h => H1.out k hlt (fun j hj hjk => HALL.out j hj hjk) h)
      rw [hM] at HB
      clear rr ht hM
      by_cases hM0 : M = 0
      · subst hM0
        go_wp2_with (fail)
        with_reducible refine HM.out.mono ?_
        rintro e w1 ⟨rfl, k1⟩
        go_wp2_with (fail)
        refine ⟨⟨k + 1, by omega, by go_num, fun j hj hjk => ?_, kw.trans k1 (by simp)⟩, by simp [intOf]; omega⟩
        by_cases e : j = k
        · subst e; exact HMM.out
        · exact HALL.out j hj (by omega)
      · have hM' : ((M : Int) != 0) = true := by rw [bne_iff_ne]; omega
        have HBB := Lib.hid (HB.out hM0)
        clear hM0
        go_wp2_with (fail)
        with_reducible refine HM.out.mono ?_
        rintro e w1 ⟨rfl, k1⟩
        go_wp2_with (fail)
        go_ret
        exact ⟨by rw [← HBB.out]; rfl, kw.trans k1 (by simp)⟩
    · obtain rfl : k = t.length := by omega
      have HBB := Lib.hid (H0.out (fun j hj => HALL.out j hj hj))
      clear HALL
      go_wp2_with (fail)
      go_ret
      exact ⟨by rw [← HBB.out]; rfl, kw⟩
theorem may_lt {t : Tb} {k : Nat} (h : k < Wr.front t) : ∃ (hk : k < t.length), Wr.may t[k] = 0 := by
  induction t generalizing k with
  | nil => simp [Wr.front] at h
  | cons r t ih =>
    unfold Wr.front at h ih
    simp only [List.takeWhile] at h
    cases hr : (Wr.may r == 0)
    · rw [hr] at h; simp at h
    · rw [hr] at h
      simp only [List.length_cons] at h
      cases k with
      | zero => exact ⟨by simp, by simpa using hr⟩
      | succ k =>
        obtain ⟨a, b⟩ := ih (k := k) (Nat.lt_of_succ_lt_succ h)
        exact ⟨by simp; exact a, by simpa using b⟩
set_option maxHeartbeats 20000000 in
theorem rtext_c (d : Dia) (A : Value) (t : Tb) (B1 : Nat) (w : World) (ht : Tbl w B1 A t) (hB : B1 ≤ w.heap.size) (h0 : t.length ≤ 10000) (h1 : fieldsOf t ≤ 10000) (h2 : bytesOf t ≤ 10000) :
    Calls Try.prog 22 #[rdiaV d, A] w fun e w' => e = .returned (sv (Wr.textB d true (t.take (Wr.front t)))) ∧ Keeps [] w w' := by
  have kp := Keeps.alloc [] w (.cells #[.int .i64 d.delim.toNat, .int .i64 d.quote.toNat, .int .i64 d.fin] 48)
  have hbx := Blk.new w 48 [.int .i64 d.delim.toNat, .int .i64 d.quote.toNat, .int .i64 d.fin]
  have ht' := ht
  obtain ⟨A, ca, rfl, ha1, ha2⟩ := ht.form
  unfold maxLen at ha2
  have hcat : ∀ x y : List UInt8, (ByteArray.mk x.toArray ++ ByteArray.mk y.toArray) = ⟨(x ++ y).toArray⟩ := cat_mk
  have HFR := Lib.hid (fun w' h => front_c (.slice A t.length ca) t B1 w' h h2)
  obtain ⟨F, hF⟩ : ∃ F, Wr.front t = F := ⟨_, rfl⟩
  have HML := Lib.hid (fun k (h : k < F) => may_lt (t := t) (k := k) (by rw [hF]; exact h))
  have hFl : F ≤ t.length := by rw [← hF]; exact Wr.front_le t
  rw [hF]
  rw [hF] at HFR
  clear hF
  have HTT := Lib.hid (fun k h => Wr.text_take d true t k h)
  have HTL := Lib.hid (fun k => Wr.text_take_len d true t k)
  have HON : Hid (∀ b w, Calls Try.prog 48 #[.bool b] w fun e w' => e = .returned (.int .i64 (oneI b)) ∧ Keeps [] w w') := Lib.hid (fun b w => (one10_c b w).mono (by rintro e w' ⟨h1, rfl⟩; exact ⟨h1, Keeps.refl _ _⟩))
  have HRL := Lib.hid (fun A r fi N hN B1 w h hB h1 h2 => rline_c d A r fi N hN B1 w h hB h1 h2)
  obtain ⟨DD, hDD⟩ : ∃ D : Dia, D = d := ⟨_, rfl⟩
  rw [← hDD] at HTT HTL ⊢
  have HDDE := Lib.hid hDD
  rw [← hDD] at HRL
  have hrv : rdiaV DD = rdiaV d := by rw [hDD]
  rw [hrv] at HRL ⊢
  clear hDD hrv
  obtain ⟨x, y, z⟩ := d
  go_enter Try.func22, Try.ntmps22
  go_wp2_with (fail)
  generalize w.alloc (.cells #[.int .i64 x.toNat, .int .i64 y.toNat, .int .i64 z] 48) = w1 at *
  have hr1 := ht'.keepB kp (by simp)
  clear ht
  go_loopw [5, 6] (fun s i wr => ∃ k : Nat, k ≤ F ∧ i = .int .i64 k ∧ s = sv (Wr.textB DD true (t.take k)) ∧ Keeps [] w1 wr) (fun _ i _ => F - (intOf i).toNat)
  case atStart => exact ⟨0, Nat.zero_le _, rfl, by rw [List.take_zero]; rfl, Keeps.refl _ _⟩
  case round =>
    obtain ⟨k, hk, rfl, rfl, kw⟩ := hrel
    have HF := Lib.hid (HFR.out wr (hr1.keepB kw (by simp)))
    have hrl := HTL.out k
    by_cases hlt : k < F
    · obtain ⟨hkt, _⟩ := HML.out k hlt
      have hrt := HTT.out k hkt
      rw [Bool.true_and] at hrt
      obtain ⟨z0, hz0⟩ : ∃ z0, (k == 0) = z0 := ⟨_, rfl⟩
      have hz0' : ((k : Int) == 0) = z0 := by rw [← hz0, Bool.eq_iff_iff, beq_iff_eq, beq_iff_eq]; omega
      rw [hz0] at hrt
      have HT := Lib.hid hrt
      have hll := Wr.line_len DD t[k] z0
      obtain ⟨hs1, hs2⟩ := Wr.mem_table (List.getElem_mem hkt)
      clear hz0 hrt
      go_wp2_with (fail)
      with_reducible refine HF.out.mono ?_
      rintro e w2 ⟨rfl, k2⟩
      have k02 := kw.trans k2 (by simp)
      have hb2 := hbx.keep k02 (by simp)
      have e0 := hb2.cell_of (i := 0) rfl
      have e1 := hb2.cell_of (i := 1) rfl
      have e2 := hb2.cell_of (i := 2) rfl
      have hlb2 := hb2.lt
      obtain ⟨g, o, A1, n1, rfl, hgB, cf, rr⟩ := (hr1.keepB k02 (by simp)).at_ hkt
      have hk0 : (0 : Int) ≤ (k : Int) := by omega
      have hkl : (k : Int) < (t.length : Int) := by omega
      have hB2 : B1 ≤ w2.heap.size := by have := kp.size; have := k02.size; omega
      have hg2 : g < w2.heap.size := by omega
      have HLX : Hid (∀ w', Below w2.heap.size w2 w' → Calls Try.prog 47 #[.agg #[.int .i64 x.toNat, .int .i64 y.toNat, .int .i64 z], .slice A1 t[k].length n1, .int .i64 (oneI z0)] w' fun e w'' => e = .returned (sv (Wr.lineB DD t[k] z0)) ∧ Keeps [] w' w'') := Lib.hid (fun w' b => HRL.out (.slice A1 t[k].length n1) t[k] z0 (oneI z0) (by cases z0 <;> rfl) B1 w' (rr.below b hB2) (by have := b.size; omega) (by omega) (by omega))
      have hsum : ¬ (9223372036854775807 < (Wr.textB DD true (t.take k)).length + (Wr.lineB DD t[k] z0).length) := by omega
      have hcat2 := hcat (Wr.textB DD true (t.take k)) (Wr.lineB DD t[k] z0)
      clear hb2 k2 kw HF hrl hcat hr1 ht' hbx HRL HTT HTL HFR HML hll rr
      generalize Wr.textB DD true (t.take k) = P at *
      generalize Wr.lineB DD t[k] z0 = L at *
      generalize hn : t[k].length = m at *
      go_wp2_with (fail)
      have HSS := fun w' (hb : Below (w2.heap.size) (w2) w') => ((⟨(hb.cell (p := ⟨w.heap.size, 0, none⟩) (hlb2)).trans (e0), (hb.cell (p := ⟨w.heap.size, 1, none⟩) (hlb2)).trans (e1), (hb.cell (p := ⟨w.heap.size, 2, none⟩) (hlb2)).trans (e2), (hb.cell (p := ⟨g, o + k, none⟩) (hg2)).trans (cf), hb⟩) : w'.cell? ⟨w.heap.size, 0, none⟩ = some (.int .i64 x.toNat) ∧ w'.cell? ⟨w.heap.size, 1, none⟩ = some (.int .i64 y.toNat) ∧ w'.cell? ⟨w.heap.size, 2, none⟩ = some (.int .i64 z) ∧ w'.cell? ⟨g, o + k, none⟩ = some (.slice A1 m n1) ∧ Below (w2.heap.size) (w2) w')
      have HSSb : w2.heap.size ≤ (w2).heap.size := Nat.le_refl _
      go_region_held3 (fun w' => w'.cell? ⟨w.heap.size, 0, none⟩ = some (.int .i64 x.toNat) ∧ w'.cell? ⟨w.heap.size, 1, none⟩ = some (.int .i64 y.toNat) ∧ w'.cell? ⟨w.heap.size, 2, none⟩ = some (.int .i64 z) ∧ w'.cell? ⟨g, o + k, none⟩ = some (.slice A1 m n1) ∧ Below (w2.heap.size) (w2) w') (((try go_split_ands); (with_reducible apply HSS); first | (with_reducible assumption) | (with_reducible (apply bC HSSb k1; assumption)) | (with_reducible (apply bAA HSSl; assumption)) | (repeat (first | (with_reducible assumption) | (with_reducible apply Below.refl) | (with_reducible apply bS (hp := HSSb)) | (with_reducible apply bSe) | (with_reducible apply bSg; · with_reducible assumption) | (with_reducible apply bA HSSb) | (with_reducible apply bD))))) (first | ((go_at_call 48; refine (HON.out _ _).mono ?_; rintro e w7 ⟨rfl, k1⟩)) | ((go_at_call 47; refine (HLX.out _ (by first | assumption | exact bD (Below.refl _ _) | exact (bC (Nat.le_refl _) k1 (bD (Below.refl _ _))))).mono ?_; rintro e w7 ⟨rfl, k1⟩)))
      all_goals go_split_ands
      all_goals
        have k07 := k02.trans (below_keeps (by assumption : Below w2.heap.size w2 w7) (Nat.le_refl _)) (by simp)
        go_wp2_with (fail)
        exact ⟨⟨k + 1, by omega, by go_num, by rw [HT.out], k07⟩, by simp [intOf]; omega⟩
    · obtain rfl : k = F := by omega
      have hkl : ¬ ((k : Int) < (k : Int)) := by omega
      clear hr1 ht' hbx HRL HTT HTL HFR HML hrl
      go_wp2_with (fail)
      with_reducible refine HF.out.mono ?_
      rintro e w2 ⟨rfl, k2⟩
      go_wp2_with (fail)
      go_ret
      exact ⟨rfl, (kp.trans kw (by simp)).trans k2 (by simp)⟩
end Go.Proofs.Ytbjejmdbpikgjaa.WLine
namespace Go.Proofs.Ytbjejmdbpikgjaa.Pcs
set_option linter.unusedVariables false
set_option linter.unusedSimpArgs false
set_option maxRecDepth 100000
open Go.RowKit Q Mach Dia WLine
open Tab (fieldsOf bytesOf bytesOfRow)
attribute [local go_sem ↓] Go.wp_at_zero Go.wp_at_succ
theorem infoU8 : (Try.prog.info? 5).map (fun i => (i.zero, i.size, i.bytes)) = some (some (.int .u8 0), 1, 1) := by kernel_rfl
/-- What a writer has. -/
structure PSt where
  rdy : Bs
  count : Nat
  total : Nat
  cl : Bool
deriving DecidableEq
def wC (d : Dia) (s : PSt) (v : Value) : List Value := [bv d.delim, bv d.quote, .int .i64 d.fin, v, .int .i64 s.count, .int .i64 s.total, .bool s.cl]
structure WAt (w : World) (base g : Nat) (d : Dia) (s : PSt) (v : Value) : Prop where
  blk : Blk w g 106 (wC d s v)
  low : base ≤ g
  own : Own w base 5 1 v s.rdy.length (s.rdy.map bv)
section wat
variable {w w' : World} {base g : Nat} {d : Dia} {s s' : PSt} {v : Value}
theorem WAt.c (h : WAt w base g d s v) {i : Nat} {u : Value} (hi : (wC d s v)[i]? = some u) : w.cell? ⟨g, i, none⟩ = some u := h.blk.cell_of hi
theorem WAt.f (h : WAt w base g d s v) {i : Nat} (hi : i < 7) : w.frozen? ⟨g, i, none⟩ = false := h.blk.frozen (by simp [wC]; omega)
theorem WAt.apart (h : WAt w base g d s v) : ∀ k ∈ blkOf v, k ≠ g := h.own.apartBlk h.blk (by decide)
theorem WAt.keepF (h : WAt w base g d s v) {F : List Nat} (k : Keeps F w w') (h1 : g ∉ F) (h2 : ∀ x ∈ blkOf v, x ∉ F) : WAt w' base g d s v := ⟨h.blk.keep k h1, h.low, h.own.keep k h2⟩
theorem WAt.keep (h : WAt w base g d s v) (k : Keeps [] w w') : WAt w' base g d s v := h.keepF k (by simp) (by simp)
theorem WAt.less (h : WAt w base g d s v) {b : Nat} (hb : b ≤ base) : WAt w b g d s v := ⟨h.blk, Nat.le_trans hb h.low, h.own.less hb⟩
theorem WAt.set (h : WAt w base g d s v) (i : Nat) (u : Value) (hi : (wC d s v).set i u = wC d s' v) (hr : s'.rdy = s.rdy) : WAt (w.setCell ⟨g, i, none⟩ u) base g d s' v := by
  refine ⟨?_, h.low, ?_⟩
  · rw [← hi]; exact h.blk.set_ i u
  · rw [hr]; exact h.own.keep (Keeps.setCell w _ _) (fun a ha hm => by simp at hm; exact h.apart a ha hm)
end wat
def NewP (d : Dia) (w : World) (e : Ending) (w' : World) : Prop := ∃ g, e = .returned (.tuple #[.pointer (some ⟨g, 0, none⟩), .int .i64 0]) ∧ WAt w' w.heap.size g d ⟨[], 0, 0, false⟩ (.slice none 0 0) ∧ Keeps [] w w'
set_option maxHeartbeats 1000000 in
theorem new_c (d : Dia) (hd : d.right = true) (w : World) : Calls Try.prog 24 #[diaV d] w (NewP d w) := by
  have HC := Lib.hid (fun w => check_c d w)
  rw [hd] at HC
  simp only [if_true] at HC
  have kp : Keeps [] w (w.alloc (.cells #[bv d.delim, bv d.quote, .int .i64 d.fin] 23)) := Keeps.alloc [] w _
  have hbx := Blk.new w 23 [bv d.delim, bv d.quote, .int .i64 d.fin]
  have c0 := hbx.cell_of (i := 0) rfl
  have c1 := hbx.cell_of (i := 1) rfl
  have c2 := hbx.cell_of (i := 2) rfl
  clear hd
  obtain ⟨x, y, z⟩ := d
  go_enter Try.func24, Try.ntmps24
  go_wp2_with (fail)
  refine (HC.out _).mono ?_
  rintro e w1 ⟨rfl, k1⟩
  have hb1 := hbx.keep k1 (by simp)
  have k01 := kp.trans k1 (by simp)
  clear c0 c1 c2
  have c0 := hb1.cell_of (i := 0) rfl
  have c1 := hb1.cell_of (i := 1) rfl
  have c2 := hb1.cell_of (i := 2) rfl
  go_wp2_with (fail)
  go_ret2
  refine ⟨w1.heap.size, rfl, ⟨Blk.new w1 106 _, k01.size, Own.nil_ _ _ _ _⟩, k01.alloc1 _⟩
set_option maxHeartbeats 1000000 in
theorem new_bad (d : Dia) (hd : d.right = false) (w : World) : Calls Try.prog 24 #[diaV d] w fun e w' => e = .returned (.tuple #[.pointer none, .int .i64 1]) ∧ Keeps [] w w' := by
  have HC := Lib.hid (fun w => check_c d w)
  rw [hd] at HC
  simp only [Bool.false_eq_true, if_false] at HC
  have kp : Keeps [] w (w.alloc (.cells #[bv d.delim, bv d.quote, .int .i64 d.fin] 23)) := Keeps.alloc [] w _
  clear hd
  obtain ⟨x, y, z⟩ := d
  go_enter Try.func24, Try.ntmps24
  go_wp2_with (fail)
  refine (HC.out _).mono ?_
  rintro e w1 ⟨rfl, k1⟩
  go_wp2_with (fail)
  go_ret2
  exact ⟨rfl, kp.trans k1 (by simp)⟩
section num
variable {w : World} {base g : Nat} {d : Dia} {s : PSt} {v : Value} (h : WAt w base g d s v)
include h
theorem ready_c : Calls Try.prog 28 #[.pointer (some ⟨g, 0, none⟩)] w fun e w' => e = .returned (.int .i64 s.rdy.length) ∧ w' = w := by
  obtain ⟨A, c, rfl, h1, h2⟩ := h.own.form
  have c3 := h.c (i := 3) rfl
  clear h
  go_enter Try.func28, Try.ntmps28
  go_wp2_with (fail)
  go_ret
  exact ⟨rfl, rfl⟩
theorem close_c : Calls Try.prog 27 #[.pointer (some ⟨g, 0, none⟩)] w fun e w' => e = .returned (.tuple #[]) ∧ WAt w' base g d { s with cl := true } v ∧ Keeps [g] w w' := by
  have c6 := h.c (i := 6) rfl
  have f6 := h.f (i := 6) (by omega)
  have HW := Lib.hid (h.set (s' := { s with cl := true }) 6 (.bool true) (by simp [wC]) rfl)
  clear h
  go_enter Try.func27, Try.ntmps27
  go_wp2_with (fail)
  go_end0
  exact ⟨rfl, HW.out, Keeps.setCell w ⟨g, 6, none⟩ _⟩
end num
def BCloneP (l : Bs) (w : World) (e : Ending) (w' : World) : Prop := ∃ v, e = .returned v ∧ Own w' w.heap.size 5 1 v l.length (l.map bv) ∧ Keeps [] w w'
set_option maxHeartbeats 400000 in
theorem bclone_c (A : Value) (l : Bs) (B1 : Nat) (w : World) (ha : Rd w B1 1 A l.length (l.map bv)) (hl : l.length ≤ 1000000) :
    Calls Try.prog 51 #[A] w (BCloneP l w) := by
  obtain ⟨iS, hiS, hS0, hS1, hS2⟩ := info_parts infoU8
  have ha' := ha
  obtain ⟨A, ca, rfl, ha1, ha2⟩ := ha.form
  have hnil := fun w2 => Lib.run_eql_slice_nil (P := Try.prog) w2 37 5 A l.length ca 0 0 Try.underlying37
  cases A with
  | none =>
    have hr : l = [] := by
      obtain ⟨A', c', hv, hn, hc, hl, hx⟩ := ha'
      rcases hx with hx | ⟨b, off, hA, _⟩
      · simpa using hx
      · injection hv with h1; rw [← h1] at hA; cases hA
    subst hr
    clear ha ha'
    simp only [List.length_nil, Option.isNone_none] at *
    go_enter Try.func51, Try.ntmps51
    go_wp2_with (fail)
    go_ret
    exact ⟨_, rfl, Own.nil_ w _ _ _, Keeps.refl _ _⟩
  | some a =>
    simp only [Option.isNone_some] at hnil
    have o0 : Own (w.alloc (.cells #[] 5)) w.heap.size 5 1 (.slice (some ⟨w.heap.size, 0, none⟩) 0 0) 0 [] := by simpa using own_lit w 5 [] (by simp [maxLen])
    have ra1 := ha'.keepF (Keeps.alloc [] w (.cells #[] 5)) (by simp)
    obtain ⟨v2, w2, hap, hown2, hk2, hb2⟩ := run_append (P := Try.prog) (base := w.heap.size) (u := 37) (ty := 37) Try.underlying37 hiS hS0 hS1 hS2 rfl o0 (ra1.src Try.underlying37) (one_bv _) (by simp only [maxLen]; omega) (by omega) (by simp)
    simp only [Nat.zero_add, List.nil_append] at hown2
    go_enter Try.func51, Try.ntmps51
    go_wp2_with (refine wpList_append hap _ _ rfl rfl rfl rfl rfl ?_)
    go_ret
    exact ⟨v2, rfl, hown2, (Keeps.alloc [] w _).trans hk2 (by intro x hx hl; simp [blkOf] at hx; omega)⟩
/-- What Put does, and answers. -/
def putP (d : Dia) (s : PSt) (r : Row) : PSt × Nat :=
  if s.cl then (s, 24) else if Wr.may r = 0 then (⟨s.rdy ++ Wr.lineB d r (s.count == 0), s.count + 1, s.total + (Wr.lineB d r (s.count == 0)).length, false⟩, 0) else (s, Wr.may r)
def PutP (w : World) (base g : Nat) (d : Dia) (X : PSt × Nat) (v : Value) (e : Ending) (w' : World) : Prop :=
  e = .returned (.int .i64 X.2) ∧ ∃ v', WAt w' base g d X.1 v' ∧ Keeps (g :: blkOf v) w w' ∧ ∀ k ∈ blkOf v', k ∈ blkOf v ∨ w.heap.size ≤ k
set_option maxHeartbeats 20000000 in
theorem put_c (w : World) (base g : Nat) (d : Dia) (hd : d.right = true) (s : PSt) (v A : Value) (h : WAt w base g d s v) (r : Row) (B1 : Nat) (hr : Rd w B1 1 A r.length (r.map sv)) (hB : B1 ≤ w.heap.size) (h1 : r.length ≤ 10000) (h2 : bytesOfRow r ≤ 10000)
    (hs1 : s.rdy.length ≤ 1000000) (hs2 : s.count ≤ 1000000) (hs3 : s.total ≤ 1000000) :
    Calls Try.prog 26 #[.pointer (some ⟨g, 0, none⟩), A] w (PutP w base g d (putP d s r) v) := by
  obtain ⟨X, hX⟩ : ∃ X, putP d s r = X := ⟨_, rfl⟩
  rw [hX]
  unfold putP at hX
  have c6 := h.c (i := 6) rfl
  obtain ⟨C, hC⟩ : ∃ C, s.cl = C := ⟨_, rfl⟩
  rw [hC] at c6 hX
  cases C
  rotate_left
  · simp only [if_true] at hX
    have HX := Lib.hid hX
    have HH := Lib.hid h
    obtain ⟨A, ca, rfl, ha1, ha2⟩ := hr.form
    clear h hX hr hC
    go_enter Try.func26, Try.ntmps26
    go_wp2_with (fail)
    go_ret
    exact ⟨by rw [← HX.out]; rfl, v, by rw [← HX.out]; exact HH.out, Keeps.refl _ _, fun k hk => .inl hk⟩
  simp only [Bool.false_eq_true, if_false] at hX
  obtain ⟨A, ca, rfl, ha1, ha2⟩ := hr.form
  obtain ⟨z0, hz0⟩ : ∃ z0, (s.count == 0) = z0 := ⟨_, rfl⟩
  have hz0' : ((s.count : Int) == 0) = z0 := by rw [← hz0, Bool.eq_iff_iff, beq_iff_eq, beq_iff_eq]; omega
  rw [hz0] at hX
  have hll := Wr.line_len d r z0
  have HL : Hid (∀ w', Keeps [] w w' → Calls Try.prog 50 #[diaV d, .slice A r.length ca, .bool z0] w' fun e w'' => e = .returned (lineV (if Wr.may r = 0 then (Wr.lineB d r z0, 0) else ([], Wr.may r))) ∧ Keeps [] w' w'') := Lib.hid (fun w' k => by
    have := line_c d (.slice A r.length ca) r z0 B1 w' (hr.keepB k (by simp)) (by have := k.size; omega) h1 h2
    unfold lineR at this
    rw [hd, if_pos rfl] at this
    exact this)
  have HX := Lib.hid hX
  have HH := Lib.hid h
  have c0 := h.c (i := 0) rfl
  have c1 := h.c (i := 1) rfl
  have c2 := h.c (i := 2) rfl
  have c4 := h.c (i := 4) rfl
  have hgl := h.blk.lt
  have HCL := Lib.hid hC
  clear hX hr h hz0 hC
  generalize Wr.lineB d r z0 = LB at *
  generalize Wr.may r = M at *
  obtain ⟨x, y, z⟩ := d
  go_enter Try.func26, Try.ntmps26
  go_wp2_with (fail)
  obtain ⟨⟨Y1, Y2⟩, hY⟩ : ∃ Y : Bs × Nat, (if M = 0 then (LB, 0) else ([], M)) = Y := ⟨_, rfl⟩
  rw [hY] at HL
  unfold lineV at HL
  dsimp only at HL
  have hLX : ∀ w', Below w.heap.size w w' → Calls Try.prog 50 #[.agg #[bv x, bv y, .int .i64 z], .slice A r.length ca, .bool z0] w' fun e w'' => e = .returned (.tuple #[sv Y1, .int .i64 Y2]) ∧ Keeps [] w' w'' := fun w' b => HL.out w' (below_keeps b (Nat.le_refl _))
  have HLX := Lib.hid hLX
  have HY := Lib.hid hY
  clear hLX HL hY
  have HSS := fun w' (hb : Below (w.heap.size) (w) w') => ((⟨(hb.cell (p := ⟨g, 0, none⟩) (hgl)).trans (c0), (hb.cell (p := ⟨g, 1, none⟩) (hgl)).trans (c1), (hb.cell (p := ⟨g, 2, none⟩) (hgl)).trans (c2), (hb.cell (p := ⟨g, 4, none⟩) (hgl)).trans (c4), hb⟩) : w'.cell? ⟨g, 0, none⟩ = some (bv x) ∧ w'.cell? ⟨g, 1, none⟩ = some (bv y) ∧ w'.cell? ⟨g, 2, none⟩ = some (.int .i64 z) ∧ w'.cell? ⟨g, 4, none⟩ = some (.int .i64 s.count) ∧ Below (w.heap.size) (w) w')
  have HSSb : w.heap.size ≤ (w).heap.size := Nat.le_refl _
  go_region_held3 (fun w' => w'.cell? ⟨g, 0, none⟩ = some (bv x) ∧ w'.cell? ⟨g, 1, none⟩ = some (bv y) ∧ w'.cell? ⟨g, 2, none⟩ = some (.int .i64 z) ∧ w'.cell? ⟨g, 4, none⟩ = some (.int .i64 s.count) ∧ Below (w.heap.size) (w) w') (((try go_split_ands); (with_reducible apply HSS); first | (with_reducible assumption) | (with_reducible (apply bC HSSb k1; assumption)) | (with_reducible (apply bAA HSSl; assumption)) | (repeat (first | (with_reducible assumption) | (with_reducible apply Below.refl) | (with_reducible apply bS (hp := HSSb)) | (with_reducible apply bSe) | (with_reducible apply bSg; · with_reducible assumption) | (with_reducible apply bA HSSb) | (with_reducible apply bD))))) (first | ((go_at_call 50; refine (HLX.out _ (by first | assumption | exact bD (Below.refl _ _))).mono ?_; rintro e w7 ⟨rfl, k1⟩)))
  all_goals go_split_ands
  have hb7 := (by assumption : Below w.heap.size w w7)
  have k7 := below_keeps hb7 (Nat.le_refl _)
  have hH7 := HH.out.keep k7
  have hF7 : ∀ k ∈ blkOf v, k ∈ blkOf v ∨ w.heap.size ≤ k := fun k hk => .inl hk
  clear c0 c1 c2 c4 HSS HSSb k1 HLX HH hb7
  by_cases hM : M = 0
  rotate_left
  · have hY2 := HY.out
    rw [if_neg hM] at hY2
    injection hY2 with e1 e2
    subst e2
    have hM' : ((M : Int) != 0) = true := by rw [bne_iff_ne]; omega
    have HX2 := Lib.hid ((if_neg hM).symm.trans HX.out)
    have HH7 := Lib.hid hH7
    clear hM hH7
    go_wp2_with (fail)
    go_ret
    refine ⟨by rw [← HX2.out]; rfl, v, by rw [← HX2.out]; exact HH7.out, k7.sub (by simp), fun k hk => .inl hk⟩
  have hY2 := HY.out
  subst hM
  rw [if_pos rfl] at hY2
  injection hY2 with e1 e2
  subst e1 e2
  have HX2 := Lib.hid ((if_pos rfl).symm.trans HX.out)
  clear HY HX
  obtain ⟨iS, hiS, hS0, hS1, hS2⟩ := info_parts infoU8
  have hlow := hH7.low
  have hlb7 := hH7.blk.lt
  obtain ⟨v', w8, hap, hown8, k8, hb8⟩ := run_append (P := Try.prog) (base := base) (u := 9) (ty := 37) Try.underlying37 hiS hS0 hS1 hS2 rfl hH7.own (src_string LB Try.underlying9) (one_bv _) (by simp only [maxLen]; omega) (by omega) (by omega)
  obtain ⟨A8, c8, rfl, h81, h82⟩ := hown8.form
  obtain ⟨A7, c7, rfl, h71, h72⟩ := hH7.own.form
  have hblk8 := hH7.blk.keep k8 (fun hm => hH7.apart _ hm rfl)
  have c3 := hH7.c (i := 3) rfl
  have e3 := hblk8.cell_of (i := 3) rfl
  have f3 := hblk8.frozen (i := 3) (by simp [wC])
  have e4 := hblk8.cell_of (i := 4) rfl
  have f4 := hblk8.frozen (i := 4) (by simp [wC])
  have e5 := hblk8.cell_of (i := 5) rfl
  have f5 := hblk8.frozen (i := 5) (by simp [wC])
  have hw1 : IntKind.i64.wrap ((s.count : Int) + 1) = (s.count : Int) + 1 := IntWalk.i64_in _ (by omega)
  have hw2 : IntKind.i64.wrap ((s.total : Int) + (LB.length : Int)) = (s.total : Int) + (LB.length : Int) := IntWalk.i64_in _ (by omega)
  have HAP := Lib.hid hH7.apart
  have HB8 := Lib.hid hblk8
  have HO8 := Lib.hid hown8
  have K8 := Lib.hid ((k7.sub (F' := g :: blkOf (.slice A7 s.rdy.length c7)) (by simp)).trans (k8.sub (F' := g :: blkOf (.slice A7 s.rdy.length c7)) (fun x hx _ => by simp [hx])) (fun x hx _ => hx))
  have HN8 := Lib.hid hb8
  have HG7 := Lib.hid k7.size
  clear hown8 hblk8 k8 hb8 hH7 hiS hS0 hS1 hS2 k7 hF7
  go_wp2_with (with_reducible refine wpList_append hap _ _ rfl rfl rfl rfl rfl ?_)
  go_ret
  have hne8 : ∀ a ∈ blkOf (.slice A8 (s.rdy.length + LB.length) c8), a ≠ g := by
    intro a ha e
    rcases HN8.out a ha with h | h
    · exact HAP.out a h e
    · have := HG7.out; omega
  have kS : Keeps [g] w8 (((w8.setCell ⟨g, 3, none⟩ (.slice A8 (s.rdy.length + LB.length) c8)).setCell ⟨g, 4, none⟩ (.int .i64 (s.count + 1))).setCell ⟨g, 5, none⟩ (.int .i64 (s.total + LB.length))) := ((Keeps.setCell w8 ⟨g, 3, none⟩ _).set1 ⟨g, 4, none⟩ _ (by simp)).set1 ⟨g, 5, none⟩ _ (by simp)
  refine ⟨by rw [← HX2.out]; rfl, .slice A8 (s.rdy.length + LB.length) c8, ?_, ?_, ?_⟩
  · rw [← HX2.out]
    refine ⟨?_, hlow, ?_⟩
    · have h9 := ((HB8.out.set_ 3 (.slice A8 (s.rdy.length + LB.length) c8)).set_ 4 (.int .i64 (s.count + 1))).set_ 5 (.int .i64 (s.total + LB.length))
      simpa [wC, HCL.out] using h9
    · have h9 := HO8.out.keep kS (fun a ha hm => by simp at hm; exact hne8 a ha hm)
      simpa using h9
  · exact K8.out.trans (kS.sub (F' := g :: blkOf (.slice A7 s.rdy.length c7)) (by simp)) (fun x hx _ => hx)
  · intro k hk
    rcases HN8.out k hk with h | h
    · exact .inl h
    · exact .inr (by have := HG7.out; omega)
/-- What Take does, and hands on. -/
def takeN (s : PSt) (n : Int) : Nat := min n.toNat s.rdy.length
def takeP (s : PSt) (n : Int) : PSt := { s with rdy := s.rdy.drop (takeN s n) }
def TakeP (w : World) (base g : Nat) (d : Dia) (s : PSt) (n : Int) (v : Value) (e : Ending) (w' : World) : Prop :=
  ∃ p v', e = .returned p ∧ Own w' w.heap.size 5 1 p (s.rdy.take (takeN s n)).length ((s.rdy.take (takeN s n)).map bv) ∧ WAt w' base g d (takeP s n) v' ∧ Keeps [g] w w' ∧ ∀ k ∈ blkOf v', k ∈ blkOf v
set_option maxHeartbeats 20000000 in
theorem take_c (w : World) (base g : Nat) (d : Dia) (s : PSt) (v : Value) (h : WAt w base g d s v) (n : Int) (hn : -9223372036854775808 ≤ n ∧ n ≤ 9223372036854775807) (hs1 : s.rdy.length ≤ 1000000) :
    Calls Try.prog 29 #[.pointer (some ⟨g, 0, none⟩), .int .i64 n] w (TakeP w base g d s n v) := by
  obtain ⟨A, c, rfl, h1, h2⟩ := h.own.form
  have c3 := h.c (i := 3) rfl
  have HH := Lib.hid h
  clear h
  go_enter Try.func29, Try.ntmps29
  have hk : takeN s n ≤ s.rdy.length := by unfold takeN; omega
  have HK : Hid (takeN s n = min n.toNat s.rdy.length) := Lib.hid rfl
  go_upto_region 1 with (fail)
  go_cut [1] from 5 (fun v wx => v = .int .i64 (takeN s n : Nat) ∧ wx = w)
  case first =>
    go_wp2_with (fail)
    all_goals
      go_meet
      refine ⟨?_, rfl⟩
      congr 1
      rw [HK.out]
      omega
  case rest =>
  obtain ⟨rfl, rfl⟩ := hcut
  obtain ⟨k, hkk⟩ : ∃ k, takeN s n = k := ⟨_, rfl⟩
  rw [hkk] at hk ⊢
  have HKK := Lib.hid hkk
  clear hkk HK
  have hsl1 : ∀ w, (Instr.sliceAt 37 (.slice A s.rdy.length c) none (some (.int .i64 (k : Int))) none).run Try.prog w = .ok (.slice A k c) w := fun w => by
    obtain ⟨iU, hiU, hU0, hU1, hU2⟩ := info_parts infoU8
    exact run_sliceUpto Try.underlying37 hiU A s.rdy.length c k (by omega) w
  obtain ⟨A2, hA2⟩ : ∃ A2, (if c = k then A else A.map (·.add (k * 1))) = A2 := ⟨_, rfl⟩
  have hsl2 : ∀ w, (Instr.sliceAt 37 (.slice A s.rdy.length c) (some (.int .i64 (k : Int))) none none).run Try.prog w = .ok (.slice A2 (s.rdy.length - k) (c - k)) w := fun w => by
    obtain ⟨iU, hiU, hU0, hU1, hU2⟩ := info_parts infoU8
    rw [← hA2]
    exact run_sliceFrom Try.underlying37 hiU hU1 A s.rdy.length c k hk w
  have HA2 := Lib.hid hA2
  have htl : (s.rdy.take k).length = k := by rw [List.length_take]; omega
  have HCL := Lib.hid (bclone_c (.slice A k c) (s.rdy.take k) _ wc (by
    have := (HH.out.own.rd (Nat.le_refl _)).upto_ hk
    rw [htl, List.map_take]
    simpa using this) (by omega))
  clear hA2
  go_wp2_with (with_reducible refine wpList_slice (hsl1 _) _ _ _ _ rfl rfl rfl rfl rfl rfl ?_)
  with_reducible refine HCL.out.mono ?_
  rintro e w2 ⟨p, rfl, hp, k2⟩
  have hglc := HH.out.blk.lt
  have hH2 := HH.out.keep k2
  clear c3
  have c3 := hH2.c (i := 3) rfl
  have f3 := hH2.f (i := 3) (by omega)
  have hgl := hH2.blk.lt
  have HP := Lib.hid hp
  have K2 := Lib.hid k2
  have HH2 := Lib.hid hH2
  clear hp k2 hH2 HCL HH htl
  obtain ⟨m, hm⟩ : ∃ m, s.rdy.length - k = m := ⟨_, rfl⟩
  rw [hm] at hsl2
  have HMM := Lib.hid hm
  clear hm
  have hnl : (s.rdy.drop k).length = m := by rw [List.length_drop]; exact HMM.out
  by_cases he : m = 0
  · have he' : ((m : Int) == 0) = true := by rw [he]; rfl
    have HE := Lib.hid he
    clear he hnl
    go_wp2_with (with_reducible refine wpList_slice (hsl2 _) _ _ _ _ rfl rfl rfl rfl rfl rfl ?_)
    go_ret
    have hd0 : s.rdy.drop k = [] := List.drop_eq_nil_of_le (by have := HMM.out; have := HE.out; omega)
    have kS : Keeps [g] w2 ((w2.setCell ⟨g, 3, none⟩ (.slice A2 m (c - k))).setCell ⟨g, 3, none⟩ (.slice none 0 0)) := (Keeps.setCell w2 ⟨g, 3, none⟩ _).set1 ⟨g, 3, none⟩ _ (by simp)
    refine ⟨p, .slice none 0 0, rfl, ?_, ⟨?_, HH2.out.low, ?_⟩, (K2.out.sub (F' := [g]) (by simp)).trans kS (fun x hx _ => hx), by simp [blkOf]⟩
    · rw [HKK.out]
      refine HP.out.keep kS (fun a ha hm => ?_)
      simp at hm
      subst hm
      have := (HP.out.lt a ha).1
      omega
    · have h9 := (HH2.out.blk.set_ 3 (.slice A2 m (c - k))).set_ 3 (.slice none 0 0)
      simpa [wC, takeP] using h9
    · unfold takeP
      rw [HKK.out, hd0]
      exact Own.nil_ _ _ _ _
  · have he' : ((m : Int) == 0) = false := by rw [beq_eq_false_iff_ne]; omega
    clear he
    go_wp2_with (with_reducible refine wpList_slice (hsl2 _) _ _ _ _ rfl rfl rfl rfl rfl rfl ?_)
    go_ret
    have kS : Keeps [g] w2 (w2.setCell ⟨g, 3, none⟩ (.slice A2 m (c - k))) := Keeps.setCell w2 ⟨g, 3, none⟩ _
    have hsub : ∀ x ∈ blkOf (.slice A2 m (c - k)), x ∈ blkOf (.slice A s.rdy.length c) := by
      rw [← HA2.out]
      exact blkOf_from (size := 1) A s.rdy.length c k m (c - k)
    refine ⟨p, .slice A2 m (c - k), rfl, ?_, ⟨?_, HH2.out.low, ?_⟩, (K2.out.sub (F' := [g]) (by simp)).trans kS (fun x hx _ => hx), hsub⟩
    · rw [HKK.out]
      refine HP.out.keep kS (fun a ha hm => ?_)
      simp at hm
      subst hm
      have := (HP.out.lt a ha).1
      omega
    · have h9 := HH2.out.blk.set_ 3 (.slice A2 m (c - k))
      simpa [wC, takeP] using h9
    · have h9 := HH2.out.own.from_ hk
      rw [HA2.out, HMM.out] at h9
      have h10 := h9.keep kS (fun a ha hm => by simp at hm; exact HH2.out.apart a (hsub a ha) hm)
      unfold takeP
      rw [HKK.out]
      simp only [hnl]
      rw [List.map_drop]
      simpa using h10
end Go.Proofs.Ytbjejmdbpikgjaa.Pcs
