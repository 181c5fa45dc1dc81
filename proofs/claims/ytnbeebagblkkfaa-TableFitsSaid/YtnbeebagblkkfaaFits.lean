/- The contracts of Fits of layer 13, the program's and the document's. -/
import Derived.Test.YtnbeebagblkkfaaTab3
import Derived.Test.YtnbeebagblkkfaaLimits
namespace Go.Proofs.Ytnbeebagblkkfaa.Tab
set_option linter.unusedVariables false
set_option linter.unusedSimpArgs false
open Go.RowKit Q Same Limits

def overAt (F : Nat) : Row → Nat → Option Nat
  | [], _ => none
  | f :: r, k => if F < f.length then some k else overAt F r (k + 1)
def rowFits (F N R : Nat) (u : Bool) (w0 i : Nat) (r : Row) : Option (Nat × Nat × Nat) :=
  if R ≤ i then some (i, 0, 9) else if N < r.length then some (i, N, 8) else match overAt F r 0 with
    | some k => some (i, k, 7)
    | none => if u && r.length != w0 then some (i, 0, 10) else none
def fitsFrom (F N R : Nat) (u : Bool) (w0 : Nat) : Nat → Tb → Nat × Nat × Nat
  | _, [] => (0, 0, 0)
  | i, r :: t => match rowFits F N R u w0 i r with
    | some x => x
    | none => fitsFrom F N R u w0 (i + 1) t
def fitsT (F N R : Nat) (u : Bool) (t : Tb) : Nat × Nat × Nat := fitsFrom F N R u (t.headD []).length 0 t
theorem fitsFrom_bad {F N R : Nat} {u : Bool} {w0 k : Nat} {t : Tb} (h : k < t.length) {x : Nat × Nat × Nat} (hx : rowFits F N R u w0 k t[k] = some x) : fitsFrom F N R u w0 k (t.drop k) = x := by
  rw [List.drop_eq_getElem_cons h, fitsFrom, hx]
theorem fitsFrom_ok {F N R : Nat} {u : Bool} {w0 k : Nat} {t : Tb} (h : k < t.length) (hx : rowFits F N R u w0 k t[k] = none) : fitsFrom F N R u w0 k (t.drop k) = fitsFrom F N R u w0 (k + 1) (t.drop (k + 1)) := by
  rw [List.drop_eq_getElem_cons h, fitsFrom, hx]
theorem over_step {F k : Nat} {r : Row} (h : k < r.length) (hf : ¬ F < r[k].length) : overAt F (r.drop k) k = overAt F (r.drop (k + 1)) (k + 1) := by
  rw [List.drop_eq_getElem_cons h, overAt, if_neg hf]
theorem over_hit {F k : Nat} {r : Row} (h : k < r.length) (hf : F < r[k].length) : overAt F (r.drop k) k = some k := by
  rw [List.drop_eq_getElem_cons h, overAt, if_pos hf]
theorem rf_rec {F N R : Nat} {u : Bool} {w0 i : Nat} {r : Row} (h : R ≤ i) : rowFits F N R u w0 i r = some (i, 0, 9) := by simp [rowFits, h]
theorem rf_fields {F N R : Nat} {u : Bool} {w0 i : Nat} {r : Row} (h : ¬ R ≤ i) (h2 : N < r.length) : rowFits F N R u w0 i r = some (i, N, 8) := by simp [rowFits, h, h2]
theorem rf_field {F N R : Nat} {u : Bool} {w0 i : Nat} {r : Row} (h : ¬ R ≤ i) (h2 : ¬ N < r.length) {k : Nat} (h3 : overAt F r 0 = some k) : rowFits F N R u w0 i r = some (i, k, 7) := by simp [rowFits, h, h2, h3]
theorem rf_width {F N R : Nat} {w0 i : Nat} {r : Row} (h : ¬ R ≤ i) (h2 : ¬ N < r.length) (h3 : overAt F r 0 = none) (h4 : r.length ≠ w0) : rowFits F N R true w0 i r = some (i, 0, 10) := by simp [rowFits, h, h2, h3, h4]
theorem rf_ok {F N R : Nat} {u : Bool} {w0 i : Nat} {r : Row} (h : ¬ R ≤ i) (h2 : ¬ N < r.length) (h3 : overAt F r 0 = none) (h4 : u = true → r.length = w0) : rowFits F N R u w0 i r = none := by
  cases u
  · simp [rowFits, h, h2, h3]
  · have := h4 rfl; subst this; simp [rowFits, h, h2, h3]

set_option maxHeartbeats 1000000 in
theorem fits_bad (a b c : Int) (u : Bool) (hbad : limOk a b c = false) (A : Value) (t : Tb) (w : World) :
    Calls Try.prog 23 #[limV a b c u, A] w fun e w' => e = .returned (.tuple #[.int .i64 0, .int .i64 0, .int .i64 2]) ∧ Keeps [] w w' := by
  have HC := Lib.hid (fun w => checkLimits_c a b c u w)
  rw [hbad] at HC
  simp only [if_false, Bool.false_eq_true] at HC
  clear hbad
  go_enter Try.func23, Try.ntmps23
  go_wp2_with (fail)
  go_step3
  go_wp2_with (fail)
  refine (HC.out _).mono ?_
  rintro e w1 ⟨rfl, k1⟩
  go_wp2_with (fail)
  try rw [Exit.noGoto_ret]
  go_ret3
  exact ⟨rfl, (Keeps.alloc [] w _).trans k1 (by simp)⟩

set_option maxHeartbeats 1000000 in
theorem fits_c (F N R : Nat) (u : Bool) (hok : limOk F N R = true) (A : Value) (t : Tb) (B1 : Nat) (w : World) (ht : Tbl w B1 A t) (hB : B1 ≤ w.heap.size) (hs : Small t) :
    Calls Try.prog 23 #[limV F N R u, A] w fun e w' => e = .returned (.tuple #[.int .i64 (fitsT F N R u t).1, .int .i64 (fitsT F N R u t).2.1, .int .i64 (fitsT F N R u t).2.2]) ∧ Keeps [] w w' := by
  have HC := Lib.hid (fun w => checkLimits_c F N R u w)
  rw [hok] at HC
  simp only [if_true] at HC
  clear hok
  obtain ⟨z, hz⟩ : ∃ z, fitsT F N R u t = z := ⟨_, rfl⟩
  rw [hz]
  unfold fitsT at hz
  generalize hw0 : (t.headD []).length = w0 at *
  have HW0 := Lib.hid hw0; clear hw0
  have HZ0 := Lib.hid hz; clear hz
  have ht' := ht
  obtain ⟨A, ca, rfl, ha1, ha2⟩ := ht.form
  unfold maxLen at ha2
  go_enter Try.func23, Try.ntmps23
  go_wp2_with (fail)
  go_step3
  go_wp2_with (fail)
  refine (HC.out _).mono ?_
  rintro e w1 ⟨rfl, k1⟩
  have kp : Keeps [] w w1 := (Keeps.alloc [] w _).trans k1 (by simp)
  have hbx := (Blk.new w 45 [.int .i64 F, .int .i64 N, .int .i64 R, .bool u]).keep k1 (by simp)
  have c0 := hbx.cell 0
  have c1 := hbx.cell 1
  have c2 := hbx.cell 2
  have c3 := hbx.cell 3
  simp only [List.getElem?_cons_zero, List.getElem?_cons_succ] at c0 c1 c2 c3
  have htw := ht'.keepB kp (by simp)
  clear hbx k1
  go_wp2_with (fail)
  go_step3
  go_wp2_with (fail)
  go_loop [4, 5, 6, 19] (fun x y e i => ∃ (k : Nat) (p : Int), k ≤ t.length ∧ x = .int .i64 p ∧ y = .int .i64 0 ∧ e = .int .i64 0 ∧ i = .int .i64 k ∧ fitsFrom F N R u w0 k (t.drop k) = z) (fun _ _ _ i => t.length - (intOf i).toNat)
  case atStart => exact ⟨0, 0, by omega, rfl, rfl, rfl, rfl, by simpa using HZ0.out⟩
  case round =>
    obtain ⟨k, p, hk, rfl, rfl, rfl, rfl, hz⟩ := hrel
    have HZ := Lib.hid hz; clear hz
    by_cases hlt : k < t.length
    · obtain ⟨g1, o1, A1, n1, rfl, _, d1, r1⟩ := htw.at_ hlt
      obtain ⟨g2, o2, A2, n2, he2, _, d2, r2⟩ := htw.at_ (k := 0) (by omega)
      injection he2 with he2; injection he2 with he2 he3; subst he2 he3
      simp only [Nat.add_zero] at d2
      have hw0 := HW0.out
      rw [headD_at (by omega)] at hw0
      rw [hw0] at d2
      have hmem := hs.2 _ (List.getElem_mem hlt)
      have HMEM := Lib.hid hmem; clear hmem
      have hrm := r1.max
      unfold maxLen at hrm
      obtain ⟨r, hr⟩ : ∃ r, t[k] = r := ⟨_, rfl⟩
      rw [hr] at d1 r1 hrm HMEM
      have HR := Lib.hid hr; clear hr r2 hw0
      by_cases h1 : R ≤ k
      · go_wp2_with (fail)
        try rw [Exit.noGoto_ret]
        go_ret3
        rw [← HZ.out, fitsFrom_bad hlt (rf_rec h1)]
        exact ⟨rfl, kp⟩
      · by_cases h2 : N < r.length
        · go_wp2_with (fail)
          try rw [Exit.noGoto_ret]
          go_ret3
          rw [← HZ.out, fitsFrom_bad hlt (rf_fields h1 (by rw [HR.out]; exact h2))]
          exact ⟨rfl, kp⟩
        · go_wp2_with (fail)
          go_loop [5, 6, 40] (fun y e i => ∃ j : Nat, j ≤ r.length ∧ y = .int .i64 0 ∧ e = .int .i64 0 ∧ i = .int .i64 j ∧ overAt F (r.drop j) j = overAt F r 0) (fun _ _ i => r.length - (intOf i).toNat)
          case atStart => exact ⟨0, by omega, rfl, rfl, rfl, by simp⟩
          case round =>
            obtain ⟨j, hj, rfl, rfl, rfl, hov⟩ := hrel
            have HO := Lib.hid hov; clear hov
            by_cases hjl : j < r.length
            · obtain ⟨g5, o5, rfl, _, d5⟩ := r1.str_at hjl
              have hsl := HMEM.out.2 _ (List.getElem_mem hjl)
              unfold reachBytes at hsl
              by_cases h3 : F < r[j].length
              · have hh := over_hit hjl h3
                have HHit := Lib.hid (hh.symm.trans HO.out); clear hh
                go_wp2_with (fail)
                try rw [Exit.noGoto_ret]
                go_ret3
                rw [← HZ.out, fitsFrom_bad hlt (rf_field h1 (by rw [HR.out]; exact h2) (by rw [HR.out]; exact HHit.out.symm))]
                exact ⟨rfl, kp⟩
              · have hh := over_step hjl h3
                have HHit := Lib.hid (hh.symm.trans HO.out); clear hh
                go_wp2_with (fail)
                go_round
                case rel => exact ⟨j + 1, by omega, rfl, rfl, by go_num, HHit.out⟩
                case measure => simp [intOf]; omega
            · obtain rfl : j = r.length := by omega
              have hno : overAt F r 0 = none := by rw [← HO.out]; simp [overAt]
              have HNO := Lib.hid hno; clear hno
              cases u
              · go_wp2_with (fail)
                go_round
                case rel => exact ⟨k + 1, k, by omega, rfl, rfl, rfl, by go_num, (fitsFrom_ok hlt (rf_ok h1 (by rw [HR.out]; exact h2) (by rw [HR.out]; exact HNO.out) (by simp))).symm.trans HZ.out⟩
                case measure => simp [intOf]; omega
              · by_cases h4 : r.length = w0
                · have h4' : ((r.length : Int) != (w0 : Int)) = false := by simp [h4]
                  have H4 := Lib.hid h4; clear h4
                  go_wp2_with (fail)
                  go_round
                  case rel => exact ⟨k + 1, k, by omega, rfl, rfl, rfl, by go_num, (fitsFrom_ok hlt (rf_ok h1 (by rw [HR.out]; exact h2) (by rw [HR.out]; exact HNO.out) (by rw [HR.out]; exact fun _ => H4.out))).symm.trans HZ.out⟩
                  case measure => simp [intOf]; omega
                · have h4' : ((r.length : Int) != (w0 : Int)) = true := by rw [bne_iff_ne]; omega
                  have H4 := Lib.hid h4; clear h4
                  go_wp2_with (fail)
                  try rw [Exit.noGoto_ret]
                  go_ret3
                  rw [← HZ.out, fitsFrom_bad hlt (rf_width h1 (by rw [HR.out]; exact h2) (by rw [HR.out]; exact HNO.out) (by rw [HR.out]; exact H4.out))]
                  exact ⟨rfl, kp⟩
    · obtain rfl : k = t.length := by omega
      go_wp2_with (fail)
      try rw [Exit.noGoto_ret]
      go_ret3
      rw [← HZ.out]
      exact ⟨by simp [fitsFrom], kp⟩
set_option maxHeartbeats 1000000 in
theorem rfits_c (F N R : Nat) (u : Bool) (U : Int) (hU : (U == 1) = u) (A : Value) (t : Tb) (B1 : Nat) (w : World) (ht : Tbl w B1 A t) (hB : B1 ≤ w.heap.size) (hs : Small t) :
    Calls Try.prog 26 #[.agg #[.int .i64 F, .int .i64 N, .int .i64 R, .int .i64 U], A] w fun e w' => e = .returned (.tuple #[.int .i64 (fitsT F N R u t).1, .int .i64 (fitsT F N R u t).2.1, .int .i64 (fitsT F N R u t).2.2]) ∧ Keeps [] w w' := by
  obtain ⟨z, hz⟩ : ∃ z, fitsT F N R u t = z := ⟨_, rfl⟩
  rw [hz]
  unfold fitsT at hz
  generalize hw0 : (t.headD []).length = w0 at *
  have HW0 := Lib.hid hw0; clear hw0
  have HZ0 := Lib.hid hz; clear hz
  have ht' := ht
  obtain ⟨A, ca, rfl, ha1, ha2⟩ := ht.form
  unfold maxLen at ha2
  go_enter Try.func26, Try.ntmps26
  have kp : Keeps [] w (w.alloc (.cells #[.int .i64 F, .int .i64 N, .int .i64 R, .int .i64 U] 50)) := Keeps.alloc [] w _
  have hbx := Blk.new w 50 [.int .i64 F, .int .i64 N, .int .i64 R, .int .i64 U]
  have c0 := hbx.cell 0
  have c1 := hbx.cell 1
  have c2 := hbx.cell 2
  have c3 := hbx.cell 3
  simp only [List.getElem?_cons_zero, List.getElem?_cons_succ] at c0 c1 c2 c3
  have htw := ht'.keepB kp (by simp)
  clear hbx
  go_wp2_with (fail)
  generalize w.alloc (.cells #[.int .i64 F, .int .i64 N, .int .i64 R, .int .i64 U] 50) = w1 at *
  go_loop [13] (fun i => ∃ (k : Nat), k ≤ t.length ∧ i = .int .i64 k ∧ fitsFrom F N R u w0 k (t.drop k) = z) (fun i => t.length - (intOf i).toNat)
  case atStart => exact ⟨0, by omega, rfl, by simpa using HZ0.out⟩
  case round =>
    obtain ⟨k, hk, rfl, hz⟩ := hrel
    have HZ := Lib.hid hz; clear hz
    by_cases hlt : k < t.length
    · obtain ⟨g1, o1, A1, n1, rfl, _, d1, r1⟩ := htw.at_ hlt
      obtain ⟨g2, o2, A2, n2, he2, _, d2, r2⟩ := htw.at_ (k := 0) (by omega)
      injection he2 with he2; injection he2 with he2 he3; subst he2 he3
      simp only [Nat.add_zero] at d2
      have hw0 := HW0.out
      rw [headD_at (by omega)] at hw0
      rw [hw0] at d2
      have hmem := hs.2 _ (List.getElem_mem hlt)
      have HMEM := Lib.hid hmem; clear hmem
      have hrm := r1.max
      unfold maxLen at hrm
      obtain ⟨r, hr⟩ : ∃ r, t[k] = r := ⟨_, rfl⟩
      rw [hr] at d1 r1 hrm HMEM
      have HR := Lib.hid hr; clear hr r2 hw0
      by_cases h1 : R ≤ k
      · go_wp2_with (fail)
        go_ret3
        rw [← HZ.out, fitsFrom_bad hlt (rf_rec h1)]
        exact ⟨rfl, kp⟩
      · by_cases h2 : N < r.length
        · go_wp2_with (fail)
          go_quiet (fail)
          go_wp2_with (fail)
          go_ret3
          rw [← HZ.out, fitsFrom_bad hlt (rf_fields h1 (by rw [HR.out]; exact h2))]
          exact ⟨rfl, kp.drewN1 _⟩
        · go_wp2_with (fail)
          go_loop [33] (fun i => ∃ j : Nat, j ≤ r.length ∧ i = .int .i64 j ∧ overAt F (r.drop j) j = overAt F r 0) (fun i => r.length - (intOf i).toNat)
          case atStart => exact ⟨0, by omega, rfl, by simp⟩
          case round =>
            obtain ⟨j, hj, rfl, hov⟩ := hrel
            have HO := Lib.hid hov; clear hov
            by_cases hjl : j < r.length
            · obtain ⟨g5, o5, rfl, _, d5⟩ := r1.str_at hjl
              have hsl := HMEM.out.2 _ (List.getElem_mem hjl)
              unfold reachBytes at hsl
              by_cases h3 : F < r[j].length
              · have hh := over_hit hjl h3
                have HHit := Lib.hid (hh.symm.trans HO.out); clear hh
                go_wp2_with (fail)
                go_ret3
                rw [← HZ.out, fitsFrom_bad hlt (rf_field h1 (by rw [HR.out]; exact h2) (by rw [HR.out]; exact HHit.out.symm))]
                exact ⟨rfl, kp⟩
              · have hh := over_step hjl h3
                have HHit := Lib.hid (hh.symm.trans HO.out); clear hh
                go_wp2_with (fail)
                go_round
                case rel => exact ⟨j + 1, by omega, by go_num, HHit.out⟩
                case measure => simp [intOf]; omega
            · obtain rfl : j = r.length := by omega
              have hno : overAt F r 0 = none := by rw [← HO.out]; simp [overAt]
              have HNO := Lib.hid hno; clear hno
              cases u
              · go_wp2_with (fail)
                go_round
                case rel => exact ⟨k + 1, by omega, by go_num, (fitsFrom_ok hlt (rf_ok h1 (by rw [HR.out]; exact h2) (by rw [HR.out]; exact HNO.out) (by simp))).symm.trans HZ.out⟩
                case measure => simp [intOf]; omega
              · by_cases h4 : r.length = w0
                · have h4' : ((r.length : Int) != (w0 : Int)) = false := by simp [h4]
                  have H4 := Lib.hid h4; clear h4
                  go_wp2_with (fail)
                  go_round
                  case rel => exact ⟨k + 1, by omega, by go_num, (fitsFrom_ok hlt (rf_ok h1 (by rw [HR.out]; exact h2) (by rw [HR.out]; exact HNO.out) (by rw [HR.out]; exact fun _ => H4.out))).symm.trans HZ.out⟩
                  case measure => simp [intOf]; omega
                · have h4' : ((r.length : Int) != (w0 : Int)) = true := by rw [bne_iff_ne]; omega
                  have H4 := Lib.hid h4; clear h4
                  go_wp2_with (fail)
                  go_ret3
                  rw [← HZ.out, fitsFrom_bad hlt (rf_width h1 (by rw [HR.out]; exact h2) (by rw [HR.out]; exact HNO.out) (by rw [HR.out]; exact H4.out))]
                  exact ⟨rfl, kp⟩
    · obtain rfl : k = t.length := by omega
      go_wp2_with (fail)
      go_ret3
      rw [← HZ.out]
      exact ⟨by simp [fitsFrom], kp⟩
end Go.Proofs.Ytnbeebagblkkfaa.Tab
