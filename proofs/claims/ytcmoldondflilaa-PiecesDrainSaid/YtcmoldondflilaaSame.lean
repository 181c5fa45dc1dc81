/- The contracts of the document's Same and SameTable (ref05) and Great (ref10). -/
import Derived.Test.YtcmoldondflilaaProg
import Derived.Test.YtcmoldondflilaaTbl
import Derived.Test.YtcmoldondflilaaTabPlain
import Derived.Outline
import Derived.Deep.QuietTactic
import Derived.BigQuiet
namespace Go.Proofs.Ytcmoldondflilaa.Same
set_option linter.unusedVariables false
set_option linter.unusedSimpArgs false
set_option maxRecDepth 100000
open Go.RowKit Q

theorem take_eq_succ {α : Type} {a b : List α} {k : Nat} (ha : k < a.length) (hb : k < b.length) (h : a.take k = b.take k) (e : a[k] = b[k]) : a.take (k + 1) = b.take (k + 1) := by
  rw [List.take_succ_eq_append_getElem ha, List.take_succ_eq_append_getElem hb, h, e]
theorem eq_of_take {α : Type} {a b : List α} (hl : a.length = b.length) (h : a.take a.length = b.take a.length) : a = b := by
  rw [List.take_length] at h
  rw [h, hl, List.take_length]
theorem ne_of_at {α : Type} {a b : List α} {k : Nat} (ha : k < a.length) (hb : k < b.length) (e : a[k] ≠ b[k]) : a ≠ b := by
  rintro rfl
  exact e rfl

set_option maxHeartbeats 400000 in
theorem same_c (A B : Value) (a b : List (List UInt8)) (B1 B2 : Nat) (w : World) (ha : Rd w B1 1 A a.length (a.map sv)) (hb : Rd w B2 1 B b.length (b.map sv)) :
    Calls Try.prog 54 #[A, B] w fun e w' => e = .returned (.bool (decide (a = b))) ∧ ∃ m, w' = w.drewN m := by
  obtain ⟨A, ca, rfl, ha1, ha2⟩ := ha.form
  obtain ⟨B, cb, rfl, hb1, hb2⟩ := hb.form
  unfold maxLen at ha2 hb2
  by_cases hl : a.length = b.length
  · have hne : ((a.length : Int) != (b.length : Int)) = false := by simp [hl]
    have HL := Lib.hid hl; clear hl
    go_enter Try.func54, Try.ntmps54
    go_wp2
    go_loopw [13] (fun i wr => ∃ k : Nat, k ≤ a.length ∧ i = .int .i64 k ∧ a.take k = b.take k ∧ ∃ m, wr = w.drewN m) (fun i _ => a.length - (intOf i).toNat)
    case atStart => exact ⟨0, by omega, rfl, rfl, 0, rfl⟩
    case round =>
      obtain ⟨k, hk, rfl, ht, m, rfl⟩ := hrel
      have HT := Lib.hid ht; clear ht
      by_cases hlt : k < a.length
      · have hltb : k < b.length := by have := HL.out; omega
        obtain ⟨g1, o1, rfl, _, c1⟩ := ha.str_at hlt
        obtain ⟨g2, o2, rfl, _, c2⟩ := hb.str_at hltb
        have e0 : (0 : Int) ≤ (k : Int) := by omega
        have e1 : (k : Int) < (a.length : Int) := by omega
        have e2 : (k : Int) < (b.length : Int) := by omega
        by_cases he : a[k] = b[k]
        · have hbe : (a[k] == b[k]) = true := by simp [he]
          have HE := Lib.hid he; clear he
          go_wp2_with (fail)
          go_quiet (fail)
          go_wp2_with (fail)
          go_roundw
          case rel => exact ⟨k + 1, by omega, by go_num, take_eq_succ hlt hltb HT.out HE.out, _, rfl⟩
          case measure => simp [intOf]; omega
        · have hbe : (a[k] == b[k]) = false := by simp [he]
          have HE := Lib.hid he; clear he
          go_wp2_with (fail)
          go_quiet (fail)
          go_wp2_with (fail)
          go_ret
          exact ⟨ret_bool (by simp [ne_of_at hlt hltb HE.out]), _, World.drewN_drewN _ _ _⟩
      · go_wp2_with (fail)
        go_ret
        obtain rfl : k = a.length := by omega
        exact ⟨ret_bool (by simp [eq_of_take HL.out HT.out]), _, rfl⟩
  · have hne : ((a.length : Int) != (b.length : Int)) = true := by rw [bne_iff_ne]; omega
    have HL := Lib.hid hl; clear hl
    go_enter Try.func54, Try.ntmps54
    go_wp2_with (fail)
    go_ret
    exact ⟨ret_bool (by symm; rw [decide_eq_false_iff_not]; rintro rfl; exact HL.out rfl), 0, rfl⟩

set_option maxHeartbeats 400000 in
theorem sameTable_c (A B : Value) (a b : List (List (List UInt8))) (B1 B2 : Nat) (w : World) (ha : Tbl w B1 A a) (hb : Tbl w B2 B b) :
    Calls Try.prog 21 #[A, B] w fun e w' => e = .returned (.bool (decide (a = b))) ∧ ∃ m, w' = w.drewN m := by
  obtain ⟨A, ca, rfl, ha1, ha2⟩ := ha.form
  obtain ⟨B, cb, rfl, hb1, hb2⟩ := hb.form
  unfold maxLen at ha2 hb2
  by_cases hl : a.length = b.length
  · have hne : ((a.length : Int) != (b.length : Int)) = false := by simp [hl]
    have HL := Lib.hid hl; clear hl
    go_enter Try.func21, Try.ntmps21
    go_wp2_with (fail)
    go_loopw [13] (fun i wr => ∃ k : Nat, k ≤ a.length ∧ i = .int .i64 k ∧ a.take k = b.take k ∧ ∃ m, wr = w.drewN m) (fun i _ => a.length - (intOf i).toNat)
    case atStart => exact ⟨0, by omega, rfl, rfl, 0, rfl⟩
    case round =>
      obtain ⟨k, hk, rfl, ht, m, hm⟩ := hrel
      have haw : Tbl wr B1 (.slice A a.length ca) a := by rw [hm]; exact ha
      have hbw : Tbl wr B2 (.slice B b.length cb) b := by rw [hm]; exact hb
      have HM := Lib.hid hm; clear hm
      have HT := Lib.hid ht; clear ht
      by_cases hlt : k < a.length
      · have hltb : k < b.length := by have := HL.out; omega
        obtain ⟨g1, o1, A1, n1, rfl, _, c1, r1⟩ := haw.at_ hlt
        obtain ⟨g2, o2, A2, n2, rfl, _, c2, r2⟩ := hbw.at_ hltb
        have e0 : (0 : Int) ≤ (k : Int) := by omega
        have e1 : (k : Int) < (a.length : Int) := by omega
        have e2 : (k : Int) < (b.length : Int) := by omega
        have HC := Lib.hid (fun q => same_c _ _ _ _ B1 B2 (wr.drewN q) (r1.drewN q) (r2.drewN q))
        clear r1 r2
        by_cases he : a[k] = b[k]
        · rw [decide_eq_true he] at HC
          have HE := Lib.hid he; clear he
          go_wp2_with (fail)
          go_quiet ((go_at_call 54; exact Calls.quiet_of (HC.out _)))
          go_wp2_with (fail)
          go_roundw
          case rel => exact ⟨k + 1, by omega, by go_num, take_eq_succ hlt hltb HT.out HE.out, m + nq, by rw [HM.out, World.drewN_drewN]⟩
          case measure => simp [intOf]; omega
        · rw [decide_eq_false he] at HC
          have HE := Lib.hid he; clear he
          go_wp2_with (fail)
          go_quiet ((go_at_call 54; exact Calls.quiet_of (HC.out _)))
          go_wp2_with (fail)
          go_ret
          exact ⟨ret_bool (by simp [ne_of_at hlt hltb HE.out]), m + nq, by rw [HM.out, World.drewN_drewN]⟩
      · go_wp2_with (fail)
        go_ret
        obtain rfl : k = a.length := by omega
        exact ⟨ret_bool (by simp [eq_of_take HL.out HT.out]), m, HM.out⟩
  · have hne : ((a.length : Int) != (b.length : Int)) = true := by rw [bne_iff_ne]; omega
    have HL := Lib.hid hl; clear hl
    go_enter Try.func21, Try.ntmps21
    go_wp2_with (fail)
    go_ret
    exact ⟨ret_bool (by symm; rw [decide_eq_false_iff_not]; rintro rfl; exact HL.out rfl), 0, rfl⟩

open Tab
def GreatPost (t : Tb) (R F Y : Nat) (w : World) (e : Ending) (w' : World) : Prop := ∃ b, e = .returned (.bool b) ∧ (b = false → t.length ≤ R ∧ fieldsOf t ≤ F ∧ bytesOf t ≤ Y) ∧ ∃ m, w' = w.drewN m
set_option maxHeartbeats 400000 in
/-- Great answers; where it says no, the table is small. -/
theorem great_c (A : Value) (t : Tb) (R F Y : Nat) (hR : R ≤ 100000) (hF : F ≤ 100000) (hY : Y ≤ 100000) (B1 : Nat) (w : World) (ht : Tbl w B1 A t) (hsm : Small t) :
    Calls Try.prog 11 #[A, .int .i64 R, .int .i64 F, .int .i64 Y] w (GreatPost t R F Y w) := by
  obtain ⟨A, ca, rfl, ha1, ha2⟩ := ht.form
  unfold maxLen at ha2
  by_cases h0 : R < t.length
  · go_enter Try.func11, Try.ntmps11
    go_wp2_with (fail)
    go_ret
    exact ⟨true, rfl, by simp, 0, rfl⟩
  · have h0' : decide ((R : Int) < (t.length : Int)) = false := by simp; omega
    go_enter Try.func11, Try.ntmps11
    go_wp2_with (fail)
    go_loop [2, 3, 19] (fun f y i => ∃ k : Nat, k ≤ t.length ∧ i = .int .i64 k ∧ fieldsOf (t.take k) ≤ F ∧ f = .int .i64 ((F : Int) - fieldsOf (t.take k)) ∧ bytesOf (t.take k) ≤ Y ∧ y = .int .i64 ((Y : Int) - bytesOf (t.take k))) (fun _ _ i => t.length - (intOf i).toNat)
    case atStart => exact ⟨0, by omega, rfl, by simp [fieldsOf], by simp [fieldsOf], by simp [bytesOf], by simp [bytesOf]⟩
    case round =>
      obtain ⟨k, hk, rfl, hf, rfl, hy, rfl⟩ := hrel
      by_cases hlt : k < t.length
      · obtain ⟨g1, o1, A1, n1, rfl, _, c1, r1⟩ := ht.at_ hlt
        have hfs := fields_take t k hlt
        have hbs := bytes_take t k hlt
        have hn2 := r1.max
        unfold maxLen at hn2
        generalize fieldsOf (t.take k) = f0 at *
        generalize bytesOf (t.take k) = y0 at *
        have hmem : t[k] ∈ t := List.getElem_mem hlt
        generalize t[k] = r at *
        have HF := Lib.hid hfs; have HB := Lib.hid hbs; clear hfs hbs
        by_cases h1 : (F : Int) - f0 < r.length
        · go_wp2_with (fail)
          go_ret
          exact ⟨true, rfl, by simp, 0, rfl⟩
        · have h1' : decide ((F : Int) - f0 < r.length) = false := by simpa using h1
          go_wp2_with (fail)
          go_loop [3, 33] (fun y i => ∃ j : Nat, j ≤ r.length ∧ i = .int .i64 j ∧ y0 + bytesOfRow (r.take j) ≤ Y ∧ y = .int .i64 ((Y : Int) - (y0 + bytesOfRow (r.take j)))) (fun _ i => r.length - (intOf i).toNat)
          case atStart => exact ⟨0, by omega, rfl, by simp [bytesOfRow]; omega, by simp [bytesOfRow]⟩
          case round =>
            obtain ⟨j, hj, rfl, hy', rfl⟩ := hrel
            by_cases hjl : j < r.length
            · obtain ⟨g2, o2, rfl, _, c2⟩ := r1.str_at hjl
              have hrs := rowBytes_take r j hjl
              generalize bytesOfRow (r.take j) = z0 at *
              have hsl := (hsm.2 r hmem).2 r[j] (List.getElem_mem hjl)
              unfold reachBytes at hsl
              generalize r[j] = s at *
              have HR := Lib.hid hrs; clear hrs
              by_cases h2 : (Y : Int) - (y0 + z0) < s.length
              · go_wp2_with (fail)
                go_ret
                exact ⟨true, rfl, by simp, 0, rfl⟩
              · have h2' : decide ((Y : Int) - (y0 + z0) < s.length) = false := by simpa using h2
                go_wp2_with (fail)
                go_round
                case rel => exact ⟨j + 1, by omega, by go_num, by rw [HR.out]; omega, by rw [HR.out]; go_num⟩
                case measure => simp [intOf]; omega
            · obtain rfl : j = r.length := by omega
              rw [List.take_length] at hy'
              rw [List.take_length]
              go_wp2_with (fail)
              go_round
              case rel => exact ⟨k + 1, by omega, by go_num, by rw [HF.out]; omega, by rw [HF.out]; go_num, by rw [HB.out]; omega, by rw [HB.out]; go_num⟩
              case measure => simp [intOf]; omega
      · go_wp2_with (fail)
        go_ret
        obtain rfl : k = t.length := by omega
        rw [List.take_length] at hf hy
        exact ⟨false, rfl, fun _ => ⟨by omega, hf, hy⟩, 0, rfl⟩
end Go.Proofs.Ytcmoldondflilaa.Same
