/- More contracts of layer 13: Turn of tables that are not even or empty; the document's Column and Turn; the example. -/
import Derived.Test.YtnbeebagblkkfaaTab
namespace Go.Proofs.Ytnbeebagblkkfaa.Tab
set_option linter.unusedVariables false
set_option linter.unusedSimpArgs false
open Go.RowKit Q Same

set_option maxHeartbeats 400000 in
theorem turn_odd (A : Value) (t : Tb) (B1 : Nat) (w : World) (ht : Tbl w B1 A t) (he : evenT t = false) :
    Calls Try.prog 10 #[A] w fun e w' => e = .returned (.tuple #[.slice none 0 0, .int .i64 10]) ∧ w = w' := by
  have HE := Lib.hid (even_c _ t B1 w ht)
  rw [he] at HE
  obtain ⟨A, ca, rfl, ha1, ha2⟩ := ht.form
  clear he ht
  go_enter Try.func10, Try.ntmps10
  go_wp2_with (go_at_call 16; refine HE.out.mono ?_; rintro e w' ⟨rfl, rfl⟩)
  go_ret2
  exact ⟨rfl, rfl⟩
set_option maxHeartbeats 400000 in
theorem turn_nil (A : Value) (B1 : Nat) (w : World) (ht : Tbl w B1 A []) :
    Calls Try.prog 10 #[A] w fun e w' => e = .returned (.tuple #[.slice none 0 0, .int .i64 0]) ∧ w = w' := by
  have HE := Lib.hid (even_c _ [] B1 w ht)
  rw [show evenT [] = true from rfl] at HE
  obtain ⟨A, ca, rfl, ha1, ha2⟩ := ht.form
  clear ht
  simp only [List.length_nil] at HE ⊢
  go_enter Try.func10, Try.ntmps10
  go_wp2_with (go_at_call 16; refine HE.out.mono ?_; rintro e w' ⟨rfl, rfl⟩)
  go_ret2
  exact ⟨rfl, rfl⟩

def ColPost (t : Tb) (n : Nat) (w : World) (e : Ending) (w' : World) : Prop :=
  ∃ v, e = .returned v ∧ Own w' w.heap.size 9 1 v (column t n).length ((column t n).map sv) ∧ Keeps [] w w'
set_option maxHeartbeats 400000 in
theorem rcol_c (A : Value) (t : Tb) (n : Nat) (B1 : Nat) (w : World) (ht : Tbl w B1 A t) (hB : B1 ≤ w.heap.size) (hn : ∀ r ∈ t, n < r.length) (hl : t.length ≤ 100000) :
    Calls Try.prog 20 #[A, .int .i64 n] w (ColPost t n w) := by
  obtain ⟨iS, hiS, hS0, hS1, hS2⟩ := info_parts Try.infoStr
  have ht' := ht
  obtain ⟨A, ca, rfl, ha1, ha2⟩ := ht.form
  go_enter Try.func20, Try.ntmps20
  go_wp2_with (fail)
  go_loopw [5, 10] (fun v i wr => ∃ k : Nat, k ≤ t.length ∧ i = .int .i64 k ∧ Own wr w.heap.size 9 1 v k (((column t n).take k).map sv) ∧ Keeps [] w wr) (fun _ i _ => t.length - (intOf i).toNat)
  case atStart => exact ⟨0, by omega, rfl, by simpa using Own.nil_ w w.heap.size 9 1, Keeps.refl _ _⟩
  case round =>
    obtain ⟨k, hk, rfl, hown, hkp⟩ := hrel
    by_cases hlt : k < t.length
    · obtain ⟨A0, c0, hv0, _⟩ := hown.form
      subst hv0
      have htw := ht'.keepB hkp (by simp)
      obtain ⟨g1, o1, A1, n1, rfl, _, c1, r1⟩ := htw.at_ hlt
      have hnr := hn t[k] (List.getElem_mem hlt)
      obtain ⟨g2, o2, rfl, _, c2⟩ := r1.str_at hnr
      have e1 : (n : Int) < (t[k].length : Int) := by omega
      have e0 : (0 : Int) ≤ (n : Int) := by omega
      obtain ⟨v', w', hrun, hown', hk', hb'⟩ := run_append1 (P := Try.prog) (y := sv t[k][n]) Try.underlying33 hiS hS0 hS1 hS2 rfl hown rfl (by simp only [maxLen]; omega) (by omega) hkp.size 33
      go_wp2_with (refine wpList_append hrun _ _ rfl rfl rfl rfl rfl ?_)
      go_roundw
      case rel =>
        refine ⟨k + 1, by omega, by go_num, ?_, hkp.trans hk' (by intro x hx hl; have := (hown.lt x hx).1; omega)⟩
        have e2 : ((column t n).take (k + 1)).map sv = ((column t n).take k).map sv ++ [sv t[k][n]] := by
          rw [List.take_succ_eq_append_getElem (by simp [column]; exact hlt), List.map_append]
          simp [column, List.getD, List.getElem?_eq_getElem hnr]
        rw [e2]
        exact hown'
      case measure => simp [intOf]; omega
    · obtain rfl : k = t.length := by omega
      go_wp2_with (fail)
      go_ret
      refine ⟨_, rfl, ?_, hkp⟩
      have := hown
      rwa [List.take_of_length_le (by simp [column]), ← column_len t n] at this

def RTurnPost (t : Tb) (w : World) (e : Ending) (w' : World) : Prop :=
  ∃ v vs, e = .returned v ∧ OTb w' w.heap.size 33 9 v vs (turn t) ∧ Keeps [] w w'
set_option maxHeartbeats 400000 in
theorem rturn_c (A : Value) (t : Tb) (B1 : Nat) (w : World) (ht : Tbl w B1 A t) (he : evenT t = true) (hB : B1 ≤ w.heap.size) (hl1 : t.length ≤ 100000) (hl2 : (t.headD []).length ≤ 100000) :
    Calls Try.prog 13 #[A] w (RTurnPost t w) := by
  obtain ⟨iR, hiR, hR0, hR1, hR2⟩ := info_parts Try.infoStrs
  have ht' := ht
  obtain ⟨A, ca, rfl, ha1, ha2⟩ := ht.form
  by_cases h0 : t = []
  · subst h0
    simp only [List.length_nil]
    go_enter Try.func13, Try.ntmps13
    go_wp2_with (fail)
    go_ret
    exact ⟨_, [], rfl, OTb.nil_ w _ _ _, Keeps.refl _ _⟩
  · have h0' : 0 < t.length := List.length_pos_iff.2 h0
    have h00 : ((t.length : Int) == 0) = false := by rw [beq_eq_false_iff_ne]; omega
    have HN := Lib.hid (fun k (hk : k < t.length) => even_at he hk)
    have HH := Lib.hid (headD_at h0')
    generalize hn : (t.headD []).length = n at *
    have HNN := Lib.hid hn; clear hn he h0
    go_enter Try.func13, Try.ntmps13
    go_wp2_with (fail)
    go_loopw [3, 4] (fun v i wr => ∃ (k : Nat) (vs : List Value), k ≤ n ∧ i = .int .i64 k ∧ OTb wr w.heap.size 33 9 v vs ((turn t).take k) ∧ Keeps [] w wr) (fun _ i _ => n - (intOf i).toNat)
    case atStart => exact ⟨0, [], by omega, rfl, by simpa using OTb.nil_ w w.heap.size 33 9, Keeps.refl _ _⟩
    case round =>
      obtain ⟨k, vs, hk, rfl, hown, hkp⟩ := hrel
      obtain ⟨A0, c0, hv0, _⟩ := hown.2.1.form
      subst hv0
      have htw := ht'.keepB hkp (by simp)
      obtain ⟨g1, o1, A1, n1, rfl, _, c1, r1⟩ := htw.at_ h0'
      simp only [Nat.add_zero] at c1
      rw [← HH.out, HNN.out] at c1
      have htl : ((turn t).take k).length = k := by rw [List.length_take, turn_len, HNN.out]; omega
      generalize hT : (turn t).take k = T at *
      have HTT := Lib.hid hT; clear hT
      by_cases hlt : k < n
      · have hlt' : (k : Int) < (n : Int) := by omega
        have hcol := rcol_c _ t k B1 wr htw (by have := hkp.size; omega) (fun r hr => by obtain ⟨j, hj, rfl⟩ := List.getElem_of_mem hr; rw [HN.out j hj]; exact hlt) (by omega)
        have HC := Lib.hid hcol; clear hcol
        have HT := Lib.hid htl; clear htl
        go_wp2_with (fail)
        refine HC.out.mono ?_
        rintro e w3 ⟨u, rfl, hu, hk3⟩
        obtain ⟨A3, c3, hv3, _⟩ := hu.form
        have hown3 := hown.keep hk3 (by simp)
        have hu3 : Own w3 w.heap.size 9 1 u (column t k).length ((column t k).map sv) := hu.less hkp.size
        have h1c : u.oneCell' = true := by rw [hv3]; rfl
        have hsz3 : w.heap.size ≤ w3.heap.size := Nat.le_trans hkp.size hk3.size
        obtain ⟨v', w', hrun, hown', hk', hb'⟩ := run_append1 (P := Try.prog) (y := u) Try.underlying22 hiR hR0 hR1 hR2 rfl hown3.2.1 h1c (by have := HT.out; simp only [maxLen]; omega) (by have := HT.out; omega) hsz3 22
        have hpush := hown3.push (by decide) hu3 hown' hk'
        have hkw : Keeps [] w w' := (hkp.trans hk3 (by simp)).trans hk' (by intro x hx hl; have := (hown3.2.1.lt x hx).1; omega)
        subst hv3
        clear hown hown3 hu hu3 hown'
        go_wp2_with (refine wpList_append hrun _ _ rfl rfl rfl rfl rfl ?_)
        go_roundw
        case rel =>
          have e2 : (turn t).take (k + 1) = (turn t).take k ++ [column t k] := by
            rw [List.take_succ_eq_append_getElem (by rw [turn_len, HNN.out]; exact hlt)]
            simp [turn]
          rw [HTT.out] at e2
          exact ⟨k + 1, _, by omega, by go_num, e2 ▸ hpush, hkw⟩
        case measure => simp [intOf]; omega
      · obtain rfl : k = n := by omega
        clear htl
        go_wp2_with (fail)
        go_ret
        have hte : (turn t).take k = turn t := List.take_of_length_le (by rw [turn_len, HNN.out]; exact Nat.le_refl _)
        obtain rfl : turn t = T := hte.symm.trans HTT.out
        exact ⟨_, vs, rfl, hown, hkp⟩
end Go.Proofs.Ytnbeebagblkkfaa.Tab
