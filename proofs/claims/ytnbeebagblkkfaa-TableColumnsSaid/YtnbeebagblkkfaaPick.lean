/- The contracts of Column, Has and Pick, the program's and the document's. -/
import Derived.Test.YtnbeebagblkkfaaTab3
namespace Go.Proofs.Ytnbeebagblkkfaa.Tab
set_option linter.unusedVariables false
set_option linter.unusedSimpArgs false
open Go.RowKit Q Same

def hasT (t : Tb) (n : Nat) : Bool := t.all fun r => decide (n < r.length)
theorem has_no {t : Tb} {n k : Nat} (hk : k < t.length) (h : ¬ n < t[k].length) : hasT t n = false := by
  cases hh : hasT t n with
  | false => rfl
  | true =>
    unfold hasT at hh
    rw [List.all_eq_true] at hh
    exact absurd (by simpa using hh t[k] (List.getElem_mem hk)) h
theorem has_yes {t : Tb} {n : Nat} (h : ∀ j (hj : j < t.length), n < t[j].length) : hasT t n = true := by
  unfold hasT
  rw [List.all_eq_true]
  intro r hr
  obtain ⟨j, hj, rfl⟩ := List.getElem_of_mem hr
  simpa using h j hj
theorem has_at {t : Tb} {n : Nat} (h : hasT t n = true) : ∀ r ∈ t, n < r.length := by
  unfold hasT at h
  rw [List.all_eq_true] at h
  intro r hr
  simpa using h r hr

set_option maxHeartbeats 400000 in
theorem rhas_c (A : Value) (t : Tb) (n : Nat) (hn : (n : Int) ≤ 9223372036854775807) (B1 : Nat) (w : World) (ht : Tbl w B1 A t) :
    Calls Try.prog 18 #[A, .int .i64 n] w fun e w' => e = .returned (.bool (hasT t n)) ∧ w = w' := by
  obtain ⟨A, ca, rfl, ha1, ha2⟩ := ht.form
  unfold maxLen at ha2
  go_enter Try.func18, Try.ntmps18
  go_wp2_with (fail)
  go_loop [9] (fun i => ∃ k : Nat, k ≤ t.length ∧ i = .int .i64 k ∧ ∀ j (hj : j < t.length), j < k → n < t[j].length) (fun i => t.length - (intOf i).toNat)
  case atStart => exact ⟨0, by omega, rfl, by intro j _ h; omega⟩
  case round =>
    obtain ⟨k, hk, rfl, hall⟩ := hrel
    have HA := Lib.hid hall; clear hall
    by_cases hlt : k < t.length
    · obtain ⟨g1, o1, A1, n1, rfl, _, c1, r1⟩ := ht.at_ hlt
      clear r1
      by_cases he : n < t[k].length
      · go_wp2_with (fail)
        go_round
        case rel =>
          refine ⟨k + 1, by omega, by go_num, fun j hj hjk => ?_⟩
          by_cases e : j = k
          · subst e; exact he
          · exact HA.out j hj (by omega)
        case measure => simp [intOf]; omega
      · go_wp2_with (fail)
        go_ret
        exact ⟨ret_bool (has_no hlt he).symm, rfl⟩
    · go_wp2_with (fail)
      go_ret
      exact ⟨ret_bool (has_yes (fun j hj => HA.out j hj (by omega))).symm, rfl⟩

theorem column_neg (A : Value) (t : Tb) (n : Int) (hn : n < 0) (B1 : Nat) (w : World) (ht : Tbl w B1 A t) :
    Calls Try.prog 17 #[A, .int .i64 n] w fun e w' => e = .returned (.tuple #[.slice none 0 0, .int .i64 22]) ∧ w = w' := by
  obtain ⟨A, ca, rfl, ha1, ha2⟩ := ht.form
  clear ht
  go_enter Try.func17, Try.ntmps17
  go_wp2_with (fail)
  go_ret2
  exact ⟨rfl, rfl⟩
def ColumnPost (t : Tb) (n : Nat) (w : World) (e : Ending) (w' : World) : Prop :=
  ((hasT t n = false ∧ e = .returned (.tuple #[.slice none 0 0, .int .i64 10])) ∨ (hasT t n = true ∧ ∃ v, e = .returned (.tuple #[v, .int .i64 0]) ∧ Own w' w.heap.size 9 1 v (column t n).length ((column t n).map sv))) ∧ Keeps [] w w'
set_option maxHeartbeats 400000 in
theorem column_c (A : Value) (t : Tb) (n : Nat) (hn : (n : Int) ≤ 9223372036854775807) (B1 : Nat) (w : World) (ht : Tbl w B1 A t) (hB : B1 ≤ w.heap.size) (hl : t.length ≤ 100000) :
    Calls Try.prog 17 #[A, .int .i64 n] w (ColumnPost t n w) := by
  obtain ⟨iS, hiS, hS0, hS1, hS2⟩ := info_parts Try.infoStr
  have ht' := ht
  obtain ⟨A, ca, rfl, ha1, ha2⟩ := ht.form
  obtain ⟨wm, hmk, hrow, hkm, hzm, _⟩ := run_mk (P := Try.prog) Try.underlying33 hiS hS0 hS1 rfl 0 t.length (Nat.zero_le _) (by rw [hS2]; omega) (by simp only [maxLen]; omega) w
  have hown0 : Own wm w.heap.size 9 1 (.slice (some ⟨w.heap.size, 0, none⟩) 0 t.length) 0 [] := own_blk (xs := []) (by simpa using hrow) rfl (Nat.le_refl _) (Nat.zero_le _) (by simp only [maxLen]; omega) (by simp)
  have h00 : decide ((n : Int) < 0) = false := by simp
  simp only [Int.ofNat_zero, Int.natCast_zero] at hmk
  go_enter Try.func17, Try.ntmps17
  go_wp2_with (refine wpList_make hmk _ _ rfl rfl rfl rfl ?_)
  go_loopw [6, 16] (fun v i wr => ∃ k : Nat, k ≤ t.length ∧ i = .int .i64 k ∧ (∀ j (hj : j < t.length), j < k → n < t[j].length) ∧ Own wr w.heap.size 9 1 v k (((column t n).take k).map sv) ∧ Keeps [] w wr) (fun _ i _ => t.length - (intOf i).toNat)
  case atStart => exact ⟨0, by omega, rfl, by intro j _ h; omega, by simpa using hown0, hkm⟩
  case round =>
    obtain ⟨k, hk, rfl, hall, hown, hkp⟩ := hrel
    have HA := Lib.hid hall; clear hall
    by_cases hlt : k < t.length
    · obtain ⟨A0, c0, hv0, _⟩ := hown.form
      subst hv0
      have htw := ht'.keepB hkp (by simp)
      obtain ⟨g1, o1, A1, n1, rfl, _, c1, r1⟩ := htw.at_ hlt
      by_cases hnr : n < t[k].length
      · obtain ⟨g2, o2, rfl, _, c2⟩ := r1.str_at hnr
        have e1 : (n : Int) < (t[k].length : Int) := by omega
        have e0 : (0 : Int) ≤ (n : Int) := by omega
        obtain ⟨v', w', hrun, hown', hk', hb'⟩ := run_append1 (P := Try.prog) (y := sv t[k][n]) Try.underlying33 hiS hS0 hS1 hS2 rfl hown rfl (by simp only [maxLen]; omega) (by omega) hkp.size 33
        go_wp2_with (refine wpList_append hrun _ _ rfl rfl rfl rfl rfl ?_)
        go_roundw
        case rel =>
          refine ⟨k + 1, by omega, by go_num, ?_, ?_, hkp.trans hk' (by intro x hx hl; have := (hown.lt x hx).1; omega)⟩
          · intro j hj hjk
            by_cases e : j = k
            · subst e; exact hnr
            · exact HA.out j hj (by omega)
          · have e2 : ((column t n).take (k + 1)).map sv = ((column t n).take k).map sv ++ [sv t[k][n]] := by
              rw [List.take_succ_eq_append_getElem (by simp [column]; exact hlt), List.map_append]
              simp [column, List.getD, List.getElem?_eq_getElem hnr]
            rw [e2]
            exact hown'
        case measure => simp [intOf]; omega
      · have e1 : ¬ (n : Int) < (t[k].length : Int) := by omega
        go_wp2_with (fail)
        go_ret2
        exact ⟨.inl ⟨has_no hlt hnr, rfl⟩, hkp⟩
    · obtain rfl : k = t.length := by omega
      go_wp2_with (fail)
      go_ret2
      refine ⟨.inr ⟨has_yes (fun j hj => HA.out j hj hj), _, rfl, ?_⟩, hkp⟩
      have := hown
      rwa [List.take_of_length_le (by simp [column]), ← column_len t n] at this

/-! ### Pick -/
def rowHas (r : Row) (ps : List Int) : Bool := ps.all fun p => decide (p < r.length)
def pickRow (r : Row) (ps : List Int) : Row := ps.map fun p => r.getD p.toNat []
def firstLack (ps : List Int) : Tb → Nat
  | [] => 0
  | r :: t => if rowHas r ps then firstLack ps t + 1 else 0
def pick (t : Tb) (ps : List Int) : Tb := if firstLack ps t = t.length then t.map (pickRow · ps) else []
theorem rowHas_no {r : Row} {ps : List Int} {q : Nat} (hq : q < ps.length) (h : ¬ ps[q] < r.length) : rowHas r ps = false := by
  cases hh : rowHas r ps with
  | false => rfl
  | true =>
    unfold rowHas at hh
    rw [List.all_eq_true] at hh
    exact absurd (by simpa using hh ps[q] (List.getElem_mem hq)) h
theorem rowHas_yes {r : Row} {ps : List Int} (h : ∀ q (hq : q < ps.length), ps[q] < r.length) : rowHas r ps = true := by
  unfold rowHas
  rw [List.all_eq_true]
  intro r hr
  obtain ⟨j, hj, rfl⟩ := List.getElem_of_mem hr
  simpa using h j hj
theorem firstLack_at {ps : List Int} : ∀ {t : Tb} {k : Nat} (hk : k < t.length), (∀ j (hj : j < t.length), j < k → rowHas t[j] ps = true) → rowHas t[k] ps = false → firstLack ps t = k
  | r :: t, 0, hk, _, h => by simp at h; simp [firstLack, h]
  | r :: t, k + 1, hk, ha, h => by
    have h0 := ha 0 (by simp) (by omega)
    simp only [List.getElem_cons_zero] at h0
    rw [firstLack, if_pos h0, firstLack_at (t := t) (k := k) (by simpa using hk) (fun j hj hjk => ha (j + 1) (by simpa using hj) (by omega)) h]
theorem firstLack_all {ps : List Int} : ∀ {t : Tb}, (∀ j (hj : j < t.length), rowHas t[j] ps = true) → firstLack ps t = t.length
  | [], _ => rfl
  | r :: t, ha => by
    have h0 := ha 0 (by simp)
    simp only [List.getElem_cons_zero] at h0
    rw [firstLack, if_pos h0, firstLack_all (t := t) (fun j hj => ha (j + 1) (by simpa using hj))]
    rfl
theorem pick_lack {ps : List Int} {t : Tb} {k : Nat} (hk : k < t.length) (h : firstLack ps t = k) : pick t ps = [] := by
  rw [pick, if_neg (by omega)]
theorem pick_all {ps : List Int} {t : Tb} (h : firstLack ps t = t.length) : pick t ps = t.map (pickRow · ps) := by
  rw [pick, if_pos h]
def PickPost (t : Tb) (ps : List Int) (w : World) (e : Ending) (w' : World) : Prop :=
  ∃ v vs, e = .returned (.tuple #[v, .int .i64 (firstLack ps t), .int .i64 (if firstLack ps t = t.length then 0 else 10)]) ∧ OTb w' w.heap.size 33 9 v vs (pick t ps) ∧ Keeps [] w w'
theorem row_push (r : Row) (ps : List Int) (q : Nat) (hq : q < ps.length) (pn : Nat) (hp : ps[q] = (pn : Int)) (h : pn < r.length) : ((pickRow r ps).take (q + 1)).map sv = ((pickRow r ps).take q).map sv ++ [sv r[pn]] := by
  have hl : (pickRow r ps).length = ps.length := by simp [pickRow]
  rw [List.take_succ_eq_append_getElem (by rw [hl]; exact hq), List.map_append]
  simp [pickRow, List.getD, hp, List.getElem?_eq_getElem h]

set_option maxHeartbeats 400000 in
theorem pick_neg (A P : Value) (t : Tb) (ps : List Int) (B1 B2 : Nat) (w : World) (ht : Tbl w B1 A t) (hP : Rd w B2 1 P ps.length (ps.map (Value.int .i64))) (q : Nat) (hq : q < ps.length) (hneg : ps[q] < 0) :
    Calls Try.prog 21 #[A, P] w fun e w' => e = .returned (.tuple #[.slice none 0 0, .int .i64 0, .int .i64 22]) ∧ w = w' := by
  obtain ⟨A, ca, rfl, ha1, ha2⟩ := ht.form
  obtain ⟨P, cp, rfl, hp1, hp2⟩ := hP.form
  unfold maxLen at hp2
  clear ht
  go_enter Try.func21, Try.ntmps21
  go_wp2_with (fail)
  go_loop [17] (fun i => ∃ k : Nat, k ≤ q ∧ i = .int .i64 k) (fun i => ps.length - (intOf i).toNat)
  case atStart => exact ⟨0, by omega, rfl⟩
  case round =>
    obtain ⟨k, hk, rfl⟩ := hrel
    obtain ⟨b, off, u, rfl, _, hu, c1⟩ := hP.at_ (k := k) (by omega)
    rw [List.getElem?_map, List.getElem?_eq_getElem (by omega)] at hu
    simp only [Option.map_some, Option.some.injEq] at hu
    subst hu
    have hkl : k < ps.length := by omega
    by_cases he : ps[k] < 0
    · go_wp2_with (fail)
      go_ret3
      exact ⟨rfl, rfl⟩
    · have hkq : k < q := by
        rcases Nat.lt_or_ge k q with h | h
        · exact h
        · obtain rfl : k = q := by omega
          exact absurd hneg he
      go_wp2_with (fail)
      go_round
      case rel => exact ⟨k + 1, by omega, by go_num⟩
      case measure => simp [intOf]; omega

set_option maxHeartbeats 400000 in
theorem rpick_neg (A P : Value) (t : Tb) (ps : List Int) (B1 B2 : Nat) (w : World) (ht : Tbl w B1 A t) (hP : Rd w B2 1 P ps.length (ps.map (Value.int .i64))) (q : Nat) (hq : q < ps.length) (hneg : ps[q] < 0) :
    Calls Try.prog 22 #[A, P] w fun e w' => e = .returned (.tuple #[.slice none 0 0, .int .i64 0, .int .i64 22]) ∧ w = w' := by
  obtain ⟨A, ca, rfl, ha1, ha2⟩ := ht.form
  obtain ⟨P, cp, rfl, hp1, hp2⟩ := hP.form
  unfold maxLen at hp2
  clear ht
  go_enter Try.func22, Try.ntmps22
  go_wp2_with (fail)
  go_loop [17] (fun i => ∃ k : Nat, k ≤ q ∧ i = .int .i64 k) (fun i => ps.length - (intOf i).toNat)
  case atStart => exact ⟨0, by omega, rfl⟩
  case round =>
    obtain ⟨k, hk, rfl⟩ := hrel
    obtain ⟨b, off, u, rfl, _, hu, c1⟩ := hP.at_ (k := k) (by omega)
    rw [List.getElem?_map, List.getElem?_eq_getElem (by omega)] at hu
    simp only [Option.map_some, Option.some.injEq] at hu
    subst hu
    have hkl : k < ps.length := by omega
    by_cases he : ps[k] < 0
    · go_wp2_with (fail)
      go_ret3
      exact ⟨rfl, rfl⟩
    · have hkq : k < q := by
        rcases Nat.lt_or_ge k q with h | h
        · exact h
        · obtain rfl : k = q := by omega
          exact absurd hneg he
      go_wp2_with (fail)
      go_round
      case rel => exact ⟨k + 1, by omega, by go_num⟩
      case measure => simp [intOf]; omega

set_option maxHeartbeats 1000000 in
theorem pick_c (A P : Value) (t : Tb) (ps : List Int) (B1 B2 : Nat) (w : World) (ht : Tbl w B1 A t) (hP : Rd w B2 1 P ps.length (ps.map (Value.int .i64))) (hB : B1 ≤ w.heap.size) (hB2 : B2 ≤ w.heap.size) (hpos : ∀ n ∈ ps, 0 ≤ n ∧ n ≤ 9223372036854775807) (hl : t.length ≤ 100000) (hpl : ps.length ≤ 100000) :
    Calls Try.prog 21 #[A, P] w (PickPost t ps w) := by
  obtain ⟨iS, hiS, hS0, hS1, hS2⟩ := info_parts Try.infoStr
  obtain ⟨iR, hiR, hR0, hR1, hR2⟩ := info_parts Try.infoStrs
  have ht' := ht
  have hP' := hP
  obtain ⟨A, ca, rfl, ha1, ha2⟩ := ht.form
  obtain ⟨P, cp, rfl, hp1, hp2⟩ := hP.form
  unfold maxLen at hp2
  obtain ⟨wm, hmk, hrow, hkm, hzm, _⟩ := run_mk (P := Try.prog) Try.underlying22 hiR hR0 hR1 rfl 0 t.length (Nat.zero_le _) (by rw [hR2]; omega) (by simp only [maxLen]; omega) w
  have hown0 : Own wm w.heap.size 33 1 (.slice (some ⟨w.heap.size, 0, none⟩) 0 t.length) 0 [] := own_blk (xs := []) (by simpa using hrow) rfl (Nat.le_refl _) (Nat.zero_le _) (by simp only [maxLen]; omega) (by simp)
  simp only [Int.natCast_zero] at hmk
  go_enter Try.func21, Try.ntmps21
  go_wp2_with (fail)
  go_loop [17] (fun i => ∃ k : Nat, k ≤ ps.length ∧ i = .int .i64 k) (fun i => ps.length - (intOf i).toNat)
  case atStart => exact ⟨0, by omega, rfl⟩
  case round =>
    obtain ⟨k, hk, rfl⟩ := hrel
    by_cases hkl : k < ps.length
    · obtain ⟨b, off, u, rfl, _, hu, c1⟩ := hP'.at_ (k := k) hkl
      rw [List.getElem?_map, List.getElem?_eq_getElem hkl] at hu
      simp only [Option.map_some, Option.some.injEq] at hu
      subst hu
      have he : ¬ ps[k] < 0 := by have := (hpos ps[k] (List.getElem_mem hkl)).1; omega
      go_wp2_with (fail)
      go_round
      case rel => exact ⟨k + 1, by omega, by go_num⟩
      case measure => simp [intOf]; omega
    · obtain rfl : k = ps.length := by omega
      clear hk hkl
      go_wp2_with (refine wpList_make hmk _ _ rfl rfl rfl rfl ?_)
      go_loopw [9, 29] (fun v i wr => ∃ (k : Nat) (vs : List Value), k ≤ t.length ∧ i = .int .i64 k ∧ (∀ j (hj : j < t.length), j < k → rowHas t[j] ps = true) ∧ OTb wr w.heap.size 33 9 v vs ((t.take k).map (pickRow · ps)) ∧ Keeps [] w wr) (fun _ i _ => t.length - (intOf i).toNat)
      case atStart => exact ⟨0, [], by omega, rfl, by intro j _ h; omega, ⟨rfl, hown0, by simp⟩, hkm⟩
      case round =>
        obtain ⟨k, vs, hk, rfl, hall, hot, hkp⟩ := hrel
        have HA := Lib.hid hall; clear hall
        obtain ⟨wo, rfl⟩ : ∃ wo : World, wo = wr := ⟨_, rfl⟩
        obtain ⟨A0, c0, hv0, _⟩ := hot.2.1.form
        subst hv0
        by_cases hlt : k < t.length
        · have hTl : ((t.take k).map (pickRow · ps)).length ≤ 100000 := by simp; omega
          generalize hT : (t.take k).map (pickRow · ps) = T at *
          have HT := Lib.hid hT; clear hT
          have htw := ht'.keepB hkp (by simp)
          obtain ⟨g1, o1, A1, n1, rfl, _, c1, r1⟩ := htw.at_ hlt
          obtain ⟨wm2, hmk2, hrow2, hkm2, hzm2, _⟩ := run_mk (P := Try.prog) Try.underlying33 hiS hS0 hS1 rfl 0 ps.length (Nat.zero_le _) (by rw [hS2]; omega) (by simp only [maxLen]; omega) wo
          have hown2 : Own wm2 wo.heap.size 9 1 (.slice (some ⟨wo.heap.size, 0, none⟩) 0 ps.length) 0 [] := own_blk (xs := []) (by simpa using hrow2) rfl (Nat.le_refl _) (Nat.zero_le _) (by simp only [maxLen]; omega) (by simp)
          simp only [Int.natCast_zero] at hmk2
          go_wp2_with (refine wpList_make hmk2 _ _ rfl rfl rfl rfl ?_)
          generalize hr : t[k] = r at *
          have HR := Lib.hid hr; clear hr c1
          go_loopw [12, 39] (fun v i wr => ∃ q : Nat, q ≤ ps.length ∧ i = .int .i64 q ∧ (∀ j (hj : j < ps.length), j < q → ps[j] < r.length) ∧ Own wr wo.heap.size 9 1 v q (((pickRow r ps).take q).map sv) ∧ Keeps [] wo wr) (fun _ i _ => ps.length - (intOf i).toNat)
          case atStart => exact ⟨0, by omega, rfl, by intro j _ h; omega, by simpa using hown2, hkm2⟩
          case round =>
            obtain ⟨q, hq, rfl, hall, hown, hkq⟩ := hrel
            have HQ := Lib.hid hall; clear hall
            obtain ⟨A3, c3, hv3, _⟩ := hown.form
            subst hv3
            by_cases hql : q < ps.length
            · have hPw := (hP'.keepB hkp (by simp)).keepB hkq (by simp)
              obtain ⟨b, off, u, rfl, _, hu, c5⟩ := hPw.at_ (k := q) hql
              rw [List.getElem?_map, List.getElem?_eq_getElem hql] at hu
              simp only [Option.map_some, Option.some.injEq] at hu
              subst hu
              obtain ⟨hp0, hpm⟩ := hpos ps[q] (List.getElem_mem hql)
              by_cases hpr : ps[q] < r.length
              · obtain ⟨pn, hpn⟩ : ∃ pn : Nat, ps[q] = pn := ⟨ps[q].toNat, by omega⟩
                have hHQ : ∀ j (hj : j < ps.length), j < q + 1 → ps[j] < r.length := by
                  intro j hj hjk
                  by_cases e : j = q
                  · subst e; exact hpr
                  · exact HQ.out j hj (by omega)
                have HHQ := Lib.hid hHQ; clear hHQ HQ
                have hpr' : pn < r.length := by omega
                have hrp := row_push r ps q hql pn hpn hpr'
                rw [hpn] at c5 hpr
                have hr1 := r1.keepB hkq (by simp)
                obtain ⟨g6, o6, rfl, _, c6⟩ := hr1.str_at hpr'
                have HP := Lib.hid hrp; clear hrp hp0 hpm
                have HPN := Lib.hid hpn; clear hpn
                have f0 : (0 : Int) ≤ (pn : Int) := by omega
                obtain ⟨v', w', hrun, hown', hk', hb'⟩ := run_append1 (P := Try.prog) (y := sv r[pn]) Try.underlying33 hiS hS0 hS1 hS2 rfl hown rfl (by simp only [maxLen]; omega) (by omega) hkq.size 33
                go_wp2_with (refine wpList_append hrun _ _ rfl rfl rfl rfl rfl ?_)
                go_roundw
                case rel =>
                  refine ⟨q + 1, by omega, by go_num, HHQ.out, ?_, hkq.trans hk' (by intro x hx hl; have := (hown.lt x hx).1; omega)⟩
                  rw [HP.out]
                  exact hown'
                case measure => simp [intOf]; omega
              · have hfl := firstLack_at hlt HA.out (by rw [HR.out]; exact rowHas_no hql hpr)
                have HF := Lib.hid hfl; clear hfl
                go_wp2_with (fail)
                go_ret3
                refine ⟨_, [], by rw [HF.out, if_neg (by omega)]; rfl, ?_, hkp.trans hkq (by simp)⟩
                rw [pick_lack hlt HF.out]
                exact OTb.nil_ _ _ _ _
            · obtain rfl : q = ps.length := by omega
              have hot3 := hot.keep hkq (by simp)
              have hu3 : Own wr w.heap.size 9 1 (.slice A3 ps.length c3) (pickRow r ps).length ((pickRow r ps).map sv) := by
                have := hown.less hkp.size
                rw [List.take_of_length_le (by simp [pickRow])] at this
                simpa [pickRow] using this
              have hsz3 : w.heap.size ≤ wr.heap.size := Nat.le_trans hkp.size hkq.size
              obtain ⟨v', w', hrun, hown', hk', hb'⟩ := run_append1 (P := Try.prog) (y := .slice A3 ps.length c3) Try.underlying22 hiR hR0 hR1 hR2 rfl hot3.2.1 rfl (by simp only [maxLen]; omega) (by omega) hsz3 22
              have hpush := hot3.push (by decide) hu3 hown' hk'
              have hkw : Keeps [] w w' := (hkp.trans hkq (by simp)).trans hk' (by intro x hx hl; have := (hot3.2.1.lt x hx).1; omega)
              have hrh : rowHas r ps = true := rowHas_yes (fun j hj => HQ.out j hj hj)
              have HRH := Lib.hid hrh
              clear hrh hot hot3 hu3 hown' hown
              go_wp2_with (refine wpList_append hrun _ _ rfl rfl rfl rfl rfl ?_)
              go_roundw
              case rel =>
                have h1 : ∀ j (hj : j < t.length), j < k + 1 → rowHas t[j] ps = true := by
                  intro j hj hjk
                  by_cases e : j = k
                  · subst e; rw [HR.out]; exact HRH.out
                  · exact HA.out j hj (by omega)
                have e2 : (t.take (k + 1)).map (pickRow · ps) = T ++ [pickRow r ps] := by
                  rw [← HT.out, List.take_succ_eq_append_getElem hlt, List.map_append, HR.out]
                  rfl
                exact ⟨k + 1, _, by omega, by go_num, h1, e2 ▸ hpush, hkw⟩
              case measure => simp [intOf]; omega
        · obtain rfl : k = t.length := by omega
          rw [List.take_length] at hot ⊢
          have hfl := firstLack_all (fun j hj => HA.out j hj hj)
          have HF := Lib.hid hfl; clear hfl
          have htl : (t.map (pickRow · ps)).length = t.length := by simp
          simp only [htl] at hot ⊢
          clear htl
          go_wp2_with (fail)
          go_ret3
          refine ⟨_, vs, by rw [HF.out, if_pos rfl]; rfl, ?_, hkp⟩
          rw [pick_all HF.out]
          exact hot

set_option maxHeartbeats 1000000 in
theorem rpick_c (A P : Value) (t : Tb) (ps : List Int) (B1 B2 : Nat) (w : World) (ht : Tbl w B1 A t) (hP : Rd w B2 1 P ps.length (ps.map (Value.int .i64))) (hB : B1 ≤ w.heap.size) (hB2 : B2 ≤ w.heap.size) (hpos : ∀ n ∈ ps, 0 ≤ n ∧ n ≤ 9223372036854775807) (hl : t.length ≤ 100000) (hpl : ps.length ≤ 100000) :
    Calls Try.prog 22 #[A, P] w (PickPost t ps w) := by
  obtain ⟨iS, hiS, hS0, hS1, hS2⟩ := info_parts Try.infoStr
  obtain ⟨iR, hiR, hR0, hR1, hR2⟩ := info_parts Try.infoStrs
  have ht' := ht
  have hP' := hP
  obtain ⟨A, ca, rfl, ha1, ha2⟩ := ht.form
  obtain ⟨P, cp, rfl, hp1, hp2⟩ := hP.form
  unfold maxLen at hp2
  have _ := hl
  go_enter Try.func22, Try.ntmps22
  go_wp2_with (fail)
  go_loop [17] (fun i => ∃ k : Nat, k ≤ ps.length ∧ i = .int .i64 k) (fun i => ps.length - (intOf i).toNat)
  case atStart => exact ⟨0, by omega, rfl⟩
  case round =>
    obtain ⟨k, hk, rfl⟩ := hrel
    by_cases hkl : k < ps.length
    · obtain ⟨b, off, u, rfl, _, hu, c1⟩ := hP'.at_ (k := k) hkl
      rw [List.getElem?_map, List.getElem?_eq_getElem hkl] at hu
      simp only [Option.map_some, Option.some.injEq] at hu
      subst hu
      have he : ¬ ps[k] < 0 := by have := (hpos ps[k] (List.getElem_mem hkl)).1; omega
      go_wp2_with (fail)
      go_round
      case rel => exact ⟨k + 1, by omega, by go_num⟩
      case measure => simp [intOf]; omega
    · obtain rfl : k = ps.length := by omega
      clear hk hkl
      go_wp2_with (fail)
      go_loopw [9, 26] (fun v i wr => ∃ (k : Nat) (vs : List Value), k ≤ t.length ∧ i = .int .i64 k ∧ (∀ j (hj : j < t.length), j < k → rowHas t[j] ps = true) ∧ OTb wr w.heap.size 33 9 v vs ((t.take k).map (pickRow · ps)) ∧ Keeps [] w wr) (fun _ i _ => t.length - (intOf i).toNat)
      case atStart => exact ⟨0, [], by omega, rfl, by intro j _ h; omega, by simpa using OTb.nil_ w w.heap.size 33 9, Keeps.refl _ _⟩
      case round =>
        obtain ⟨k, vs, hk, rfl, hall, hot, hkp⟩ := hrel
        have HA := Lib.hid hall; clear hall
        obtain ⟨wo, rfl⟩ : ∃ wo : World, wo = wr := ⟨_, rfl⟩
        obtain ⟨A0, c0, hv0, _⟩ := hot.2.1.form
        subst hv0
        by_cases hlt : k < t.length
        · have hTl : ((t.take k).map (pickRow · ps)).length ≤ 100000 := by simp; omega
          generalize hT : (t.take k).map (pickRow · ps) = T at *
          have HT := Lib.hid hT; clear hT
          have htw := ht'.keepB hkp (by simp)
          obtain ⟨g1, o1, A1, n1, rfl, _, c1, r1⟩ := htw.at_ hlt
          go_wp2_with (fail)
          generalize hr : t[k] = r at *
          have HR := Lib.hid hr; clear hr c1
          go_loopw [12, 33] (fun v i wr => ∃ q : Nat, q ≤ ps.length ∧ i = .int .i64 q ∧ (∀ j (hj : j < ps.length), j < q → ps[j] < r.length) ∧ Own wr wo.heap.size 9 1 v q (((pickRow r ps).take q).map sv) ∧ Keeps [] wo wr) (fun _ i _ => ps.length - (intOf i).toNat)
          case atStart => exact ⟨0, by omega, rfl, by intro j _ h; omega, by simpa using Own.nil_ wo wo.heap.size 9 1, Keeps.refl _ _⟩
          case round =>
            obtain ⟨q, hq, rfl, hall, hown, hkq⟩ := hrel
            have HQ := Lib.hid hall; clear hall
            obtain ⟨A3, c3, hv3, _⟩ := hown.form
            subst hv3
            by_cases hql : q < ps.length
            · have hPw := (hP'.keepB hkp (by simp)).keepB hkq (by simp)
              obtain ⟨b, off, u, rfl, _, hu, c5⟩ := hPw.at_ (k := q) hql
              rw [List.getElem?_map, List.getElem?_eq_getElem hql] at hu
              simp only [Option.map_some, Option.some.injEq] at hu
              subst hu
              obtain ⟨hp0, hpm⟩ := hpos ps[q] (List.getElem_mem hql)
              by_cases hpr : ps[q] < r.length
              · obtain ⟨pn, hpn⟩ : ∃ pn : Nat, ps[q] = pn := ⟨ps[q].toNat, by omega⟩
                have hHQ : ∀ j (hj : j < ps.length), j < q + 1 → ps[j] < r.length := by
                  intro j hj hjk
                  by_cases e : j = q
                  · subst e; exact hpr
                  · exact HQ.out j hj (by omega)
                have HHQ := Lib.hid hHQ; clear hHQ HQ
                have hpr' : pn < r.length := by omega
                have hrp := row_push r ps q hql pn hpn hpr'
                rw [hpn] at c5 hpr
                have hr1 := r1.keepB hkq (by simp)
                obtain ⟨g6, o6, rfl, _, c6⟩ := hr1.str_at hpr'
                have HP := Lib.hid hrp; clear hrp hp0 hpm
                have HPN := Lib.hid hpn; clear hpn
                have f0 : (0 : Int) ≤ (pn : Int) := by omega
                obtain ⟨v', w', hrun, hown', hk', hb'⟩ := run_append1 (P := Try.prog) (y := sv r[pn]) Try.underlying33 hiS hS0 hS1 hS2 rfl hown rfl (by simp only [maxLen]; omega) (by omega) hkq.size 33
                go_wp2_with (refine wpList_append hrun _ _ rfl rfl rfl rfl rfl ?_)
                go_roundw
                case rel =>
                  refine ⟨q + 1, by omega, by go_num, HHQ.out, ?_, hkq.trans hk' (by intro x hx hl; have := (hown.lt x hx).1; omega)⟩
                  rw [HP.out]
                  exact hown'
                case measure => simp [intOf]; omega
              · have hfl := firstLack_at hlt HA.out (by rw [HR.out]; exact rowHas_no hql hpr)
                have HF := Lib.hid hfl; clear hfl
                go_wp2_with (fail)
                go_ret3
                refine ⟨_, [], by rw [HF.out, if_neg (by omega)]; rfl, ?_, hkp.trans hkq (by simp)⟩
                rw [pick_lack hlt HF.out]
                exact OTb.nil_ _ _ _ _
            · obtain rfl : q = ps.length := by omega
              have hot3 := hot.keep hkq (by simp)
              have hu3 : Own wr w.heap.size 9 1 (.slice A3 ps.length c3) (pickRow r ps).length ((pickRow r ps).map sv) := by
                have := hown.less hkp.size
                rw [List.take_of_length_le (by simp [pickRow])] at this
                simpa [pickRow] using this
              have hsz3 : w.heap.size ≤ wr.heap.size := Nat.le_trans hkp.size hkq.size
              obtain ⟨v', w', hrun, hown', hk', hb'⟩ := run_append1 (P := Try.prog) (y := .slice A3 ps.length c3) Try.underlying22 hiR hR0 hR1 hR2 rfl hot3.2.1 rfl (by simp only [maxLen]; omega) (by omega) hsz3 22
              have hpush := hot3.push (by decide) hu3 hown' hk'
              have hkw : Keeps [] w w' := (hkp.trans hkq (by simp)).trans hk' (by intro x hx hl; have := (hot3.2.1.lt x hx).1; omega)
              have hrh : rowHas r ps = true := rowHas_yes (fun j hj => HQ.out j hj hj)
              have HRH := Lib.hid hrh
              clear hrh hot hot3 hu3 hown' hown
              go_wp2_with (refine wpList_append hrun _ _ rfl rfl rfl rfl rfl ?_)
              go_roundw
              case rel =>
                have h1 : ∀ j (hj : j < t.length), j < k + 1 → rowHas t[j] ps = true := by
                  intro j hj hjk
                  by_cases e : j = k
                  · subst e; rw [HR.out]; exact HRH.out
                  · exact HA.out j hj (by omega)
                have e2 : (t.take (k + 1)).map (pickRow · ps) = T ++ [pickRow r ps] := by
                  rw [← HT.out, List.take_succ_eq_append_getElem hlt, List.map_append, HR.out]
                  rfl
                exact ⟨k + 1, _, by omega, by go_num, h1, e2 ▸ hpush, hkw⟩
              case measure => simp [intOf]; omega
        · obtain rfl : k = t.length := by omega
          rw [List.take_length] at hot ⊢
          have hfl := firstLack_all (fun j hj => HA.out j hj hj)
          have HF := Lib.hid hfl; clear hfl
          have htl : (t.map (pickRow · ps)).length = t.length := by simp
          simp only [htl] at hot ⊢
          clear htl
          go_wp2_with (fail)
          go_ret3
          refine ⟨_, vs, by rw [HF.out, if_pos rfl]; rfl, ?_, hkp⟩
          rw [pick_all HF.out]
          exact hot
end Go.Proofs.Ytnbeebagblkkfaa.Tab
