/- The contracts of slices.Equal, EqualFunc and Clone at []string, and of package table's Same and Copy. -/
import Derived.Test.YtnbeebagblkkfaaTab3
namespace Go.Proofs.Ytnbeebagblkkfaa.Tab
set_option linter.unusedVariables false
set_option linter.unusedSimpArgs false
open Go.RowKit Q Same

set_option maxHeartbeats 400000 in
theorem slEqual_c (A B : Value) (a b : List (List UInt8)) (B1 B2 : Nat) (w : World) (ha : Rd w B1 1 A a.length (a.map sv)) (hb : Rd w B2 1 B b.length (b.map sv)) :
    Calls Try.prog 32 #[A, B] w fun e w' => e = .returned (.bool (decide (a = b))) ∧ ∃ m, w' = w.drewN m := by
  obtain ⟨A, ca, rfl, ha1, ha2⟩ := ha.form
  obtain ⟨B, cb, rfl, hb1, hb2⟩ := hb.form
  unfold maxLen at ha2 hb2
  by_cases hl : a.length = b.length
  · have hne : ((a.length : Int) != (b.length : Int)) = false := by simp [hl]
    have HL := Lib.hid hl; clear hl
    go_enter Try.func32, Try.ntmps32
    go_wp2
    go_loopw [13] (fun i wr => ∃ k : Nat, k ≤ a.length ∧ i = .int .i64 k ∧ a.take k = b.take k ∧ ∃ m, wr = w.drewN m) (fun i _ => a.length - (intOf i).toNat)
    case atStart => exact ⟨0, by omega, rfl, rfl, 0, rfl⟩
    case round =>
      obtain ⟨k, hk, rfl, ht, m, rfl⟩ := hrel
      have HT := Lib.hid ht; clear ht
      by_cases hlt : k < a.length
      · have hltb : k < b.length := by have := HL.out; omega
        obtain ⟨g1, o1, rfl, _, c1⟩ := ha.str_at hlt
        obtain ⟨g2, o2, rfl, _, c2⟩ := hb.str_at hltb
        have e0 : (0 : Int) ≤ (k : Int) := by omega
        have e1 : (k : Int) < (a.length : Int) := by omega
        have e2 : (k : Int) < (b.length : Int) := by omega
        by_cases he : a[k] = b[k]
        · have hbe : (a[k] == b[k]) = true := by simp [he]
          have HE := Lib.hid he; clear he
          go_wp2_with (fail)
          go_quiet (fail)
          go_wp2_with (fail)
          go_roundw
          case rel => exact ⟨k + 1, by omega, by go_num, take_eq_succ hlt hltb HT.out HE.out, _, rfl⟩
          case measure => simp [intOf]; omega
        · have hbe : (a[k] == b[k]) = false := by simp [he]
          have HE := Lib.hid he; clear he
          go_wp2_with (fail)
          go_quiet (fail)
          go_wp2_with (fail)
          go_ret
          exact ⟨ret_bool (by simp [ne_of_at hlt hltb HE.out]), _, World.drewN_drewN _ _ _⟩
      · go_wp2_with (fail)
        go_ret
        obtain rfl : k = a.length := by omega
        exact ⟨ret_bool (by simp [eq_of_take HL.out HT.out]), _, rfl⟩
  · have hne : ((a.length : Int) != (b.length : Int)) = true := by rw [bne_iff_ne]; omega
    have HL := Lib.hid hl; clear hl
    go_enter Try.func32, Try.ntmps32
    go_wp2_with (fail)
    go_ret
    exact ⟨ret_bool (by symm; rw [decide_eq_false_iff_not]; rintro rfl; exact HL.out rfl), 0, rfl⟩

set_option maxHeartbeats 400000 in
theorem slEqualFunc_c (A B : Value) (a b : Tb) (B1 B2 : Nat) (w : World) (ha : Tbl w B1 A a) (hb : Tbl w B2 B b) :
    Calls Try.prog 31 #[A, B, .func (.func 32) #[] #[]] w fun e w' => e = .returned (.bool (decide (a = b))) ∧ ∃ m, w' = w.drewN m := by
  obtain ⟨A, ca, rfl, ha1, ha2⟩ := ha.form
  obtain ⟨B, cb, rfl, hb1, hb2⟩ := hb.form
  unfold maxLen at ha2 hb2
  by_cases hl : a.length = b.length
  · have hne : ((a.length : Int) != (b.length : Int)) = false := by simp [hl]
    have HL := Lib.hid hl; clear hl
    go_enter Try.func31, Try.ntmps31
    go_wp2_with (fail)
    go_loopw [17] (fun i wr => ∃ k : Nat, k ≤ a.length ∧ i = .int .i64 k ∧ a.take k = b.take k ∧ ∃ m, wr = w.drewN m) (fun i _ => a.length - (intOf i).toNat)
    case atStart => exact ⟨0, by omega, rfl, rfl, 0, rfl⟩
    case round =>
      obtain ⟨k, hk, rfl, ht, m, hm⟩ := hrel
      have haw : Tbl wr B1 (.slice A a.length ca) a := by rw [hm]; exact ha
      have hbw : Tbl wr B2 (.slice B b.length cb) b := by rw [hm]; exact hb
      have HM := Lib.hid hm; clear hm
      have HT := Lib.hid ht; clear ht
      by_cases hlt : k < a.length
      · have hltb : k < b.length := by have := HL.out; omega
        obtain ⟨g1, o1, A1, n1, rfl, _, c1, r1⟩ := haw.at_ hlt
        obtain ⟨g2, o2, A2, n2, rfl, _, c2, r2⟩ := hbw.at_ hltb
        have e0 : (0 : Int) ≤ (k : Int) := by omega
        have e1 : (k : Int) < (a.length : Int) := by omega
        have e2 : (k : Int) < (b.length : Int) := by omega
        have HC := Lib.hid (slEqual_c _ _ _ _ B1 B2 wr r1 r2)
        clear r1 r2
        by_cases he : a[k] = b[k]
        · rw [decide_eq_true he] at HC
          have HE := Lib.hid he; clear he
          go_wp2_with (fail)
          refine HC.out.mono ?_
          rintro e w3 ⟨rfl, m3, rfl⟩
          go_wp2_with (fail)
          go_roundw
          case rel => exact ⟨k + 1, by omega, by go_num, take_eq_succ hlt hltb HT.out HE.out, m + m3, by rw [HM.out, World.drewN_drewN]⟩
          case measure => simp [intOf]; omega
        · rw [decide_eq_false he] at HC
          have HE := Lib.hid he; clear he
          go_wp2_with (fail)
          refine HC.out.mono ?_
          rintro e w3 ⟨rfl, m3, rfl⟩
          go_wp2_with (fail)
          go_ret
          exact ⟨ret_bool (by simp [ne_of_at hlt hltb HE.out]), m + m3, by rw [HM.out, World.drewN_drewN]⟩
      · go_wp2_with (fail)
        go_ret
        obtain rfl : k = a.length := by omega
        exact ⟨ret_bool (by simp [eq_of_take HL.out HT.out]), m, HM.out⟩
  · have hne : ((a.length : Int) != (b.length : Int)) = true := by rw [bne_iff_ne]; omega
    have HL := Lib.hid hl; clear hl
    go_enter Try.func31, Try.ntmps31
    go_wp2_with (fail)
    go_ret
    exact ⟨ret_bool (by symm; rw [decide_eq_false_iff_not]; rintro rfl; exact HL.out rfl), 0, rfl⟩

set_option maxHeartbeats 400000 in
theorem tsame_c (A B : Value) (a b : Tb) (B1 B2 : Nat) (w : World) (ha : Tbl w B1 A a) (hb : Tbl w B2 B b) :
    Calls Try.prog 27 #[A, B] w fun e w' => e = .returned (.bool (decide (a = b))) ∧ ∃ m, w' = w.drewN m := by
  have HC := Lib.hid (slEqualFunc_c A B a b B1 B2 w ha hb)
  obtain ⟨A, ca, rfl, ha1, ha2⟩ := ha.form
  obtain ⟨B, cb, rfl, hb1, hb2⟩ := hb.form
  clear ha hb
  generalize decide (a = b) = r at *
  go_enter Try.func27, Try.ntmps27
  go_wp2_with (fail)
  refine HC.out.mono ?_
  rintro e w3 ⟨rfl, m3, rfl⟩
  go_wp2_with (fail)
  go_ret
  exact ⟨rfl, m3, rfl⟩

def ClonePost (r : Row) (w : World) (e : Ending) (w' : World) : Prop := ∃ v, e = .returned v ∧ Own w' w.heap.size 9 1 v r.length (r.map sv) ∧ Keeps [] w w'
set_option maxHeartbeats 400000 in
theorem clone_c (A : Value) (r : Row) (B1 : Nat) (w : World) (ha : Rd w B1 1 A r.length (r.map sv)) (hl : r.length ≤ 1000000) :
    Calls Try.prog 33 #[A] w (ClonePost r w) := by
  obtain ⟨iS, hiS, hS0, hS1, hS2⟩ := info_parts Try.infoStr
  have ha' := ha
  obtain ⟨A, ca, rfl, ha1, ha2⟩ := ha.form
  have hnil := fun w2 => Lib.run_eql_slice_nil (P := Try.prog) w2 33 9 A r.length ca 0 0 Try.underlying33
  cases A with
  | none =>
    have hr : r = [] := by
      obtain ⟨A', c', hv, hn, hc, hl, hx⟩ := ha'
      rcases hx with hx | ⟨b, off, hA, _⟩
      · simpa using hx
      · injection hv with h1; rw [← h1] at hA; cases hA
    subst hr
    clear ha ha'
    simp only [List.length_nil, Option.isNone_none] at *
    go_enter Try.func33, Try.ntmps33
    go_wp2_with (fail)
    go_ret
    exact ⟨_, rfl, Own.nil_ w _ _ _, Keeps.refl _ _⟩
  | some a =>
    simp only [Option.isNone_some] at hnil
    have o0 : Own (w.alloc (.cells #[] 9)) w.heap.size 9 1 (.slice (some ⟨w.heap.size, 0, none⟩) 0 0) 0 [] := by simpa using own_lit w 9 [] (by simp [maxLen])
    have ra1 := ha'.keepF (Keeps.alloc [] w (.cells #[] 9)) (by simp)
    obtain ⟨v2, w2, hap, hown2, hk2, hb2⟩ := run_append (P := Try.prog) (base := w.heap.size) (u := 33) (ty := 33) Try.underlying33 hiS hS0 hS1 hS2 rfl o0 (ra1.src Try.underlying33) (one_sv _) (by simp only [maxLen]; omega) (by omega) (by simp)
    simp only [Nat.zero_add, List.nil_append] at hown2
    go_enter Try.func33, Try.ntmps33
    go_wp2_with (refine wpList_append hap _ _ rfl rfl rfl rfl rfl ?_)
    go_ret
    exact ⟨v2, rfl, hown2, (Keeps.alloc [] w _).trans hk2 (by intro x hx hl; simp [blkOf] at hx; omega)⟩

/-- The rows lie apart. -/
def Apart (vs : List Value) (k : Nat) : Prop := ∀ (i j : Nat) u u', i < j → j < k → vs[i]? = some u → vs[j]? = some u' → ∀ x ∈ blkOf u, x ∉ blkOf u'
def CopyPost (t : Tb) (w : World) (e : Ending) (w' : World) : Prop := ∃ v vs, e = .returned v ∧ OTb w' w.heap.size 33 9 v vs t ∧ Apart vs t.length ∧ Keeps [] w w'
/-- The first k rows of a copy. -/
def Copied (wr : World) (base k : Nat) (t : Tb) (vs : List Value) : Prop :=
  ∀ (j : Nat) u r, j < k → vs[j]? = some u → t[j]? = some r → Own wr base 9 1 u r.length (r.map sv)
set_option maxHeartbeats 400000 in
theorem copy_c (A : Value) (t : Tb) (B1 : Nat) (w : World) (ht : Tbl w B1 A t) (hB : B1 ≤ w.heap.size) (hl : t.length ≤ 100000) (hf : fieldsOf t ≤ 100000) :
    Calls Try.prog 28 #[A] w (CopyPost t w) := by
  obtain ⟨iR, hiR, hR0, hR1, hR2⟩ := info_parts Try.infoStrs
  have ht' := ht
  obtain ⟨A, ca, rfl, ha1, ha2⟩ := ht.form
  obtain ⟨w1, hmk, hb1, hk1, _, _⟩ := run_mk (P := Try.prog) Try.underlying22 hiR hR0 hR1 rfl t.length t.length (Nat.le_refl _) (by rw [hR2]; omega) (by simp only [maxLen]; omega) w
  go_enter Try.func28, Try.ntmps28
  go_wp2_with (refine wpList_make hmk _ _ rfl rfl rfl rfl ?_)
  clear hmk
  go_loopw [11] (fun i wr => ∃ (k : Nat) (vs : List Value), k ≤ t.length ∧ i = .int .i64 k ∧ vs.length = t.length ∧ Blk wr w.heap.size 33 vs ∧ Copied wr w.heap.size k t vs ∧ Apart vs k ∧ Keeps [] w wr) (fun i _ => t.length - (intOf i).toNat)
  case atStart => exact ⟨0, _, by omega, rfl, by simp, hb1, by intro j u r hj; omega, by intro i j u u' _ h; omega, hk1⟩
  case round =>
    obtain ⟨k, vs, hk, rfl, hvs, hb, hc, hap, hkp⟩ := hrel
    have HVS := Lib.hid hvs; clear hvs
    by_cases hlt : k < t.length
    · have htw := ht'.keepB hkp (by simp)
      obtain ⟨g1, o1, A1, n1, rfl, _, c1, r1⟩ := htw.at_ hlt
      have hrl := row_le hlt
      have HC := Lib.hid (clone_c _ t[k] B1 wr r1 (by omega))
      have e0 : (0 : Int) ≤ (k : Int) := by omega
      have e1 : (k : Int) < (t.length : Int) := by omega
      clear r1
      go_wp2_with (fail)
      refine HC.out.mono ?_
      rintro e w3 ⟨u, rfl, hu, hk3⟩
      obtain ⟨A3, c3, hv3, _⟩ := hu.form
      have hb3 := hb.keep hk3 (by simp)
      have hcell := hb3.cell_of (i := k) (List.getElem?_eq_getElem (by rw [HVS.out]; exact hlt))
      have hfr := hb3.frozen (i := k) (by rw [HVS.out]; exact hlt)
      have hbs := hb3.set_ k u
      have hu3 := (hu.less hkp.size).keep (Keeps.setCell w3 ⟨w.heap.size, k, none⟩ u) (by intro x hx; have := (hu.lt x hx).1; have := hb.lt; simp; omega)
      have hc3 : Copied (w3.setCell ⟨w.heap.size, k, none⟩ u) w.heap.size (k + 1) t (vs.set k u) := by
        intro j x r hj hx hr
        by_cases e : j = k
        · subst e
          rw [List.getElem?_set_self (by rw [HVS.out]; exact hlt)] at hx
          rw [List.getElem?_eq_getElem hlt] at hr
          injection hx with hx; injection hr with hr
          subst hx hr
          exact hu3
        · rw [List.getElem?_set_ne (by omega)] at hx
          have h4 := (hc j x r (by omega) hx hr).keep hk3 (by simp)
          exact h4.keep (Keeps.setCell w3 ⟨w.heap.size, k, none⟩ u) (by intro y hy; simp; exact h4.apartBlk hb3 (by decide) y hy)
      have hap3 : Apart (vs.set k u) (k + 1) := by
        intro i j x y hij hj hx hy z hz hz'
        rw [List.getElem?_set_ne (by omega)] at hx
        by_cases e : j = k
        · subst e
          rw [List.getElem?_set_self (by rw [HVS.out]; exact hlt)] at hy
          injection hy with hy
          subst hy
          have h5 := hc i x t[i] (by omega) hx (List.getElem?_eq_getElem (by omega))
          have := (h5.lt z hz).2
          have := (hu.lt z hz').1
          omega
        · rw [List.getElem?_set_ne (by omega)] at hy
          exact hap i j x y hij (by omega) hx hy z hz hz'
      have HAP := Lib.hid hap3; clear hap3 hap
      have hkw : Keeps [] w (w3.setCell ⟨w.heap.size, k, none⟩ u) := (hkp.trans hk3 (by simp)).set1 _ _ (by simp)
      clear hu hu3 hc hb
      subst hv3
      go_wp2_with (fail)
      go_roundw
      case rel => exact ⟨k + 1, _, by omega, by go_num, by rw [List.length_set]; exact HVS.out, hbs, hc3, HAP.out, hkw⟩
      case measure => simp [intOf]; omega
    · obtain rfl : k = t.length := by omega
      go_wp2_with (fail)
      go_ret
      refine ⟨_, vs, rfl, ⟨HVS.out, own_blk (post := []) (by simpa using hb) HVS.out (Nat.le_refl _) (Nat.le_refl _) (by simp only [maxLen]; omega) (by simp [HVS.out]), fun i u r hu hr => hc i u r ?_ hu hr⟩, hap, hkp⟩
      exact (List.getElem?_eq_some_iff.1 hr).1
end Go.Proofs.Ytnbeebagblkkfaa.Tab
