/- The contracts of package table's Even and Turn, of the document's (ref13), and the example of layer 13. -/
import Derived.Test.YtnbeebagblkkfaaSame
import Derived.RegionTactic
import Derived.Deep.RegionLaw
namespace Go.Proofs.Ytnbeebagblkkfaa.Tab
set_option linter.unusedVariables false
set_option linter.unusedSimpArgs false
open Go.RowKit Q Same

theorem Try.infoStr : (Try.prog.info? 9).map (fun i => (i.zero, i.size, i.bytes)) = some (some (sv []), 1, 16) := by kernel_rfl
theorem Try.infoStrs : (Try.prog.info? 33).map (fun i => (i.zero, i.size, i.bytes)) = some (some (.slice none 0 0), 1, 24) := by kernel_rfl

theorem headD_at {t : Tb} (h : 0 < t.length) : t.headD [] = t[0] := by
  cases t with
  | nil => simp at h
  | cons a l => rfl

set_option maxHeartbeats 400000 in
theorem even_c (A : Value) (t : Tb) (B1 : Nat) (w : World) (ht : Tbl w B1 A t) :
    Calls Try.prog 16 #[A] w fun e w' => e = .returned (.bool (evenT t)) ∧ w = w' := by
  obtain ⟨A, ca, rfl, ha1, ha2⟩ := ht.form
  unfold maxLen at ha2
  go_enter Try.func16, Try.ntmps16
  go_wp2_with (fail)
  go_loop [7] (fun i => ∃ k : Nat, k ≤ t.length ∧ i = .int .i64 k ∧ ∀ j (hj : j < t.length), j < k → t[j].length = (t.headD []).length) (fun i => t.length - (intOf i).toNat)
  case atStart => exact ⟨0, by omega, rfl, by intro j _ h; omega⟩
  case round =>
    obtain ⟨k, hk, rfl, hall⟩ := hrel
    have HA := Lib.hid hall; clear hall
    by_cases hlt : k < t.length
    · obtain ⟨g1, o1, A1, n1, rfl, _, c1, r1⟩ := ht.at_ hlt
      obtain ⟨g2, o2, A2, n2, he2, _, c2, r2⟩ := ht.at_ (k := 0) (by omega)
      injection he2 with he2; injection he2 with he2 he3; subst he2 he3
      simp only [Nat.add_zero] at c2
      have HH := Lib.hid (headD_at (t := t) (by omega))
      clear r1 r2
      by_cases he : t[k].length = t[0].length
      · have hne : ((t[k].length : Int) != (t[0].length : Int)) = false := by simp [he]
        have HE := Lib.hid he; clear he
        go_wp2_with (fail)
        go_round
        case rel =>
          refine ⟨k + 1, by omega, by go_num, fun j hj hjk => ?_⟩
          by_cases e : j = k
          · subst e; rw [HH.out]; exact HE.out
          · exact HA.out j hj (by omega)
        case measure => simp [intOf]; omega
      · have hne : ((t[k].length : Int) != (t[0].length : Int)) = true := by rw [bne_iff_ne]; omega
        have HE := Lib.hid he; clear he
        go_wp2_with (fail)
        go_ret
        exact ⟨ret_bool (even_no hlt (by rw [HH.out]; exact HE.out)).symm, rfl⟩
    · go_wp2_with (fail)
      go_ret
      exact ⟨ret_bool (even_of (fun j hj => HA.out j hj (by omega))).symm, rfl⟩

set_option maxHeartbeats 400000 in
theorem reven_c (A : Value) (t : Tb) (B1 : Nat) (w : World) (ht : Tbl w B1 A t) :
    Calls Try.prog 11 #[A] w fun e w' => e = .returned (.bool (evenT t)) ∧ w = w' := by
  obtain ⟨A, ca, rfl, ha1, ha2⟩ := ht.form
  unfold maxLen at ha2
  go_enter Try.func11, Try.ntmps11
  go_wp2_with (fail)
  go_loop [7] (fun i => ∃ k : Nat, k ≤ t.length ∧ i = .int .i64 k ∧ ∀ j (hj : j < t.length), j < k → t[j].length = (t.headD []).length) (fun i => t.length - (intOf i).toNat)
  case atStart => exact ⟨0, by omega, rfl, by intro j _ h; omega⟩
  case round =>
    obtain ⟨k, hk, rfl, hall⟩ := hrel
    have HA := Lib.hid hall; clear hall
    by_cases hlt : k < t.length
    · obtain ⟨g1, o1, A1, n1, rfl, _, c1, r1⟩ := ht.at_ hlt
      obtain ⟨g2, o2, A2, n2, he2, _, c2, r2⟩ := ht.at_ (k := 0) (by omega)
      injection he2 with he2; injection he2 with he2 he3; subst he2 he3
      simp only [Nat.add_zero] at c2
      have HH := Lib.hid (headD_at (t := t) (by omega))
      clear r1 r2
      by_cases he : t[k].length = t[0].length
      · have hne : ((t[k].length : Int) != (t[0].length : Int)) = false := by simp [he]
        have HE := Lib.hid he; clear he
        go_wp2_with (fail)
        go_round
        case rel =>
          refine ⟨k + 1, by omega, by go_num, fun j hj hjk => ?_⟩
          by_cases e : j = k
          · subst e; rw [HH.out]; exact HE.out
          · exact HA.out j hj (by omega)
        case measure => simp [intOf]; omega
      · have hne : ((t[k].length : Int) != (t[0].length : Int)) = true := by rw [bne_iff_ne]; omega
        have HE := Lib.hid he; clear he
        go_wp2_with (fail)
        go_ret
        exact ⟨ret_bool (even_no hlt (by rw [HH.out]; exact HE.out)).symm, rfl⟩
    · go_wp2_with (fail)
      go_ret
      exact ⟨ret_bool (even_of (fun j hj => HA.out j hj (by omega))).symm, rfl⟩

/-- The rows of a table that is being turned: the first k columns are whole. -/
def Cols (wr : World) (g top m k : Nat) (t : Tb) (vs : List Value) : Prop :=
  ∀ j u, j < k → vs[j]? = some u → ∃ gj, u = .slice (some ⟨gj, 0, none⟩) m m ∧ g < gj ∧ gj < top ∧ Blk wr gj 9 ((column t j).map sv)
def TurnPost (t : Tb) (w : World) (e : Ending) (w' : World) : Prop :=
  ∃ v vs, e = .returned (.tuple #[v, .int .i64 0]) ∧ OTb w' w.heap.size 33 9 v vs (turn t) ∧ Keeps [] w w'

theorem Cols.keep {wr wr' : World} {g top m k : Nat} {t : Tb} {vs : List Value} (h : Cols wr g top m k t vs) {F : List Nat} (kp : Keeps F wr wr') (hF : ∀ x, g < x → x < top → x ∉ F) {top' : Nat} (ht : top ≤ top') : Cols wr' g top' m k t vs := by
  intro j u hj hu
  obtain ⟨gj, h1, h2, h3, h4⟩ := h j u hj hu
  exact ⟨gj, h1, h2, by omega, h4.keep kp (hF gj h2 h3)⟩
theorem Cols.set {wr : World} {g top m k : Nat} {t : Tb} {vs : List Value} (h : Cols wr g top m k t vs) (u : Value) : Cols wr g top m k t (vs.set k u) := by
  intro j v hj hv
  rw [List.getElem?_set_ne (by omega)] at hv
  exact h j v hj hv
theorem Cols.more {wr : World} {g top m k : Nat} {t : Tb} {vs : List Value} (h : Cols wr g top m k t vs) (gk : Nat) (hu : vs[k]? = some (.slice (some ⟨gk, 0, none⟩) m m)) (hg : g < gk) (hg2 : gk < top) (hb : Blk wr gk 9 ((column t k).map sv)) : Cols wr g top m (k + 1) t vs := by
  intro j v hj hv
  by_cases e : j = k
  · subst e
    rw [hu] at hv
    injection hv with hv
    exact ⟨gk, hv.symm, hg, hg2, hb⟩
  · exact h j v (by omega) hv

theorem col_step (t : Tb) (k i : Nat) (hi : i < t.length) :
    ((((column t k).map sv).take i ++ List.replicate (t.length - i) (sv [])).set i (sv (t[i].getD k []))) = ((column t k).map sv).take (i + 1) ++ List.replicate (t.length - (i + 1)) (sv []) := by
  have hl : (((column t k).map sv).take i).length = i := by simp [column]; omega
  rw [List.set_append_right _ _ (by omega), hl, Nat.sub_self]
  have h1 : t.length - i = (t.length - (i + 1)) + 1 := by omega
  rw [h1, List.replicate_succ, List.set_cons_zero, List.take_succ_eq_append_getElem (by simp [column]; exact hi)]
  simp [column]
theorem turn_done {w wr : World} {g n : Nat} {t : Tb} {vs : List Value} (hv : vs.length = n) (hn : (t.headD []).length = n) (hg : w.heap.size ≤ g) (hb : Blk wr g 33 vs) {top : Nat} (hc : Cols wr g top t.length n t vs) (hm : n ≤ maxLen) (hm2 : t.length ≤ maxLen) :
    OTb wr w.heap.size 33 9 (.slice (some ⟨g, 0, none⟩) n n) vs (turn t) := by
  have hl : (turn t).length = n := by rw [turn_len, hn]
  refine ⟨by omega, ⟨by omega, .inr ⟨g, [], [], n, by rw [hl]; rfl, hg, by simpa using hb, by omega, hm, by simp [hv]⟩⟩, ?_⟩
  intro i u r hu hr
  have hi : i < n := by rw [← hv]; exact (List.getElem?_eq_some_iff.1 hu).1
  obtain ⟨gj, h1, h2, _, h3⟩ := hc i u hi hu
  have e : r = column t i := by
    rw [turn, List.getElem?_map, List.getElem?_range (by omega)] at hr
    simpa using hr.symm
  subst h1 e
  refine ⟨by simp, .inr ⟨gj, [], [], t.length, by rw [column_len]; rfl, by omega, by simpa using h3, by rw [column_len]; omega, hm2, by simp [column_len]⟩⟩

set_option maxHeartbeats 1000000 in
theorem turn_c (A : Value) (t : Tb) (B1 : Nat) (w : World) (ht : Tbl w B1 A t) (he : evenT t = true) (h0 : 0 < t.length) (hB : B1 ≤ w.heap.size) (hl1 : t.length ≤ 100000) (hl2 : (t.headD []).length ≤ 100000) :
    Calls Try.prog 10 #[A] w (TurnPost t w) := by
  obtain ⟨iS, hiS, hS0, hS1, hS2⟩ := info_parts Try.infoStr
  obtain ⟨iR, hiR, hR0, hR1, hR2⟩ := info_parts Try.infoStrs
  have ht' := ht
  obtain ⟨A, ca, rfl, ha1, ha2⟩ := ht.form
  have HE := Lib.hid (even_c _ t B1 w ht)
  have HV := Lib.hid (fun k (hk : k < t.length) => even_at he hk)
  rw [he] at HE
  have h00 : ((t.length : Int) == 0) = false := by rw [beq_eq_false_iff_ne]; omega
  obtain ⟨g2, o2, A2, n2, rfl, _, c2, r2⟩ := ht.at_ h0
  have HH := Lib.hid (headD_at h0)
  simp only [Nat.add_zero] at c2
  rw [← HH.out] at c2
  have HN := Lib.hid (Eq.refl (t.headD []).length)
  generalize hn : (t.headD []).length = n at *
  have HN := Lib.hid hn; clear hn r2 he
  obtain ⟨w1, hmk, hb1, hk1, _, _⟩ := run_mk (P := Try.prog) Try.underlying22 hiR hR0 hR1 rfl n n (Nat.le_refl _) (by rw [hR2]; omega) (by simp only [maxLen]; omega) w
  go_enter Try.func10, Try.ntmps10
  go_wp2_with (first | (go_at_call 16; refine HE.out.mono ?_; rintro e w' ⟨rfl, rfl⟩) | refine wpList_make hmk _ _ rfl rfl rfl rfl ?_)
  clear hmk
  go_loopw [21] (fun i wr => ∃ (k : Nat) (vs : List Value), k ≤ n ∧ i = .int .i64 k ∧ vs.length = n ∧ Blk wr w.heap.size 33 vs ∧ Cols wr w.heap.size wr.heap.size t.length k t vs ∧ Keeps [] w wr) (fun i _ => n - (intOf i).toNat)
  case atStart => exact ⟨0, _, by omega, rfl, by simp, hb1, by intro j u hj; omega, hk1⟩
  case round =>
    obtain ⟨k, vs, hk, rfl, hvs, hb, hc, hkp⟩ := hrel
    have HVS := Lib.hid hvs; clear hvs
    obtain ⟨wo, rfl⟩ : ∃ wo : World, wo = wr := ⟨_, rfl⟩
    by_cases hlt : k < n
    · obtain ⟨wm, hmk, hrow, hkm, hzm, hzm'⟩ := run_mk (P := Try.prog) Try.underlying33 hiS hS0 hS1 rfl t.length t.length (Nat.le_refl _) (by rw [hS2]; omega) (by simp only [maxLen]; omega) wo
      have e0 : (0 : Int) ≤ (k : Int) := by omega
      have e1 : (k : Int) < (n : Int) := by omega
      have hbk := hb.keep hkm (by simp)
      have hcell := hbk.cell_of (i := k) (List.getElem?_eq_getElem (by rw [HVS.out]; exact hlt))
      have hfr := hbk.frozen (i := k) (by rw [HVS.out]; exact hlt)
      have hg := hb.lt
      have hbs := hbk.set_ k (.slice (some ⟨wo.heap.size, 0, none⟩) t.length t.length)
      have hrow2 := hrow.far (p := ⟨w.heap.size, k, none⟩) (by show wo.heap.size ≠ w.heap.size; omega) (.slice (some ⟨wo.heap.size, 0, none⟩) t.length t.length)
      have hc2 : Cols (wm.setCell ⟨w.heap.size, k, none⟩ (.slice (some ⟨wo.heap.size, 0, none⟩) t.length t.length)) w.heap.size wo.heap.size t.length k t (vs.set k (.slice (some ⟨wo.heap.size, 0, none⟩) t.length t.length)) :=
        Cols.set (Cols.keep hc (F := [w.heap.size]) ((hkm.sub (by simp)).set1 _ _ (by simp)) (by intro x h1 h2; simp; omega) (Nat.le_refl _)) _
      have hkp2 : Keeps [] w (wm.setCell ⟨w.heap.size, k, none⟩ (.slice (some ⟨wo.heap.size, 0, none⟩) t.length t.length)) := (hkp.trans hkm (by simp)).set1 _ _ (by simp)
      have hz2 : wo.heap.size < (wm.setCell ⟨w.heap.size, k, none⟩ (.slice (some ⟨wo.heap.size, 0, none⟩) t.length t.length)).heap.size := by simpa using hzm
      go_wp2_with (refine wpList_make hmk _ _ rfl rfl rfl rfl ?_)
      clear hmk hcell hfr hrow hbk hc hb hkm hzm hzm'
      generalize wm.setCell ⟨w.heap.size, k, none⟩ (.slice (some ⟨wo.heap.size, 0, none⟩) t.length t.length) = w2 at *
      go_loopw [32] (fun i wr => ∃ i' : Nat, i' ≤ t.length ∧ i = .int .i64 i' ∧ Blk wr wo.heap.size 9 (((column t k).map sv).take i' ++ List.replicate (t.length - i') (sv [])) ∧ Keeps [wo.heap.size] w2 wr) (fun i _ => t.length - (intOf i).toNat)
      case atStart => exact ⟨0, by omega, rfl, by simpa using hrow2, Keeps.refl _ _⟩
      case round =>
        obtain ⟨i, hi, rfl, hrb, hkr⟩ := hrel
        by_cases hil : i < t.length
        · have f0 : (0 : Int) ≤ (i : Int) := by omega
          have f1 : (i : Int) < (t.length : Int) := by omega
          have hbel : Below w.heap.size w wr := (hkp2.below (Nat.le_refl _) (by simp)).trans (hkr.below (by have := hkp2.size; omega) (by simp; omega))
          have htw := ht'.below hbel hB
          obtain ⟨g3, o3, A3, n3, he3, hg3, c3, r3⟩ := htw.at_ hil
          injection he3 with he3; injection he3 with he3 he4; subst he3 he4
          have hkr3 : k < t[i].length := by have := HV.out i hil; omega
          obtain ⟨g5, o5, rfl, hg5, c5⟩ := r3.str_at hkr3
          have e3 : (k : Int) < (t[i].length : Int) := by omega
          have clk := (Blk.keep hbs hkr (by simp; omega)).cell_of (i := k) (List.getElem?_set_self (by rw [HVS.out]; exact hlt))
          have hlen : (((column t k).map sv).take i ++ List.replicate (t.length - i) (sv [])).length = t.length := by simp [column]; omega
          obtain ⟨u0, hu0⟩ : ∃ u0, (((column t k).map sv).take i ++ List.replicate (t.length - i) (sv []))[i]? = some u0 := ⟨_, List.getElem?_eq_getElem (by rw [hlen]; exact hil)⟩
          have crow := hrb.cell_of (i := i) hu0
          have frow := hrb.frozen (i := i) (by rw [hlen]; exact hil)
          have hset := hrb.set_ i (sv t[i][k])
          have hcs := col_step t k i hil
          have hgd : t[i].getD k [] = t[i][k] := by simp [List.getD, List.getElem?_eq_getElem hkr3]
          rw [hgd] at hcs
          rw [hcs] at hset
          clear hcs hgd hlen hu0
          go_wp2_with (fail)
          go_region
          all_goals
            go_wp2_with (fail)
            go_roundw
            case rel => exact ⟨i + 1, by omega, by go_num, hset, hkr.trans (Keeps.set1 (Keeps.drew [wo.heap.size] wr) _ _ (by simp)) (by simp)⟩
            case measure => simp [intOf]; omega
        · obtain rfl : i = t.length := by omega
          go_wp2_with (fail)
          go_roundw
          case rel =>
            refine ⟨k + 1, _, by omega, by go_num, ?_, Blk.keep hbs hkr (by simp; omega), Cols.more (Cols.keep hc2 hkr (by intro x h1 h2; simp; omega) (by have := hkr.size; omega)) wo.heap.size (List.getElem?_set_self (by rw [HVS.out]; exact hlt)) hg (by have := hkr.size; omega) (by have := hrb; rw [Nat.sub_self, List.replicate_zero, List.append_nil, List.take_of_length_le (by simp [column])] at this; exact this), hkp2.trans hkr (by intro x hx hl; simp at hx; omega)⟩
            rw [List.length_set]; exact HVS.out
          case measure => simp [intOf]; omega
    · obtain rfl : k = n := by omega
      go_wp2_with (fail)
      go_ret2
      exact ⟨_, vs, rfl, turn_done HVS.out HN.out (Nat.le_refl _) hb hc (by simp only [maxLen]; omega) (by simp only [maxLen]; omega), hkp⟩
end Go.Proofs.Ytnbeebagblkkfaa.Tab
