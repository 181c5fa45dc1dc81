/- The document's words of layer 10: May, Line, Front, Text. -/
import Derived.Test.YtcmoldondflilaaTxt
import Derived.Test.YtcmoldondflilaaUtfW3
import Derived.Test.YtcmoldondflilaaQuoW
import Derived.BigQuiet
import Derived.Deep.RegionHeld3
import Derived.Deep.RegionWith
import Derived.Deep.RegionLaw
import Derived.BigRegion
namespace Go.Proofs.Ytcmoldondflilaa.WLine
set_option linter.unusedVariables false
set_option linter.unusedSimpArgs false
set_option maxRecDepth 100000
open Go.RowKit Q Mach Dia Need Bld Quo
open Tab (fieldsOf bytesOf bytesOfRow)
attribute [local go_sem ↓] Go.wp_at_zero Go.wp_at_succ
theorem valid_not {f : Bs} (h : Utf.wholeP f < f.length) : Utf.valid f = false := by
  cases hv : Utf.valid f
  · rfl
  · have := (Utf.whole_auto f).2 hv
    omega
theorem may_14 {r : Row} {j : Nat} (hj : j < r.length) (hv : Utf.valid r[j] = false) : Wr.may r = 14 := by
  unfold Wr.may
  have h1 : r.isEmpty = false := by cases r with | nil => simp at hj | cons => rfl
  have h2 : r.all Utf.valid = false := by
    rw [List.all_eq_false]
    exact ⟨r[j], List.getElem_mem hj, by simp [hv]⟩
  rw [h1, h2]; rfl
theorem may_0 {r : Row} (hr0 : r ≠ []) (h : ∀ (j : Nat) (hj : j < r.length), Utf.valid r[j] = true) : Wr.may r = 0 := by
  unfold Wr.may
  have h1 : r.isEmpty = false := by cases r with | nil => exact absurd rfl hr0 | cons => rfl
  have h2 : r.all Utf.valid = true := by
    rw [List.all_eq_true]
    intro f hf
    obtain ⟨j, hj, rfl⟩ := List.getElem_of_mem hf
    exact h j hj
  rw [h1, h2]; rfl
set_option maxHeartbeats 4000000 in
theorem may_c (A : Value) (r : Row) (B1 : Nat) (w : World) (hr : Rd w B1 1 A r.length (r.map sv)) (h2 : bytesOfRow r ≤ 10000) :
    Calls Try.prog 16 #[A] w fun e w' => e = .returned (.int .i64 (Wr.may r)) ∧ Keeps [] w w' := by
  have hr' := hr
  obtain ⟨A, ca, rfl, ha1, ha2⟩ := hr.form
  unfold maxLen at ha2
  by_cases hr0 : r = []
  · have e0 : ((r.length : Int) == 0) = true := by rw [hr0]; rfl
    have hm : Wr.may r = 13 := by rw [hr0]; rfl
    rw [hm]
    clear hr hr' hr0 hm
    go_enter Try.func16, Try.ntmps16
    go_wp2_with (fail)
    go_ret
    exact ⟨rfl, Keeps.refl _ _⟩
  have e0 : ((r.length : Int) == 0) = false := by
    rw [beq_eq_false_iff_ne]
    have := List.length_pos_iff.2 hr0
    omega
  have H0 := Lib.hid (fun h => may_0 (r := r) hr0 h)
  have H14 := Lib.hid (fun j hj hv => may_14 (r := r) (j := j) hj hv)
  obtain ⟨M, hM⟩ : ∃ M, Wr.may r = M := ⟨_, rfl⟩
  rw [hM]
  rw [hM] at H0 H14
  clear hM hr0
  go_enter Try.func16, Try.ntmps16
  go_wp2_with (fail)
  go_loopw [10] (fun i wr => ∃ k : Nat, k ≤ r.length ∧ i = .int .i64 k ∧ (∀ (j : Nat) (hj : j < r.length), j < k → Utf.valid r[j] = true) ∧ Keeps [] w wr) (fun i _ => r.length - (intOf i).toNat)
  case atStart => exact ⟨0, by omega, rfl, by intro j _ h; omega, Keeps.refl _ _⟩
  case round =>
    obtain ⟨k, hk, rfl, hall, kw⟩ := hrel
    have HALL := Lib.hid hall
    clear hall
    by_cases hlt : k < r.length
    · have hrw := hr'.keepB kw (by simp)
      obtain ⟨g, o, rfl, _, cf⟩ := hrw.str_at hlt
      have hsl := Wr.mem_bytes (List.getElem_mem hlt)
      have hk0 : (0 : Int) ≤ (k : Int) := by omega
      have hkl : (k : Int) < (r.length : Int) := by omega
      have HW := Lib.hid (UtfW.whole_c r[k] (by omega) wr)
      have HB : Hid (Utf.wholeP r[k] < r[k].length → M = 14) := Lib.hid (fun h => H14.out k hlt (valid_not (f := r[k]) h))
      have HG : Hid (¬ Utf.wholeP r[k] < r[k].length → Utf.valid r[k] = true) := Lib.hid (fun h => by
        rw [← Utf.whole_auto]
        have := (Utf.whole_spec r[k]).1
        omega)
      clear hrw hr hr'
      by_cases hv : Utf.wholeP r[k] < r[k].length
      · go_wp2_with (fail)
        with_reducible refine HW.out.mono ?_
        rintro e w1 ⟨rfl, k1⟩
        go_wp2_with (fail)
        go_ret
        exact ⟨by rw [HB.out hv]; rfl, kw.trans k1 (by simp)⟩
      · go_wp2_with (fail)
        with_reducible refine HW.out.mono ?_
        rintro e w1 ⟨rfl, k1⟩
        go_wp2_with (fail)
        refine ⟨⟨k + 1, by omega, by go_num, fun j hj hjk => ?_, kw.trans k1 (by simp)⟩, by simp [intOf]; omega⟩
        by_cases e : j = k
        · subst e; exact HG.out hv
        · exact HALL.out j hj (by omega)
    · obtain rfl : k = r.length := by omega
      have HM := Lib.hid (H0.out (fun j hj => HALL.out j hj hj))
      clear HALL
      go_wp2_with (fail)
      go_ret
      exact ⟨by rw [HM.out]; rfl, kw⟩
def oneI (b : Bool) : Int := if b then 1 else 0
theorem one10_c (b : Bool) (w : World) : Calls Try.prog 50 #[.bool b] w fun e w' => e = .returned (.int .i64 (oneI b)) ∧ w' = w := by
  unfold oneI
  cases b
  all_goals
    go_enter Try.func50, Try.ntmps50
    go_wp2_with (fail)
    go_ret
    exact ⟨rfl, rfl⟩
theorem tail_at {P : Program} {ops : Array Oper} {Q : Exit → Act → World → Prop} {rest : List Oper} {a : Act} {w w' : World} (h : w = w') (k : wpList P ops Q rest a w') : wpList P ops Q rest a w := h ▸ k
set_option maxHeartbeats 20000000 in
theorem rline_c (d : Dia) (A : Value) (r : Row) (first : Bool) (N : Int) (hN : (N == 1) = first) (B1 : Nat) (w : World) (hr : Rd w B1 1 A r.length (r.map sv)) (hB : B1 ≤ w.heap.size) (h1 : r.length ≤ 10000) (h2 : bytesOfRow r ≤ 10000) :
    Calls Try.prog 17 #[rdiaV d, A, .int .i64 N] w fun e w' => e = .returned (sv (Wr.lineB d r first)) ∧ Keeps [] w w' := by
  have hcat : ∀ x y : List UInt8, (ByteArray.mk x.toArray ++ ByteArray.mk y.toArray) = ⟨(x ++ y).toArray⟩ := cat_mk
  have kp := Keeps.alloc [] w (.cells #[.int .i64 d.delim.toNat, .int .i64 d.quote.toNat, .int .i64 d.fin] 33)
  have hbx := Blk.new w 33 [.int .i64 d.delim.toNat, .int .i64 d.quote.toNat, .int .i64 d.fin]
  have hr' := hr
  obtain ⟨A, ca, rfl, ha1, ha2⟩ := hr.form
  unfold maxLen at ha2
  have hwx : IntKind.u8.wrap (d.delim.toNat : Int) = d.delim.toNat := by rw [IntKind.wrap_u8]; have := wrap_u8 d.delim; omega
  obtain ⟨al, hal⟩ : ∃ al, (r.length == 1) = al := ⟨_, rfl⟩
  have hal' : ((r.length : Int) == 1) = al := by rw [← hal, Bool.eq_iff_iff, beq_iff_eq, beq_iff_eq]; omega
  have HLB : Hid (Wr.lineB d r first = Wr.rowB d al first r ++ endB d.fin) := Lib.hid (by rw [← hal]; rfl)
  have HRT := Lib.hid (fun k h => Wr.row_take d al first r k h)
  have HRL := Lib.hid (fun k => Wr.row_take_len d al first r k)
  have HON := Lib.hid one10_c
  have HWR := Lib.hid (fun f al fi A F hA hF (hf : f.length ≤ 100000) w => rwritten_c d f al fi A F hA hF hf w)
  have HE := Lib.hid (fun w => rend_c d w)
  obtain ⟨X, hX⟩ : ∃ X, Wr.lineB d r first = X := ⟨_, rfl⟩
  rw [hX]
  rw [hX] at HLB
  obtain ⟨DD, hDD⟩ : ∃ D : Dia, D = d := ⟨_, rfl⟩
  rw [← hDD] at HRT HRL HLB
  have HDDE := Lib.hid hDD
  clear hDD hal hX
  have hel : (endB d.fin).length ≤ 2 := Wr.eol_le d
  obtain ⟨x, y, z⟩ := d
  go_enter Try.func17, Try.ntmps17
  go_wp2_with (fail)
  generalize w.alloc (.cells #[.int .i64 x.toNat, .int .i64 y.toNat, .int .i64 z] 33) = w1 at *
  have hr1 := hr'.keepB kp (by simp)
  clear hr
  go_loopw [7, 12] (fun s i wr => ∃ k : Nat, k ≤ r.length ∧ i = .int .i64 k ∧ s = sv (Wr.rowB DD al first (r.take k)) ∧ Keeps [] w1 wr) (fun _ i _ => r.length - (intOf i).toNat)
  case atStart => exact ⟨0, Nat.zero_le _, rfl, by rw [List.take_zero]; rfl, Keeps.refl _ _⟩
  case round =>
    obtain ⟨k, hk, rfl, rfl, kw⟩ := hrel
    have hbw := hbx.keep kw (by simp)
    have hrw := hr1.keepB kw (by simp)
    have hrl := HRL.out k
    by_cases hlt : k < r.length
    · obtain ⟨g, o, rfl, _, cf⟩ := hrw.str_at hlt
      have hsl := Wr.mem_bytes (List.getElem_mem hlt)
      have hk0 : (0 : Int) ≤ (k : Int) := by omega
      have hkl : (k : Int) < (r.length : Int) := by omega
      obtain ⟨z0, hz0⟩ : ∃ z0, (k == 0) = z0 := ⟨_, rfl⟩
      have hz0' : ((k : Int) == 0) = z0 := by rw [← hz0, Bool.eq_iff_iff, beq_iff_eq, beq_iff_eq]; omega
      have hz1 : 0 < k ↔ z0 = false := by rw [← hz0, beq_eq_false_iff_ne]; omega
      have HZ1 := Lib.hid hz1
      have hrt := HRT.out k hlt
      rw [hz0] at hrt
      have HT := Lib.hid hrt
      have hwl := Wr.writ_len DD r[k] al (first && z0)
      have HW : Hid (∀ w, Calls Try.prog 49 #[.agg #[.int .i64 x.toNat, .int .i64 y.toNat, .int .i64 z], sv r[k], .int .i64 (oneI al), .int .i64 (oneI (first && z0))] w fun e w' => e = .returned (sv (Wr.writ DD r[k] al (first && z0))) ∧ Keeps [] w w') := Lib.hid (fun w => by
        rw [HDDE.out]
        exact HWR.out r[k] al (first && z0) _ _ (by cases al <;> rfl) (by cases first <;> cases z0 <;> rfl) (by omega) w)
      have HDE := Lib.hid (show DD.delim = x by rw [HDDE.out])
      have d0 := hbw.cell_of (i := 0) rfl
      have d1 := hbw.cell_of (i := 1) rfl
      have d2 := hbw.cell_of (i := 2) rfl
      have hlb := hbw.lt
      have hwF : (Wr.writ DD r[k] al (first && z0)).length ≤ 30000 := by omega
      have hwP : (Wr.rowB DD al first (r.take k)).length ≤ 60000 := by omega
      clear hz1 hz0 hrt hbw hrw HRT HRL HWR HE HLB hwl hrl
      generalize Wr.writ DD r[k] al (first && z0) = F at *
      generalize Wr.rowB DD al first (r.take k) = P at *
      generalize r[k] = f at *
      obtain ⟨P2, hP2⟩ : ∃ P2, P ++ (if z0 then [] else [x]) = P2 := ⟨_, rfl⟩
      have hP2l : P2.length ≤ 60001 := by rw [← hP2]; cases z0 <;> simp <;> omega
      have HP2 := Lib.hid hP2
      have HTT : Hid (Wr.rowB DD al first (r.take (k + 1)) = P2 ++ F) := Lib.hid (by
        rw [HT.out, ← HP2.out, HDE.out]
        cases z0 <;> simp)
      clear hP2 HT HDE
      go_upto_if 18 with (fail)
      go_cut [7] (fun s wx => s = sv P2 ∧ Keeps [] wr wx)
      case first =>
        cases z0
        · have hkp : 0 < k := HZ1.out.2 rfl
          have hstr := run_str1 (P := Try.prog) Try.underlying60 Try.underlying5 Try.underlying9 x x.toNat rfl wr
          go_wp2_with (with_reducible refine wpList_convert hstr _ rfl rfl rfl ?_)
          go_meet
          exact ⟨by rw [← HP2.out]; rfl, Keeps.alloc [] wr _⟩
        · have hkp : ¬ 0 < k := fun h => by have := HZ1.out.1 h; cases this
          go_wp2_with (fail)
          go_meet
          exact ⟨by rw [← HP2.out]; simp, Keeps.refl _ _⟩
      case rest =>
        obtain ⟨rfl, k1⟩ := hcut
        have e0 := kC k1 d0 (by simp)
        have e1 := kC k1 d1 (by simp)
        have e2 := kC k1 d2 (by simp)
        have hlb2 : w.heap.size < wc.heap.size := Nat.lt_of_lt_of_le hlb k1.size
        have k0c := kw.trans k1 (by simp)
        have hcat2 := hcat P2 F
        have hsum : ¬ (9223372036854775807 < P2.length + F.length) := by omega
        have hlen1 : (0 : Int) ≤ (r.length : Int) := by omega
        clear k1 d0 d1 d2 hlb HP2 HZ1 hcat kw hr1 hr' cf hbx
        have HON2 : Hid (∀ b w, Calls Try.prog 50 #[.bool b] w fun e w' => e = .returned (.int .i64 (oneI b)) ∧ Keeps [] w w') := Lib.hid (fun b w => (one10_c b w).mono (by rintro e w' ⟨h1, rfl⟩; exact ⟨h1, Keeps.refl _ _⟩))
        cases first
        · cases z0
          all_goals
            simp only [Bool.false_and, Bool.true_and, Bool.and_self, Bool.and_false, Bool.and_true] at HW
            go_upto_region 7 with (fail)
            first | (go_region_with (first | (go_at_call 50; refine (HON.out _ _).mono ?_; rintro e w7 ⟨rfl, rfl⟩) | (go_at_call 49; refine (HW.out _).mono ?_; rintro e w7 ⟨rfl, k1⟩))) | fail
            all_goals
              have k07 := k0c.drew1.trans k1 (by simp)
              go_wp2_with (fail)
              exact ⟨⟨k + 1, by omega, by go_num, by rw [HTT.out], k07⟩, by simp [intOf]; omega⟩
        · cases z0
          all_goals
            simp only [Bool.false_and, Bool.true_and, Bool.and_self, Bool.and_false, Bool.and_true] at HW
            go_upto_region 7 with (fail)
            have HSS := fun w' (hb : Below (wc.heap.size) (wc) w') => ((⟨(hb.cell (p := ⟨w.heap.size, 0, none⟩) (hlb2)).trans (e0), (hb.cell (p := ⟨w.heap.size, 1, none⟩) (hlb2)).trans (e1), (hb.cell (p := ⟨w.heap.size, 2, none⟩) (hlb2)).trans (e2), hb⟩) : w'.cell? ⟨w.heap.size, 0, none⟩ = some (.int .i64 x.toNat) ∧ w'.cell? ⟨w.heap.size, 1, none⟩ = some (.int .i64 y.toNat) ∧ w'.cell? ⟨w.heap.size, 2, none⟩ = some (.int .i64 z) ∧ Below (wc.heap.size) (wc) w')
            have HSSb : wc.heap.size ≤ (wc).heap.size := Nat.le_refl _
            go_region_held3 (fun w' => w'.cell? ⟨w.heap.size, 0, none⟩ = some (.int .i64 x.toNat) ∧ w'.cell? ⟨w.heap.size, 1, none⟩ = some (.int .i64 y.toNat) ∧ w'.cell? ⟨w.heap.size, 2, none⟩ = some (.int .i64 z) ∧ Below (wc.heap.size) (wc) w') (((try go_split_ands); (with_reducible apply HSS); first | (with_reducible assumption) | (with_reducible (apply bC HSSb k1; assumption)) | (with_reducible (apply bAA HSSl; assumption)) | (repeat (first | (with_reducible assumption) | (with_reducible apply Below.refl) | (with_reducible apply bS (hp := HSSb)) | (with_reducible apply bSe) | (with_reducible apply bSg; · with_reducible assumption) | (with_reducible apply bA HSSb) | (with_reducible apply bD))))) (first | ((go_at_call 50; refine (HON2.out _ _).mono ?_; rintro e w7 ⟨rfl, k1⟩)) | ((go_at_call 49; refine (HW.out _).mono ?_; rintro e w7 ⟨rfl, k1⟩)))
            all_goals go_split_ands
            all_goals
              have k07 := k0c.trans (below_keeps (by assumption : Below wc.heap.size wc w7) (Nat.le_refl _)) (by simp)
              go_wp2_with (fail)
              exact ⟨⟨k + 1, by omega, by go_num, by rw [HTT.out], k07⟩, by simp [intOf]; omega⟩
    · obtain rfl : k = r.length := by omega
      have hkl : ¬ ((r.length : Int) < (r.length : Int)) := by omega
      rw [List.take_length] at *
      have d0 := hbw.cell_of (i := 0) rfl
      have d1 := hbw.cell_of (i := 1) rfl
      have d2 := hbw.cell_of (i := 2) rfl
      have hXX := HLB.out
      rw [HDDE.out] at hXX
      have HX9 := Lib.hid hXX
      rw [HDDE.out] at hrl ⊢
      clear hbw hrw hr1 hr' hbx hXX HRT HRL
      generalize Wr.rowB ⟨x, y, z⟩ al first r = P at *
      go_wp2_with (fail)
      with_reducible refine (HE.out _).mono ?_
      rintro e w4 ⟨rfl, k4⟩
      go_wp2_with (fail)
      go_ret
      exact ⟨by rw [HX9.out]; rfl, (kp.trans kw (by simp)).trans k4 (by simp)⟩
end Go.Proofs.Ytcmoldondflilaa.WLine
