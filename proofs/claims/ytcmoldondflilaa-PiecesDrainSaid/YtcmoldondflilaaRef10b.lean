/- The document's words of layer 10: Front, Text. -/
import Derived.Test.YtcmoldondflilaaRef10
import Derived.Test.YtcmoldondflilaaStep
namespace Go.Proofs.Ytcmoldondflilaa.WLine
set_option linter.unusedVariables false
set_option linter.unusedSimpArgs false
set_option maxRecDepth 100000
open Go.RowKit Q Mach Dia Need Bld Quo
open Tab (fieldsOf bytesOf bytesOfRow)
attribute [local go_sem ↓] Go.wp_at_zero Go.wp_at_succ
set_option maxHeartbeats 4000000 in
theorem front_c (A : Value) (t : Tb) (B1 : Nat) (w : World) (ht : Tbl w B1 A t) (h2 : bytesOf t ≤ 10000) :
    Calls Try.prog 26 #[A] w fun e w' => e = .returned (.int .i64 (Wr.front t)) ∧ Keeps [] w w' := by
  have ht' := ht
  obtain ⟨A, ca, rfl, ha1, ha2⟩ := ht.form
  unfold maxLen at ha2
  obtain ⟨X, hX⟩ : ∃ X, Wr.front t = X := ⟨_, rfl⟩
  rw [hX]
  have H1 := Lib.hid (fun k hk h hb => (Wr.front_of (t := t) (k := k) hk h hb).symm.trans hX)
  have H0 := Lib.hid (fun h => (Wr.front_all (t := t) h).symm.trans hX)
  clear hX
  go_enter Try.func26, Try.ntmps26
  go_wp2_with (fail)
  go_loopw [7] (fun i wr => ∃ k : Nat, k ≤ t.length ∧ i = .int .i64 k ∧ (∀ (j : Nat) (hj : j < t.length), j < k → Wr.may t[j] = 0) ∧ Keeps [] w wr) (fun i _ => t.length - (intOf i).toNat)
  case atStart => exact ⟨0, by omega, rfl, by intro j _ h; omega, Keeps.refl _ _⟩
  case round =>
    obtain ⟨k, hk, rfl, hall, kw⟩ := hrel
    have HALL := Lib.hid hall
    clear hall
    by_cases hlt : k < t.length
    · obtain ⟨g, o, A1, n1, rfl, _, cf, rr⟩ := (ht'.keepB kw (by simp)).at_ hlt
      obtain ⟨hs1, hs2⟩ := Wr.mem_table (List.getElem_mem hlt)
      have hk0 : (0 : Int) ≤ (k : Int) := by omega
      have hkl : (k : Int) < (t.length : Int) := by omega
      have HM := Lib.hid (may_c _ t[k] B1 wr rr (by omega))
      obtain ⟨M, hM⟩ : ∃ M, Wr.may t[k] = M := ⟨_, rfl⟩
      rw [hM] at HM
      have HMM := Lib.hid hM
      have HB := Lib.hid (fun h => H1.out k hlt (fun j hj hjk => HALL.out j hj hjk) h)
      rw [hM] at HB
      clear rr ht hM
      by_cases hM0 : M = 0
      · subst hM0
        go_wp2_with (fail)
        with_reducible refine HM.out.mono ?_
        rintro e w1 ⟨rfl, k1⟩
        go_wp2_with (fail)
        refine ⟨⟨k + 1, by omega, by go_num, fun j hj hjk => ?_, kw.trans k1 (by simp)⟩, by simp [intOf]; omega⟩
        by_cases e : j = k
        · subst e; exact HMM.out
        · exact HALL.out j hj (by omega)
      · have hM' : ((M : Int) != 0) = true := by rw [bne_iff_ne]; omega
        have HBB := Lib.hid (HB.out hM0)
        clear hM0
        go_wp2_with (fail)
        with_reducible refine HM.out.mono ?_
        rintro e w1 ⟨rfl, k1⟩
        go_wp2_with (fail)
        go_ret
        exact ⟨by rw [← HBB.out]; rfl, kw.trans k1 (by simp)⟩
    · obtain rfl : k = t.length := by omega
      have HBB := Lib.hid (H0.out (fun j hj => HALL.out j hj hj))
      clear HALL
      go_wp2_with (fail)
      go_ret
      exact ⟨by rw [← HBB.out]; rfl, kw⟩
theorem may_lt {t : Tb} {k : Nat} (h : k < Wr.front t) : ∃ (hk : k < t.length), Wr.may t[k] = 0 := by
  induction t generalizing k with
  | nil => simp [Wr.front] at h
  | cons r t ih =>
    unfold Wr.front at h ih
    simp only [List.takeWhile] at h
    cases hr : (Wr.may r == 0)
    · rw [hr] at h; simp at h
    · rw [hr] at h
      simp only [List.length_cons] at h
      cases k with
      | zero => exact ⟨by simp, by simpa using hr⟩
      | succ k =>
        obtain ⟨a, b⟩ := ih (k := k) (Nat.lt_of_succ_lt_succ h)
        exact ⟨by simp; exact a, by simpa using b⟩
set_option maxHeartbeats 20000000 in
theorem rtext_c (d : Dia) (A : Value) (t : Tb) (B1 : Nat) (w : World) (ht : Tbl w B1 A t) (hB : B1 ≤ w.heap.size) (h0 : t.length ≤ 10000) (h1 : fieldsOf t ≤ 10000) (h2 : bytesOf t ≤ 10000) :
    Calls Try.prog 27 #[rdiaV d, A] w fun e w' => e = .returned (sv (Wr.textB d true (t.take (Wr.front t)))) ∧ Keeps [] w w' := by
  have kp := Keeps.alloc [] w (.cells #[.int .i64 d.delim.toNat, .int .i64 d.quote.toNat, .int .i64 d.fin] 33)
  have hbx := Blk.new w 33 [.int .i64 d.delim.toNat, .int .i64 d.quote.toNat, .int .i64 d.fin]
  have ht' := ht
  obtain ⟨A, ca, rfl, ha1, ha2⟩ := ht.form
  unfold maxLen at ha2
  have hcat : ∀ x y : List UInt8, (ByteArray.mk x.toArray ++ ByteArray.mk y.toArray) = ⟨(x ++ y).toArray⟩ := cat_mk
  have HFR := Lib.hid (fun w' h => front_c (.slice A t.length ca) t B1 w' h h2)
  obtain ⟨F, hF⟩ : ∃ F, Wr.front t = F := ⟨_, rfl⟩
  have HML := Lib.hid (fun k (h : k < F) => may_lt (t := t) (k := k) (by rw [hF]; exact h))
  have hFl : F ≤ t.length := by rw [← hF]; exact Wr.front_le t
  rw [hF]
  rw [hF] at HFR
  clear hF
  have HTT := Lib.hid (fun k h => Wr.text_take d true t k h)
  have HTL := Lib.hid (fun k => Wr.text_take_len d true t k)
  have HON : Hid (∀ b w, Calls Try.prog 50 #[.bool b] w fun e w' => e = .returned (.int .i64 (oneI b)) ∧ Keeps [] w w') := Lib.hid (fun b w => (one10_c b w).mono (by rintro e w' ⟨h1, rfl⟩; exact ⟨h1, Keeps.refl _ _⟩))
  have HRL := Lib.hid (fun A r fi N hN B1 w h hB h1 h2 => rline_c d A r fi N hN B1 w h hB h1 h2)
  obtain ⟨DD, hDD⟩ : ∃ D : Dia, D = d := ⟨_, rfl⟩
  rw [← hDD] at HTT HTL ⊢
  have HDDE := Lib.hid hDD
  rw [← hDD] at HRL
  have hrv : rdiaV DD = rdiaV d := by rw [hDD]
  rw [hrv] at HRL ⊢
  clear hDD hrv
  obtain ⟨x, y, z⟩ := d
  go_enter Try.func27, Try.ntmps27
  go_wp2_with (fail)
  generalize w.alloc (.cells #[.int .i64 x.toNat, .int .i64 y.toNat, .int .i64 z] 33) = w1 at *
  have hr1 := ht'.keepB kp (by simp)
  clear ht
  go_loopw [5, 6] (fun s i wr => ∃ k : Nat, k ≤ F ∧ i = .int .i64 k ∧ s = sv (Wr.textB DD true (t.take k)) ∧ Keeps [] w1 wr) (fun _ i _ => F - (intOf i).toNat)
  case atStart => exact ⟨0, Nat.zero_le _, rfl, by rw [List.take_zero]; rfl, Keeps.refl _ _⟩
  case round =>
    obtain ⟨k, hk, rfl, rfl, kw⟩ := hrel
    have HF := Lib.hid (HFR.out wr (hr1.keepB kw (by simp)))
    have hrl := HTL.out k
    by_cases hlt : k < F
    · obtain ⟨hkt, _⟩ := HML.out k hlt
      have hrt := HTT.out k hkt
      rw [Bool.true_and] at hrt
      obtain ⟨z0, hz0⟩ : ∃ z0, (k == 0) = z0 := ⟨_, rfl⟩
      have hz0' : ((k : Int) == 0) = z0 := by rw [← hz0, Bool.eq_iff_iff, beq_iff_eq, beq_iff_eq]; omega
      rw [hz0] at hrt
      have HT := Lib.hid hrt
      have hll := Wr.line_len DD t[k] z0
      obtain ⟨hs1, hs2⟩ := Wr.mem_table (List.getElem_mem hkt)
      clear hz0 hrt
      go_wp2_with (fail)
      with_reducible refine HF.out.mono ?_
      rintro e w2 ⟨rfl, k2⟩
      have k02 := kw.trans k2 (by simp)
      have hb2 := hbx.keep k02 (by simp)
      have e0 := hb2.cell_of (i := 0) rfl
      have e1 := hb2.cell_of (i := 1) rfl
      have e2 := hb2.cell_of (i := 2) rfl
      have hlb2 := hb2.lt
      obtain ⟨g, o, A1, n1, rfl, hgB, cf, rr⟩ := (hr1.keepB k02 (by simp)).at_ hkt
      have hk0 : (0 : Int) ≤ (k : Int) := by omega
      have hkl : (k : Int) < (t.length : Int) := by omega
      have hB2 : B1 ≤ w2.heap.size := by have := kp.size; have := k02.size; omega
      have hg2 : g < w2.heap.size := by omega
      have HLX : Hid (∀ w', Below w2.heap.size w2 w' → Calls Try.prog 17 #[.agg #[.int .i64 x.toNat, .int .i64 y.toNat, .int .i64 z], .slice A1 t[k].length n1, .int .i64 (oneI z0)] w' fun e w'' => e = .returned (sv (Wr.lineB DD t[k] z0)) ∧ Keeps [] w' w'') := Lib.hid (fun w' b => HRL.out (.slice A1 t[k].length n1) t[k] z0 (oneI z0) (by cases z0 <;> rfl) B1 w' (rr.below b hB2) (by have := b.size; omega) (by omega) (by omega))
      have hsum : ¬ (9223372036854775807 < (Wr.textB DD true (t.take k)).length + (Wr.lineB DD t[k] z0).length) := by omega
      have hcat2 := hcat (Wr.textB DD true (t.take k)) (Wr.lineB DD t[k] z0)
      clear hb2 k2 kw HF hrl hcat hr1 ht' hbx HRL HTT HTL HFR HML hll rr
      generalize Wr.textB DD true (t.take k) = P at *
      generalize Wr.lineB DD t[k] z0 = L at *
      generalize hn : t[k].length = m at *
      go_wp2_with (fail)
      have HSS := fun w' (hb : Below (w2.heap.size) (w2) w') => ((⟨(hb.cell (p := ⟨w.heap.size, 0, none⟩) (hlb2)).trans (e0), (hb.cell (p := ⟨w.heap.size, 1, none⟩) (hlb2)).trans (e1), (hb.cell (p := ⟨w.heap.size, 2, none⟩) (hlb2)).trans (e2), (hb.cell (p := ⟨g, o + k, none⟩) (hg2)).trans (cf), hb⟩) : w'.cell? ⟨w.heap.size, 0, none⟩ = some (.int .i64 x.toNat) ∧ w'.cell? ⟨w.heap.size, 1, none⟩ = some (.int .i64 y.toNat) ∧ w'.cell? ⟨w.heap.size, 2, none⟩ = some (.int .i64 z) ∧ w'.cell? ⟨g, o + k, none⟩ = some (.slice A1 m n1) ∧ Below (w2.heap.size) (w2) w')
      have HSSb : w2.heap.size ≤ (w2).heap.size := Nat.le_refl _
      go_region_held3 (fun w' => w'.cell? ⟨w.heap.size, 0, none⟩ = some (.int .i64 x.toNat) ∧ w'.cell? ⟨w.heap.size, 1, none⟩ = some (.int .i64 y.toNat) ∧ w'.cell? ⟨w.heap.size, 2, none⟩ = some (.int .i64 z) ∧ w'.cell? ⟨g, o + k, none⟩ = some (.slice A1 m n1) ∧ Below (w2.heap.size) (w2) w') (((try go_split_ands); (with_reducible apply HSS); first | (with_reducible assumption) | (with_reducible (apply bC HSSb k1; assumption)) | (with_reducible (apply bAA HSSl; assumption)) | (repeat (first | (with_reducible assumption) | (with_reducible apply Below.refl) | (with_reducible apply bS (hp := HSSb)) | (with_reducible apply bSe) | (with_reducible apply bSg; · with_reducible assumption) | (with_reducible apply bA HSSb) | (with_reducible apply bD))))) (first | ((go_at_call 50; refine (HON.out _ _).mono ?_; rintro e w7 ⟨rfl, k1⟩)) | ((go_at_call 17; refine (HLX.out _ (by first | assumption | exact bD (Below.refl _ _) | exact (bC (Nat.le_refl _) k1 (bD (Below.refl _ _))))).mono ?_; rintro e w7 ⟨rfl, k1⟩)))
      all_goals go_split_ands
      all_goals
        have k07 := k02.trans (below_keeps (by assumption : Below w2.heap.size w2 w7) (Nat.le_refl _)) (by simp)
        go_wp2_with (fail)
        exact ⟨⟨k + 1, by omega, by go_num, by rw [HT.out], k07⟩, by simp [intOf]; omega⟩
    · obtain rfl : k = F := by omega
      have hkl : ¬ ((k : Int) < (k : Int)) := by omega
      clear hr1 ht' hbx HRL HTT HTL HFR HML hrl
      go_wp2_with (fail)
      with_reducible refine HF.out.mono ?_
      rintro e w2 ⟨rfl, k2⟩
      go_wp2_with (fail)
      go_ret
      exact ⟨rfl, (kp.trans kw (by simp)).trans k2 (by simp)⟩
end Go.Proofs.Ytcmoldondflilaa.WLine
