/- PROVED: for every way w and texts s, more, TopSticky(w, s, more) returns true and leaves its arguments as they were. No condition. -/
import Derived.Test.YtbjejmdbpikgjaaRows
import Derived.Test.YtbjejmdbpikgjaaTop1
import Derived.Test.YtbjejmdbpikgjaaOpenT
import Derived.Deep.CutBlock
import Derived.Deep.RegionHeld3
namespace Go.Proofs.Ytbjejmdbpikgjaa.TopStickyP
set_option linter.unusedVariables false
set_option linter.unusedSimpArgs false
set_option maxRecDepth 100000
open Go.ChangeShapes Go.WideShapes Go.ChangeAt Go.RowKit Q Mach Dia Limits Rd
attribute [local go_sem ↓] Go.wp_at_zero Go.wp_at_succ

theorem own : ownKnob Try.prog.godebug = none := by kernel_rfl
theorem laidOut : laidOutB Try.prog = true := by kernel_rfl
theorem RA.notIn {w : World} {base g r : Nat} {cs : List Value} {d : Dia} {s : Rs} {O : List Nat} (h : RA w base g d s O) (hb : Blk w r 35 cs) : r ∉ g :: O := by
  obtain ⟨vf, vr, vq, vs, rfl, h⟩ := h
  exact h.notIn hb ⟨by decide, by decide, by decide, by decide⟩
set_option maxHeartbeats 8000000 in
theorem walk (d : Dia) (a b c : Int) (u : Bool) (s more : Bs) (w : World) : Calls Try.prog 3 #[wayV d a b c u, sv s, sv more] w fun e w' => e = .returned (.bool true) ∧ Below w.heap.size w w' := by
  have HA := Lib.hid Wh.alive_c
  have HR := Lib.hid (fun w => right2_c d a b c u w)
  have kp := Keeps.alloc [] w (.cells #[bv d.delim, bv d.quote, .int .i64 d.fin, .int .i64 a, .int .i64 b, .int .i64 c, .bool u] 27)
  have hb := Blk.new w 27 [bv d.delim, bv d.quote, .int .i64 d.fin, .int .i64 a, .int .i64 b, .int .i64 c, .bool u]
  obtain ⟨R, hR⟩ : ∃ R, (d.right && limOk a b c) = R := ⟨_, rfl⟩
  rw [hR] at HR
  have HRI := Lib.hid hR
  clear hR
  obtain ⟨D, hD⟩ : ∃ D : Dia, D = d := ⟨_, rfl⟩
  have HDD := Lib.hid hD
  clear hD
  obtain ⟨x, y, z⟩ := d
  go_enter Try.func3, Try.ntmps3
  go_upto_region 1 with (fail)
  generalize w.alloc (.cells #[bv x, bv y, .int .i64 z, .int .i64 a, .int .i64 b, .int .i64 c, .bool u] 27) = w0 at *
  have c0 := hb.cell_of (i := 0) rfl
  have c1 := hb.cell_of (i := 1) rfl
  have c2 := hb.cell_of (i := 2) rfl
  have c3 := hb.cell_of (i := 3) rfl
  have c4 := hb.cell_of (i := 4) rfl
  have c5 := hb.cell_of (i := 5) rfl
  have c6 := hb.cell_of (i := 6) rfl
  by_cases hs : s.length ≤ 300
  rotate_left
  · have h1 : ((300 : Int) < (s.length : Int)) := by omega
    go_wp2_with (fail)
    refine (HA.out _).mono ?_
    rintro e w1 ⟨rfl, k1⟩
    go_wp2_with (fail)
    go_ret
    exact ⟨rfl, (kp.trans k1 (by simp)).below (Nat.le_refl _) (by simp)⟩
  have h1 : ¬ ((300 : Int) < (s.length : Int)) := by omega
  by_cases hm : more.length ≤ 300
  rotate_left
  · have h2 : ((300 : Int) < (more.length : Int)) := by omega
    go_wp2_with (fail)
    refine (HA.out _).mono ?_
    rintro e w1 ⟨rfl, k1⟩
    go_wp2_with (fail)
    go_ret
    exact ⟨rfl, (kp.trans k1 (by simp)).below (Nat.le_refl _) (by simp)⟩
  have h2 : ¬ ((300 : Int) < (more.length : Int)) := by omega
  have HL := Lib.hid (And.intro hs hm)
  clear hs hm
  go_wp2_with (fail)
  refine (HR.out _).mono ?_
  rintro e w1 ⟨rfl, k1⟩
  have k01 := kp.trans k1 (by simp)
  have hb1 := hb.keep k1 (by simp)
  clear c0 c1 c2 c3 c4 c5 c6 k1 kp hb
  cases R
  · go_wp2_with (fail)
    refine (HA.out _).mono ?_
    rintro e w2 ⟨rfl, k2⟩
    go_wp2_with (fail)
    go_ret
    exact ⟨rfl, (k01.trans k2 (by simp)).below (Nat.le_refl _) (by simp)⟩
  have hri := HRI.out
  rw [Bool.and_eq_true] at hri
  obtain ⟨hd, hl⟩ := hri
  rw [limOk_iff] at hl
  obtain ⟨hla, hlb, hlc⟩ := hl
  obtain ⟨na, rfl⟩ : ∃ n : Nat, a = n := ⟨a.toNat, by omega⟩
  obtain ⟨nb, rfl⟩ : ∃ n : Nat, b = n := ⟨b.toNat, by omega⟩
  obtain ⟨nc, rfl⟩ : ∃ n : Nat, c = n := ⟨c.toNat, by omega⟩
  have HN := Lib.hid (fun w => new_c ⟨x, y, z⟩ hd ⟨na, nb, nc, u⟩ (by dsimp only; omega) (by dsimp only; omega) (by dsimp only; omega) w)
  have HLM := Lib.hid (show na ≤ 2147483648 ∧ nb ≤ 2147483648 ∧ nc ≤ 2147483648 from by omega)
  clear hd hla hlb hlc
  have c0 := hb1.cell_of (i := 0) rfl
  have c1 := hb1.cell_of (i := 1) rfl
  have c2 := hb1.cell_of (i := 2) rfl
  have c3 := hb1.cell_of (i := 3) rfl
  have c4 := hb1.cell_of (i := 4) rfl
  have c5 := hb1.cell_of (i := 5) rfl
  have c6 := hb1.cell_of (i := 6) rfl
  go_wp2_with (fail)
  refine (HN.out _).mono ?_
  rintro e w2 ⟨g, rfl, hRA, k2⟩
  have k02 := k01.trans k2 (by simp)
  have hw1 := k01.size
  have hRA := hRA.less (b := w.heap.size) hw1
  clear c0 c1 c2 c3 c4 c5 c6 hb1 k01 k2 HN hw1
  obtain ⟨v1, w3, hcv, ho3, k3, hbl3⟩ := run_toBytes (P := Try.prog) w2 s Try.underlying9 Try.underlying37 Try.underlying5 (by have := HL.out.1; simp only [maxLen]; omega)
  have hlg := hRA.lt
  have hg3 : s = [] ∨ ∀ x ∈ blkOf v1, x ∉ g :: ([] : List Nat) := by
    right
    intro x hx hm
    rw [hbl3] at hx
    simp only [List.mem_singleton] at hx hm
    omega
  have hbw3 : w.heap.size ≤ w3.heap.size := Nat.le_trans k02.size k3.size
  have HF1 := Lib.hid (feed_c w3 w.heap.size g 0 w3.heap.size ⟨x, y, z⟩ ⟨na, nb, nc, u⟩ (rs0 ⟨na, nb, nc, u⟩) [] v1 s hbw3 (hRA.keep k3) (Rd.ok0 _) HLM.out.1 HLM.out.2.1 HLM.out.2.2 (ho3.rd (Nat.le_refl _)) hg3 (by have := HL.out.1; simp only [rs0]; omega))
  obtain ⟨n1, hok1⟩ := feed_ok (d := ⟨x, y, z⟩) (Rd.ok0 ⟨na, nb, nc, u⟩) s
  have K03 := Lib.hid (k02.trans k3 (by simp))
  have HRA3 := Lib.hid (hRA.keep k3)
  obtain ⟨A1, cp1, rfl, _, _⟩ := ho3.form
  obtain ⟨S, hS⟩ : ∃ S, feedS ⟨x, y, z⟩ (rs0 ⟨na, nb, nc, u⟩) s = S := ⟨_, rfl⟩
  have hSf : S.fed ≤ 300 := by rw [← hS]; unfold feedS; split <;> simp [walkS, feedIn, rs0]; exact HL.out.1
  have hSh : S.handed = 0 := by rw [← hS]; unfold feedS; split <;> simp [walkS, feedIn, rs0]
  rw [hS] at HF1 hok1
  simp only [fltV] at HF1
  clear hS ho3 hbl3 hlg hg3 k02 k3 hRA
  go_wp2_with (with_reducible refine wpList_convert hcv _ rfl rfl rfl ?_)
  refine HF1.out.mono ?_
  rintro e w4 ⟨rfl, hp4⟩
  clear HF1 hcv
  obtain ⟨O4, h4, k4, n4⟩ := hp4
  have hB4 : Below w.heap.size w w4 := (K03.out.below (Nat.le_refl _) (by simp)).trans (k4.below hbw3 (fun z hz => by
    simp only [List.mem_singleton] at hz
    subst hz
    exact h4.lt.1))
  have hf9 := Blk.new w4 35 [.int .i64 S.kind, .int .i64 S.pl]
  have h5 := h4.keep (Keeps.alloc [] w4 (.cells #[.int .i64 S.kind, .int .i64 S.pl] 35))
  have hB5 := hB4.trans ((Keeps.alloc [] w4 (.cells #[.int .i64 S.kind, .int .i64 S.pl] 35)).below hB4.size (by simp))
  clear h4 k4 n4 K03 HRA3 hB4
  by_cases hk : S.kind = 0
  · have hpl := hok1.k hk
    have HB5 := Lib.hid hB5
    clear hf9 h5 hB5 hok1
    rw [hk, hpl] at HB5 ⊢
    clear hk hpl
    go_wp2_with (fail)
    refine (HA.out _).mono ?_
    rintro e w5 ⟨rfl, k5⟩
    go_wp2_with (fail)
    go_ret
    exact ⟨rfl, HB5.out.trans (k5.below HB5.out.size (by simp))⟩
  have hk2 : ((S.kind : Int) == 0) = false := by simpa using hk
  have hk3 : ¬ ((S.kind : Int) = 0) := by omega
  have H5 := Lib.hid h5
  have HF9 := Lib.hid hf9
  have HB5 := Lib.hid hB5
  have HKK := Lib.hid hk
  have HOK := Lib.hid hok1
  have q0 := hf9.cell_of (i := 0) rfl
  have q1 := hf9.cell_of (i := 1) rfl
  clear h5 hf9 hB5 hk hok1
  go_upto_region 9 with (fail)
  generalize w4.alloc (.cells #[.int .i64 S.kind, .int .i64 S.pl] 35) = w5 at *
  generalize w4.heap.size = f9 at *
  have hrb : S.recs.length ≤ 1000 := by have := HOK.out.r; have := HOK.out.f; omega
  have HCT : ∀ (w' : World) (O : List Nat) (S' : Rs), RA w' w.heap.size g ⟨x, y, z⟩ S' O → S'.handed = S.handed → S'.recs = S.recs → Calls Try.prog 12 #[.pointer (some ⟨g, 0, none⟩)] w' fun e w'' => e = .returned (.int .i64 ((S.handed + S.recs.length : Nat) : Int)) ∧ Keeps [] w' w'' := by
    intro w' O S' h e1 e2
    rw [← e1, ← e2]
    exact count_c h (by omega) (by rw [e2]; omega)
  have HOT : ∀ (w' : World) (O : List Nat) (S' : Rs), RA w' w.heap.size g ⟨x, y, z⟩ S' O → S'.kind = S.kind → S'.pl = S.pl → Calls Try.prog 13 #[.pointer (some ⟨g, 0, none⟩)] w' fun e w'' => e = .returned (.int .i64 S.pl) ∧ w'' = w' := by
    intro w' O S' h e1 e2
    have := offset_c h
    rw [if_pos (by rw [e1]; exact HKK.out), e2] at this
    exact this
  have HCT := Lib.hid HCT
  have HOT := Lib.hid HOT
  obtain ⟨N, hN⟩ : ∃ N, S.handed + S.recs.length = N := ⟨_, rfl⟩
  rw [hN] at HCT
  clear hN
  have HC5 := Lib.hid (HCT.out _ _ _ H5.out rfl rfl)
  go_wp2_with (fail)
  refine HC5.out.mono ?_
  rintro e w6 ⟨rfl, k6⟩
  have h6 := H5.out.keep k6
  have HO6 := Lib.hid (HOT.out _ _ _ h6 rfl rfl)
  have hf6 := HF9.out.keep k6 (by simp)
  have hB6 := HB5.out.trans (k6.below HB5.out.size (by simp))
  have H6 := Lib.hid h6
  have HF6 := Lib.hid hf6
  have HB6 := Lib.hid hB6
  clear h6 hf6 hB6 k6 q0 q1 HC5 H5 HF9 HB5
  go_wp2_with (fail)
  refine HO6.out.mono ?_
  rintro e w7 ⟨rfl, rfl⟩
  obtain ⟨v2, w8, hcv2, ho8, k8, hbl8⟩ := run_toBytes (P := Try.prog) w7 more Try.underlying9 Try.underlying37 Try.underlying5 (by have := HL.out.2; simp only [maxLen]; omega)
  have h8 := H6.out.keep k8
  obtain ⟨lo1, lo2, lo3⟩ := H6.out.lt
  have hg8 : more = [] ∨ ∀ z ∈ blkOf v2, z ∉ g :: O4 := by
    right
    intro z hz hm
    rw [hbl8, List.mem_singleton] at hz
    rw [List.mem_cons] at hm
    rcases hm with hm | hm
    · omega
    · have := (lo3 z hm).2; omega
  have hbw8 : w.heap.size ≤ w8.heap.size := Nat.le_trans HB6.out.size k8.size
  have HFD := Lib.hid (feed_c w8 w.heap.size g n1 w8.heap.size ⟨x, y, z⟩ ⟨na, nb, nc, u⟩ S O4 v2 more hbw8 h8 HOK.out HLM.out.1 HLM.out.2.1 HLM.out.2.2 (ho8.rd (Nat.le_refl _)) hg8 (by have := HL.out.2; omega))
  have hfs : feedS ⟨x, y, z⟩ S more = S := by unfold feedS; rw [if_pos (.inr HKK.out)]
  rw [hfs] at HFD
  simp only [fltV] at HFD
  have HF8 := Lib.hid (HF6.out.keep k8 (by simp))
  have HB8 := Lib.hid (HB6.out.trans (k8.below HB6.out.size (by simp)))
  obtain ⟨A2, cp2, rfl, _, _⟩ := ho8.form
  have HNI := Lib.hid (RA.notIn h8 HF8.out)
  have HO4L := Lib.hid (fun z (hz : z ∈ O4) => (h8.lt.2.2 z hz).1)
  clear h8 hg8 lo1 lo2 lo3 ho8 hbl8 k8 hfs HO6 H6 HF6 HB6
  go_wp2_with (with_reducible refine wpList_convert hcv2 _ rfl rfl rfl ?_)
  refine HFD.out.mono ?_
  rintro e w9 ⟨rfl, hp9⟩
  obtain ⟨O9, h9, k9, n9⟩ := hp9
  have hB9 := HB8.out.trans (k9.below hbw8 (fun z hz => by
    simp only [List.mem_cons] at hz
    rcases hz with hz | hz
    · rw [hz]; exact h9.lt.1
    · exact (HO4L.out z hz)))
  have hf9' := HF8.out.keep k9 (HNI.out)
  have ka := Keeps.alloc [] w9 (.cells #[.int .i64 S.kind, .int .i64 S.pl] 35)
  have h10 := h9.keep ka
  have hf10 := hf9'.keep ka (by simp)
  have hg10 := Blk.new w9 35 [.int .i64 S.kind, .int .i64 S.pl]
  have hB10 := hB9.trans (ka.below hB9.size (by simp))
  have HFC := Lib.hid (close_c _ w.heap.size g n1 ⟨x, y, z⟩ ⟨na, nb, nc, u⟩ S O9 hB10.size h10 HOK.out HLM.out.1 HLM.out.2.1 HLM.out.2.2 (by omega))
  have hcs : closeS ⟨x, y, z⟩ S = { S with cl := true } := by unfold closeS; rw [if_pos (.inr HKK.out)]
  rw [hcs] at HFC
  simp only [fltV] at HFC
  have HF10 := Lib.hid hf10
  have HG10 := Lib.hid hg10
  have HB10 := Lib.hid hB10
  have HN10 := Lib.hid (And.intro (RA.notIn h10 hf10) (RA.notIn h10 hg10))
  have HO9L := Lib.hid (fun z (hz : z ∈ O9) => (h9.lt.2.2 z hz).1)
  clear h9 k9 n9 hB9 hf9' ka h10 hf10 hg10 hB10 hcs HFD HF8 HB8 hcv2 HNI HO4L hbw8
  go_wp2_with (fail)
  generalize w9.alloc (.cells #[.int .i64 S.kind, .int .i64 S.pl] 35) = w10 at *
  generalize w9.heap.size = f12 at *
  refine HFC.out.mono ?_
  rintro e w11 ⟨rfl, hp11⟩
  obtain ⟨O11, h11, k11, n11⟩ := hp11
  have hB11 := HB10.out.trans (k11.below HB10.out.size (fun z hz => by
    simp only [List.mem_cons] at hz
    rcases hz with hz | hz
    · rw [hz]; exact h11.lt.1
    · exact HO9L.out z hz))
  have hf11 := HF10.out.keep k11 HN10.out.1
  have hg11 := HG10.out.keep k11 HN10.out.2
  have kb := Keeps.alloc [] w11 (.cells #[.int .i64 S.kind, .int .i64 S.pl] 35)
  have h12 := h11.keep kb
  have hf12 := hf11.keep kb (by simp)
  have hg12 := hg11.keep kb (by simp)
  have hh12 := Blk.new w11 35 [.int .i64 S.kind, .int .i64 S.pl]
  have hB12 := hB11.trans (kb.below hB11.size (by simp))
  clear h11 k11 n11 hB11 hf11 hg11 kb HFC HN10 HO9L HF10 HG10 HB10
  go_upto_region 12 with (fail)
  generalize w11.alloc (.cells #[.int .i64 S.kind, .int .i64 S.pl] 35) = w12 at *
  generalize w11.heap.size = f13 at *
  have hfl9 := hf12.lt
  have hfl12 := hg12.lt
  have hfl13 := hh12.lt
  have a0 := hf12.cell_of (i := 0) rfl
  have a1 := hf12.cell_of (i := 1) rfl
  have b0 := hg12.cell_of (i := 0) rfl
  have b1 := hg12.cell_of (i := 1) rfl
  have d0 := hh12.cell_of (i := 0) rfl
  have d1 := hh12.cell_of (i := 1) rfl
  have HFX : Hid (∀ w', Below w12.heap.size w12 w' → Calls Try.prog 15 #[.pointer (some ⟨g, 0, none⟩)] w' fun e w'' => e = .returned (.agg #[.int .i64 S.kind, .int .i64 S.pl]) ∧ Keeps [] w' w'') := Lib.hid (fun w' hb => fault_c (s := { S with cl := true }) (h12.keep (Keeps.of_below hb [])))
  have HCX := Lib.hid (fun w' (hb : Below w12.heap.size w12 w') => HCT.out w' O11 _ (h12.keep (Keeps.of_below hb [])) rfl rfl)
  have HOX : Hid (∀ w', Below w12.heap.size w12 w' → Calls Try.prog 13 #[.pointer (some ⟨g, 0, none⟩)] w' fun e w'' => e = .returned (.int .i64 S.pl) ∧ Keeps [] w' w'') := Lib.hid (fun w' hb => (HOT.out w' O11 _ (h12.keep (Keeps.of_below hb [])) rfl rfl).mono (by rintro e w'' ⟨h, rfl⟩; exact ⟨h, Keeps.refl _ _⟩))
  have HB12 := Lib.hid hB12
  clear h12 hf12 hg12 hh12 hB12 hRA hk2 hk3 hrb hSf hSh HCT HOT hbw3
  have HSS := fun w' (hb : Below (w12.heap.size) (w12) w') => ((⟨(hb.cell (p := ⟨f9, 0, none⟩) (hfl9)).trans (a0), (hb.cell (p := ⟨f9, 1, none⟩) (hfl9)).trans (a1), (hb.cell (p := ⟨f12, 0, none⟩) (hfl12)).trans (b0), (hb.cell (p := ⟨f12, 1, none⟩) (hfl12)).trans (b1), (hb.cell (p := ⟨f13, 0, none⟩) (hfl13)).trans (d0), (hb.cell (p := ⟨f13, 1, none⟩) (hfl13)).trans (d1), hb⟩) : w'.cell? ⟨f9, 0, none⟩ = some (.int .i64 S.kind) ∧ w'.cell? ⟨f9, 1, none⟩ = some (.int .i64 S.pl) ∧ w'.cell? ⟨f12, 0, none⟩ = some (.int .i64 S.kind) ∧ w'.cell? ⟨f12, 1, none⟩ = some (.int .i64 S.pl) ∧ w'.cell? ⟨f13, 0, none⟩ = some (.int .i64 S.kind) ∧ w'.cell? ⟨f13, 1, none⟩ = some (.int .i64 S.pl) ∧ Below (w12.heap.size) (w12) w')
  have HSSb : w12.heap.size ≤ (w12).heap.size := Nat.le_refl _
  go_region_held3 (fun w' => w'.cell? ⟨f9, 0, none⟩ = some (.int .i64 S.kind) ∧ w'.cell? ⟨f9, 1, none⟩ = some (.int .i64 S.pl) ∧ w'.cell? ⟨f12, 0, none⟩ = some (.int .i64 S.kind) ∧ w'.cell? ⟨f12, 1, none⟩ = some (.int .i64 S.pl) ∧ w'.cell? ⟨f13, 0, none⟩ = some (.int .i64 S.kind) ∧ w'.cell? ⟨f13, 1, none⟩ = some (.int .i64 S.pl) ∧ Below (w12.heap.size) (w12) w') (((try go_split_ands); (with_reducible apply HSS); first | (with_reducible assumption) | (with_reducible (apply bC HSSb k1; assumption)) | (with_reducible (apply bAA HSSl; assumption)) | (repeat (first | (with_reducible assumption) | (with_reducible apply Below.refl) | (with_reducible apply bS (hp := HSSb)) | (with_reducible apply bSe) | (with_reducible apply bA HSSb) | (with_reducible apply bD))))) (first | ((go_at_call 15; refine (HFX.out _ (by repeat (first | with_reducible assumption | with_reducible exact Below.refl _ _ | with_reducible apply bD | (with_reducible refine bC (Nat.le_refl _) (by assumption) ?_)))).mono ?_; rintro e w7 ⟨rfl, k1⟩)) | ((go_at_call 12; refine (HCX.out _ (by repeat (first | with_reducible assumption | with_reducible exact Below.refl _ _ | with_reducible apply bD | (with_reducible refine bC (Nat.le_refl _) (by assumption) ?_)))).mono ?_; rintro e w7 ⟨rfl, k1⟩)) | ((go_at_call 13; refine (HOX.out _ (by repeat (first | with_reducible assumption | with_reducible exact Below.refl _ _ | with_reducible apply bD | (with_reducible refine bC (Nat.le_refl _) (by assumption) ?_)))).mono ?_; rintro e w7 ⟨rfl, k1⟩)) | ((go_at_call 9; refine (HA.out _).mono ?_; rintro e w7 ⟨rfl, k1⟩)))
  all_goals go_split_ands
  all_goals
    go_wp2_with (fail)
    go_ret
    have hbz : Below w12.heap.size w12 w7 := by repeat (first | with_reducible assumption | with_reducible exact Below.refl _ _ | with_reducible apply bD | (with_reducible refine bC (Nat.le_refl _) (by assumption) ?_))
    exact ⟨rfl, HB12.out.trans (hbz.mono HB12.out.size)⟩
set_option maxRecDepth 100000 in
theorem lifted (os : Os) (started : os.Started) (H : Type) (enc : TypeId × Value → H) :
    ReturnsInHanded {} Try.checked os 3 .any (Rows.topStickySpec.pre6 enc Try.prog Try.f3 Rows.topStickyRow.domain false) (Rows.topStickySpec.post enc Try.prog Try.f3 false true false false) := by
  refine returnsInHanded_of_change_sized (C := Try.checked) own started (by kernel_rfl) Try.func3
    (ChangeSpec.witness6 (enc := enc) (C := Try.checked) false ⟨#[], #[.agg #[.int .u8 0, .int .u8 0, .int .i64 0, .int .i64 0, .int .i64 0, .int .i64 0, .bool false], .string .empty, .string .empty], []⟩ 8 (by kernel_rfl) (by kernel_rfl) (by kernel_rfl) (by kernel_rfl)) ?_
  intro W base args ds gs before hval0 hW hcnd hsz0 _
  have hval : ∀ (j : Nat) t v, Try.f3.params[j]? = some t → args[j]? = some v → Value.okWide Try.prog W .any base t v := hval0
  have hW' := hW
  obtain ⟨p, q, hA0, hV, rfl, hfz, hnd⟩ := hW
  have hA : DataW.TrodAll enc Try.prog W 0 (fun _ => true) true Try.f3.params.toList args.toList ds p := hA0
  have hsz : (DataW.weightsEach Try.prog (Try.f3.params.toList ++ Rows.topStickySpec.plain.varTypes Try.prog) (ds ++ gs)).all (· ≤ reachBytes) = true := hsz0
  rw [Try.params3] at hA hval hsz
  obtain ⟨v0, vs0, d0, ds0, p0, q0, hargs, rfl, rfl, k0, r0⟩ := trodAll_cons hA
  obtain ⟨v1, vs1, d1, ds1, p1, q1, rfl, rfl, rfl, k1, r1⟩ := trodAll_cons r0
  obtain ⟨v2, vs2, d2, ds2, p2, q2, rfl, rfl, rfl, k2, r2⟩ := trodAll_cons r1
  obtain ⟨rfl, rfl, rfl⟩ := trodAll_nil r2
  obtain rfl : args = #[v0, v1, v2] := by cases args; simp_all
  obtain ⟨rfl, rfl⟩ := trodVars_none hV
  have lt0 := Trod_lt k0
  have lt1 := Trod_lt k1
  have lt2 := Trod_lt k2
  obtain ⟨x0, y0, z0, la0, lb0, lc0, lu0, rfl⟩ := Trod_way (hval 0 27 v0 rfl rfl) k0
  obtain ⟨l1, rfl, hl1⟩ := Trod_str Try.underlying9 (hval 1 9 v1 rfl rfl) k1 (wt_of hsz (j := 1) rfl rfl)
  obtain ⟨l2, rfl, hl2⟩ := Trod_str Try.underlying9 (hval 2 9 v2 rfl rfl) k2 (wt_of hsz (j := 2) rfl rfl)
  clear hA0 hval0 hsz0
  refine (walk ⟨x0, y0, z0⟩ la0 lb0 lc0 lu0 l1 l2 W).mono fun e W' ⟨he, bel⟩ => ?_
  subst he
  exact ⟨_, rfl, _, _, _, [], _, [], hW', trodAll_mk1 (shut_bool Try.underlying4 _), (trodAll_cons_mk (Below.trod laidOut (by kernel_rfl) (of_decide_eq_true (by kernel_rfl)) k0 bel lt0) (trodAll_cons_mk (Below.trod laidOut (by kernel_rfl) (of_decide_eq_true (by kernel_rfl)) k1 bel lt1) (trodAll_cons_mk (Below.trod laidOut (by kernel_rfl) (of_decide_eq_true (by kernel_rfl)) k2 bel lt2) trodAll_mk0))), rfl, bel.frame _, fun h => by cases h⟩

theorem proved : Rows.TopStickySaid :=
  OpenClaim.holds_of_wide 3 Try.f3 rfl rfl rfl rfl rfl rfl rfl ⟨rfl, rfl, rfl, rfl, rfl⟩ rfl rfl rfl rfl rfl (by kernel_rfl) Try.func3 (by kernel_rfl)
    (of_decide_eq_true (by kernel_rfl)) (by unfold Func.isWrapper; first | (rw [if_pos (by decide +kernel)]; kernel_rfl) | (rw [if_neg (by decide +kernel)]; exact ⟨rfl, rfl⟩))
    (fun os started H enc _ => lifted os started H enc)
end Go.Proofs.Ytbjejmdbpikgjaa.TopStickyP
namespace Go.Proofs.Ytbjejmdbpikgjaa
theorem topSticky_holds : Rows.TopStickySaid := TopStickyP.proved
#print axioms topSticky_holds
end Go.Proofs.Ytbjejmdbpikgjaa
