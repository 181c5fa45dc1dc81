/- The document's reader of layer 6: add, width, whole. -/
import Derived.Test.YtcmoldondflilaaRdr
namespace Go.Proofs.Ytcmoldondflilaa.Rdr
set_option linter.unusedVariables false
set_option linter.unusedSimpArgs false
set_option maxRecDepth 100000
open Go.RowKit Q Mach Dia Gram
attribute [local go_sem ↓] Go.wp_at_zero Go.wp_at_succ

theorem infoStr : (Try.prog.info? 9).map (fun i => (i.zero, i.size, i.bytes)) = some (some (.string ⟨#[]⟩), 1, 16) := by kernel_rfl
theorem infoStrs : (Try.prog.info? 24).map (fun i => (i.zero, i.size, i.bytes)) = some (some (.slice none 0 0), 1, 24) := by kernel_rfl
theorem infoInt : (Try.prog.info? 3).map (fun i => (i.zero, i.size, i.bytes)) = some (some (.int .i64 0), 1, 8) := by kernel_rfl
def addP (l : Lim) (s : Bs) (st : R6) (f : Bs) (p : Nat) : R6 × Bs × Bool := if f.length == l.field then (st.wr 7 p, f, false) else (st, f ++ [s.getD p 0], true)
set_option maxHeartbeats 1000000 in
theorem add_c (w : World) (base g : Nat) (d : Dia) (l : Lim) (s : Bs) (st : R6) (h : RAt w base g d l s st) (hs : s.length ≤ 100000) (hk : st.kind = 0) (f : Bs) (hf : f.length ≤ 100000) (p : Nat) (hp : p < s.length) (P : Int) (hP : (p : Int) = P) :
    Calls Try.prog 88 #[.pointer (some ⟨g, 0, none⟩), sv f, .int .i64 P] w fun r w' => r = .returned (.tuple #[sv (addP l s st f p).2.1, .bool (addP l s st f p).2.2]) ∧ Post base g d l s (addP l s st f p).1 w w' := by
  have HWR := Lib.hid (wrong_c w base g d l s st h hk 7 p 7 P rfl hP)
  have HH := Lib.hid h
  have hcat : ∀ x y : List UInt8, (ByteArray.mk x.toArray ++ ByteArray.mk y.toArray) = ⟨(x ++ y).toArray⟩ := cat_mk
  obtain ⟨vr, vR, vs, vE, h'⟩ := h
  have c3 := h'.c (i := 3) rfl
  have c7 := h'.c (i := 7) rfl
  clear h'
  subst hP
  unfold addP
  have hg : s.getD p 0 = s[p] := by simp [List.getD, List.getElem?_eq_getElem hp]
  rw [hg]
  have hsl : ∀ w, (Instr.sliceAt 9 (sv s) (some (.int .i64 (p : Int))) (some (.int .i64 ((p : Int) + 1))) none).run Try.prog w = .ok (sv [s[p]]) w := by
    intro w
    have h := run_strMid (P := Try.prog) Try.underlying9 s p (p + 1) (by omega) (by omega) w
    rw [List.drop_take, List.drop_eq_getElem_cons hp, Nat.add_sub_cancel_left] at h
    exact h
  have he : ((f.length : Int) == (l.field : Int)) = (f.length == l.field) := by rw [Bool.eq_iff_iff, beq_iff_eq, beq_iff_eq]; omega
  have hp0 : (0 : Int) ≤ (p : Int) := by omega
  have hp1 : (p : Int) ≤ 100000 := by omega
  generalize s[p] = y at *
  clear hg hp hs hk
  generalize (f.length == l.field) = e at *
  cases e
  · go_enter Try.func88, Try.ntmps88
    go_wp2_with (refine wpList_slice (hsl _) _ _ _ _ rfl rfl rfl rfl rfl rfl ?_)
    go_ret2
    exact ⟨rfl, HH.out, Below.refl _ _⟩
  · go_enter Try.func88, Try.ntmps88
    go_wp2_with (fail)
    refine HWR.out.mono ?_
    rintro r w2 ⟨rfl, hp⟩
    go_wp2_with (fail)
    go_ret2
    exact ⟨rfl, hp⟩
/-- How many fields the records have that must be. -/
def R6.u (l : Lim) (st : R6) : Option Nat := uni l (st.recs.head?.map List.length)
def widP (l : Lim) (st : R6) (p : Nat) : R6 × Bool := if bad (st.u l) st.row.length then (st.wr 10 p, false) else (st, true)
set_option maxHeartbeats 2000000 in
theorem width_c (w : World) (base g : Nat) (d : Dia) (l : Lim) (s : Bs) (st : R6) (h : RAt w base g d l s st) (hk : st.kind = 0) (p : Nat) (P : Int) (hP : (p : Int) = P) :
    Calls Try.prog 81 #[.pointer (some ⟨g, 0, none⟩), .int .i64 P] w fun r w' => r = .returned (.bool (widP l st p).2) ∧ Post base g d l s (widP l st p).1 w w' ∧ ((widP l st p).2 = true → ∃ m, w' = w.drewN m) := by
  have HD := Lib.hid (fun m => h.keep (Keeps.drewN [] w m))
  have HWR := Lib.hid (fun m => wrong_c (w.drewN m) base g d l s st (HD.out m) hk 10 p 10 P rfl hP)
  obtain ⟨vr, vR, vs, vE, h'⟩ := h
  subst hP
  obtain ⟨A, cr, rfl, hn1, hx1⟩ := h'.row.form
  have ht := h'.recs.tbl (B := w.heap.size) (Nat.le_refl _)
  obtain ⟨AR, cR, rfl, hn2, hx2⟩ := ht.form
  have c6 := h'.c (i := 6) rfl
  have c10 := h'.c (i := 10) rfl
  have c11 := h'.c (i := 11) rfl
  clear h'
  unfold maxLen at hx1 hx2
  obtain ⟨X, hX⟩ : ∃ X, widP l st p = X := ⟨_, rfl⟩
  rw [hX]
  unfold limC at c6
  clear hk
  cases hu : l.uniform
  · rw [hu] at c6
    have HX : Hid (X = (st, true)) := Lib.hid (by rw [← hX]; simp [widP, R6.u, uni, hu, bad])
    simp only [Bool.false_eq_true, if_false] at c6
    clear hX hu
    go_enter Try.func81, Try.ntmps81
    go_wp2_with (fail)
    go_quiet (fail)
    go_wp2_with (fail)
    go_ret
    refine ⟨by rw [HX.out]; rfl, ?_⟩
    rw [HX.out]
    first | exact ⟨⟨HD.out _, below_of_drewN _ _ _⟩, fun _ => ⟨_, rfl⟩⟩ | exact ⟨⟨HD.out _, below_of_drewN _ _ _⟩, ⟨_, rfl⟩⟩ | exact ⟨HD.out _, below_of_drewN _ _ _⟩
  rw [hu] at c6
  simp only [if_true] at c6
  cases hrec : st.recs with
  | nil =>
    have HX : Hid (X = (st, true)) := Lib.hid (by rw [← hX]; simp [widP, R6.u, uni, hu, bad, hrec])
    rw [hrec] at c11 hn2 ht
    have hd : decide (0 < (([] : Tb).length : Int)) = false := by decide
    have hd2 : decide (0 < ([] : Tb).length) = false := by decide
    clear ht hrec hX hu
    go_enter Try.func81, Try.ntmps81
    go_wp2_with (fail)
    go_quiet (fail)
    go_wp2_with (fail)
    go_ret
    refine ⟨by rw [HX.out]; rfl, ?_⟩
    rw [HX.out]
    first | exact ⟨⟨HD.out _, below_of_drewN _ _ _⟩, fun _ => ⟨_, rfl⟩⟩ | exact ⟨⟨HD.out _, below_of_drewN _ _ _⟩, ⟨_, rfl⟩⟩ | exact ⟨HD.out _, below_of_drewN _ _ _⟩
  | cons r0 rest =>
    have hX2 : (if (st.row.length != r0.length) then (st.wr 10 p, false) else (st, true)) = X := by rw [← hX]; simp [widP, R6.u, uni, hu, bad, hrec]
    rw [hrec] at c11 hn2 ht
    obtain ⟨b1, o1, A', c', rfl, hb1, hc1, _⟩ := ht.at_ (k := 0) (by simp)
    simp only [List.getElem_cons_zero, Nat.add_zero] at hc1
    have hd : decide (0 < (((r0 :: rest) : Tb).length : Int)) = true := by simp
    have hd2 : decide (0 < ((r0 :: rest) : Tb).length) = true := by simp
    have hlen : (0 : Int) < (((r0 :: rest) : Tb).length : Int) := by simp
    have he : ((st.row.length : Int) != (r0.length : Int)) = (st.row.length != r0.length) := by rw [Bool.eq_iff_iff, bne_iff_ne, bne_iff_ne]; omega
    generalize hls : ((r0 :: rest) : Tb).length = n at *
    clear ht hrec hls hX hu
    cases hq : (st.row.length != r0.length)
    · rw [hq] at he hX2
      have HX : Hid (X = (st, true)) := Lib.hid (by rw [← hX2]; rfl)
      clear hX2 hq
      go_enter Try.func81, Try.ntmps81
      go_wp2_with (fail)
      go_quiet (fail)
      go_wp2_with (fail)
      go_ret
      refine ⟨by rw [HX.out]; rfl, ?_⟩
      rw [HX.out]
      first | exact ⟨⟨HD.out _, below_of_drewN _ _ _⟩, fun _ => ⟨_, rfl⟩⟩ | exact ⟨⟨HD.out _, below_of_drewN _ _ _⟩, ⟨_, rfl⟩⟩ | exact ⟨HD.out _, below_of_drewN _ _ _⟩
    · rw [hq] at he hX2
      have HX : Hid (X = (st.wr 10 p, false)) := Lib.hid (by rw [← hX2]; rfl)
      clear hX2 hq
      go_enter Try.func81, Try.ntmps81
      go_wp2_with (fail)
      go_quiet (fail)
      go_wp2_with (fail)
      refine (HWR.out _).mono ?_
      rintro r w2 ⟨rfl, hp⟩
      go_wp2_with (fail)
      go_ret
      refine ⟨by rw [HX.out]; rfl, ?_⟩
      rw [HX.out]
      first | exact ⟨hp.1, (below_of_drewN _ _ _).trans hp.2⟩ | exact ⟨⟨hp.1, (below_of_drewN _ _ _).trans hp.2⟩, fun h => absurd h (by simp)⟩
def R6.whole (st : R6) (p : Nat) : R6 := { st with recs := st.recs ++ [st.row], ends := st.ends ++ [p], row := [] }
set_option maxHeartbeats 2000000 in
theorem whole_c (w : World) (base g : Nat) (d : Dia) (l : Lim) (s : Bs) (st : R6) (h : RAt w base g d l s st) (hl1 : st.recs.length ≤ 200000) (hl2 : st.ends.length ≤ 200000) (p : Nat) (P : Int) (hP : (p : Int) = P) :
    Calls Try.prog 82 #[.pointer (some ⟨g, 0, none⟩), .int .i64 P] w fun r w' => r = .returned (.tuple #[]) ∧ Post base g d l s (st.whole p) w w' := by
  obtain ⟨iS, hiS, hS0, hS1, hS2⟩ := info_parts infoStrs
  obtain ⟨iI, hiI, hI0, hI1, hI2⟩ := info_parts infoInt
  obtain ⟨vr, vR, vs, vE, h⟩ := h
  subst hP
  have HF := Lib.hid h
  obtain ⟨A, cr, rfl, hn1, hx1⟩ := h.row.form
  have c10 := h.c (i := 10) rfl
  have c11 := h.c (i := 11) rfl
  have hgl := h.blk.lt
  have hvl := h.recs.1
  -- the first append
  have kA : Keeps [] w (w.alloc (.cells #[.slice A st.row.length cr] 24)).drew := (Keeps.alloc [] w _).drew1
  have hownD : Own (w.alloc (.cells #[.slice A st.row.length cr] 24)).drew base 24 1 vR st.recs.length vs := h.recs.2.1.keep kA (by simp)
  have hsrc : Src Try.prog (w.alloc (.cells #[.slice A st.row.length cr] 24)).drew 26 24 1 (.slice (some ⟨w.heap.size, 0, none⟩) 1 1) 1 [.slice A st.row.length cr] := src_one w (.slice A st.row.length cr) 1 Try.underlying26
  obtain ⟨v', w2, hap, hown2, k2, hb2⟩ := run_append (P := Try.prog) (ty := 26) Try.underlying26 hiS hS0 hS1 hS2 rfl hownD hsrc (by simp [Value.oneCell']) (by simp only [maxLen]; omega) (by omega) (by have := h.low; simp; omega)
  obtain ⟨A', c', rfl, _, _⟩ := hown2.form
  have k02 : Keeps (blkOf vR) w w2 := (kA.sub (F' := blkOf vR) (by simp)).trans k2 (fun x h _ => h)
  have hgR : ∀ x ∈ blkOf vR, x ≠ g := fun x hx => h.recG x (by simp [tblks, hx])
  have hblk2 := h.blk.keep k02 (fun hm => hgR _ hm rfl)
  have hrow2 := h.row.keep k02 (fun x hx hm => h.row.apart h.recs.2.1 (by decide) x hx hm)
  have hends2 := h.ends.keep k02 (fun x hx hm => h.ends.apart h.recs.2.1 (by decide) x hx hm)
  have hrecs2 : OTb w2 base 24 9 (.slice A' (st.recs.length + 1) c') (vs ++ [.slice A st.row.length cr]) (st.recs ++ [st.row]) := by
    refine (h.recs.push (by decide) h.row ?_ k02)
    simpa using hown2
  have g2l := hblk2.lt
  have d11 := hblk2.cell_of (i := 11) rfl
  have e11 := hblk2.frozen (i := 11) (by simp [r6C])
  -- behind the store
  have k23 : Keeps [g] w2 (w2.setCell ⟨g, 11, none⟩ (.slice A' (st.recs.length + 1) c')) := Keeps.setCell w2 ⟨g, 11, none⟩ _
  have hg2 : ∀ x ∈ tblks (.slice A' (st.recs.length + 1) c') (vs ++ [.slice A st.row.length cr]), x ≠ g := by
    intro x hx
    simp only [tblks, List.mem_append, List.mem_flatMap] at hx
    rcases hx with hx | ⟨u, hu, hx⟩
    · rcases hb2 x hx with h1 | h1
      · exact hgR x h1
      · simp at h1; omega
    · rcases hu with hu | hu
      · exact h.recG x (by simp only [tblks, List.mem_append, List.mem_flatMap]; exact .inr ⟨u, hu, hx⟩)
      · simp at hu; subst hu; exact h.rowG x hx
  have hblk3 := hblk2.set_ 11 (.slice A' (st.recs.length + 1) c')
  have hrecs3 := hrecs2.keep k23 (fun x hx hm => by simp at hm; exact hg2 x hx hm)
  have hends3 := hends2.keep k23 (fun x hx hm => by simp at hm; exact h.endG x hx hm)
  have hlow := h.low
  have hvR := h.recs.2.1.lt
  have hb03 : Below base w (w2.setCell ⟨g, 11, none⟩ (.slice A' (st.recs.length + 1) c')) := (k02.below (by omega) (fun x hx => (hvR x hx).1)).trans (k23.below (by omega) (by simpa using hlow))
  have hrow3 : ∀ x ∈ blkOf (.slice A st.row.length cr), x ∉ blkOf (.slice none 0 0) := by simp [blkOf]
  have hsz3 : (w2.setCell ⟨g, 11, none⟩ (.slice A' (st.recs.length + 1) c')).heap.size = w2.heap.size := by simp
  -- the second append
  obtain ⟨v4, w4, hap2, hown4, k34, hb4⟩ := run_append1 (P := Try.prog) (w := w2.setCell ⟨g, 11, none⟩ (.slice A' (st.recs.length + 1) c')) (y := .int .i64 (p : Int)) Try.underlying98 hiI hI0 hI1 hI2 rfl hends3 rfl (by simp only [maxLen]; omega) (by omega) (by rw [hsz3]; omega) 98
  rw [hsz3] at hap2 hb4
  obtain ⟨A4, c4, rfl, _, _⟩ := hown4.form
  have hEG := h.endG
  have hblk4 := hblk3.keep k34 (fun hm => hEG _ hm rfl)
  have hrecs4 := hrecs3.keep k34 (by
    intro x hx hm
    simp only [tblks, List.mem_append, List.mem_flatMap] at hx
    rcases hx with hx | ⟨u, hu, hx⟩
    · exact hends3.apart hrecs3.2.1 (by decide) x hm hx
    · rcases hu with hu | hu
      · exact (h.rowsOff x (by simp only [List.mem_flatMap]; exact ⟨u, hu, hx⟩)).2 hm
      · simp at hu; subst hu; exact h.row.apart h.ends (by decide) x hx hm)
  have g4l := hblk4.lt
  have d12 := hblk3.cell_of (i := 12) (u := vE) (by simp [r6C])
  have e12 := hblk4.frozen (i := 12) (by simp [r6C])
  have e10 := hblk4.frozen (i := 10) (by simp [r6C])
  have d10' := hblk4.cell_of (i := 10) (u := .slice A st.row.length cr) (by simp [r6C])
  have d12' := hblk4.cell_of (i := 12) (u := vE) (by simp [r6C])
  -- the end
  have k45 : Keeps [g] w4 ((w4.setCell ⟨g, 12, none⟩ (.slice A4 (st.ends.length + 1) c4)).setCell ⟨g, 10, none⟩ (.slice none 0 0)) := (Keeps.setCell w4 ⟨g, 12, none⟩ (.slice A4 (st.ends.length + 1) c4)).set1 _ _ (by simp)
  have hblk5 := (hblk4.set_ 12 (.slice A4 (st.ends.length + 1) c4)).set_ 10 (.slice none 0 0)
  have hrecs5 := hrecs4.keep k45 (fun x hx hm => by simp at hm; exact hg2 x hx hm)
  have hends5 : Own ((w4.setCell ⟨g, 12, none⟩ (.slice A4 (st.ends.length + 1) c4)).setCell ⟨g, 10, none⟩ (.slice none 0 0)) base 3 1 (.slice A4 (st.ends.length + 1) c4) (st.ends.length + 1) (st.ends.map (fun (n : Nat) => Value.int .i64 (n : Int)) ++ [.int .i64 (p : Int)]) := hown4.keep k45 (fun x hx hm => by simp at hm; rcases hb4 x hx with h1 | h1; exact hEG x h1 hm; omega)
  have hvE := h.ends.lt
  have hb05 : Below base w ((w4.setCell ⟨g, 12, none⟩ (.slice A4 (st.ends.length + 1) c4)).setCell ⟨g, 10, none⟩ (.slice none 0 0)) := (hb03.trans (k34.below (by rw [hsz3]; omega) (fun x hx => (hvE x hx).1))).trans (k45.below (by omega) (by simpa using hlow))
  have H1 : Hid (RP ((w4.setCell ⟨g, 12, none⟩ (.slice A4 (st.ends.length + 1) c4)).setCell ⟨g, 10, none⟩ (.slice none 0 0)) base g d l s (st.whole p) (.slice none 0 0) (.slice A' (st.recs.length + 1) c') (vs ++ [.slice A st.row.length cr]) (.slice A4 (st.ends.length + 1) c4)) := Lib.hid (by
    refine ⟨?_, hlow, Own.nil_ _ _ _ _, hrecs5, ?_, by simp [blkOf]⟩
    · simpa [r6C, R6.whole] using hblk5
    · simpa [R6.whole] using hends5)
  have H2 := Lib.hid hb05
  clear hownD hsrc hown2 k2 hb2 hiS hS0 hS1 hS2 hblk2 hrow2 hends2 hrecs2 k23 hg2 hblk3 hrecs3 hends3 hb03 hrow3 kA k02 hgR hvR h hvl hiI hI0 hI1 hI2 hown4 k34 hb4 hEG hblk4 hrecs4 k45 hblk5 hrecs5 hends5 hvE hb05 hsz3 HF
  go_enter Try.func82, Try.ntmps82
  go_wp2_with (fail)
  go_region_law (first | (refine stepApp hap _ _ rfl rfl rfl rfl rfl ?_))
  all_goals go_wp2_with (refine wpList_append hap2 _ _ rfl rfl rfl rfl rfl ?_)
  all_goals
    go_end0
    exact ⟨rfl, ⟨_, _, _, _, H1.out⟩, H2.out⟩
end Go.Proofs.Ytcmoldondflilaa.Rdr
