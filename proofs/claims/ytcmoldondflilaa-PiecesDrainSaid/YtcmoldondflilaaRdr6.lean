/- The document's reader of layer 6: Read. -/
import Derived.Test.YtcmoldondflilaaRdr5
namespace Go.Proofs.Ytcmoldondflilaa.Rdr
set_option linter.unusedVariables false
set_option linter.unusedSimpArgs false
set_option maxRecDepth 100000
open Go.RowKit Q Mach Dia Gram
attribute [local go_sem ↓] Go.wp_at_zero Go.wp_at_succ
section plain
variable {d : Dia} {l : Lim} {s : Bs}
theorem line_to {u : Option Nat} {begun i : Nat} {row : Row} {e i' : Nat} (hi : i < s.length) (h10 : atB s i 10 = false) (h13 : atB s i 13 = false) (h : lineG d l u begun s i = .ok row e i') : i < i' ∧ i' ≤ s.length := by
  unfold lineG at h
  split at h
  · cases h
  · obtain ⟨x, hx⟩ : ∃ x, fieldsG d l u ((s.drop i).length + 1) (s.drop i) i [] = x := ⟨_, rfl⟩
    have hto := fields_to d l u s ((s.drop i).length + 1) i [] (by omega) (by omega)
    simp only [hx] at hto h
    split at h
    · cases h
    · rename_i hk
      obtain ⟨h1, h2, h3⟩ := hto (by simpa using hk)
      unfold tailG at h
      split at h
      · rename_i he
        split at h
        · cases h
        · injection h with a b c; omega
      · split at h
        · split at h
          · cases h
          · split at h
            · cases h
            · injection h with a b c; omega
        · split at h
          · cases h
          · split at h
            · cases h
            · split at h
              · rename_i ha
                have := at_lt ha
                injection h with a b c; omega
              · cases h
theorem tail_bad {u : Option Nat} {row : Row} {i k p : Nat} (h : tailG d u s row i = .bad k p) : k ≠ 0 := by
  unfold tailG at h
  repeat' split at h
  all_goals first | (injection h with a b; omega) | (cases h; done)
theorem line_bad {u : Option Nat} {begun i : Nat} {k p : Nat} (h : lineG d l u begun s i = .bad k p) : k ≠ 0 := by
  unfold lineG at h
  split at h
  · injection h with a b; omega
  · dsimp only at h
    split at h
    · rename_i hk
      injection h with a b
      rw [← a]
      simpa using hk
    · exact tail_bad h
def R6.glue (st : R6) (g : G) : G := ⟨st.recs ++ g.recs, st.ends ++ g.ends, g.kind, g.pl⟩
def R6.first (st : R6) : Option Nat := st.recs.head?.map List.length
theorem R6.firstOf (recs : Tb) (row : Row) : Gram.firstOf (recs.head?.map List.length) row.length = (recs ++ [row]).head?.map List.length := by cases recs <;> rfl
end plain
/-- Where the reading stands. -/
def RRel (base g : Nat) (d : Dia) (l : Lim) (s : Bs) (X : G) (w wr : World) (st : R6) : Prop :=
  RAt wr base g d l s st ∧ Below base w wr ∧
  ((st.kind ≠ 0 ∧ X = ⟨st.recs, st.ends, st.kind, st.pl⟩) ∨
   (st.kind = 0 ∧ st.pl = 0 ∧ st.row = [] ∧ st.i ≤ s.length ∧ st.begun ≤ st.i ∧ st.recs.length ≤ st.i ∧ st.ends.length ≤ st.i ∧ ∃ n, (s.drop st.i).length < n ∧ st.glue (readG d l n st.begun (st.recs.head?.map List.length) (s.drop st.i) st.i) = X))
def measR (s : Bs) (w : World) (g : Nat) : Nat := if cellI w g 13 = 0 then s.length + 1 - cellI w g 8 else 0
theorem measR_of {w : World} {base g : Nat} {d : Dia} {l : Lim} {s : Bs} {st : R6} (h : RAt w base g d l s st) : measR s w g = if st.kind = 0 then s.length + 1 - st.i else 0 := by
  obtain ⟨vr, vR, vs, vE, h⟩ := h
  have c8 := h.c (i := 8) rfl
  have c13 := h.c (i := 13) rfl
  unfold measR
  rw [cellI_of c8, cellI_of c13]
/-- A line was read. -/
theorem RRel.line {base g : Nat} {d : Dia} {l : Lim} {s : Bs} {X : G} {w w1 w2 : World} {st st' : R6} (hs : s.length ≤ 100000) (h : RRel base g d l s X w w1 st) (hk : st.kind = 0) (hlt : st.i < s.length) (h10 : atB s st.i 10 = false) (h13 : atB s st.i 13 = false)
    (hp : Post base g d l s st' w1 w2) (hl : LPost st st' (lineG d l (st.u l) st.begun s st.i)) : RRel base g d l s X w w2 st' ∧ (if st'.kind = 0 then s.length + 1 - st'.i else 0) < s.length + 1 - st.i := by
  obtain ⟨hR, hB, hX⟩ := h
  rcases hX with ⟨h1, _⟩ | ⟨_, h2, h3, h4, h5, h6, h7, n, hn, hX⟩
  · exact absurd hk h1
  obtain ⟨n, rfl⟩ : ∃ m, n = m + 1 := ⟨n - 1, by omega⟩
  rw [read_line d l n st.begun _ s st.i hlt h10 h13] at hX
  unfold R6.u at hl
  cases hO : lineG d l (uni l (st.recs.head?.map List.length)) st.begun s st.i with
  | bad k p =>
    rw [hO] at hl hX
    obtain ⟨e1, e2, e3, e4⟩ := hl
    have hk0 := line_bad hO
    refine ⟨⟨hp.1, hB.trans hp.2, .inl ⟨by rw [e1]; exact hk0, ?_⟩⟩, ?_⟩
    · rw [← hX, e1, e2, e3, e4]
      simp [LO.go, R6.glue, G.wrong]
    · rw [if_neg (by rw [e1]; exact hk0)]; omega
  | ok row e i' =>
    rw [hO] at hl hX
    obtain ⟨h8, h9⟩ := line_to hlt h10 h13 hO
    have hl : st' = { st with i := i', begun := st.begun + 1, row := [], recs := st.recs ++ [row], ends := st.ends ++ [e] } := hl
    subst hl
    refine ⟨⟨hp.1, hB.trans hp.2, .inr ⟨hk, h2, rfl, h9, by simp only; omega, by simp; omega, by simp; omega, n, ?_, ?_⟩⟩, ?_⟩
    · simp at hn ⊢; omega
    · rw [← hX]
      simp only [LO.go, R6.glue, G.cons, R6.firstOf, List.append_assoc, List.singleton_append]
    · simp only [hk, if_true]; omega
/-- An empty line was read. -/
theorem RRel.feed {base g : Nat} {d : Dia} {l : Lim} {s : Bs} {X : G} {w w1 : World} {st : R6} (h : RRel base g d l s X w w1 st) (hk : st.kind = 0) (hlt : st.i < s.length) (he : (atB s st.i 10 || atB s st.i 13) = true) :
    ((feedP d s st).2 = 0 ∧ X = ⟨st.recs, st.ends, 6, st.i⟩ ∧ (feedP d s st).1 = st.wr 6 st.i) ∨
    ((feedP d s st).2 = 1 ∧ (feedP d s st).1 = st ∧ ∃ n, (s.drop (st.i + 1)).length < n ∧ st.glue (readG d l n st.begun (st.recs.head?.map List.length) (s.drop (st.i + 1)) (st.i + 1)) = X) ∨
    ((feedP d s st).2 = 2 ∧ (feedP d s st).1 = st ∧
      ((atB s (st.i + 1) 10 = false ∧ X = ⟨st.recs, st.ends, 6, st.i + 1⟩) ∨ (atB s (st.i + 1) 10 = true ∧ ∃ n, (s.drop (st.i + 2)).length < n ∧ st.glue (readG d l n st.begun (st.recs.head?.map List.length) (s.drop (st.i + 2)) (st.i + 2)) = X))) := by
  obtain ⟨hR, hB, hX⟩ := h
  rcases hX with ⟨h1, _⟩ | ⟨_, h2, h3, h4, h5, h6, h7, n, hn, hX⟩
  · exact absurd hk h1
  obtain ⟨n, rfl⟩ : ∃ m, n = m + 1 := ⟨n - 1, by omega⟩
  unfold feedP
  simp at hn
  cases h10 : atB s st.i 10
  · rw [h10] at he
    rw [Bool.false_or] at he
    rw [read_cr d l n st.begun _ s st.i h10 he] at hX
    cases hf : (d.fin == 1)
    · rw [hf] at hX
      refine .inr (.inr ⟨rfl, rfl, ?_⟩)
      cases h2 : atB s (st.i + 1) 10
      · rw [h2] at hX
        refine .inl ⟨rfl, ?_⟩
        rw [← hX]; simp [R6.glue, G.wrong]
      · rw [h2] at hX
        refine .inr ⟨rfl, n, by simp; omega, ?_⟩
        simpa using hX
    · rw [hf] at hX
      refine .inl ⟨rfl, ?_, rfl⟩
      rw [← hX]; simp [R6.glue, G.wrong]
  · rw [read_feed d l n st.begun _ s st.i h10] at hX
    cases hf : (d.fin == 2)
    · rw [hf] at hX
      refine .inr (.inl ⟨rfl, rfl, n, by simp; omega, ?_⟩)
      simpa using hX
    · rw [hf] at hX
      refine .inl ⟨rfl, ?_, rfl⟩
      rw [← hX]; simp [R6.glue, G.wrong]
abbrev rlmV (l : Lim) : Value := .agg #[.int .i64 l.field, .int .i64 l.fields, .int .i64 l.records, .int .i64 (limC l)]
def ReadP (g : G) (w : World) (e : Ending) (w' : World) : Prop :=
  ∃ vR vs vE, e = .returned (.agg #[vR, vE, .int .i64 g.kind, .int .i64 g.pl]) ∧ OTb w' w.heap.size 24 9 vR vs g.recs ∧ Own w' w.heap.size 3 1 vE g.ends.length (g.ends.map fun (n : Nat) => Value.int .i64 (n : Int)) ∧ Keeps [] w w'
set_option maxRecDepth 100000 in
set_option maxHeartbeats 2000000 in
theorem read_c (w : World) (d : Dia) (l : Lim) (s : Bs) (hs : s.length ≤ 100000) :
    Calls Try.prog 52 #[rdiaV d, rlmV l, sv s] w (ReadP (readAll d l s) w) := by
  obtain ⟨X, hX⟩ : ∃ X, readAll d l s = X := ⟨_, rfl⟩
  rw [hX]
  have HX := Lib.hid hX
  clear hX
  go_enter Try.func52, Try.ntmps52
  go_wp2_with (fail)
  generalize hw3 : ((w.alloc (.cells #[.int .i64 d.delim.toNat, .int .i64 d.quote.toNat, .int .i64 d.fin] 33)).alloc (.cells #[.int .i64 l.field, .int .i64 l.fields, .int .i64 l.records, .int .i64 (limC l)] 43)).alloc (.cells #[.slice none 0 0, .slice none 0 0, .int .i64 0, .int .i64 0] 100) = w3
  have hsz : w3.heap.size = w.heap.size + 1 + 1 + 1 := by rw [← hw3]; simp
  have hk3 : Keeps [] w w3 := by rw [← hw3]; exact ((Keeps.alloc [] w _).alloc1 _).alloc1 _
  have hres : Blk w3 (w.heap.size + 1 + 1) 100 [.slice none 0 0, .slice none 0 0, .int .i64 0, .int .i64 0] := by
    rw [← hw3]
    have := Blk.new ((w.alloc (.cells #[.int .i64 d.delim.toNat, .int .i64 d.quote.toNat, .int .i64 d.fin] 33)).alloc (.cells #[.int .i64 l.field, .int .i64 l.fields, .int .i64 l.records, .int .i64 (limC l)] 43)) 100 [.slice none 0 0, .slice none 0 0, .int .i64 0, .int .i64 0]
    simpa using this
  rw [← hsz]
  have hst0 : RAt (w3.alloc (.cells #[.int .i64 d.delim.toNat, .int .i64 d.quote.toNat, .int .i64 d.fin, .int .i64 l.field, .int .i64 l.fields, .int .i64 l.records, .int .i64 (limC l), sv s, .int .i64 0, .int .i64 0, .slice none 0 0, .slice none 0 0, .slice none 0 0, .int .i64 0, .int .i64 0] 119)) w3.heap.size w3.heap.size d l s ⟨0, 0, [], [], [], 0, 0⟩ :=
    ⟨.slice none 0 0, .slice none 0 0, [], .slice none 0 0, Blk.new _ _ _, Nat.le_refl _, Own.nil_ _ _ _ _, OTb.nil_ _ _ _ _, Own.nil_ _ _ _ _, by simp [blkOf]⟩
  have h0 : RRel w3.heap.size w3.heap.size d l s X w3 (w3.alloc (.cells #[.int .i64 d.delim.toNat, .int .i64 d.quote.toNat, .int .i64 d.fin, .int .i64 l.field, .int .i64 l.fields, .int .i64 l.records, .int .i64 (limC l), sv s, .int .i64 0, .int .i64 0, .slice none 0 0, .slice none 0 0, .slice none 0 0, .int .i64 0, .int .i64 0] 119)) ⟨0, 0, [], [], [], 0, 0⟩ := by
    refine ⟨hst0, (Below.refl _ _).alloc (Nat.le_refl _) _, .inr ⟨rfl, rfl, rfl, Nat.zero_le _, Nat.zero_le _, Nat.zero_le _, Nat.zero_le _, s.length + 1, by simp, ?_⟩⟩
    rw [← HX.out]
    simp [R6.glue, readAll]
  have H0 := Lib.hid h0
  clear h0 hst0 hw3
  generalize hg : w3.heap.size = g at *
  generalize w3.alloc _ = w4 at *
  have HG := Lib.hid hg
  have HSZ := Lib.hid hsz
  clear hg hsz
  go_loopw [] (fun wr => ∃ st, RRel g g d l s X w3 wr st) (fun wr => measR s wr g)
  case atStart => exact ⟨_, H0.out⟩
  case round =>
    obtain ⟨st, hrel⟩ := hrel
    have hR := hrel.1
    have HM : Hid (measR s wr g = if st.kind = 0 then s.length + 1 - st.i else 0) := Lib.hid (measR_of hR)
    have hR' := hR
    obtain ⟨vr, vR, vs, vE, hP⟩ := hR'
    have c8 := hP.c (i := 8) rfl
    have c13 := hP.c (i := 13) rfl
    have hgl := hP.blk.lt
    have HREL := Lib.hid hrel
    have HP := Lib.hid hP
    clear hP hrel H0
    obtain ⟨K, hK⟩ : ∃ K, (decide (st.i < s.length) && (st.kind == 0)) = K := ⟨_, rfl⟩
    go_upto_region 2 with (fail)
    go_cut [28] (fun v wx => v = .bool K ∧ wx = wr)
    case first =>
      have hd : decide ((st.i : Int) < (s.length : Int)) = decide (st.i < s.length) := by rw [decide_eq_decide]; omega
      have hd2 : ((st.kind : Int) == 0) = (st.kind == 0) := by rw [Bool.eq_iff_iff, beq_iff_eq, beq_iff_eq]; omega
      cases hd3 : decide (st.i < s.length)
      · rw [hd3] at hd hK
        obtain rfl : K = false := by simpa using hK.symm
        clear hR hK
        go_wp2_with (fail)
        go_meet
        exact ⟨rfl, rfl⟩
      · rw [hd3] at hd hK
        have hK : (st.kind == 0) = K := by simpa using hK
        rw [hK] at hd2
        clear hR hK
        go_wp2_with (fail)
        go_meet
        exact ⟨rfl, rfl⟩
    case rest =>
      obtain ⟨rfl, hwc⟩ := hcut
      subst hwc
      cases K
      · -- the end
        have hX2 : X = ⟨st.recs, st.ends, st.kind, st.pl⟩ := by
          obtain ⟨_, _, hX⟩ := HREL.out
          rcases hX with ⟨_, h2⟩ | ⟨h1, h2, h3, h4, h5, h6, h7, n, hn, hX⟩
          · exact h2
          · have hge : s.length ≤ st.i := by
              rw [h1] at hK
              simp at hK
              exact hK
            rw [List.drop_eq_nil_of_le hge, read_nil] at hX
            rw [← hX, h1, h2]
            simp [R6.glue, G.nil]
        have HX2 := Lib.hid hX2
        clear hX2 hK
        have hPR := HP.out.recs
        have hPE := HP.out.ends
        obtain ⟨AR, cR, rfl, hn1, hx1⟩ := hPR.2.1.form
        obtain ⟨AE, cE, rfl, hn2, hx2⟩ := hPE.form
        have HPR := Lib.hid hPR
        have HPE := Lib.hid hPE
        clear hPR hPE
        have c11 := HP.out.c (i := 11) rfl
        have c12 := HP.out.c (i := 12) rfl
        have c14 := HP.out.c (i := 14) rfl
        have hkp : Keeps [] w3 _ := Keeps.of_below (by rw [HG.out]; exact HREL.out.2.1) []
        have hres2 := hres.keep hkp (by simp)
        have hr0 := hres2.cell_of (i := 0) rfl
        have hrf0 := hres2.frozen (i := 0) (by simp)
        have hr1 := hres2.cell_of (i := 1) rfl
        have hrf1 := hres2.frozen (i := 1) (by simp)
        have hr2 := hres2.cell_of (i := 2) rfl
        have hrf2 := hres2.frozen (i := 2) (by simp)
        have hr3 := hres2.cell_of (i := 3) rfl
        have hrf3 := hres2.frozen (i := 3) (by simp)
        have hrl := hres2.lt
        go_wp2_with (fail)
        have hsz := HSZ.out
        have k1 : Keeps [w.heap.size + 1 + 1] wc ((((wc.setCell ⟨w.heap.size + 1 + 1, 0, none⟩ (.slice AR st.recs.length cR)).setCell ⟨w.heap.size + 1 + 1, 1, none⟩ (.slice AE st.ends.length cE)).setCell ⟨w.heap.size + 1 + 1, 2, none⟩ (.int .i64 st.kind)).setCell ⟨w.heap.size + 1 + 1, 3, none⟩ (.int .i64 st.pl)) :=
          (((Keeps.setCell wc ⟨w.heap.size + 1 + 1, 0, none⟩ _).set1 ⟨_, 1, none⟩ _ (by simp)).set1 ⟨_, 2, none⟩ _ (by simp)).set1 ⟨_, 3, none⟩ _ (by simp)
        refine bodyPost_ret (v := .agg #[.slice AR st.recs.length cR, .slice AE st.ends.length cE, .int .i64 st.kind, .int .i64 st.pl]) (by simp [results, Try.results52, go_sem, hr0, hr1, hr2, hr3]) rfl ?_
        rw [HX2.out]
        refine ⟨_, vs, _, rfl, ?_, ?_, ?_⟩
        · refine OTb.less (HPR.out.keep k1 ?_) (by omega)
          intro x hx hm
          have := (HPR.out.lt x hx).1
          simp at hm
          omega
        · refine Own.less (HPE.out.keep k1 ?_) (by omega)
          intro x hx hm
          have := (HPE.out.lt x hx).1
          simp at hm
          omega
        · exact ((((hk3.trans hkp (by simp)).setNew _ _ (by simp only; omega)).setNew _ _ (by simp only; omega)).setNew _ _ (by simp only; omega)).setNew _ _ (by simp only; omega)
      · have hlt : st.i < s.length := by
          simp at hK; exact hK.1
        have hk : st.kind = 0 := by
          simp at hK; exact hK.2
        have hcs : st.pl = 0 ∧ st.row = [] ∧ st.i ≤ s.length ∧ st.begun ≤ st.i ∧ st.recs.length ≤ st.i ∧ st.ends.length ≤ st.i := by
          obtain ⟨_, _, hX⟩ := HREL.out
          rcases hX with ⟨h1, _⟩ | ⟨h1, h2, h3, h4, h5, h6, h7, _⟩
          · exact absurd hk h1
          · exact ⟨h2, h3, h4, h5, h6, h7⟩
        obtain ⟨hpl, hrow, hile, hbg, hrl, hel⟩ := hcs
        have HM2 : Hid (measR s wc g = s.length + 1 - st.i) := Lib.hid (by rw [HM.out, if_pos hk])
        have HK10 := Lib.hid (is_k wc g g d l s st hR hs (by omega) 10 10 rfl _ rfl wc (Below.refl _ _))
        clear hK
        obtain ⟨e1, he1⟩ : ∃ e, atB s st.i 10 = e := ⟨_, rfl⟩
        obtain ⟨e2, he2⟩ : ∃ e, atB s st.i 13 = e := ⟨_, rfl⟩
        rw [he1] at HK10
        go_upto_region 3 with (fail)
        go_cut [34] (fun v wx => v = .bool (e1 || e2) ∧ Keeps [] wc wx)
        case first =>
          cases e1
          · have HK13 := Lib.hid (fun w' hb => is_k wc g g d l s st hR hs (by omega) 13 13 rfl _ he2 w' hb)
            clear hR hres hk3
            go_wp2_with (fail)
            refine HK10.out.mono ?_
            rintro r w1 ⟨rfl, k1⟩
            go_wp2_with (fail)
            refine (HK13.out _ (k1.below (B := wc.heap.size) (Nat.le_refl _) (by simp))).mono ?_
            rintro r w2 ⟨rfl, k2⟩
            go_wp2_with (fail)
            go_meet
            exact ⟨by simp, k1.trans k2 (by simp)⟩
          · clear hR hres hk3
            go_wp2_with (fail)
            refine HK10.out.mono ?_
            rintro r w1 ⟨rfl, k1⟩
            go_wp2_with (fail)
            go_meet
            exact ⟨by simp, k1⟩
        case rest =>
          obtain ⟨rfl, k1⟩ := hcut
          have hlow : g < wc.heap.size := by have := (hR.keep k1).lt.2; exact this
          have hrel5 : RRel g g d l s X w3 wc st := ⟨hR.keep k1, HREL.out.2.1.trans (k1.below (B := g) (by omega) (by simp)), HREL.out.2.2⟩
          have hR5 := hrel5.1
          clear k1 hR HK10 HREL HP c8 c13 hgl hres hk3
          cases e1 <;> cases e2
          · have HL := Lib.hid (line_c wc g g d l s st hR5 hs hile hk hrow (by omega) (by omega) (by omega))
            go_wp2_with (fail)
            with_reducible refine HL.out.mono ?_
            rintro r w6 ⟨⟨b, rfl⟩, st', hp, hl⟩
            obtain ⟨h1, h2⟩ := hrel5.line hs hk hlt he1 he2 hp hl
            go_wp2_with (fail)
            refine ⟨⟨st', h1⟩, ?_⟩
            rw [HM2.out, measR_of h1.1]
            exact h2
          all_goals
            have HFD := Lib.hid (feed_c wc g g d l s st hR5 hs (by omega) hk)
            have HFT := Lib.hid (hrel5.feed hk hlt (by rw [he1, he2]; rfl))
            have HB5 := Lib.hid hrel5.2.1
            clear hrel5 hR5 he1 he2
            go_wp2_with (fail)
            with_reducible refine HFD.out.mono ?_
            rintro r w6 ⟨rfl, hp⟩
            rcases HFT.out with ⟨h1, h2, h3⟩ | ⟨h1, h2, n, hn, h3⟩ | ⟨h1, h2, h3⟩
            · rw [h1]
              rw [h3] at hp
              have HX2 := Lib.hid h2
              have hR6 := hp.1
              have HB7 := Lib.hid (HB5.out.trans hp.2)
              clear h1 h2 h3 hp HFD HFT HB5
              have hwi : IntKind.i64.wrap ((st.i : Int)) = (st.i : Int) := IntWalk.i64_in _ (by omega)
              obtain ⟨vr6, vR6, vs6, vE6, hP6⟩ := hR6
              have c8 := hP6.c (i := 8) (u := .int .i64 (st.i : Int)) rfl
              have f8 := hP6.f (i := 8) (by clear hwi; omega)
              have g6 := hP6.blk.lt
              have HP6 := Lib.hid (hP6.set (st' := { st.wr 6 st.i with i := st.i + 0 }) 8 (.int .i64 ((st.i : Int))) (by simp [r6C, R6.wr]) rfl rfl rfl)
              have HB6 := Lib.hid (HB7.out.trans (hP6.below 8 (.int .i64 ((st.i : Int)))))
              clear hP6
              go_wp2_with (fail)
              refine ⟨⟨{ st.wr 6 st.i with i := st.i + 0 }, ⟨_, _, _, _, HP6.out⟩, HB6.out, .inl ⟨by simp [R6.wr], HX2.out⟩⟩, ?_⟩
              rw [HM2.out, measR_of ⟨_, _, _, _, HP6.out⟩]
              rw [if_neg (by simp [R6.wr])]
              clear hwi
              omega
            · rw [h1]
              rw [h2] at hp
              have HX2 := Lib.hid h3
              have hR6 := hp.1
              have HB7 := Lib.hid (HB5.out.trans hp.2)
              clear h1 h2 h3 hp HFD HFT HB5
              have hwi : IntKind.i64.wrap ((st.i : Int) + 1) = (st.i : Int) + 1 := IntWalk.i64_in _ (by omega)
              obtain ⟨vr6, vR6, vs6, vE6, hP6⟩ := hR6
              have c8 := hP6.c (i := 8) (u := .int .i64 (st.i : Int)) rfl
              have f8 := hP6.f (i := 8) (by clear hwi; omega)
              have g6 := hP6.blk.lt
              have HP6 := Lib.hid (hP6.set (st' := { st with i := st.i + 1 }) 8 (.int .i64 ((st.i : Int) + 1)) (by simp [r6C, R6.wr]) rfl rfl rfl)
              have HB6 := Lib.hid (HB7.out.trans (hP6.below 8 (.int .i64 ((st.i : Int) + 1))))
              clear hP6
              go_wp2_with (fail)
              refine ⟨⟨{ st with i := st.i + 1 }, ⟨_, _, _, _, HP6.out⟩, HB6.out, .inr ⟨hk, hpl, hrow, by simp only; clear hwi; omega, by simp only; clear hwi; omega, by simp only; clear hwi; omega, by simp only; clear hwi; omega, n, hn, HX2.out⟩⟩, ?_⟩
              rw [HM2.out, measR_of ⟨_, _, _, _, HP6.out⟩]
              rw [if_pos hk]
              clear hwi
              show s.length + 1 - (st.i + 1) < _
              omega
            · rw [h1]
              rw [h2] at hp
              have HX2 := Lib.hid h3
              have hR6 := hp.1
              have HB7 := Lib.hid (HB5.out.trans hp.2)
              clear h1 h2 h3 hp HFD HFT HB5
              have HSC := Lib.hid (second_c w6 g g d l s st hR6 hs (by omega) hk)
              clear hR6
              go_wp2_with (fail)
              with_reducible refine HSC.out.mono ?_
              rintro r w7 ⟨rfl, hp, _⟩
              unfold secP at hp
              rcases HX2.out with ⟨ha, h3⟩ | ⟨ha, n, hn, h3⟩
              · rw [ha] at hp
                simp only [Bool.false_eq_true, if_false] at hp
                have HX3 := Lib.hid h3
                have hR7 := hp.1
                have HB8 := Lib.hid (HB7.out.trans hp.2)
                clear ha h3 hp HSC HX2 HB7
                have hwi : IntKind.i64.wrap ((st.i : Int) + 2) = (st.i : Int) + 2 := IntWalk.i64_in _ (by omega)
                obtain ⟨vr6, vR6, vs6, vE6, hP6⟩ := hR7
                have c8 := hP6.c (i := 8) (u := .int .i64 (st.i : Int)) rfl
                have f8 := hP6.f (i := 8) (by clear hwi; omega)
                have g6 := hP6.blk.lt
                have HP6 := Lib.hid (hP6.set (st' := { st.wr 6 (st.i + 1) with i := st.i + 2 }) 8 (.int .i64 ((st.i : Int) + 2)) (by simp [r6C, R6.wr]) rfl rfl rfl)
                have HB6 := Lib.hid (HB8.out.trans (hP6.below 8 (.int .i64 ((st.i : Int) + 2))))
                clear hP6
                go_wp2_with (fail)
                refine ⟨⟨{ st.wr 6 (st.i + 1) with i := st.i + 2 }, ⟨_, _, _, _, HP6.out⟩, HB6.out, .inl ⟨by simp [R6.wr], HX3.out⟩⟩, ?_⟩
                rw [HM2.out, measR_of ⟨_, _, _, _, HP6.out⟩]
                rw [if_neg (by simp [R6.wr])]
                clear hwi
                omega
              · rw [ha] at hp
                simp only [if_true] at hp
                have HX3 := Lib.hid h3
                have hR7 := hp.1
                have HB8 := Lib.hid (HB7.out.trans hp.2)
                have hlt2 := at_lt ha
                clear ha h3 hp HSC HX2 HB7
                have hwi : IntKind.i64.wrap ((st.i : Int) + 2) = (st.i : Int) + 2 := IntWalk.i64_in _ (by omega)
                obtain ⟨vr6, vR6, vs6, vE6, hP6⟩ := hR7
                have c8 := hP6.c (i := 8) (u := .int .i64 (st.i : Int)) rfl
                have f8 := hP6.f (i := 8) (by clear hwi; omega)
                have g6 := hP6.blk.lt
                have HP6 := Lib.hid (hP6.set (st' := { st with i := st.i + 2 }) 8 (.int .i64 ((st.i : Int) + 2)) (by simp [r6C, R6.wr]) rfl rfl rfl)
                have HB6 := Lib.hid (HB8.out.trans (hP6.below 8 (.int .i64 ((st.i : Int) + 2))))
                clear hP6
                go_wp2_with (fail)
                refine ⟨⟨{ st with i := st.i + 2 }, ⟨_, _, _, _, HP6.out⟩, HB6.out, .inr ⟨hk, hpl, hrow, by simp only; clear hwi; omega, by simp only; clear hwi; omega, by simp only; clear hwi; omega, by simp only; clear hwi; omega, n, hn, HX3.out⟩⟩, ?_⟩
                rw [HM2.out, measR_of ⟨_, _, _, _, HP6.out⟩]
                rw [if_pos hk]
                clear hwi
                show s.length + 1 - (st.i + 2) < _
                omega
end Go.Proofs.Ytcmoldondflilaa.Rdr
