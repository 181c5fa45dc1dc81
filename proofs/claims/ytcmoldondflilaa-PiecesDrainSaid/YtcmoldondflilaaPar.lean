/- The document's answer for layer 6: Parse. -/
import Derived.Test.YtcmoldondflilaaRdr6
import Derived.Test.YtcmoldondflilaaUtfW5
import Derived.Test.YtcmoldondflilaaParPlain
import Derived.Test.YtcmoldondflilaaRef3
import Derived.BigQuiet
namespace Go.Proofs.Ytcmoldondflilaa.Par
set_option linter.unusedVariables false
set_option linter.unusedSimpArgs false
set_option maxRecDepth 100000
open Go.RowKit Q Mach Dia Gram Rdr
attribute [local go_sem ↓] Go.wp_at_zero Go.wp_at_succ
def ParseP (x : Tb × Nat × Int) (w : World) (e : Ending) (w' : World) : Prop :=
  ∃ v vs, e = .returned (.tuple #[v, .int .i64 x.2.1, .int .i64 x.2.2]) ∧ OTb w' w.heap.size 24 9 v vs x.1 ∧ Keeps [] w w'
theorem infoStrs : (Try.prog.info? 24).map (fun i => (i.zero, i.size, i.bytes)) = some (some (.slice none 0 0), 1, 24) := by kernel_rfl
set_option maxRecDepth 100000 in
set_option maxHeartbeats 20000000 in
theorem parse_c (w : World) (d : Dia) (l : Lim) (s : Bs) (hs : s.length ≤ 100000) :
    Calls Try.prog 19 #[rdiaV d, rlmV l, sv s] w (ParseP (parseP d l s) w) := by
  obtain ⟨iR, hiR, hR0, hR1, hR2⟩ := info_parts infoStrs
  have hsl : (Bom.strip s).length ≤ s.length := by unfold Bom.strip; split <;> simp
  have HR3 := Lib.hid (fun w' => Bom.rstrip_c s (by simp only [maxLen]; omega) w')
  have HRD := Lib.hid (fun w' => read_c w' d l (Bom.strip s) (by omega))
  have HBD := Lib.hid (fun w' => UtfW.bad_c s (by omega) w')
  have HWH := Lib.hid (fun w' => UtfW.whole_c s (by omega) w')
  generalize (if Bom.hasB s 3 = true then (1 : Int) else 0) = zz at HR3
  obtain ⟨X, hX⟩ : ∃ X, parseP d l s = X := ⟨_, rfl⟩
  rw [hX]
  obtain ⟨Gr, hGr⟩ : ∃ G, readAll d l (Bom.strip s) = G := ⟨_, rfl⟩
  have hlens := read_lens d l ((Bom.strip s).length + 1) 0 none (Bom.strip s) 0
  have hrlen := read_count d l ((Bom.strip s).length + 1) 0 none (Bom.strip s) 0
  have hbnd := read_b d l ((Bom.strip s).length + 1) 0 none (Bom.strip s) 0
  have hGr2 : readG d l ((Bom.strip s).length + 1) 0 none (Bom.strip s) 0 = Gr := hGr
  rw [hGr2] at hlens hbnd hrlen
  have hrlen : Gr.recs.length ≤ 100000 := by omega
  rw [Nat.zero_add] at hbnd
  obtain ⟨a1, ha1⟩ : ∃ a, at0P s Gr = a := ⟨_, rfl⟩
  obtain ⟨J, hJ⟩ : ∃ J, judge0 s Gr.kind a1 = J := ⟨_, rfl⟩
  obtain ⟨jk, hjk⟩ : ∃ k, (if J.1 = 1 then 3 else J.1) = k := ⟨_, rfl⟩
  have hjd : judge s Gr = (jk, J.2) := by rw [judge_eq, ha1, hJ, hjk]
  have hXX : X = (keepP (okP s (jk, J.2)) Gr.ends Gr.recs, jk, if jk = 0 then 0 else J.2) := by
    rw [← hX]
    show (keepP (okP s (judge s (readAll d l (Bom.strip s)))) (readAll d l (Bom.strip s)).ends (readAll d l (Bom.strip s)).recs, (judge s (readAll d l (Bom.strip s))).1, if (judge s (readAll d l (Bom.strip s))).1 = 0 then 0 else (judge s (readAll d l (Bom.strip s))).2) = _
    rw [hGr, hjd]
  have HX := Lib.hid hXX
  have HL := Lib.hid hlens
  have HB := Lib.hid hbnd.2
  have hpl := hbnd.1
  have hplI : (Gr.pl : Int) ≤ (s.length : Int) := by omega
  have HA1 := Lib.hid ha1
  have HJ := Lib.hid hJ
  have HJK := Lib.hid hjk
  rw [hGr] at HRD
  have HWP := Lib.hid hpl
  have HZ : Hid ((s.length : Int) ≤ 100000 ∧ ((Bom.strip s).length : Int) ≤ (s.length : Int) ∧ (0 : Int) ≤ ((Bom.strip s).length : Int)) := Lib.hid (by omega)
  have hwA : IntKind.i64.wrap ((Gr.pl : Int) + ((s.length : Int) - ((Bom.strip s).length : Int))) = (Gr.pl : Int) + ((s.length : Int) - ((Bom.strip s).length : Int)) := IntWalk.i64_in _ (by omega)
  have hwO : IntKind.i64.wrap ((s.length : Int) - ((Bom.strip s).length : Int)) = ((s.length : Int) - ((Bom.strip s).length : Int)) := IntWalk.i64_in _ (by omega)
  clear hGr hGr2 hX hXX hlens hbnd ha1 hJ hjk hjd hpl hplI hs hsl
  go_enter Try.func19, Try.ntmps19
  go_wp2_with (fail)
  refine (HR3.out _).mono ?_
  rintro r w1 ⟨rfl, m, rfl⟩
  go_wp2_with (fail)
  refine (HRD.out _).mono ?_
  rintro r w2 ⟨vR, vs, vE, rfl, hrec, hend, k2⟩
  obtain ⟨AR, cR, rfl, hn1, hx1⟩ := hrec.2.1.form
  obtain ⟨AE, cE, rfl, hn2, hx2⟩ := hend.form
  have k02 : Keeps [] w w2 := (((Keeps.alloc [] w _).alloc1 _).drewN1 m).trans k2 (by simp)
  have hsz0 : w.heap.size ≤ (((w.alloc (.cells #[.int .i64 d.delim.toNat, .int .i64 d.quote.toNat, .int .i64 d.fin] 33)).alloc (.cells #[.int .i64 l.field, .int .i64 l.fields, .int .i64 l.records, .int .i64 (limC l)] 43)).drewN m).heap.size := by simp; omega
  have hrec := hrec.less hsz0
  have hend := hend.less hsz0
  go_wp2_with (fail)
  have hb0 := Blk.new w2 100 [.slice AR Gr.recs.length cR, .slice AE Gr.ends.length cE, .int .i64 Gr.kind, .int .i64 Gr.pl]
  have k23 := Keeps.alloc [] w2 (.cells #[.slice AR Gr.recs.length cR, .slice AE Gr.ends.length cE, .int .i64 Gr.kind, .int .i64 Gr.pl] 100)
  have k03 := k02.trans k23 (by simp)
  have hrec := hrec.keep k23 (by simp)
  have hend := hend.keep k23 (by simp)
  generalize w2.heap.size = g at *
  change Blk (w2.alloc (.cells #[.slice AR Gr.recs.length cR, .slice AE Gr.ends.length cE, .int .i64 Gr.kind, .int .i64 Gr.pl] 100)) g _ _ at hb0
  generalize w2.alloc _ = w3 at *
  have c2 := hb0.cell_of (i := 2) rfl
  have c3 := hb0.cell_of (i := 3) rfl
  have hgl := hb0.lt
  have HREC := Lib.hid hrec
  have HEND := Lib.hid hend
  have HK03 := Lib.hid k03
  have HB0 := Lib.hid hb0
  clear hrec hend k2 k02 k23 k03 hsz0 hb0
  go_quiet (fail)
  have HK3 : Hid (Keeps [] w3 (w3.drewN nq)) := Lib.hid (Keeps.drewN _ _ _)
  clear c2 c3
  generalize w3.drewN _ = w4 at *
  obtain ⟨K0, hK0⟩ : ∃ K, ((Gr.kind : Int) == 0) = K := ⟨_, rfl⟩
  have hK0' : (Gr.kind == 0) = K0 := by rw [← hK0, Bool.eq_iff_iff, beq_iff_eq, beq_iff_eq]; omega
  go_upto_if 40 with (fail)
  go_cut [14] (fun v wx => v = .int .i64 a1 ∧ wx = w4)
  case first =>
    have hA := HA1.out
    unfold at0P at hA
    cases K0
    · rw [if_neg (by simpa using hK0')] at hA
      go_wp2_with (fail)
      go_meet
      exact ⟨by rw [← hA], rfl⟩
    · rw [if_pos (by simpa using hK0')] at hA
      go_wp2_with (fail)
      go_meet
      exact ⟨by rw [← hA], rfl⟩
  case rest =>
  obtain ⟨rfl, rfl⟩ := hcut
  go_wp2_with (fail)
  refine (HBD.out _).mono ?_
  rintro r w5 ⟨rfl, k5⟩
  have HK4 := Lib.hid (HK3.out.trans k5 (by simp))
  clear k5 HK3
  go_upto_if 46 with (fail)
  go_cut [13, 14, 15] from 19 (fun v v2 _ wx => v = .int .i64 J.1 ∧ v2 = .int .i64 J.2 ∧ Keeps [] w3 wx)
  case first =>
    have hJ := HJ.out
    unfold judge0 at hJ
    cases hb : Utf.badP s with
    | none =>
      rw [hb] at hJ
      simp only at hJ
      have e1 : UtfW.badV none = -1 := rfl
      obtain ⟨W, hW⟩ : ∃ W, decide ((Utf.wholeP s : Int) < (s.length : Int)) = W := ⟨_, rfl⟩
      obtain ⟨A, hA⟩ : ∃ A, (a1 == (s.length : Int)) = A := ⟨_, rfl⟩
      have hW' : (Utf.wholeP s < s.length) ↔ W = true := by rw [← hW, decide_eq_true_iff]; omega
      have hA' : (a1 = (s.length : Int)) ↔ A = true := by rw [← hA, beq_iff_eq]
      simp only [hW', hA'] at hJ
      have HJ3 := Lib.hid hJ
      clear hJ hA' hK0 hK0' hb
      generalize UtfW.badV none = bb at *
      subst e1
      cases W
      · have hWp : ¬ (Utf.wholeP s < s.length) := by rw [hW']; simp
        clear hW'
        go_wp2_with (fail)
        refine (HWH.out _).mono ?_
        rintro r w6 ⟨rfl, k6⟩
        have k6 := HK4.out.trans k6 (by simp)
        clear HK4
        go_wp2_with (fail)
        go_meet
        have := HJ3.out
        simp at this
        subst this
        exact ⟨rfl, rfl, k6⟩
      · have hWp : Utf.wholeP s < s.length := by rw [hW']
        clear hW'
        cases A
        · go_wp2_with (fail)
          refine (HWH.out _).mono ?_
          rintro r w6 ⟨rfl, k6⟩
          have k6 := HK4.out.trans k6 (by simp)
          clear HK4
          go_wp2_with (fail)
          go_meet
          have := HJ3.out
          simp at this
          subst this
          exact ⟨rfl, rfl, k6⟩
        · go_wp2_with (fail)
          refine (HWH.out _).mono ?_
          rintro r w6 ⟨rfl, k6⟩
          have k6 := HK4.out.trans k6 (by simp)
          clear HK4
          go_wp2_with (fail)
          go_meet
          have := HJ3.out
          simp at this
          subst this
          exact ⟨rfl, rfl, k6⟩
    | some b =>
      rw [hb] at hJ
      simp only at hJ
      have e0 : decide ((0 : Int) ≤ UtfW.badV (some b)) = true := by simp [UtfW.badV]
      have e1 : UtfW.badV (some b) = (b : Int) := rfl
      obtain ⟨M, hM⟩ : ∃ M, decide ((b : Int) ≤ a1) = M := ⟨_, rfl⟩
      have hM' : ((b : Int) ≤ a1) ↔ M = true := by rw [← hM, decide_eq_true_iff]
      have hKK : (Gr.kind = 0) ↔ K0 = true := by rw [← hK0', beq_iff_eq]
      simp only [hM', hKK] at hJ
      have HJ3 := Lib.hid hJ
      have k6 := HK4.out
      clear hJ hM' hKK hK0' hb HK4
      generalize UtfW.badV (some b) = bb at *
      subst e1
      cases K0
      · cases M
        · go_wp2_with (fail)
          go_meet
          have := HJ3.out
          simp at this
          subst this
          exact ⟨rfl, rfl, k6⟩
        · go_wp2_with (fail)
          go_meet
          have := HJ3.out
          simp at this
          subst this
          exact ⟨rfl, rfl, k6⟩
      · go_wp2_with (fail)
        go_meet
        have := HJ3.out
        simp at this
        subst this
        exact ⟨rfl, rfl, k6⟩
  case rest =>
  obtain ⟨rfl, rfl, k5⟩ := hcut
  clear hK0 hK0' HK4
  have HK5 := Lib.hid k5
  clear k5
  obtain ⟨E, hE⟩ : ∃ E, ((J.1 : Int) == 1) = E := ⟨_, rfl⟩
  have hE' : (J.1 = 1) ↔ E = true := by rw [← hE, beq_iff_eq]; omega
  go_upto_if 67 with (fail)
  go_cut [13] from 19 (fun v wx => v = .int .i64 jk ∧ Keeps [] w3 wx)
  case first =>
    have hjk := HJK.out
    simp only [hE'] at hjk
    have HJ4 := Lib.hid hjk
    clear hjk hE'
    cases E
    · go_wp2_with (fail)
      go_meet
      have := HJ4.out
      simp at this
      subst this
      exact ⟨rfl, HK5.out⟩
    · go_wp2_with (fail)
      go_meet
      have := HJ4.out
      simp at this
      subst this
      exact ⟨rfl, HK5.out⟩
  case rest =>
  obtain ⟨rfl, k5⟩ := hcut
  clear hE hE' HK5 HBD HWH HR3 HRD HA1 HJ HJK
  have c0 := (HB0.out.keep k5 (by simp)).cell_of (i := 0) rfl
  have hgl2 := (HB0.out.keep k5 (by simp)).lt
  have HK5 := Lib.hid k5
  clear k5
  go_wp2_with (fail)
  obtain ⟨ok, hok⟩ : ∃ ok, okP s (jk, J.2) = ok := ⟨_, rfl⟩
  have HX2 : Hid (X = (keepP ok Gr.ends Gr.recs, jk, if jk = 0 then 0 else J.2)) := Lib.hid (by rw [← hok]; exact HX.out)
  have HOK := Lib.hid hok
  have HZ5 := HK5.out.size
  clear hok HX
  have hvl : vs.length = Gr.recs.length := HREC.out.1
  have HVL := Lib.hid hvl
  clear hvl
  go_loopw [16, 71] (fun v i wr => ∃ k : Nat, k ≤ Gr.recs.length ∧ i = .int .i64 k ∧
    OTb wr w.heap.size 24 9 v (keepP ok (Gr.ends.take k) (vs.take k)) (keepP ok (Gr.ends.take k) (Gr.recs.take k)) ∧ (∀ x ∈ blkOf v, wc.heap.size ≤ x) ∧ Keeps [] wc wr) (fun _ i _ => Gr.recs.length - (intOf i).toNat)
  case atStart => exact ⟨0, by omega, rfl, OTb.nil_ _ _ _ _, by simp [blkOf], Keeps.refl _ _⟩
  case round =>
    obtain ⟨k, hk, rfl, hot, hbl, hkp⟩ := hrel
    by_cases hlt : k < Gr.recs.length
    · have hkw := HK5.out.trans hkp (by simp)
      have hrec := HREC.out.keep hkw (by simp)
      have hend := HEND.out.keep hkw (by simp)
      obtain ⟨g1, o1, u, hA, _, hu, cu⟩ := (hrec.2.1.rd (Nat.le_refl _)).at_ hlt
      have hrow := hrec.2.2 k u Gr.recs[k] hu (List.getElem?_eq_getElem hlt)
      obtain ⟨A1, cr1, rfl, hm1, hm2⟩ := hrow.form
      have hke : k < Gr.ends.length := by rw [HL.out]; exact hlt
      obtain ⟨g2, o2, ue, hA2, _, hue, cue⟩ := (hend.rd (Nat.le_refl _)).at_ hke
      rw [List.getElem?_map, List.getElem?_eq_getElem hke, Option.map_some, Option.some.injEq] at hue
      subst hue
      subst hA hA2
      have hst : keepP ok (Gr.ends.take (k + 1)) (vs.take (k + 1)) = if ok Gr.ends[k] then keepP ok (Gr.ends.take k) (vs.take k) ++ [.slice A1 Gr.recs[k].length cr1] else keepP ok (Gr.ends.take k) (vs.take k) := keep_snoc (List.getElem?_eq_getElem hke) hu
      have hst2 : keepP ok (Gr.ends.take (k + 1)) (Gr.recs.take (k + 1)) = if ok Gr.ends[k] then keepP ok (Gr.ends.take k) (Gr.recs.take k) ++ [Gr.recs[k]] else keepP ok (Gr.ends.take k) (Gr.recs.take k) := keep_snoc (List.getElem?_eq_getElem hke) (List.getElem?_eq_getElem hlt)
      have heb := HB.out Gr.ends[k] (List.getElem_mem hke)
      obtain ⟨okk, hokk⟩ : ∃ b, ok Gr.ends[k] = b := ⟨_, rfl⟩
      have hoke : (jk == 0 || decide ((Gr.ends[k] : Int) + ((s.length : Int) - ((Bom.strip s).length : Int)) < J.2)) = okk := by
        rw [← hokk, ← HOK.out]; rfl
      rw [hokk] at hst hst2
      obtain ⟨KJ, hKJ⟩ : ∃ K, (jk == 0) = K := ⟨_, rfl⟩
      have hKJ2 : ((jk : Int) == 0) = KJ := by rw [← hKJ, Bool.eq_iff_iff, beq_iff_eq, beq_iff_eq]; omega
      obtain ⟨LT, hLT⟩ : ∃ L, decide ((Gr.ends[k] : Int) + ((s.length : Int) - ((Bom.strip s).length : Int)) < J.2) = L := ⟨_, rfl⟩
      rw [hKJ, hLT] at hoke
      have hz := HZ.out
      have hwE : IntKind.i64.wrap ((Gr.ends[k] : Int) + ((s.length : Int) - ((Bom.strip s).length : Int))) = (Gr.ends[k] : Int) + ((s.length : Int) - ((Bom.strip s).length : Int)) := IntWalk.i64_in _ (by omega)
      obtain ⟨eK, heK⟩ : ∃ e, Gr.ends[k] = e := ⟨_, rfl⟩
      rw [heK] at cue hwE hLT
      obtain ⟨A0, c00, rfl, hm3, hm4⟩ := hot.2.1.form
      have hkl := keep_len ok (Gr.ends.take k) (Gr.recs.take k)
      have hkl2 : (keepP ok (Gr.ends.take k) (Gr.recs.take k)).length ≤ 100000 := by
        rw [List.length_take] at hkl; omega
      obtain ⟨v', w', hrun, hown', hk', hb'⟩ := run_append1 (P := Try.prog) (y := .slice A1 Gr.recs[k].length cr1) Try.underlying26 hiR hR0 hR1 hR2 rfl hot.2.1 rfl (by simp only [maxLen]; omega) (by omega) (by have := HK03.out.size; have := hkw.size; omega) 26
      have HOT := Lib.hid hot
      have HOWN := Lib.hid hown'
      have HROW := Lib.hid hrow
      have HST := Lib.hid hst
      have HST2 := Lib.hid hst2
      have HKP := Lib.hid hkp
      have HK' := Lib.hid hk'
      have HB' := Lib.hid hb'
      have HBL := Lib.hid hbl
      have g2l : g < wr.heap.size := by have := hkp.size; omega
      have c1 := (HB0.out.keep hkw (by simp)).cell_of (i := 1) rfl
      clear hot hown' hrow hst hst2 hkp hk' hb' hbl hrec hend hokk hkl hkl2 heb hKJ heK hz hu hkw
      have last : okk = true → ∃ k' : Nat, k' ≤ Gr.recs.length ∧ (k : Int) + 1 = (k' : Int) ∧ OTb w' w.heap.size 24 9 v' (keepP ok (Gr.ends.take k') (vs.take k')) (keepP ok (Gr.ends.take k') (Gr.recs.take k')) ∧ (∀ x ∈ blkOf v', wc.heap.size ≤ x) ∧ Keeps [] wc w' := by
        rintro rfl
        have h1 := HST.out
        have h2 := HST2.out
        rw [if_pos rfl] at h1 h2
        refine ⟨k + 1, hlt, by omega, ?_, ?_, ?_⟩
        · rw [h1, h2]
          exact HOT.out.push (by decide) HROW.out HOWN.out HK'.out
        · intro x hx
          rcases HB'.out x hx with h | h
          · exact HBL.out x h
          · have := HKP.out.size; omega
        · exact HKP.out.trans HK'.out (by intro x hx hl; have := HBL.out x hx; omega)
      have last0 : okk = false → ∃ k' : Nat, k' ≤ Gr.recs.length ∧ (k : Int) + 1 = (k' : Int) ∧ OTb wr w.heap.size 24 9 (.slice A0 (keepP ok (Gr.ends.take k) (Gr.recs.take k)).length c00) (keepP ok (Gr.ends.take k') (vs.take k')) (keepP ok (Gr.ends.take k') (Gr.recs.take k')) ∧ (∀ x ∈ blkOf (.slice A0 (keepP ok (Gr.ends.take k) (Gr.recs.take k)).length c00), wc.heap.size ≤ x) ∧ Keeps [] wc wr := by
        rintro rfl
        have h1 := HST.out
        have h2 := HST2.out
        rw [if_neg (by simp)] at h1 h2
        refine ⟨k + 1, hlt, by omega, ?_, HBL.out, HKP.out⟩
        rw [h1, h2]
        exact HOT.out
      have HLA := Lib.hid last
      have HLA0 := Lib.hid last0
      clear last last0
      cases KJ
      · cases LT
        · go_wp2_with (with_reducible refine wpList_append hrun _ _ rfl rfl rfl rfl rfl ?_)
          go_roundw
          case rel => 
            obtain ⟨k', h1, h2, h3, h4, h5⟩ := HLA0.out hoke.symm
            exact ⟨k', h1, by rw [← h2], h3, h4, h5⟩
          case measure => simp [intOf]; omega
        · go_wp2_with (with_reducible refine wpList_append hrun _ _ rfl rfl rfl rfl rfl ?_)
          go_roundw
          case rel => 
            obtain ⟨k', h1, h2, h3, h4, h5⟩ := HLA.out hoke.symm
            exact ⟨k', h1, by rw [← h2], h3, h4, h5⟩
          case measure => simp [intOf]; omega
      · go_wp2_with (with_reducible refine wpList_append hrun _ _ rfl rfl rfl rfl rfl ?_)
        go_roundw
        case rel => 
          obtain ⟨k', h1, h2, h3, h4, h5⟩ := HLA.out hoke.symm
          exact ⟨k', h1, by rw [← h2], h3, h4, h5⟩
        case measure => simp [intOf]; omega
    · obtain rfl : k = Gr.recs.length := by omega
      have HOT := Lib.hid hot
      have hkall := (HK03.out.trans HK5.out (by simp)).trans hkp (by simp)
      clear hot hkp hbl
      obtain ⟨KJ, hKJ⟩ : ∃ K, (jk == 0) = K := ⟨_, rfl⟩
      have hKJ2 : ((jk : Int) == 0) = KJ := by rw [← hKJ, Bool.eq_iff_iff, beq_iff_eq, beq_iff_eq]; omega
      have hfin : ParseP X w (.returned (.tuple #[u16, .int .i64 jk, .int .i64 (if jk = 0 then 0 else J.2)])) wr := by
        rw [HX2.out]
        refine ⟨u16, keepP ok Gr.ends vs, rfl, ?_, hkall⟩
        have := HOT.out
        rw [List.take_of_length_le (l := vs) (by rw [HVL.out]; omega), List.take_of_length_le (l := Gr.ends) (by rw [HL.out]; omega), List.take_of_length_le (l := Gr.recs) (by omega)] at this
        exact this
      have HF := Lib.hid hfin
      clear hfin
      cases KJ
      · have hj0 : ¬ jk = 0 := by simpa using hKJ
        rw [if_neg hj0] at HF
        clear hKJ
        go_wp2_with (fail)
        go_ret3
        exact HF.out
      · have hj0 : jk = 0 := by simpa using hKJ
        rw [if_pos hj0] at HF
        clear hKJ
        go_wp2_with (fail)
        go_ret3
        exact HF.out
end Go.Proofs.Ytcmoldondflilaa.Par
