/- PROVED: for all tables a and b, TableSame(a, b) returns true and leaves its arguments as they were. No condition. -/
import Derived.Test.YtnbeebagblkkfaaRows
import Derived.Test.YtnbeebagblkkfaaSlices
namespace Go.Proofs.Ytnbeebagblkkfaa.TableSameP
set_option linter.unusedVariables false
set_option linter.unusedSimpArgs false
open Go.ChangeShapes Go.WideShapes Go.ChangeAt Go.RowKit Q Tab Same

theorem own : ownKnob Try.prog.godebug = none := by kernel_rfl
theorem laidOut : laidOutB Try.prog = true := by kernel_rfl

theorem le_sum : ∀ {l : List Nat} {n : Nat}, n ∈ l → n ≤ l.sum
  | x :: l, n, h => by
    rcases List.mem_cons.1 h with rfl | h
    · simp
    · have := le_sum h; simp; omega
theorem str_le {t : Tb} {i : Nat} {r : Row} (hr : r ∈ t) {s : Bs} (hs : s ∈ r) : s.length ≤ bytesOf t := by
  have h1 : s.length ≤ bytesOfRow r := by
    unfold bytesOfRow
    exact le_sum (List.mem_map.2 ⟨s, hs, rfl⟩)
  have h2 : bytesOfRow r ≤ bytesOf t := by
    unfold bytesOf
    exact le_sum (List.mem_map.2 ⟨r, hr, rfl⟩)
  omega

/-- A field of an owned table whose rows lie apart: its cell, and the table behind a store. -/
theorem otb_at {w : World} {base : Nat} {v : Value} {vs : List Value} {T : Tb} (h : OTb w base 33 9 v vs T) (ha : Apart vs T.length) {i k : Nat} (hi : i < T.length) (hk : k < T[i].length) :
    ∃ g off c, vs[i]? = some (.slice (some ⟨g, off, none⟩) T[i].length c) ∧ w.cell? ⟨g, off + k, none⟩ = some (sv T[i][k]) ∧ w.frozen? ⟨g, off + k, none⟩ = false ∧ g ∈ tblks v vs ∧
      ∀ s', OTb (w.setCell ⟨g, off + k, none⟩ (sv s')) base 33 9 v vs (T.set i (T[i].set k s')) := by
  obtain ⟨h1, h2, h3⟩ := h
  have hvi : vs[i]? = some vs[i] := List.getElem?_eq_getElem (by omega)
  have ho := h3 i _ _ hvi (List.getElem?_eq_getElem hi)
  obtain ⟨A, c, hv, _⟩ := ho.form
  rw [hv] at ho hvi
  obtain ⟨g, off, u, rfl, hg1, hg2, hu, hcell, hfr, hset⟩ := ho.at_ hk
  rw [List.getElem?_map, List.getElem?_eq_getElem hk] at hu
  simp only [Option.map_some, Option.some.injEq] at hu
  subst hu
  have hmem : g ∈ tblks v vs := by
    simp only [tblks, List.mem_append, List.mem_flatMap]
    exact .inr ⟨_, List.mem_of_getElem? hvi, by simp [blkOf]⟩
  refine ⟨g, off, c, hvi, hcell, hfr, hmem, fun s' => ⟨by simpa using h1, ?_, ?_⟩⟩
  · have := h2.keep (Keeps.setCell w ⟨g, off + k, none⟩ (sv s')) (fun x hx => by
      simp
      intro e
      exact (ho.apart h2 (by decide)) g (by simp [blkOf]) (e ▸ hx))
    simpa using this
  · intro j x r hx hr
    by_cases e : j = i
    · subst e
      rw [List.getElem?_set_self hi] at hr
      injection hr with hr
      subst hr
      rw [hvi] at hx
      injection hx with hx
      subst hx
      have := hset (sv s')
      simpa [List.map_set] using this
    · rw [List.getElem?_set_ne (by omega)] at hr
      have h4 := h3 j x r hx hr
      refine h4.keep (Keeps.setCell w ⟨g, off + k, none⟩ (sv s')) (fun y hy => ?_)
      simp
      rintro rfl
      have hjl : j < T.length := (List.getElem?_eq_some_iff.1 hr).1
      rcases Nat.lt_or_ge i j with hij | hij
      · exact ha i j _ _ hij hjl hvi hx y (by simp [blkOf]) hy
      · exact ha j i _ _ (by omega) hi hx hvi y hy (by simp [blkOf])

theorem set_lens (T : Tb) (i k : Nat) (hi : i < T.length) (s : Bs) : (T.set i (T[i].set k s)).map List.length = T.map List.length := by
  rw [List.map_set, List.length_set]
  apply List.ext_getElem
  · simp
  · intro j h1 h2
    rw [List.getElem_set]
    split
    · next e => subst e; simp
    · rfl
theorem set_bound {T : Tb} {i k N : Nat} (hi : i < T.length) {s : Bs} (h : ∀ r ∈ T, ∀ x ∈ r, x.length ≤ N) (hs : s.length ≤ N + 1) : ∀ r ∈ T.set i (T[i].set k s), ∀ x ∈ r, x.length ≤ N + 1 := by
  intro r hr x hx
  rcases List.mem_or_eq_of_mem_set hr with hr | rfl
  · have := h r hr x hx; omega
  · rcases List.mem_or_eq_of_mem_set hx with hx | rfl
    · have := h _ (List.getElem_mem hi) x hx; omega
    · exact hs
theorem lens_eq {T a : Tb} (h : T.map List.length = a.map List.length) : T.length = a.length := by simpa using congrArg List.length h
theorem lens_at {T a : Tb} (h : T.map List.length = a.map List.length) {k : Nat} (h1 : k < T.length) (h2 : k < a.length) : T[k].length = a[k].length := by
  have := congrArg (fun l => l[k]?) h
  simpa [List.getElem?_eq_getElem h1, List.getElem?_eq_getElem h2] using this

theorem otb_row {w : World} {base : Nat} {A : Option Addr} {c : Nat} {vs : List Value} {T : Tb} (h : OTb w base 33 9 (.slice A T.length c) vs T) {i : Nat} (hi : i < T.length) :
    ∃ g off A' c', A = some ⟨g, off, none⟩ ∧ vs[i]? = some (.slice A' T[i].length c') ∧ w.cell? ⟨g, off + i, none⟩ = some (.slice A' T[i].length c') := by
  obtain ⟨h1, h2, h3⟩ := h
  obtain ⟨g, off, u, rfl, _, _, hu, hcell, _⟩ := h2.at_ hi
  obtain ⟨A', c', hv, _⟩ := (h3 i u T[i] hu (List.getElem?_eq_getElem hi)).form
  subst hv
  exact ⟨g, off, A', c', rfl, hu, hcell⟩

set_option maxHeartbeats 2000000 in
theorem walk (v v' : Value) (a b : Tb) (w : World) (ha : Tbl w w.heap.size v a) (hb : Tbl w w.heap.size v' b) (hs : Small a) (hs' : Small b) :
    Calls Try.prog 7 #[v, v'] w fun e w' => e = .returned (.bool true) ∧ Below w.heap.size w w' := by
  have HA := Lib.hid awake_c
  have HG := Lib.hid (great13_c v a w.heap.size w ha hs)
  have HG2 := Lib.hid (fun m => great13_c v' b w.heap.size (w.drewN m) (hb.drewN m) hs')
  have H1 := Lib.hid (fun m => tsame_c v v' a b w.heap.size w.heap.size (w.drewN m) (ha.drewN m) (hb.drewN m))
  have H2 := Lib.hid (fun m => sameTable_c v v' a b w.heap.size w.heap.size (w.drewN m) (ha.drewN m) (hb.drewN m))
  have H3 := Lib.hid (fun m => tsame_c v v a a w.heap.size w.heap.size (w.drewN m) (ha.drewN m) (ha.drewN m))
  rw [decide_eq_true rfl] at H3
  have hcat : ∀ x y : List UInt8, (ByteArray.mk x.toArray ++ ByteArray.mk y.toArray) = ⟨(x ++ y).toArray⟩ := cat_mk
  have ha' := ha
  obtain ⟨A, ca, rfl, ha1, ha2⟩ := ha.form
  obtain ⟨B, cb, rfl, hb1, hb2⟩ := hb.form
  clear hb ha
  go_enter Try.func7, Try.ntmps7
  go_wp2_with (fail)
  refine HG.out.mono ?_
  rintro e w1 ⟨x, rfl, hx, m, rfl⟩
  cases x
  rotate_left
  · go_wp2_with (fail)
    refine (HA.out _).mono ?_
    rintro e w4 ⟨rfl, hbel⟩
    go_wp2_with (fail)
    go_ret
    exact ⟨rfl, (below_of_drewN _ w m).trans hbel⟩
  obtain ⟨hl1, hl2, hl3⟩ := hx rfl
  clear hx
  go_wp2_with (fail)
  refine (HG2.out m).mono ?_
  rintro e w1 ⟨x, rfl, hx, m2, rfl⟩
  clear hx
  cases x
  rotate_left
  · go_wp2_with (fail)
    refine (HA.out _).mono ?_
    rintro e w4 ⟨rfl, hbel⟩
    go_wp2_with (fail)
    go_ret
    exact ⟨rfl, (below_of_drewN _ w _).trans hbel⟩
  rw [World.drewN_drewN]
  generalize m + m2 = m3
  clear m m2
  generalize decide (a = b) = d at *
  cases d
  all_goals
    go_wp2_with (fail)
    refine (H1.out _).mono ?_
    rintro e w1 ⟨rfl, m4, hw⟩
    rw [World.drewN_drewN] at hw
    subst hw
    generalize m3 + m4 = m5
    clear m3 m4
    go_wp2_with (fail)
    refine (H2.out _).mono ?_
    rintro e w1 ⟨rfl, m4, hw⟩
    rw [World.drewN_drewN] at hw
    subst hw
    generalize m5 + m4 = m3
    clear m5 m4
    go_wp2_with (fail)
    refine (H3.out _).mono ?_
    rintro e w1 ⟨rfl, m4, hw⟩
    rw [World.drewN_drewN] at hw
    subst hw
    generalize m3 + m4 = m5
    clear m3 m4
    have b5 : Below w.heap.size w (w.drewN m5) := below_of_drewN _ w m5
    have HC := Lib.hid (copy_c _ a w.heap.size (w.drewN m5) (ha'.drewN m5) (Nat.le_refl _) (by omega) (by omega))
    generalize w.drewN m5 = w5 at *
    clear m5
    go_wp2_with (fail)
    refine HC.out.mono ?_
    rintro e wc ⟨vc, vsc, rfl, oc, apc, kc⟩
    have bc : Below w.heap.size w wc := b5.trans (kc.below b5.size (by simp))
    have HC2 := Lib.hid (copy_c _ a w.heap.size wc (ha'.below bc (Nat.le_refl _)) bc.size (by omega) (by omega))
    clear kc HC
    go_wp2_with (fail)
    refine HC2.out.mono ?_
    rintro e wd ⟨vd, vsd, rfl, od, _, kd⟩
    have bd : Below w.heap.size w wd := bc.trans (kd.below bc.size (by simp))
    have ocd := oc.keep kd (by simp)
    have hlc := oc.lt
    have hld := od.lt
    have HS := Lib.hid (sameTable_c _ _ a a wd.heap.size w.heap.size wd (ocd.tbl (Nat.le_refl _)) (ha'.below bd (Nat.le_refl _)))
    rw [decide_eq_true rfl] at HS
    obtain ⟨Ac, cc, hvc, _⟩ := oc.2.1.form
    obtain ⟨Ad, cd, hvd, _⟩ := od.2.1.form
    subst hvc hvd
    have hr200 : ∀ r ∈ a, r.length ≤ 200 := fun r hr => by have := row_le' hr; omega
    have hs2000 : ∀ r ∈ a, ∀ s ∈ r, s.length ≤ 2000 := fun r hr s hs => by have := str_le (i := 0) hr hs; omega
    have hz5 : w.heap.size ≤ w5.heap.size := b5.size
    clear kd oc HC2 bc b5
    have ocd' := ocd.less (b' := 0) (Nat.zero_le _)
    clear ocd
    have HAP := Lib.hid apc
    have HLC := Lib.hid hlc
    have HLD := Lib.hid hld
    have HR := Lib.hid hr200
    have H20 := Lib.hid hs2000
    clear apc hlc hld hr200 hs2000
    go_wp2_with (fail)
    refine HS.out.mono ?_
    rintro e w6 ⟨rfl, m6, rfl⟩
    have od6 := od.allBelow (below_of_drewN wd.heap.size wd m6)
    have oc6 : OTb (wd.drewN m6) 0 33 9 (.slice Ac a.length cc) vsc a := ocd'.allBelow (below_of_drewN wd.heap.size wd m6)
    have b6 : Below w.heap.size w (wd.drewN m6) := bd.trans (below_of_drewN _ wd m6)
    clear od ocd' bd HS
    generalize wd.drewN m6 = we at *
    go_wp2_with (fail)
    go_loopw [39] (fun i wr => ∃ (k : Nat) (T : Tb), k ≤ a.length ∧ i = .int .i64 k ∧ OTb wr 0 33 9 (.slice Ac a.length cc) vsc T ∧ T.map List.length = a.map List.length ∧ (∀ r ∈ T, ∀ s ∈ r, s.length ≤ 2000 + 200 * k) ∧ Keeps (tblks (.slice Ac a.length cc) vsc) we wr) (fun i _ => a.length - (intOf i).toNat)
    case atStart => exact ⟨0, a, by omega, rfl, oc6, rfl, by simpa using H20.out, Keeps.refl _ _⟩
    case round =>
      obtain ⟨k, T, hk, rfl, ho, hTl, hTs, hkp⟩ := hrel
      obtain ⟨wo, rfl⟩ : ∃ wo : World, wo = wr := ⟨_, rfl⟩
      have hTL := lens_eq hTl
      by_cases hlt : k < a.length
      · have hkT : k < T.length := by omega
        have hrow := lens_at hTl hkT hlt
        have ho' : OTb wo 0 33 9 (.slice Ac T.length cc) vsc T := by rw [hTL]; exact ho
        obtain ⟨g, off, A', c', rfl, hvk, hcell⟩ := otb_row ho' hkT
        rw [hrow] at hvk hcell
        have hn200 := HR.out _ (List.getElem_mem hlt)
        have e0 : (0 : Int) ≤ (k : Int) := by omega
        have e1 : (k : Int) < (a.length : Int) := by omega
        have HTl := Lib.hid hTl; have HTs := Lib.hid hTs; have HVK := Lib.hid hvk
        have HRW := Lib.hid hrow; have HTL := Lib.hid hTL
        clear hTl hTs ho' hvk hrow hTL
        obtain ⟨n, hn⟩ : ∃ n, a[k].length = n := ⟨_, rfl⟩
        rw [hn] at hcell hn200 HVK
        have HN := Lib.hid hn; clear hn
        go_wp2_with (fail)
        go_loopw [47] (fun i wr => ∃ (j : Nat) (T' : Tb), j ≤ n ∧ i = .int .i64 j ∧ OTb wr 0 33 9 (.slice (some ⟨g, off, none⟩) a.length cc) vsc T' ∧ T'.map List.length = a.map List.length ∧ (∀ r ∈ T', ∀ s ∈ r, s.length ≤ 2000 + 200 * k + j) ∧ Keeps (tblks (.slice (some ⟨g, off, none⟩) a.length cc) vsc) we wr) (fun i _ => n - (intOf i).toNat)
        case atStart => exact ⟨0, T, by omega, rfl, ho, HTl.out, by simpa using HTs.out, hkp⟩
        case round =>
          obtain ⟨j, T', hj, rfl, hoj, hTl', hTs', hkj⟩ := hrel
          by_cases hjl : j < n
          · have hkT' : k < T'.length := by have := lens_eq hTl'; omega
            have hrow' := lens_at hTl' hkT' hlt
            rw [HN.out] at hrow'
            have hTL' := lens_eq hTl'
            have hoj' : OTb wr 0 33 9 (.slice (some ⟨g, off, none⟩) T'.length cc) vsc T' := by rw [hTL']; exact hoj
            obtain ⟨g2, off2, A2, c2, hA, hvk2, hcell2⟩ := otb_row hoj' hkT'
            injection hA with hA; injection hA with hA1 hA2; subst hA1 hA2
            rw [HVK.out] at hvk2
            injection hvk2 with hvk2; injection hvk2 with hv1 hv2 hv3
            subst hv1 hv3
            have hjT : j < T'[k].length := by omega
            obtain ⟨g3, off3, c3, hv3, hc3, hf3, hm3, hset⟩ := otb_at hoj' (by rw [hTL']; exact HAP.out) hkT' hjT
            rw [HVK.out] at hv3
            injection hv3 with hv3; injection hv3 with hv3 hv4 hv5
            subst hv3 hv5
            have hsl := hTs' _ (List.getElem_mem hkT') _ (List.getElem_mem hjT)
            have hset := hset (T'[k][j] ++ [120])
            rw [hTL'] at hset
            have hl2 := set_lens T' k j hkT' (T'[k][j] ++ [120])
            have hb2 := set_bound (k := j) hkT' hTs' (s := T'[k][j] ++ [120]) (by simp; omega)
            rw [hrow'] at hcell2
            have HL2 := Lib.hid (hl2.trans hTl'); have HB2 := Lib.hid hb2; have HSET := Lib.hid hset
            have hmx : g3 ∈ tblks (.slice (some ⟨g, off, none⟩) a.length cc) vsc := by rw [← hTL']; exact hm3
            have HMX := Lib.hid hmx
            clear hl2 hb2 hset hTl' hTs' hoj' hoj hv2 hv4 hm3 hmx
            generalize T'[k][j] = s at *
            have e5 : (0 : Int) ≤ (j : Int) := by omega
            have e6 : (j : Int) < (n : Int) := by omega
            go_wp2_with (fail)
            go_roundw
            case rel => exact ⟨j + 1, _, by omega, by go_num, HSET.out, HL2.out, HB2.out, hkj.set1 _ _ (fun _ => HMX.out)⟩
            case measure => simp [intOf]; omega
          · obtain rfl : j = n := by omega
            go_wp2_with (fail)
            go_roundw
            case rel => exact ⟨k + 1, T', by omega, by go_num, hoj, hTl', fun r hr s hs => by have := hTs' r hr s hs; omega, hkj⟩
            case measure => simp [intOf]; omega
      · obtain rfl : k = a.length := by omega
        have odr := od6.keep hkp (fun x hx hx2 => by have := HLD.out x hx; have := HLC.out x hx2; omega)
        have br : Below w.heap.size w wo := b6.trans (hkp.below b6.size (fun x hx => by have := HLC.out x hx; omega))
        have HS := Lib.hid (sameTable_c _ _ a a w.heap.size wo.heap.size wo (ha'.below br (Nat.le_refl _)) (odr.tbl (Nat.le_refl _)))
        rw [decide_eq_true rfl] at HS
        clear odr ho hTl hTs hTL
        go_wp2_with (fail)
        refine HS.out.mono ?_
        rintro e w7 ⟨rfl, m7, rfl⟩
        go_wp2_with (fail)
        refine (HA.out _).mono ?_
        rintro e w8 ⟨rfl, hbel⟩
        go_wp2_with (fail)
        go_ret
        exact ⟨rfl, br.trans ((below_of_drewN _ _ m7).trans (hbel.mono br.size))⟩
set_option maxRecDepth 100000 in
theorem lifted (os : Os) (started : os.Started) (H : Type) (enc : TypeId × Value → H) :
    ReturnsInHanded {} Try.checked os 7 .any (Rows.tableSameSpec.pre6 enc Try.prog Try.f7 Rows.tableSameRow.domain false) (Rows.tableSameSpec.post enc Try.prog Try.f7 false true false false) := by
  refine returnsInHanded_of_change_sized (C := Try.checked) own started (by kernel_rfl) Try.func7
    (ChangeSpec.witness6 (enc := enc) (C := Try.checked) false ⟨#[], #[.slice none 0 0, .slice none 0 0], []⟩ 8 (by kernel_rfl) (by kernel_rfl) (by kernel_rfl) (by kernel_rfl)) ?_
  intro W base args ds gs before hval0 hW hcnd hsz0 _
  have hval : ∀ (j : Nat) t v, Try.f7.params[j]? = some t → args[j]? = some v → Value.okWide Try.prog W .any base t v := hval0
  have hW' := hW
  obtain ⟨p, q, hA0, hV, rfl, hfz, hnd⟩ := hW
  have hA : DataW.TrodAll enc Try.prog W 0 (fun _ => true) true Try.f7.params.toList args.toList ds p := hA0
  have hsz : (DataW.weightsEach Try.prog (Try.f7.params.toList ++ Rows.tableSameSpec.plain.varTypes Try.prog) (ds ++ gs)).all (· ≤ reachBytes) = true := hsz0
  rw [Try.params7] at hA hval hsz
  obtain ⟨v0, vs0, d0, ds0, p0, q0, hargs, rfl, rfl, k0, r0⟩ := trodAll_cons hA
  obtain ⟨v1, vs1, d1, ds1, p1, q1, rfl, rfl, rfl, k1, r1⟩ := trodAll_cons r0
  obtain ⟨rfl, rfl, rfl⟩ := trodAll_nil r1
  obtain rfl : args = #[v0, v1] := by cases args; simp_all
  obtain ⟨rfl, rfl⟩ := trodVars_none hV
  have lt0 := Trod_lt k0
  have lt1 := Trod_lt k1
  obtain ⟨tb0, rd0, hs0⟩ := Trod_tbl Try.underlying22 (by kernel_rfl) (of_decide_eq_true (by kernel_rfl)) Try.underlying33 Try.underlying9 (by kernel_rfl) (of_decide_eq_true (by kernel_rfl)) (hval 0 22 v0 rfl rfl) k0 (wt_of hsz (j := 0) rfl rfl)
  obtain ⟨tb1, rd1, hs1⟩ := Trod_tbl Try.underlying22 (by kernel_rfl) (of_decide_eq_true (by kernel_rfl)) Try.underlying33 Try.underlying9 (by kernel_rfl) (of_decide_eq_true (by kernel_rfl)) (hval 1 22 v1 rfl rfl) k1 (wt_of hsz (j := 1) rfl rfl)
  clear hA0 hval0 hsz0
  refine (walk v0 v1 tb0 tb1 W rd0 rd1 hs0 hs1).mono fun e W' ⟨he, bel⟩ => ?_
  subst he
  exact ⟨_, rfl, _, _, _, [], _, [], hW', trodAll_mk1 (shut_bool Try.underlying4 _), (trodAll_cons_mk (Below.trod laidOut (by kernel_rfl) (of_decide_eq_true (by kernel_rfl)) k0 bel lt0) (trodAll_cons_mk (Below.trod laidOut (by kernel_rfl) (of_decide_eq_true (by kernel_rfl)) k1 bel lt1) trodAll_mk0)), rfl, bel.frame _, fun h => by cases h⟩

theorem proved : Rows.TableSameSaid :=
  OpenClaim.holds_of_wide 7 Try.f7 rfl rfl rfl rfl rfl rfl rfl ⟨rfl, rfl, rfl, rfl, rfl⟩ rfl rfl rfl rfl rfl (by kernel_rfl) Try.func7 (by kernel_rfl)
    (of_decide_eq_true (by kernel_rfl)) (by unfold Func.isWrapper; first | (rw [if_pos (by decide +kernel)]; kernel_rfl) | (rw [if_neg (by decide +kernel)]; exact ⟨rfl, rfl⟩))
    (fun os started H enc _ => lifted os started H enc)
end Go.Proofs.Ytnbeebagblkkfaa.TableSameP
namespace Go.Proofs.Ytnbeebagblkkfaa
theorem tableSame_holds : Rows.TableSameSaid := TableSameP.proved
#print axioms tableSame_holds
end Go.Proofs.Ytnbeebagblkkfaa
