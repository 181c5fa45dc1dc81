/- PROVED: for every table t, int n and slice of ints places, TableColumns(t, n, places) returns true and leaves its arguments as they were. No condition. -/
import Derived.Test.YtnbeebagblkkfaaRows
import Derived.Test.YtnbeebagblkkfaaPick
namespace Go.Proofs.Ytnbeebagblkkfaa.TableColumnsP
set_option linter.unusedVariables false
set_option linter.unusedSimpArgs false
open Go.ChangeShapes Go.WideShapes Go.ChangeAt Go.RowKit Q Tab Same

theorem own : ownKnob Try.prog.godebug = none := by kernel_rfl
theorem laidOut : laidOutB Try.prog = true := by kernel_rfl

theorem walk_great (v P : Value) (t : Tb) (n : Int) (ps : List Int) (w : World) (ht : Tbl w w.heap.size v t) (hs : Small t) (hP : Rd w w.heap.size 1 P ps.length (ps.map (Value.int .i64))) (hg : 20 < ps.length) :
    Calls Try.prog 5 #[v, .int .i64 n, P] w fun e w' => e = .returned (.bool true) ∧ Below w.heap.size w w' := by
  have HA := Lib.hid awake_c
  have HG := Lib.hid (great13_c v t w.heap.size w ht hs)
  obtain ⟨A, ca, rfl, ha1, ha2⟩ := ht.form
  obtain ⟨P, cp, rfl, hp1, hp2⟩ := hP.form
  clear ht hP
  go_enter Try.func5, Try.ntmps5
  go_wp2_with (fail)
  refine HG.out.mono ?_
  rintro e w1 ⟨b, rfl, hb, m, rfl⟩
  have hg' : decide ((20 : Int) < (ps.length : Int)) = true := by simp; omega
  cases b
  all_goals
    clear hb
    go_wp2_with (fail)
    refine (HA.out _).mono ?_
    rintro e w4 ⟨rfl, hbel⟩
    go_wp2_with (fail)
    go_ret
    exact ⟨rfl, (below_of_drewN _ w m).trans hbel⟩

set_option maxHeartbeats 2000000 in
theorem walk_few (v P : Value) (t : Tb) (n : Int) (hn : -9223372036854775808 ≤ n ∧ n ≤ 9223372036854775807) (ps : List Int) (hps : ∀ n ∈ ps, -9223372036854775808 ≤ n ∧ n ≤ 9223372036854775807) (w : World) (ht : Tbl w w.heap.size v t) (hs : Small t) (hP : Rd w w.heap.size 1 P ps.length (ps.map (Value.int .i64))) (hl : ps.length ≤ 20) :
    Calls Try.prog 5 #[v, .int .i64 n, P] w fun e w' => e = .returned (.bool true) ∧ Below w.heap.size w w' := by
  have HA := Lib.hid awake_c
  have HG := Lib.hid (great13_c v t w.heap.size w ht hs)
  have ht' := ht
  have hP' := hP
  obtain ⟨A, ca, rfl, ha1, ha2⟩ := ht.form
  obtain ⟨P, cp, rfl, hp1, hp2⟩ := hP.form
  have hg' : decide ((20 : Int) < (ps.length : Int)) = false := by simp; omega
  clear ht hP
  go_enter Try.func5, Try.ntmps5
  go_wp2_with (fail)
  refine HG.out.mono ?_
  rintro e w1 ⟨b, rfl, hb, m, rfl⟩
  have b0 : Below w.heap.size w (w.drewN m) := below_of_drewN _ w m
  have t0 := ht'.drewN m
  cases b
  · obtain ⟨hb1, hb2, hb3⟩ := hb rfl
    clear hb
    generalize w.drewN m = w0 at *
    by_cases hneg : n < 0
    · go_wp2_with (fail)
      refine (column_neg _ t n hneg w.heap.size _ t0).mono ?_
      rintro e w1 ⟨rfl, rfl⟩
      clear t0
      obtain ⟨wz, hz⟩ : ∃ wz : World, wz = w0 := ⟨_, rfl⟩
      rw [← hz] at b0 ⊢
      clear hz
      have tz := ht'.below b0 (Nat.le_refl _)
      have pz := hP'.below b0 (Nat.le_refl _)
      have hz0 := b0.size
      by_cases hq : ∃ q, ∃ hq : q < ps.length, ps[q] < 0
      · obtain ⟨q, hq, hqn⟩ := hq
        have HPN := Lib.hid (pick_neg _ _ t ps w.heap.size w.heap.size wz tz pz q hq hqn)
        have HRN := Lib.hid (rpick_neg _ _ t ps w.heap.size w.heap.size wz tz pz q hq hqn)
        have HS := Lib.hid (sameTable_c _ _ [] [] 0 0 wz (Tbl.nil_ wz 0) (Tbl.nil_ wz 0))
        rw [decide_eq_true rfl] at HS
        clear hqn
        go_wp2_with (fail)
        refine HPN.out.mono ?_
        rintro e w1 ⟨rfl, rfl⟩
        go_wp2_with (fail)
        refine HRN.out.mono ?_
        rintro e w1 ⟨rfl, rfl⟩
        go_wp2_with (fail)
        refine HS.out.mono ?_
        rintro e w3 ⟨rfl, m3, rfl⟩
        go_wp2_with (fail)
        refine (HA.out _).mono ?_
        rintro e w4 ⟨rfl, hbel⟩
        go_wp2_with (fail)
        go_ret
        exact ⟨rfl, b0.trans ((below_of_drewN _ _ m3).trans (hbel.mono hz0))⟩
      · have hpos : ∀ n ∈ ps, 0 ≤ n ∧ n ≤ 9223372036854775807 := by
          intro x hx
          refine ⟨?_, (hps x hx).2⟩
          obtain ⟨q, hq', rfl⟩ := List.getElem_of_mem hx
          rcases Int.lt_or_le ps[q] 0 with h | h
          · exact absurd ⟨q, hq', h⟩ hq
          · exact h
        have HPN := Lib.hid (pick_c _ _ t ps w.heap.size w.heap.size wz tz pz hz0 hz0 hpos (by omega) (by omega))
        have HPOS := Lib.hid hpos
        clear hq hpos
        obtain ⟨fl, hfl⟩ : ∃ fl : Int, (firstLack ps t : Int) = fl := ⟨_, rfl⟩
        obtain ⟨fk, hfk⟩ : ∃ fk : Int, (if firstLack ps t = t.length then (0 : Int) else 10) = fk := ⟨_, rfl⟩
        have HFL := Lib.hid hfl; have HFK := Lib.hid hfk
        clear hfl hfk
        go_wp2_with (fail)
        refine HPN.out.mono ?_
        rintro e w5 ⟨v5, vs5, he5, ho5, hk5⟩
        rw [HFL.out, HFK.out] at he5
        subst he5
        have b5 : Below w.heap.size w w5 := b0.trans (hk5.below hz0 (by simp))
        have HRN := Lib.hid (rpick_c _ _ t ps w.heap.size w.heap.size w5 (ht'.below b5 (Nat.le_refl _)) (hP'.below b5 (Nat.le_refl _)) b5.size b5.size HPOS.out (by omega) (by omega))
        have hfe : ∀ z : Int, (z == z) = true := fun z => by simp
        have HFE := Lib.hid hfe
        go_wp2_with (fail)
        refine HRN.out.mono ?_
        rintro e w6 ⟨v6, vs6, he6, ho6, hk6⟩
        rw [HFL.out, HFK.out] at he6
        subst he6
        have ho56 := ho5.keep hk6 (by simp)
        have HS := Lib.hid (sameTable_c _ _ (pick t ps) (pick t ps) w6.heap.size w6.heap.size w6 (ho56.tbl (Nat.le_refl _)) (ho6.tbl (Nat.le_refl _)))
        rw [decide_eq_true rfl] at HS
        have b6 : Below w.heap.size w w6 := b5.trans (hk6.below b5.size (by simp))
        obtain ⟨A5, c5, hv5, _⟩ := ho5.2.1.form
        obtain ⟨A6, c6, hv6, _⟩ := ho6.2.1.form
        subst hv5 hv6
        clear ho5 ho6 ho56 hk6 hk5
        have h1 := HFE.out fl
        have h2 := HFE.out fk
        go_wp2_with (fail)
        refine HS.out.mono ?_
        rintro e w3 ⟨rfl, m3, rfl⟩
        go_wp2_with (fail)
        refine (HA.out _).mono ?_
        rintro e w4 ⟨rfl, hbel⟩
        go_wp2_with (fail)
        go_ret
        exact ⟨rfl, b6.trans ((below_of_drewN _ _ m3).trans (hbel.mono b6.size))⟩
    · obtain ⟨nn, rfl⟩ : ∃ nn : Nat, n = nn := ⟨n.toNat, by omega⟩
      have hn0 : decide ((nn : Int) < 0) = false := by simp
      go_wp2_with (fail)
      refine (column_c _ t nn hn.2 w.heap.size _ t0 b0.size (by omega)).mono ?_
      rintro e w2 ⟨hc, hk2⟩
      have b2 : Below w.heap.size w w2 := b0.trans (hk2.below b0.size (by simp))
      have HH := Lib.hid (rhas_c _ t nn hn.2 w.heap.size w2 (ht'.below b2 (Nat.le_refl _)))
      rcases hc with ⟨hh, rfl⟩ | ⟨hh, v2, rfl, ho2⟩
      · rw [hh] at HH
        clear hh hk2
        go_wp2_with (fail)
        refine HH.out.mono ?_
        rintro e w1 ⟨rfl, rfl⟩
        clear t0
        obtain ⟨wz, hz⟩ : ∃ wz : World, wz = w2 := ⟨_, rfl⟩
        rw [← hz] at b2 ⊢
        clear hz b0
        have b0 := b2
        have tz := ht'.below b0 (Nat.le_refl _)
        have pz := hP'.below b0 (Nat.le_refl _)
        have hz0 := b0.size
        by_cases hq : ∃ q, ∃ hq : q < ps.length, ps[q] < 0
        · obtain ⟨q, hq, hqn⟩ := hq
          have HPN := Lib.hid (pick_neg _ _ t ps w.heap.size w.heap.size wz tz pz q hq hqn)
          have HRN := Lib.hid (rpick_neg _ _ t ps w.heap.size w.heap.size wz tz pz q hq hqn)
          have HS := Lib.hid (sameTable_c _ _ [] [] 0 0 wz (Tbl.nil_ wz 0) (Tbl.nil_ wz 0))
          rw [decide_eq_true rfl] at HS
          clear hqn
          go_wp2_with (fail)
          refine HPN.out.mono ?_
          rintro e w1 ⟨rfl, rfl⟩
          go_wp2_with (fail)
          refine HRN.out.mono ?_
          rintro e w1 ⟨rfl, rfl⟩
          go_wp2_with (fail)
          refine HS.out.mono ?_
          rintro e w3 ⟨rfl, m3, rfl⟩
          go_wp2_with (fail)
          refine (HA.out _).mono ?_
          rintro e w4 ⟨rfl, hbel⟩
          go_wp2_with (fail)
          go_ret
          exact ⟨rfl, b0.trans ((below_of_drewN _ _ m3).trans (hbel.mono hz0))⟩
        · have hpos : ∀ n ∈ ps, 0 ≤ n ∧ n ≤ 9223372036854775807 := by
            intro x hx
            refine ⟨?_, (hps x hx).2⟩
            obtain ⟨q, hq', rfl⟩ := List.getElem_of_mem hx
            rcases Int.lt_or_le ps[q] 0 with h | h
            · exact absurd ⟨q, hq', h⟩ hq
            · exact h
          have HPN := Lib.hid (pick_c _ _ t ps w.heap.size w.heap.size wz tz pz hz0 hz0 hpos (by omega) (by omega))
          have HPOS := Lib.hid hpos
          clear hq hpos
          obtain ⟨fl, hfl⟩ : ∃ fl : Int, (firstLack ps t : Int) = fl := ⟨_, rfl⟩
          obtain ⟨fk, hfk⟩ : ∃ fk : Int, (if firstLack ps t = t.length then (0 : Int) else 10) = fk := ⟨_, rfl⟩
          have HFL := Lib.hid hfl; have HFK := Lib.hid hfk
          clear hfl hfk
          go_wp2_with (fail)
          refine HPN.out.mono ?_
          rintro e w5 ⟨v5, vs5, he5, ho5, hk5⟩
          rw [HFL.out, HFK.out] at he5
          subst he5
          have b5 : Below w.heap.size w w5 := b0.trans (hk5.below hz0 (by simp))
          have HRN := Lib.hid (rpick_c _ _ t ps w.heap.size w.heap.size w5 (ht'.below b5 (Nat.le_refl _)) (hP'.below b5 (Nat.le_refl _)) b5.size b5.size HPOS.out (by omega) (by omega))
          have hfe : ∀ z : Int, (z == z) = true := fun z => by simp
          have HFE := Lib.hid hfe
          go_wp2_with (fail)
          refine HRN.out.mono ?_
          rintro e w6 ⟨v6, vs6, he6, ho6, hk6⟩
          rw [HFL.out, HFK.out] at he6
          subst he6
          have ho56 := ho5.keep hk6 (by simp)
          have HS := Lib.hid (sameTable_c _ _ (pick t ps) (pick t ps) w6.heap.size w6.heap.size w6 (ho56.tbl (Nat.le_refl _)) (ho6.tbl (Nat.le_refl _)))
          rw [decide_eq_true rfl] at HS
          have b6 : Below w.heap.size w w6 := b5.trans (hk6.below b5.size (by simp))
          obtain ⟨A5, c5, hv5, _⟩ := ho5.2.1.form
          obtain ⟨A6, c6, hv6, _⟩ := ho6.2.1.form
          subst hv5 hv6
          clear ho5 ho6 ho56 hk6 hk5
          have h1 := HFE.out fl
          have h2 := HFE.out fk
          go_wp2_with (fail)
          refine HS.out.mono ?_
          rintro e w3 ⟨rfl, m3, rfl⟩
          go_wp2_with (fail)
          refine (HA.out _).mono ?_
          rintro e w4 ⟨rfl, hbel⟩
          go_wp2_with (fail)
          go_ret
          exact ⟨rfl, b6.trans ((below_of_drewN _ _ m3).trans (hbel.mono b6.size))⟩
      · rw [hh] at HH
        have hall := has_at hh
        clear hh
        obtain ⟨A2, c2, hv2, _⟩ := ho2.form
        subst hv2
        have HC := Lib.hid (rcol_c _ t nn w.heap.size w2 (ht'.below b2 (Nat.le_refl _)) b2.size hall (by omega))
        clear hall
        go_wp2_with (fail)
        refine HH.out.mono ?_
        rintro e w1 ⟨rfl, rfl⟩
        go_wp2_with (fail)
        refine HC.out.mono ?_
        rintro e w3 ⟨v3, rfl, ho3, hk3⟩
        have ho23 := ho2.keep hk3 (by simp)
        have HS := Lib.hid (same_c _ _ (column t nn) (column t nn) w3.heap.size w3.heap.size w3 (ho23.rd (Nat.le_refl _)) (ho3.rd (Nat.le_refl _)))
        rw [decide_eq_true rfl] at HS
        have b3 : Below w.heap.size w w3 := b2.trans (hk3.below b2.size (by simp))
        obtain ⟨A3, c3, hv3, _⟩ := ho3.form
        subst hv3
        clear ho23 ho3 hk3 ho2 hk2
        go_wp2_with (fail)
        refine HS.out.mono ?_
        rintro e w4 ⟨rfl, m4, rfl⟩
        clear t0 b0 b2
        have b0 : Below w.heap.size w (w3.drewN m4) := b3.trans (below_of_drewN _ _ m4)
        generalize w3.drewN m4 = wz at *
        have tz := ht'.below b0 (Nat.le_refl _)
        have pz := hP'.below b0 (Nat.le_refl _)
        have hz0 := b0.size
        by_cases hq : ∃ q, ∃ hq : q < ps.length, ps[q] < 0
        · obtain ⟨q, hq, hqn⟩ := hq
          have HPN := Lib.hid (pick_neg _ _ t ps w.heap.size w.heap.size wz tz pz q hq hqn)
          have HRN := Lib.hid (rpick_neg _ _ t ps w.heap.size w.heap.size wz tz pz q hq hqn)
          have HS := Lib.hid (sameTable_c _ _ [] [] 0 0 wz (Tbl.nil_ wz 0) (Tbl.nil_ wz 0))
          rw [decide_eq_true rfl] at HS
          clear hqn
          go_wp2_with (fail)
          refine HPN.out.mono ?_
          rintro e w1 ⟨rfl, rfl⟩
          go_wp2_with (fail)
          refine HRN.out.mono ?_
          rintro e w1 ⟨rfl, rfl⟩
          go_wp2_with (fail)
          refine HS.out.mono ?_
          rintro e w3 ⟨rfl, m3, rfl⟩
          go_wp2_with (fail)
          refine (HA.out _).mono ?_
          rintro e w4 ⟨rfl, hbel⟩
          go_wp2_with (fail)
          go_ret
          exact ⟨rfl, b0.trans ((below_of_drewN _ _ m3).trans (hbel.mono hz0))⟩
        · have hpos : ∀ n ∈ ps, 0 ≤ n ∧ n ≤ 9223372036854775807 := by
            intro x hx
            refine ⟨?_, (hps x hx).2⟩
            obtain ⟨q, hq', rfl⟩ := List.getElem_of_mem hx
            rcases Int.lt_or_le ps[q] 0 with h | h
            · exact absurd ⟨q, hq', h⟩ hq
            · exact h
          have HPN := Lib.hid (pick_c _ _ t ps w.heap.size w.heap.size wz tz pz hz0 hz0 hpos (by omega) (by omega))
          have HPOS := Lib.hid hpos
          clear hq hpos
          obtain ⟨fl, hfl⟩ : ∃ fl : Int, (firstLack ps t : Int) = fl := ⟨_, rfl⟩
          obtain ⟨fk, hfk⟩ : ∃ fk : Int, (if firstLack ps t = t.length then (0 : Int) else 10) = fk := ⟨_, rfl⟩
          have HFL := Lib.hid hfl; have HFK := Lib.hid hfk
          clear hfl hfk
          go_wp2_with (fail)
          refine HPN.out.mono ?_
          rintro e w5 ⟨v5, vs5, he5, ho5, hk5⟩
          rw [HFL.out, HFK.out] at he5
          subst he5
          have b5 : Below w.heap.size w w5 := b0.trans (hk5.below hz0 (by simp))
          have HRN := Lib.hid (rpick_c _ _ t ps w.heap.size w.heap.size w5 (ht'.below b5 (Nat.le_refl _)) (hP'.below b5 (Nat.le_refl _)) b5.size b5.size HPOS.out (by omega) (by omega))
          have hfe : ∀ z : Int, (z == z) = true := fun z => by simp
          have HFE := Lib.hid hfe
          go_wp2_with (fail)
          refine HRN.out.mono ?_
          rintro e w6 ⟨v6, vs6, he6, ho6, hk6⟩
          rw [HFL.out, HFK.out] at he6
          subst he6
          have ho56 := ho5.keep hk6 (by simp)
          have HS := Lib.hid (sameTable_c _ _ (pick t ps) (pick t ps) w6.heap.size w6.heap.size w6 (ho56.tbl (Nat.le_refl _)) (ho6.tbl (Nat.le_refl _)))
          rw [decide_eq_true rfl] at HS
          have b6 : Below w.heap.size w w6 := b5.trans (hk6.below b5.size (by simp))
          obtain ⟨A5, c5, hv5, _⟩ := ho5.2.1.form
          obtain ⟨A6, c6, hv6, _⟩ := ho6.2.1.form
          subst hv5 hv6
          clear ho5 ho6 ho56 hk6 hk5
          have h1 := HFE.out fl
          have h2 := HFE.out fk
          go_wp2_with (fail)
          refine HS.out.mono ?_
          rintro e w3 ⟨rfl, m3, rfl⟩
          go_wp2_with (fail)
          refine (HA.out _).mono ?_
          rintro e w4 ⟨rfl, hbel⟩
          go_wp2_with (fail)
          go_ret
          exact ⟨rfl, b6.trans ((below_of_drewN _ _ m3).trans (hbel.mono b6.size))⟩
  · go_wp2_with (fail)
    refine (HA.out _).mono ?_
    rintro e w4 ⟨rfl, hbel⟩
    go_wp2_with (fail)
    go_ret
    exact ⟨rfl, b0.trans (hbel.mono b0.size)⟩
theorem walk (v P : Value) (t : Tb) (n : Int) (hn : -9223372036854775808 ≤ n ∧ n ≤ 9223372036854775807) (ps : List Int) (hps : ∀ n ∈ ps, -9223372036854775808 ≤ n ∧ n ≤ 9223372036854775807) (w : World) (ht : Tbl w w.heap.size v t) (hs : Small t) (hP : Rd w w.heap.size 1 P ps.length (ps.map (Value.int .i64))) :
    Calls Try.prog 5 #[v, .int .i64 n, P] w fun e w' => e = .returned (.bool true) ∧ Below w.heap.size w w' := by
  by_cases hl : ps.length ≤ 20
  · exact walk_few v P t n hn ps hps w ht hs hP hl
  · exact walk_great v P t n ps w ht hs hP (by omega)
set_option maxRecDepth 100000 in
theorem lifted (os : Os) (started : os.Started) (H : Type) (enc : TypeId × Value → H) :
    ReturnsInHanded {} Try.checked os 5 .any (Rows.tableColumnsSpec.pre6 enc Try.prog Try.f5 Rows.tableColumnsRow.domain false) (Rows.tableColumnsSpec.post enc Try.prog Try.f5 false true false false) := by
  refine returnsInHanded_of_change_sized (C := Try.checked) own started (by kernel_rfl) Try.func5
    (ChangeSpec.witness6 (enc := enc) (C := Try.checked) false ⟨#[], #[.slice none 0 0, .int .i64 0, .slice none 0 0], []⟩ 8 (by kernel_rfl) (by kernel_rfl) (by kernel_rfl) (by kernel_rfl)) ?_
  intro W base args ds gs before hval0 hW hcnd hsz0 _
  have hval : ∀ (j : Nat) t v, Try.f5.params[j]? = some t → args[j]? = some v → Value.okWide Try.prog W .any base t v := hval0
  have hW' := hW
  obtain ⟨p, q, hA0, hV, rfl, hfz, hnd⟩ := hW
  have hA : DataW.TrodAll enc Try.prog W 0 (fun _ => true) true Try.f5.params.toList args.toList ds p := hA0
  have hsz : (DataW.weightsEach Try.prog (Try.f5.params.toList ++ Rows.tableColumnsSpec.plain.varTypes Try.prog) (ds ++ gs)).all (· ≤ reachBytes) = true := hsz0
  rw [Try.params5] at hA hval hsz
  obtain ⟨v0, vs0, d0, ds0, p0, q0, hargs, rfl, rfl, k0, r0⟩ := trodAll_cons hA
  obtain ⟨v1, vs1, d1, ds1, p1, q1, rfl, rfl, rfl, k1, r1⟩ := trodAll_cons r0
  obtain ⟨v2, vs2, d2, ds2, p2, q2, rfl, rfl, rfl, k2, r2⟩ := trodAll_cons r1
  obtain ⟨rfl, rfl, rfl⟩ := trodAll_nil r2
  obtain rfl : args = #[v0, v1, v2] := by cases args; simp_all
  obtain ⟨rfl, rfl⟩ := trodVars_none hV
  have lt0 := Trod_lt k0
  have lt1 := Trod_lt k1
  have lt2 := Trod_lt k2
  obtain ⟨tb0, rd0, hs0⟩ := Trod_tbl Try.underlying22 (by kernel_rfl) (of_decide_eq_true (by kernel_rfl)) Try.underlying33 Try.underlying9 (by kernel_rfl) (of_decide_eq_true (by kernel_rfl)) (hval 0 22 v0 rfl rfl) k0 (wt_of hsz (j := 0) rfl rfl)
  obtain ⟨n1, rfl, hn1⟩ := Trod_int Try.underlying3 (hval 1 3 v1 rfl rfl) k1
  obtain ⟨zs2, rd2, hz2, hl2⟩ := Trod_ints Try.underlying32 Try.underlying3 (by kernel_rfl) (of_decide_eq_true (by kernel_rfl)) (hval 2 32 v2 rfl rfl) k2 (wt_of hsz (j := 2) rfl rfl)
  clear hA0 hval0 hsz0
  refine (walk v0 v2 tb0 n1 hn1 zs2 hz2 W rd0 hs0 rd2).mono fun e W' ⟨he, bel⟩ => ?_
  subst he
  exact ⟨_, rfl, _, _, _, [], _, [], hW', trodAll_mk1 (shut_bool Try.underlying4 _), (trodAll_cons_mk (Below.trod laidOut (by kernel_rfl) (of_decide_eq_true (by kernel_rfl)) k0 bel lt0) (trodAll_cons_mk (Below.trod laidOut (by kernel_rfl) (of_decide_eq_true (by kernel_rfl)) k1 bel lt1) (trodAll_cons_mk (Below.trod laidOut (by kernel_rfl) (of_decide_eq_true (by kernel_rfl)) k2 bel lt2) trodAll_mk0))), rfl, bel.frame _, fun h => by cases h⟩

theorem proved : Rows.TableColumnsSaid :=
  OpenClaim.holds_of_wide 5 Try.f5 rfl rfl rfl rfl rfl rfl rfl ⟨rfl, rfl, rfl, rfl, rfl⟩ rfl rfl rfl rfl rfl (by kernel_rfl) Try.func5 (by kernel_rfl)
    (of_decide_eq_true (by kernel_rfl)) (by unfold Func.isWrapper; first | (rw [if_pos (by decide +kernel)]; kernel_rfl) | (rw [if_neg (by decide +kernel)]; exact ⟨rfl, rfl⟩))
    (fun os started H enc _ => lifted os started H enc)
end Go.Proofs.Ytnbeebagblkkfaa.TableColumnsP
namespace Go.Proofs.Ytnbeebagblkkfaa
theorem tableColumns_holds : Rows.TableColumnsSaid := TableColumnsP.proved
#print axioms tableColumns_holds
end Go.Proofs.Ytnbeebagblkkfaa

