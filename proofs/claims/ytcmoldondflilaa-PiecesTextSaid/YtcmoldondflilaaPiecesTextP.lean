/- PROVED: for every dialect d, table t and sizes, PiecesText(d, t, sizes) returns true and leaves its arguments as they were. No condition. -/
import Derived.Test.YtcmoldondflilaaRows
import Derived.Test.YtcmoldondflilaaTxt2
import Derived.Test.YtcmoldondflilaaRef10b
import Derived.Test.YtcmoldondflilaaPcs2
import Derived.Test.YtcmoldondflilaaOpenD
import Derived.Test.YtcmoldondflilaaSame
import Derived.Deep.CutBlock
namespace Go.Proofs.Ytcmoldondflilaa.PiecesTextP
set_option linter.unusedVariables false
set_option linter.unusedSimpArgs false
set_option maxRecDepth 100000
open Go.ChangeShapes Go.WideShapes Go.ChangeAt Go.RowKit Q Mach Dia Need Bld Quo WLine Par Wide Pcs
open Tab (fieldsOf bytesOf bytesOfRow)
attribute [local go_sem ↓] Go.wp_at_zero Go.wp_at_succ

theorem own : ownKnob Try.prog.godebug = none := by kernel_rfl
theorem laidOut : laidOutB Try.prog = true := by kernel_rfl
theorem u8_w (b : UInt8) : wrap64 (b.toNat : Int) = b.toNat ∧ IntKind.i64.wrap (b.toNat : Int) = b.toNat ∧ (-9223372036854775808 ≤ (b.toNat : Int) ∧ (b.toNat : Int) ≤ 9223372036854775807) := by
  have := b.toNat_lt
  exact ⟨IntWalk.wrap64_in _ (by omega), IntWalk.i64_in _ (by omega), by omega, by omega⟩
theorem u8_s (b : UInt8) : wrap64 (1 + (b.toNat : Int)) = 1 + b.toNat := by
  have := b.toNat_lt
  exact IntWalk.wrap64_in _ (by omega)
/-- Where the writing stands: k records were put, o was taken. -/
structure At (w0 w : World) (g : Nat) (d : Dia) (t : Tb) (k : Nat) (o : Bs) (cl : Bool) : Prop where
  ex : ∃ s v, WAt w w0.heap.size g d s v ∧ o ++ s.rdy = Wr.textB d true (t.take k) ∧ s.count = k ∧ s.total = (Wr.textB d true (t.take k)).length ∧ s.cl = cl
  le : k ≤ t.length
  may : ∀ (j : Nat) (hj : j < t.length), j < k → Wr.may t[j] = 0
  w : Below w0.heap.size w0 w
section at_
variable {w0 w w' : World} {g k : Nat} {d : Dia} {t : Tb} {o : Bs} {cl : Bool}
theorem At.keep (h : At w0 w g d t k o cl) (kp : Keeps [] w w') : At w0 w' g d t k o cl := by
  obtain ⟨⟨s, v, h1, h2⟩, h3, h4, h5⟩ := h
  exact ⟨⟨s, v, h1.keep kp, h2⟩, h3, h4, h5.trans (kp.below h5.size (by simp))⟩
theorem At.len (h : At w0 w g d t k o cl) : o.length ≤ 2 * bytesOf t + 3 * fieldsOf t + 2 * t.length := by
  obtain ⟨⟨s, v, h1, h2, h3, h4, h5⟩, _, _, _⟩ := h
  have := Wr.text_take_len d true t k
  have := congrArg List.length h2
  simp at this
  omega
/-- A record is put. -/
theorem At.put (h : At w0 w g d t k o false) (hd : d.right = true) (hk : k < t.length) (hm : Wr.may t[k] = 0) {A : Value} {B1 : Nat} (hr : Rd w B1 1 A t[k].length (t[k].map sv)) (hB : B1 ≤ w.heap.size) (h0 : t.length ≤ 20) (h1 : fieldsOf t ≤ 40) (h2 : bytesOf t ≤ 400) :
    Calls Try.prog 30 #[.pointer (some ⟨g, 0, none⟩), A] w fun e w' => e = .returned (.int .i64 0) ∧ At w0 w' g d t (k + 1) o false := by
  obtain ⟨⟨s, v, a1, a2, a3, a4, a5⟩, b1, b2, b3⟩ := h
  obtain ⟨hs1, hs2⟩ := Wr.mem_table (List.getElem_mem hk)
  have hl := Wr.text_take_len d true t k
  have hrl : s.rdy.length ≤ 1000000 := by
    have := congrArg List.length a2
    simp at this
    omega
  refine (put_c w w0.heap.size g d hd s v A a1 t[k] B1 hr hB (by omega) (by omega) hrl (by omega) (by omega)).mono ?_
  have hp : putP d s t[k] = (⟨s.rdy ++ Wr.lineB d t[k] (k == 0), k + 1, s.total + (Wr.lineB d t[k] (k == 0)).length, false⟩, 0) := by
    unfold putP
    rw [a5, a3]
    simp [hm]
  rw [hp]
  rintro e w' ⟨rfl, v', c1, c2, c3⟩
  have htt := Wr.text_take d true t k hk
  rw [Bool.true_and] at htt
  refine ⟨rfl, ⟨_, v', c1, ?_, rfl, ?_, rfl⟩, hk, ?_, b3.trans (c2.below b3.size ?_)⟩
  · rw [htt, ← a2, List.append_assoc]
  · rw [htt, List.length_append, a4]
  · intro j hj hjk
    by_cases e : j = k
    · subst e; exact hm
    · exact b2 j hj (by omega)
  · intro x hx
    simp only [List.mem_cons] at hx
    rcases hx with rfl | hx
    · exact a1.low
    · exact (a1.own.lt x hx).1
/-- Bytes are taken. -/
theorem At.take (h : At w0 w g d t k o cl) (n : Int) (hn : -9223372036854775808 ≤ n ∧ n ≤ 9223372036854775807) (h0 : t.length ≤ 20) (h1 : fieldsOf t ≤ 40) (h2 : bytesOf t ≤ 400) :
    Calls Try.prog 31 #[.pointer (some ⟨g, 0, none⟩), .int .i64 n] w fun e w' => ∃ p l m, e = .returned p ∧ Own w' w.heap.size 5 1 p l.length (l.map bv) ∧ At w0 w' g d t k (o ++ l) cl ∧ o.length + l.length + m = (Wr.textB d true (t.take k)).length ∧ (l.length : Int) ≤ max n 0 ∧ (1 ≤ n → l = [] → m = 0) := by
  obtain ⟨⟨s, v, a1, a2, a3, a4, a5⟩, b1, b2, b3⟩ := h
  have hl := Wr.text_take_len d true t k
  have hrl : s.rdy.length ≤ 1000000 := by
    have := congrArg List.length a2
    simp at this
    omega
  refine (take_c w w0.heap.size g d s v a1 n hn hrl).mono ?_
  rintro e w' ⟨p, v', rfl, c1, c2, c3, c4⟩
  have hL := congrArg List.length a2
  rw [List.length_append] at hL
  have hkl : takeN s n ≤ s.rdy.length := by unfold takeN; omega
  refine ⟨p, s.rdy.take (takeN s n), (s.rdy.drop (takeN s n)).length, rfl, c1, ⟨⟨takeP s n, v', c2, ?_, a3, a4, a5⟩, b1, b2, b3.trans (c3.below b3.size ?_)⟩, ?_, ?_, ?_⟩
  · unfold takeP
    rw [List.append_assoc, List.take_append_drop]
    exact a2
  · intro x hx
    simp only [List.mem_singleton] at hx
    subst hx
    exact a1.low
  · rw [List.length_take, List.length_drop]; omega
  · rw [List.length_take]; unfold takeN; omega
  · intro h1 h2
    have := congrArg List.length h2
    rw [List.length_take, List.length_nil] at this
    rw [List.length_drop]
    unfold takeN at this ⊢
    omega
/-- The writing is closed. -/
theorem At.close (h : At w0 w g d t k o cl) :
    Calls Try.prog 32 #[.pointer (some ⟨g, 0, none⟩)] w fun e w' => e = .returned (.tuple #[]) ∧ At w0 w' g d t k o true := by
  obtain ⟨⟨s, v, a1, a2, a3, a4, a5⟩, b1, b2, b3⟩ := h
  refine (close_c a1).mono ?_
  rintro e w' ⟨rfl, c1, c2⟩
  refine ⟨rfl, ⟨⟨_, v, c1, a2, a3, a4, rfl⟩, b1, b2, b3.trans (c2.below b3.size ?_)⟩⟩
  intro x hx
  simp only [List.mem_singleton] at hx
  subst hx
  exact a1.low
/-- How many bytes are ready. -/
theorem At.ready (h : At w0 w g d t k o cl) :
    Calls Try.prog 33 #[.pointer (some ⟨g, 0, none⟩)] w fun e w' => ∃ m : Nat, e = .returned (.int .i64 m) ∧ w' = w ∧ o.length + m = (Wr.textB d true (t.take k)).length ∧ (m = 0 → o = Wr.textB d true (t.take k)) := by
  obtain ⟨⟨s, v, a1, a2, a3, a4, a5⟩, b1, b2, b3⟩ := h
  refine (ready_c a1).mono ?_
  rintro e w' ⟨rfl, rfl⟩
  refine ⟨_, rfl, rfl, ?_, fun h0 => ?_⟩
  · have := congrArg List.length a2
    rwa [List.length_append] at this
  · rw [← a2, List.length_eq_zero_iff.mp h0, List.append_nil]
end at_
set_option maxHeartbeats 8000000 in
theorem walk (d : Dia) (A : Value) (t : Tb) (Bz : Value) (z : Bs) (w : World) (ht : Tbl w w.heap.size A t) (hsm : Small t) (hz : Rd w w.heap.size 1 Bz z.length (z.map bv)) (hzl : z.length ≤ reachBytes) : Calls Try.prog 8 #[diaV d, A, Bz] w fun e w' => e = .returned (.bool true) ∧ Below w.heap.size w w' := by
  have HA := Lib.hid awake11_c
  have HR := Lib.hid (fun w => ref_c d w)
  have HRR := Lib.hid (fun w => right_c d w)
  have ht' := ht
  obtain ⟨A, ca, rfl, ha1, ha2⟩ := ht.form
  have hz' := hz
  obtain ⟨Z, cz, rfl, hz1, hz2⟩ := hz.form
  unfold maxLen at ha2 hz2
  have kp : Keeps [] w (w.alloc (.cells #[bv d.delim, bv d.quote, .int .i64 d.fin] 23)) := Keeps.alloc [] w _
  have hbx := Blk.new w 23 [bv d.delim, bv d.quote, .int .i64 d.fin]
  have c0 := hbx.cell_of (i := 0) rfl
  have c1 := hbx.cell_of (i := 1) rfl
  have c2 := hbx.cell_of (i := 2) rfl
  have HG := Lib.hid (Same.great_c (.slice A t.length ca) t 20 40 400 (by omega) (by omega) (by omega) w.heap.size _ (ht'.keepB kp (by simp)) hsm)
  obtain ⟨R, hR⟩ : ∃ R, d.right = R := ⟨_, rfl⟩
  rw [hR] at HRR
  have HRI := Lib.hid hR
  clear hR
  obtain ⟨x, y, zz⟩ := d
  go_enter Try.func8, Try.ntmps8
  go_wp2_with (fail)
  refine HG.out.mono ?_
  rintro e w1 ⟨b, rfl, hb, m1, rfl⟩
  cases b
  rotate_left
  · go_wp2_with (fail)
    refine (HA.out _).mono ?_
    rintro e w2 ⟨rfl, k2⟩
    go_wp2_with (fail)
    go_ret
    exact ⟨rfl, ((kp.drewN1 m1).trans k2 (by simp)).below (Nat.le_refl _) (by simp)⟩
  obtain ⟨g1, g2, g3⟩ := hb rfl
  have k1 := kp.drewN1 m1
  have hb1 := hbx.drewN m1
  generalize (w.alloc (.cells #[bv x, bv y, .int .i64 zz] 23)).drewN m1 = w1 at *
  clear hb hbx kp HG c0 c1 c2
  have c0 := hb1.cell_of (i := 0) rfl
  have c1 := hb1.cell_of (i := 1) rfl
  have c2 := hb1.cell_of (i := 2) rfl
  go_wp2_with (fail)
  refine (HR.out _).mono ?_
  rintro e w2 ⟨rfl, k2⟩
  go_wp2_with (fail)
  refine (HRR.out _).mono ?_
  rintro e w3 ⟨rfl, k3⟩
  have k03 := (k1.trans k2 (by simp)).trans k3 (by simp)
  have hb3 := (hb1.keep k2 (by simp)).keep k3 (by simp)
  clear c0 c1 c2 k1 k2 k3 hb1
  cases R
  · go_wp2_with (fail)
    refine (HA.out _).mono ?_
    rintro e w4 ⟨rfl, k4⟩
    go_wp2_with (fail)
    go_ret
    exact ⟨rfl, (k03.trans k4 (by simp)).below (Nat.le_refl _) (by simp)⟩
  have c0 := hb3.cell_of (i := 0) rfl
  have c1 := hb3.cell_of (i := 1) rfl
  have c2 := hb3.cell_of (i := 2) rfl
  have HN := Lib.hid (new_c ⟨x, y, zz⟩ HRI.out w3)
  go_wp2_with (fail)
  refine HN.out.mono ?_
  rintro e w4 ⟨g, rfl, hW4, k4⟩
  have hw3 := hb3.lt
  have hAt : At w3 w4 g ⟨x, y, zz⟩ t 0 [] false := ⟨⟨_, _, hW4, by simp [Wr.textB], rfl, by simp [Wr.textB], rfl⟩, Nat.zero_le _, fun j hj h => by omega, k4.below (Nat.le_refl _) (by simp)⟩
  have ht3 := ht'.keepB k03 (by simp)
  have hz3 := hz'.keepB k03 (by simp)
  have hk03 := k03.size
  clear c0 c1 c2 hW4 k4 HN HRR ht' hz' ht hz
  go_wp2_with (fail)
  go_loopw [9, 36] (fun vo vi wr => ∃ (k : Nat) (o : Bs), vo = sv o ∧ vi = .int .i64 k ∧ At w3 wr g ⟨x, y, zz⟩ t k o false) (fun _ vi _ => t.length - (intOf vi).toNat)
  case atStart => exact ⟨0, [], rfl, rfl, hAt⟩
  case round =>
    obtain ⟨k, o, rfl, rfl, hA⟩ := hrel
    clear hAt
    by_cases hk : k < t.length
    · have htr := ht3.below hA.w hk03
      obtain ⟨bA, oA, A1, n1, rfl, _, cf, rr⟩ := htr.at_ hk
      obtain ⟨hs1, hs2⟩ := Wr.mem_table (List.getElem_mem hk)
      have hk0 : (0 : Int) ≤ (k : Int) := by omega
      have hkl : (k : Int) < (t.length : Int) := by omega
      have HM := Lib.hid (may_c _ t[k] w.heap.size wr rr (by omega))
      obtain ⟨M, hM⟩ : ∃ M, Wr.may t[k] = M := ⟨_, rfl⟩
      rw [hM] at HM
      have HMM := Lib.hid hM
      have RR := Lib.hid rr
      clear hM rr htr
      by_cases hM0 : M = 0
      rotate_left
      · have hM' : ((M : Int) != 0) = true := by rw [bne_iff_ne]; omega
        clear hM0
        go_wp2_with (fail)
        with_reducible refine HM.out.mono ?_
        rintro e w5 ⟨rfl, k5⟩
        go_wp2_with (fail)
        refine (HA.out _).mono ?_
        rintro e w6 ⟨rfl, k6⟩
        go_wp2_with (fail)
        go_ret
        exact ⟨rfl, (k03.below (Nat.le_refl _) (by simp)).trans ((hA.w.mono hk03).trans ((k5.trans k6 (by simp)).below (by have := hA.w.size; omega) (by simp)))⟩
      subst hM0
      go_wp2_with (fail)
      with_reducible refine HM.out.mono ?_
      rintro e w5 ⟨rfl, k5⟩
      have hA5 := hA.keep k5
      have hs5 := hA5.w.size
      have HP := Lib.hid (hA5.put HRI.out hk HMM.out (RR.out.keepB k5 (by simp)) (by omega) g1 g2 g3)
      clear hA HM cf
      go_wp2_with (fail)
      with_reducible refine HP.out.mono ?_
      rintro e w6 ⟨rfl, hA6⟩
      have hol := hA6.len
      clear hA5 HP k5
      by_cases hzz : z = []
      · have hzi2 : ¬ ((0 : Int) < (z.length : Int)) := by rw [hzz]; simp
        clear hzz
        go_wp2_with (fail)
        go_roundw
        case rel => exact ⟨k + 1, o, rfl, by go_num, hA6⟩
        case measure => simp [intOf]; omega
      · have hzp : 0 < z.length := List.length_pos_iff.mpr hzz
        have hzi2 : ((0 : Int) < (z.length : Int)) := by omega
        obtain ⟨q, hq⟩ : ∃ q, k % z.length = q := ⟨_, rfl⟩
        have htm : Int.tmod (k : Int) (z.length : Int) = (q : Int) := by rw [← hq, Int.ofNat_tmod]
        have hmod : q < z.length := by rw [← hq]; exact Nat.mod_lt _ hzp
        clear hq
        have HZ := Lib.hid (hz3.below hA6.w hk03)
        have HMD := Lib.hid hmod
        clear hzz hz3 ht3 HMM RR
        obtain ⟨bZ, oZ, uZ, rfl, _, huZ, cZ⟩ := HZ.out.at_ hmod
        have e1 : uZ = bv z[q] := by
          rw [List.getElem?_map, List.getElem?_eq_getElem hmod] at huZ
          exact (Option.some.inj huZ).symm
        clear huZ
        generalize z[q] = zq at *
        subst e1
        have hne : ((z.length : Int) == 0) = false := by rw [beq_eq_false_iff_ne]; omega
        have hne2 : ¬ ((z.length : Int) = 0) := by omega
        have hm0 : (0 : Int) ≤ (q : Int) := by omega
        have hml : (q : Int) < (z.length : Int) := by omega
        have HTK := Lib.hid (hA6.take (zq.toNat : Int) (u8_w zq).2.2 g1 g2 g3)
        have hub1 := (u8_w zq).1
        have hub2 := (u8_w zq).2.1
        clear hmod
        clear hzp hol hs5 hk0 hkl hs1 hs2
        go_wp2_with (fail)
        with_reducible refine HTK.out.mono ?_
        rintro e w7 ⟨p, l, m, rfl, hp, hA7, hlm, hln, hl0⟩
        have hol7 := hA7.len
        rw [List.length_append] at hol7
        have hstr : (convert 60 9 p).run Try.prog w7 = .ok (sv l) w7 := run_toString (hp.rd (Nat.le_refl _)) Try.underlying60 Try.underlying5 Try.underlying9
        obtain ⟨Ap, cp, rfl, hp1, hp2⟩ := hp.form
        have hsum : ¬ (9223372036854775807 < o.length + l.length) := by omega
        have hcat := cat_mk o l
        clear hol7 hp1 hp2 hp HTK hA6 hl0 hlm hln hub1 hub2 htm hne hne2 hm0 hml
        go_wp2_with (with_reducible refine wpList_convert hstr _ rfl rfl rfl ?_)
        go_roundw
        case rel => exact ⟨k + 1, o ++ l, rfl, by go_num, hA7⟩
        case measure => simp [intOf]; omega
    · obtain rfl : k = t.length := by have := hA.le; omega
      have HCL := Lib.hid hA.close
      have hol := hA.len
      have hfr : Wr.front t = t.length := Wr.front_all (fun j hj => hA.may j hj hj)
      have HTX := Lib.hid (fun w' h hB => rtext_c ⟨x, y, zz⟩ (.slice A t.length ca) t w.heap.size w' h hB (by omega) (by omega) (by omega))
      rw [hfr] at HTX
      have htl := Wr.text_take_len ⟨x, y, zz⟩ true t t.length
      obtain ⟨TT, hTT⟩ : ∃ T, Wr.textB ⟨x, y, zz⟩ true (t.take t.length) = T := ⟨_, rfl⟩
      rw [hTT] at HTX htl
      have HTT := Lib.hid hTT
      obtain ⟨TL, hTL⟩ : ∃ n, TT.length = n := ⟨_, rfl⟩
      rw [hTL] at htl
      have HTL := Lib.hid hTL
      have HT3 := Lib.hid ht3
      have HK3 := Lib.hid hk03
      have HKB := Lib.hid (k03.below (Nat.le_refl _) (by simp))
      have HZ3 := Lib.hid hz3
      have HB3 := Lib.hid hb3
      clear hA hol hfr hTT hTL hk ht3 hz3 k03 hb3 hk03
      go_wp2_with (fail)
      with_reducible refine HCL.out.mono ?_
      rintro e w5 ⟨rfl, hA5⟩
      have HA5 := Lib.hid hA5
      clear HCL hA5
      go_wp2_with (fail)
      go_loopw [9, 68] (fun vo vi wx => ∃ (j : Nat) (o : Bs), vo = sv o ∧ vi = .int .i64 j ∧ j ≤ 2000 ∧ At w3 wx g ⟨x, y, zz⟩ t t.length o true ∧ TL + j ≤ o.length + 2000) (fun _ vi _ => 2000 - (intOf vi).toNat)
      case atStart => exact ⟨0, o, rfl, rfl, by omega, HA5.out, by omega⟩
      case round =>
        obtain ⟨j, o, rfl, rfl, hj, hA6, hlo⟩ := hrel
        clear HA5
        by_cases hj2 : j < 2000
        · have hjl : (j : Int) < 2000 := by omega
          have HRD := Lib.hid hA6.ready
          go_wp2_with (fail)
          with_reducible refine HRD.out.mono ?_
          rintro e w6 ⟨m, rfl, rfl, hom, hom2⟩
          rw [HTT.out, HTL.out] at hom
          rw [HTT.out] at hom2
          clear HRD
          by_cases hm : m = 0
          · subst hm
            have ho := hom2 rfl
            subst ho
            have hAe := hA6
            clear hA6 hom2 hlo hj hj2 hjl
            have HQ := Lib.hid hAe
            have HHM := Lib.hid hom
            have hbe := HB3.out.below hAe.w hw3
            have c0 := hbe.cell_of (i := 0) rfl
            have c1 := hbe.cell_of (i := 1) rfl
            have c2 := hbe.cell_of (i := 2) rfl
            clear hAe hom hbe
            go_wp2_with (fail)
            with_reducible refine (HR.out _).mono ?_
            rintro e w7 ⟨rfl, k7⟩
            have hA7 := HQ.out.keep k7
            have HTQ := Lib.hid (HTX.out _ (HT3.out.below hA7.w HK3.out) (Nat.le_trans HK3.out hA7.w.size))
            clear k7 c0 c1 c2
            go_wp2_with (fail)
            with_reducible refine HTQ.out.mono ?_
            rintro e w8 ⟨rfl, k8⟩
            have hA8 := hA7.keep k8
            have HRY := Lib.hid hA8.ready
            clear k8 hA7 HTQ
            go_wp2_with (fail)
            with_reducible refine HRY.out.mono ?_
            rintro e w9 ⟨m9, rfl, rfl, hm9, hm9'⟩
            rw [HTT.out, HTL.out] at hm9
            have hm0 : m9 = 0 := by have := HHM.out; omega
            subst hm0
            clear hm9 hm9' HRY
            go_wp2_with (fail)
            with_reducible refine (HA.out _).mono ?_
            rintro e w10 ⟨rfl, k10⟩
            go_wp2_with (fail)
            go_ret
            exact ⟨rfl, HKB.out.trans ((hA8.keep k10).w.mono HK3.out)⟩
          have hm' : ((m : Int) == 0) = false := by rw [beq_eq_false_iff_ne]; omega
          clear hom2
          by_cases hzz : z = []
          · have hzi2 : ¬ ((0 : Int) < (z.length : Int)) := by rw [hzz]; simp
            clear hzz
            have HTK := Lib.hid (hA6.take (1 : Int) (by omega) g1 g2 g3)
            clear hA6
            go_wp2_with (fail)
            with_reducible refine HTK.out.mono ?_
            rintro e w7 ⟨p, l, m2, rfl, hp, hA7, hlm, hln, hl0⟩
            rw [HTT.out, HTL.out] at hlm
            have hl1 : 1 ≤ l.length := by
              rcases Nat.eq_zero_or_pos l.length with h | h
              · have h3 := List.length_eq_zero_iff.mp h
                have := hl0 (by omega) h3
                rw [h3] at hlm
                simp at hlm
                omega
              · exact h
            have hol7 := hA7.len
            rw [List.length_append] at hol7
            have hstr : (convert 60 9 p).run Try.prog w7 = .ok (sv l) w7 := run_toString (hp.rd (Nat.le_refl _)) Try.underlying60 Try.underlying5 Try.underlying9
            obtain ⟨Ap, cp, rfl, hp1, hp2⟩ := hp.form
            have hsum : ¬ (9223372036854775807 < o.length + l.length) := by omega
            have hcat := cat_mk o l
            have hlt1 : ¬ ((l.length : Int) < 1) := by omega
            have hgt1 : ¬ ((1 : Int) < (l.length : Int)) := by omega
            have hj1 : TL + (j + 1) ≤ (o ++ l).length + 2000 := by rw [List.length_append]; omega
            have HJ := Lib.hid hj1
            clear hol7 hp1 hp2 hp HTK hl0 hlm hln hl1 hj1 hom
            go_wp2_with (with_reducible refine wpList_convert hstr _ rfl rfl rfl ?_)
            go_roundw
            case rel => exact ⟨j + 1, o ++ l, rfl, by go_num, by omega, hA7, HJ.out⟩
            case measure => simp [intOf]; omega
          · have hzp : 0 < z.length := List.length_pos_iff.mpr hzz
            have hzi2 : ((0 : Int) < (z.length : Int)) := by omega
            have HZ := Lib.hid (HZ3.out.below hA6.w HK3.out)
            clear hzz
            obtain ⟨bZ, oZ, uZ, rfl, _, huZ, cZ⟩ := HZ.out.at_ hzp
            have e1 : uZ = bv z[0] := by
              rw [List.getElem?_map, List.getElem?_eq_getElem hzp] at huZ
              exact (Option.some.inj huZ).symm
            clear huZ
            rw [Nat.add_zero] at cZ
            generalize z[0] = zq at *
            subst e1
            have hub1 := (u8_w zq).1
            have hub2 := (u8_w zq).2.1
            have hub3 := zq.toNat_lt
            clear hzp
            have HTK := Lib.hid (hA6.take (1 + (zq.toNat : Int)) (by omega) g1 g2 g3)
            clear hA6
            go_wp2_with (fail)
            with_reducible refine HTK.out.mono ?_
            rintro e w7 ⟨p, l, m2, rfl, hp, hA7, hlm, hln, hl0⟩
            rw [HTT.out, HTL.out] at hlm
            have hl1 : 1 ≤ l.length := by
              rcases Nat.eq_zero_or_pos l.length with h | h
              · have h3 := List.length_eq_zero_iff.mp h
                have := hl0 (by omega) h3
                rw [h3] at hlm
                simp at hlm
                omega
              · exact h
            have hol7 := hA7.len
            rw [List.length_append] at hol7
            have hstr : (convert 60 9 p).run Try.prog w7 = .ok (sv l) w7 := run_toString (hp.rd (Nat.le_refl _)) Try.underlying60 Try.underlying5 Try.underlying9
            obtain ⟨Ap, cp, rfl, hp1, hp2⟩ := hp.form
            have hsum : ¬ (9223372036854775807 < o.length + l.length) := by omega
            have hcat := cat_mk o l
            have hlt1 : ¬ ((l.length : Int) < 1) := by omega
            have hgt1 : ¬ ((1 + (zq.toNat : Int)) < (l.length : Int)) := by omega
            have hj1 : TL + (j + 1) ≤ (o ++ l).length + 2000 := by rw [List.length_append]; omega
            have HJ := Lib.hid hj1
            clear hol7 hp1 hp2 hp HTK hl0 hlm hln hl1 hj1 hom hub1 hub2 hub3
            go_wp2_with (with_reducible refine wpList_convert hstr _ rfl rfl rfl ?_)
            go_roundw
            case rel => exact ⟨j + 1, o ++ l, rfl, by go_num, by omega, hA7, HJ.out⟩
            case measure => simp [intOf]; omega
        · obtain rfl : j = 2000 := by omega
          have hq : o.length = TL ∧ o = TT := by
            obtain ⟨⟨s, v, a1, a2, a3⟩, _⟩ := hA6
            rw [HTT.out] at a2
            have h1 := congrArg List.length a2
            rw [List.length_append, HTL.out] at h1
            have h2 : s.rdy = [] := List.length_eq_zero_iff.mp (by omega)
            rw [h2, List.append_nil] at a2
            exact ⟨by omega, a2⟩
          obtain ⟨hom, ho⟩ := hq
          subst ho
          have hAe := hA6
          clear hA6 hlo hj hj2
          have HQ := Lib.hid hAe
          have HHM := Lib.hid hom
          have hbe := HB3.out.below hAe.w hw3
          have c0 := hbe.cell_of (i := 0) rfl
          have c1 := hbe.cell_of (i := 1) rfl
          have c2 := hbe.cell_of (i := 2) rfl
          clear hAe hom hbe
          go_wp2_with (fail)
          with_reducible refine (HR.out _).mono ?_
          rintro e w7 ⟨rfl, k7⟩
          have hA7 := HQ.out.keep k7
          have HTQ := Lib.hid (HTX.out _ (HT3.out.below hA7.w HK3.out) (Nat.le_trans HK3.out hA7.w.size))
          clear k7 c0 c1 c2
          go_wp2_with (fail)
          with_reducible refine HTQ.out.mono ?_
          rintro e w8 ⟨rfl, k8⟩
          have hA8 := hA7.keep k8
          have HRY := Lib.hid hA8.ready
          clear k8 hA7 HTQ
          go_wp2_with (fail)
          with_reducible refine HRY.out.mono ?_
          rintro e w9 ⟨m9, rfl, rfl, hm9, hm9'⟩
          rw [HTT.out, HTL.out] at hm9
          have hm0 : m9 = 0 := by have := HHM.out; omega
          subst hm0
          clear hm9 hm9' HRY
          go_wp2_with (fail)
          with_reducible refine (HA.out _).mono ?_
          rintro e w10 ⟨rfl, k10⟩
          go_wp2_with (fail)
          go_ret
          exact ⟨rfl, HKB.out.trans ((hA8.keep k10).w.mono HK3.out)⟩
set_option maxRecDepth 100000 in
theorem lifted (os : Os) (started : os.Started) (H : Type) (enc : TypeId × Value → H) :
    ReturnsInHanded {} Try.checked os 8 .any (Rows.piecesTextSpec.pre6 enc Try.prog Try.f8 Rows.piecesTextRow.domain false) (Rows.piecesTextSpec.post enc Try.prog Try.f8 false true false false) := by
  refine returnsInHanded_of_change_sized (C := Try.checked) own started (by kernel_rfl) Try.func8
    (ChangeSpec.witness6 (enc := enc) (C := Try.checked) false ⟨#[], #[.agg #[.int .u8 0, .int .u8 0, .int .i64 0], .slice none 0 0, .slice none 0 0], []⟩ 8 (by kernel_rfl) (by kernel_rfl) (by kernel_rfl) (by kernel_rfl)) ?_
  intro W base args ds gs before hval0 hW hcnd hsz0 _
  have hval : ∀ (j : Nat) t v, Try.f8.params[j]? = some t → args[j]? = some v → Value.okWide Try.prog W .any base t v := hval0
  have hW' := hW
  obtain ⟨p, q, hA0, hV, rfl, hfz, hnd⟩ := hW
  have hA : DataW.TrodAll enc Try.prog W 0 (fun _ => true) true Try.f8.params.toList args.toList ds p := hA0
  have hsz : (DataW.weightsEach Try.prog (Try.f8.params.toList ++ Rows.piecesTextSpec.plain.varTypes Try.prog) (ds ++ gs)).all (· ≤ reachBytes) = true := hsz0
  rw [Try.params8] at hA hval hsz
  obtain ⟨v0, vs0, d0, ds0, p0, q0, hargs, rfl, rfl, k0, r0⟩ := trodAll_cons hA
  obtain ⟨v1, vs1, d1, ds1, p1, q1, rfl, rfl, rfl, k1, r1⟩ := trodAll_cons r0
  obtain ⟨v2, vs2, d2, ds2, p2, q2, rfl, rfl, rfl, k2, r2⟩ := trodAll_cons r1
  obtain ⟨rfl, rfl, rfl⟩ := trodAll_nil r2
  obtain rfl : args = #[v0, v1, v2] := by cases args; simp_all
  obtain ⟨rfl, rfl⟩ := trodVars_none hV
  have lt0 := Trod_lt k0
  have lt1 := Trod_lt k1
  have lt2 := Trod_lt k2
  obtain ⟨x0, y0, z0, rfl, hz0⟩ := Trod_dialect Try.underlying23 (by kernel_rfl) (by kernel_rfl) Try.underlying5 Try.underlying5 Try.underlying3 (hval 0 23 v0 rfl rfl) k0
  obtain ⟨tb1, rd1, hs1⟩ := Trod_tbl Try.underlying26 (by kernel_rfl) (of_decide_eq_true (by kernel_rfl)) Try.underlying24 Try.underlying9 (by kernel_rfl) (of_decide_eq_true (by kernel_rfl)) (hval 1 26 v1 rfl rfl) k1 (wt_of hsz (j := 1) rfl rfl)
  obtain ⟨l2, rd2, hl2⟩ := Trod_bytes Try.underlying60 Try.underlying5 (by kernel_rfl) (of_decide_eq_true (by kernel_rfl)) (hval 2 60 v2 rfl rfl) k2 (wt_of hsz (j := 2) rfl rfl)
  clear hA0 hval0 hsz0
  refine (walk ⟨x0, y0, z0⟩ v1 tb1 v2 l2 W rd1 hs1 rd2 hl2).mono fun e W' ⟨he, bel⟩ => ?_
  subst he
  exact ⟨_, rfl, _, _, _, [], _, [], hW', trodAll_mk1 (shut_bool Try.underlying4 _), (trodAll_cons_mk (Below.trod laidOut (by kernel_rfl) (of_decide_eq_true (by kernel_rfl)) k0 bel lt0) (trodAll_cons_mk (Below.trod laidOut (by kernel_rfl) (of_decide_eq_true (by kernel_rfl)) k1 bel lt1) (trodAll_cons_mk (Below.trod laidOut (by kernel_rfl) (of_decide_eq_true (by kernel_rfl)) k2 bel lt2) trodAll_mk0))), rfl, bel.frame _, fun h => by cases h⟩

theorem proved : Rows.PiecesTextSaid :=
  OpenClaim.holds_of_wide 8 Try.f8 rfl rfl rfl rfl rfl rfl rfl ⟨rfl, rfl, rfl, rfl, rfl⟩ rfl rfl rfl rfl rfl (by kernel_rfl) Try.func8 (by kernel_rfl)
    (of_decide_eq_true (by kernel_rfl)) (by unfold Func.isWrapper; first | (rw [if_pos (by decide +kernel)]; kernel_rfl) | (rw [if_neg (by decide +kernel)]; exact ⟨rfl, rfl⟩))
    (fun os started H enc _ => lifted os started H enc)
end Go.Proofs.Ytcmoldondflilaa.PiecesTextP
namespace Go.Proofs.Ytcmoldondflilaa
theorem piecesText_holds : Rows.PiecesTextSaid := PiecesTextP.proved
#print axioms piecesText_holds
end Go.Proofs.Ytcmoldondflilaa
