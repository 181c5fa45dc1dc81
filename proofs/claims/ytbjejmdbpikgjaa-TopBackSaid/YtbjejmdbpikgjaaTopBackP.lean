/- PROVED: for every dialect d, table t and deal z, TopBack(d, t, z) returns true and leaves its arguments as they were. No condition. -/
import Derived.Test.YtbjejmdbpikgjaaRows
import Derived.Test.YtbjejmdbpikgjaaTbC
import Derived.Test.YtbjejmdbpikgjaaTbB
import Derived.Test.YtbjejmdbpikgjaaSame
import Derived.Test.YtbjejmdbpikgjaaOpenT
namespace Go.Proofs.Ytbjejmdbpikgjaa.TopBackP
set_option linter.unusedVariables false
set_option linter.unusedSimpArgs false
set_option maxRecDepth 100000
open Go.ChangeShapes Go.WideShapes Go.ChangeAt Go.RowKit Q Mach Dia Need Bld Quo WLine Par Wide Pcs
open Tab (fieldsOf bytesOf bytesOfRow)
attribute [local go_sem ↓] Go.wp_at_zero Go.wp_at_succ

theorem own : ownKnob Try.prog.godebug = none := by kernel_rfl
theorem laidOut : laidOutB Try.prog = true := by kernel_rfl
/-- Where the writing stands: k records were put, o was taken. -/
structure At (w0 w : World) (g : Nat) (d : Dia) (t : Tb) (k : Nat) (o : Bs) (cl : Bool) : Prop where
  ex : ∃ s v, WAt w w0.heap.size g d s v ∧ o ++ s.rdy = Wr.textB d true (t.take k) ∧ s.count = k ∧ s.total = (Wr.textB d true (t.take k)).length ∧ s.cl = cl
  le : k ≤ t.length
  may : ∀ (j : Nat) (hj : j < t.length), j < k → Wr.may t[j] = 0
  w : Below w0.heap.size w0 w
section at_
variable {w0 w w' : World} {g k : Nat} {d : Dia} {t : Tb} {o : Bs} {cl : Bool}
theorem At.keep (h : At w0 w g d t k o cl) (kp : Keeps [] w w') : At w0 w' g d t k o cl := by
  obtain ⟨⟨s, v, h1, h2⟩, h3, h4, h5⟩ := h
  exact ⟨⟨s, v, h1.keep kp, h2⟩, h3, h4, h5.trans (kp.below h5.size (by simp))⟩
theorem At.len (h : At w0 w g d t k o cl) : o.length ≤ 2 * bytesOf t + 3 * fieldsOf t + 2 * t.length := by
  obtain ⟨⟨s, v, h1, h2, h3, h4, h5⟩, _, _, _⟩ := h
  have := Wr.text_take_len d true t k
  have := congrArg List.length h2
  simp at this
  omega
/-- A record is put. -/
theorem At.put (h : At w0 w g d t k o false) (hd : d.right = true) (hk : k < t.length) (hm : Wr.may t[k] = 0) {A : Value} {B1 : Nat} (hr : Rd w B1 1 A t[k].length (t[k].map sv)) (hB : B1 ≤ w.heap.size) (h0 : t.length ≤ 20) (h1 : fieldsOf t ≤ 40) (h2 : bytesOf t ≤ 400) :
    Calls Try.prog 26 #[.pointer (some ⟨g, 0, none⟩), A] w fun e w' => e = .returned (.int .i64 0) ∧ At w0 w' g d t (k + 1) o false := by
  obtain ⟨⟨s, v, a1, a2, a3, a4, a5⟩, b1, b2, b3⟩ := h
  obtain ⟨hs1, hs2⟩ := Wr.mem_table (List.getElem_mem hk)
  have hl := Wr.text_take_len d true t k
  have hrl : s.rdy.length ≤ 1000000 := by
    have := congrArg List.length a2
    simp at this
    omega
  refine (put_c w w0.heap.size g d hd s v A a1 t[k] B1 hr hB (by omega) (by omega) hrl (by omega) (by omega)).mono ?_
  have hp : putP d s t[k] = (⟨s.rdy ++ Wr.lineB d t[k] (k == 0), k + 1, s.total + (Wr.lineB d t[k] (k == 0)).length, false⟩, 0) := by
    unfold putP
    rw [a5, a3]
    simp [hm]
  rw [hp]
  rintro e w' ⟨rfl, v', c1, c2, c3⟩
  have htt := Wr.text_take d true t k hk
  rw [Bool.true_and] at htt
  refine ⟨rfl, ⟨_, v', c1, ?_, rfl, ?_, rfl⟩, hk, ?_, b3.trans (c2.below b3.size ?_)⟩
  · rw [htt, ← a2, List.append_assoc]
  · rw [htt, List.length_append, a4]
  · intro j hj hjk
    by_cases e : j = k
    · subst e; exact hm
    · exact b2 j hj (by omega)
  · intro x hx
    simp only [List.mem_cons] at hx
    rcases hx with rfl | hx
    · exact a1.low
    · exact (a1.own.lt x hx).1
/-- Bytes are taken. -/
theorem At.take (h : At w0 w g d t k o cl) (n : Int) (hn : -9223372036854775808 ≤ n ∧ n ≤ 9223372036854775807) (h0 : t.length ≤ 20) (h1 : fieldsOf t ≤ 40) (h2 : bytesOf t ≤ 400) :
    Calls Try.prog 29 #[.pointer (some ⟨g, 0, none⟩), .int .i64 n] w fun e w' => ∃ p l m, e = .returned p ∧ Own w' w.heap.size 5 1 p l.length (l.map bv) ∧ At w0 w' g d t k (o ++ l) cl ∧ o.length + l.length + m = (Wr.textB d true (t.take k)).length ∧ (l.length : Int) ≤ max n 0 ∧ (1 ≤ n → l = [] → m = 0) := by
  obtain ⟨⟨s, v, a1, a2, a3, a4, a5⟩, b1, b2, b3⟩ := h
  have hl := Wr.text_take_len d true t k
  have hrl : s.rdy.length ≤ 1000000 := by
    have := congrArg List.length a2
    simp at this
    omega
  refine (take_c w w0.heap.size g d s v a1 n hn hrl).mono ?_
  rintro e w' ⟨p, v', rfl, c1, c2, c3, c4⟩
  have hL := congrArg List.length a2
  rw [List.length_append] at hL
  have hkl : takeN s n ≤ s.rdy.length := by unfold takeN; omega
  refine ⟨p, s.rdy.take (takeN s n), (s.rdy.drop (takeN s n)).length, rfl, c1, ⟨⟨takeP s n, v', c2, ?_, a3, a4, a5⟩, b1, b2, b3.trans (c3.below b3.size ?_)⟩, ?_, ?_, ?_⟩
  · unfold takeP
    rw [List.append_assoc, List.take_append_drop]
    exact a2
  · intro x hx
    simp only [List.mem_singleton] at hx
    subst hx
    exact a1.low
  · rw [List.length_take, List.length_drop]; omega
  · rw [List.length_take]; unfold takeN; omega
  · intro h1 h2
    have := congrArg List.length h2
    rw [List.length_take, List.length_nil] at this
    rw [List.length_drop]
    unfold takeN at this ⊢
    omega
/-- The writing is closed. -/
theorem At.close (h : At w0 w g d t k o cl) :
    Calls Try.prog 27 #[.pointer (some ⟨g, 0, none⟩)] w fun e w' => e = .returned (.tuple #[]) ∧ At w0 w' g d t k o true := by
  obtain ⟨⟨s, v, a1, a2, a3, a4, a5⟩, b1, b2, b3⟩ := h
  refine (close_c a1).mono ?_
  rintro e w' ⟨rfl, c1, c2⟩
  refine ⟨rfl, ⟨⟨_, v, c1, a2, a3, a4, rfl⟩, b1, b2, b3.trans (c2.below b3.size ?_)⟩⟩
  intro x hx
  simp only [List.mem_singleton] at hx
  subst hx
  exact a1.low
/-- How many bytes are ready. -/
theorem At.ready (h : At w0 w g d t k o cl) :
    Calls Try.prog 28 #[.pointer (some ⟨g, 0, none⟩)] w fun e w' => ∃ m : Nat, e = .returned (.int .i64 m) ∧ w' = w ∧ o.length + m = (Wr.textB d true (t.take k)).length ∧ (m = 0 → o = Wr.textB d true (t.take k)) := by
  obtain ⟨⟨s, v, a1, a2, a3, a4, a5⟩, b1, b2, b3⟩ := h
  refine (ready_c a1).mono ?_
  rintro e w' ⟨rfl, rfl⟩
  refine ⟨_, rfl, rfl, ?_, fun h0 => ?_⟩
  · have := congrArg List.length a2
    rwa [List.length_append] at this
  · rw [← a2, List.length_eq_zero_iff.mp h0, List.append_nil]
end at_
def lenS : Value → Nat | .string b => b.size | _ => 0
theorem lenS_sv (l : Bs) : lenS (sv l) = l.length := by simp [lenS, ByteArray.size]
theorem back_parse (d : Dia) (hd : d.right = true) (t : Tb) (h0 : t.length ≤ 12) (h1 : fieldsOf t ≤ 8) (h2 : bytesOf t ≤ 200) (hm : ∀ r ∈ t, Wr.may r = 0) : parseP d ⟨1000, 100, 100, false⟩ (Wr.textB d true t) = (t, 0, 0) := by
  refine Wr.parse_text hd ⟨1000, 100, 100, false⟩ rfl t ?_ ?_ (by dsimp only; omega)
  · intro r hr
    obtain ⟨a1, a2⟩ := Wr.mem_table hr
    refine ⟨(Wr.may_ok (hm r hr)).1, by dsimp only; omega, fun f hf => ?_⟩
    have := Wr.mem_bytes hf
    dsimp only
    omega
  · intro r hr f hf
    exact (Wr.may_ok (hm r hr)).2 f hf
set_option maxHeartbeats 400000 in
theorem small_c (A : Value) (t : Tb) (B1 : Nat) (w : World) (ht : Tbl w B1 A t) (hsm : Small t) : Calls Try.prog 23 #[A] w fun e w' => ∃ b, e = .returned (.bool (!b)) ∧ (b = false → t.length ≤ 12 ∧ fieldsOf t ≤ 8 ∧ bytesOf t ≤ 200) ∧ ∃ m, w' = w.drewN m := by
  have HG := Lib.hid (Same.great_c A t 12 8 200 (by omega) (by omega) (by omega) B1 w ht hsm)
  go_enter Try.func23, Try.ntmps23
  go_wp2_with (fail)
  refine HG.out.mono ?_
  rintro e w1 ⟨b, rfl, hb, m, rfl⟩
  have HB := Lib.hid hb
  clear hb
  cases b
  · go_wp2_with (fail)
    go_ret
    exact ⟨false, rfl, fun _ => HB.out (by simp), m, rfl⟩
  · go_wp2_with (fail)
    go_ret
    exact ⟨true, rfl, by simp, m, rfl⟩
set_option maxHeartbeats 8000000 in
theorem walk (d : Dia) (A : Value) (t : Tb) (Va Vb : Value) (za zb : List Int) (w : World) (ht : Tbl w w.heap.size A t) (hsm : Small t) (hz : Rd w w.heap.size 1 Va za.length (za.map (Value.int .i64))) (hy : Rd w w.heap.size 1 Vb zb.length (zb.map (Value.int .i64))) (hzr : ∀ n ∈ za, -9223372036854775808 ≤ n ∧ n ≤ 9223372036854775807) : Calls Try.prog 7 #[diaV d, A, .agg #[Va, Vb]] w fun e w' => e = .returned (.bool true) ∧ Below w.heap.size w w' := by
  have HA := Lib.hid Wh.alive_c
  have HR := Lib.hid (fun w => ref_c d w)
  have HRR := Lib.hid (fun w => right_c d w)
  have HZ := Lib.hid hz
  have HY := Lib.hid hy
  have HZR := Lib.hid hzr
  have ht' := ht
  obtain ⟨A, ca, rfl, ha1, ha2⟩ := ht.form
  obtain ⟨Z, cz, rfl, hz1, hz2⟩ := hz.form
  obtain ⟨Y, cy, rfl, hy1, hy2⟩ := hy.form
  unfold maxLen at ha2 hz2 hy2
  have kp := (Keeps.alloc [] w (.cells #[bv d.delim, bv d.quote, .int .i64 d.fin] 23)).alloc1 (.cells #[.slice Z za.length cz, .slice Y zb.length cy] 56)
  have hb := (Blk.new w 23 [bv d.delim, bv d.quote, .int .i64 d.fin]).alloc (.cells #[.slice Z za.length cz, .slice Y zb.length cy] 56)
  have hbd := Blk.new (w.alloc (.cells #[bv d.delim, bv d.quote, .int .i64 d.fin] 23)) 56 [.slice Z za.length cz, .slice Y zb.length cy]
  rw [World.size_alloc] at hbd
  obtain ⟨R, hR⟩ : ∃ R, d.right = R := ⟨_, rfl⟩
  rw [hR] at HRR
  have HRI := Lib.hid hR
  clear hR hz hy ht hzr
  obtain ⟨x, y, zz⟩ := d
  go_enter Try.func7, Try.ntmps7
  go_upto_region 1 with (fail)
  generalize (w.alloc (.cells #[bv x, bv y, .int .i64 zz] 23)).alloc (.cells #[.slice Z za.length cz, .slice Y zb.length cy] 56) = w0 at *
  have HG := Lib.hid (small_c (.slice A t.length ca) t w.heap.size w0 (ht'.keepB kp (by simp)) hsm)
  go_wp2_with (fail)
  refine HG.out.mono ?_
  rintro e w1 ⟨b, rfl, hbb, m1, rfl⟩
  have k1 := kp.drewN1 m1
  have hb1 := hb.drewN m1
  have hbd1 := hbd.drewN m1
  generalize w0.drewN m1 = w1 at *
  clear hb hbd kp HG
  have d0 := hbd1.cell_of (i := 0) rfl
  have d1 := hbd1.cell_of (i := 1) rfl
  have c0 := hb1.cell_of (i := 0) rfl
  have c1 := hb1.cell_of (i := 1) rfl
  have c2 := hb1.cell_of (i := 2) rfl
  cases b
  rotate_left
  · go_wp2_with (fail)
    refine (HA.out _).mono ?_
    rintro e w2 ⟨rfl, k2⟩
    go_wp2_with (fail)
    go_ret
    exact ⟨rfl, (k1.trans k2 (by simp)).below (Nat.le_refl _) (by simp)⟩
  obtain ⟨g1, g2, g3⟩ := hbb rfl
  by_cases hm : za.length ≤ 100
  rotate_left
  · have h2 : ((100 : Int) < (za.length : Int)) := by omega
    go_wp2_with (fail)
    refine (HA.out _).mono ?_
    rintro e w2 ⟨rfl, k2⟩
    go_wp2_with (fail)
    go_ret
    exact ⟨rfl, (k1.trans k2 (by simp)).below (Nat.le_refl _) (by simp)⟩
  have h2 : ¬ ((100 : Int) < (za.length : Int)) := by omega
  by_cases hn : zb.length ≤ 100
  rotate_left
  · have h3 : ((100 : Int) < (zb.length : Int)) := by omega
    go_wp2_with (fail)
    refine (HA.out _).mono ?_
    rintro e w2 ⟨rfl, k2⟩
    go_wp2_with (fail)
    go_ret
    exact ⟨rfl, (k1.trans k2 (by simp)).below (Nat.le_refl _) (by simp)⟩
  have h3 : ¬ ((100 : Int) < (zb.length : Int)) := by omega
  go_wp2_with (fail)
  refine (HR.out _).mono ?_
  rintro e w2 ⟨rfl, k2⟩
  go_wp2_with (fail)
  refine (HRR.out _).mono ?_
  rintro e w3 ⟨rfl, k3⟩
  have k03 := (k1.trans k2 (by simp)).trans k3 (by simp)
  have hb3 := (hb1.keep k2 (by simp)).keep k3 (by simp)
  have hbd3 := (hbd1.keep k2 (by simp)).keep k3 (by simp)
  clear c0 c1 c2 d0 d1 k1 k2 k3 hb1 hbd1 HRR
  cases R
  · go_wp2_with (fail)
    refine (HA.out _).mono ?_
    rintro e w4 ⟨rfl, k4⟩
    go_wp2_with (fail)
    go_ret
    exact ⟨rfl, (k03.trans k4 (by simp)).below (Nat.le_refl _) (by simp)⟩
  have c0 := hb3.cell_of (i := 0) rfl
  have c1 := hb3.cell_of (i := 1) rfl
  have c2 := hb3.cell_of (i := 2) rfl
  have HN := Lib.hid (Pcs.new_c ⟨x, y, zz⟩ HRI.out w3)
  go_wp2_with (fail)
  refine HN.out.mono ?_
  rintro e w4 ⟨g, rfl, hW4, k4⟩
  have hAt : At w3 w4 g ⟨x, y, zz⟩ t 0 [] false := ⟨⟨_, _, hW4, by simp [Wr.textB], rfl, by simp [Wr.textB], rfl⟩, Nat.zero_le _, fun j hj h => by omega, k4.below (Nat.le_refl _) (by simp)⟩
  have ht3 := ht'.keepB k03 (by simp)
  have hk03 := k03.size
  have hw3 := hb3.lt
  have hwd3 := hbd3.lt
  have HB3 := Lib.hid hb3
  have HBD3 := Lib.hid hbd3
  have HLL := Lib.hid (And.intro hm hn)
  clear c0 c1 c2 hW4 k4 HN ht' hb3 hbd3 hm hn hbb h2 h3
  go_wp2_with (fail)
  go_loopw [52] (fun vi wr => ∃ (k : Nat), vi = .int .i64 k ∧ At w3 wr g ⟨x, y, zz⟩ t k [] false) (fun vi _ => t.length - (intOf vi).toNat)
  case atStart => exact ⟨0, rfl, hAt⟩
  case round =>
    obtain ⟨k, rfl, hA⟩ := hrel
    clear hAt
    by_cases hk : k < t.length
    · have htr := ht3.below hA.w hk03
      obtain ⟨bA, oA, A1, n1, rfl, _, cf, rr⟩ := htr.at_ hk
      obtain ⟨hs1, hs2⟩ := Wr.mem_table (List.getElem_mem hk)
      have hk0 : (0 : Int) ≤ (k : Int) := by omega
      have hkl : (k : Int) < (t.length : Int) := by omega
      have HM := Lib.hid (may_c _ t[k] w.heap.size wr rr (by omega))
      obtain ⟨M, hM⟩ : ∃ M, Wr.may t[k] = M := ⟨_, rfl⟩
      rw [hM] at HM
      have HMM := Lib.hid hM
      have RR := Lib.hid rr
      clear hM rr htr
      by_cases hM0 : M = 0
      rotate_left
      · have hM' : ((M : Int) != 0) = true := by rw [bne_iff_ne]; omega
        clear hM0
        go_wp2_with (fail)
        with_reducible refine HM.out.mono ?_
        rintro e w5 ⟨rfl, k5⟩
        go_wp2_with (fail)
        refine (HA.out _).mono ?_
        rintro e w6 ⟨rfl, k6⟩
        go_wp2_with (fail)
        go_ret
        exact ⟨rfl, (k03.below (Nat.le_refl _) (by simp)).trans ((hA.w.mono hk03).trans ((k5.trans k6 (by simp)).below (by have := hA.w.size; omega) (by simp)))⟩
      subst hM0
      go_wp2_with (fail)
      with_reducible refine HM.out.mono ?_
      rintro e w5 ⟨rfl, k5⟩
      have hA5 := hA.keep k5
      have hs5 := hA5.w.size
      have HP := Lib.hid (hA5.put HRI.out hk HMM.out (RR.out.keepB k5 (by simp)) (by omega) (by omega) (by omega) (by omega))
      clear hA HM cf
      go_wp2_with (fail)
      with_reducible refine HP.out.mono ?_
      rintro e w6 ⟨rfl, hA6⟩
      have HA6 := Lib.hid hA6
      clear hA5 HP k5 hA6
      go_wp2_with (fail)
      go_roundw
      case rel => exact ⟨k + 1, by go_num, HA6.out⟩
      case measure => simp [intOf]; omega
    · obtain rfl : k = t.length := by have := hA.le; omega
      have hki : ¬ ((t.length : Int) < (t.length : Int)) := by omega
      have HCL := Lib.hid hA.close
      have hmay : ∀ r ∈ t, Wr.may r = 0 := by
        intro r hr
        obtain ⟨j, hj, rfl⟩ := List.getElem_of_mem hr
        exact hA.may j hj hj
      have hfr : Wr.front t = t.length := Wr.front_all (fun j hj => hA.may j hj hj)
      have HTX := Lib.hid (fun w' h hB => rtext_c ⟨x, y, zz⟩ (.slice A t.length ca) t w.heap.size w' h hB (by omega) (by omega) (by omega))
      rw [hfr] at HTX
      have HPP := Lib.hid (back_parse ⟨x, y, zz⟩ HRI.out t g1 g2 g3 hmay)
      have htl := Wr.text_take_len ⟨x, y, zz⟩ true t t.length
      obtain ⟨TT, hTT⟩ : ∃ T, Wr.textB ⟨x, y, zz⟩ true (t.take t.length) = T := ⟨_, rfl⟩
      have hTT2 : Wr.textB ⟨x, y, zz⟩ true t = TT := by rw [← hTT, List.take_length]
      rw [hTT] at HTX htl
      rw [hTT2] at HPP
      have HTT := Lib.hid hTT
      obtain ⟨TL, hTL⟩ : ∃ n, TT.length = n := ⟨_, rfl⟩
      rw [hTL] at htl
      have HTL := Lib.hid hTL
      have hTLb : TL ≤ 1000 := by omega
      have HT3 := Lib.hid ht3
      have HK3 := Lib.hid hk03
      have HKB := Lib.hid (k03.below (Nat.le_refl _) (by simp))
      have HZ3 := Lib.hid (HZ.out.keepB k03 (by simp))
      have HY3 := Lib.hid (HY.out.keepB k03 (by simp))
      clear hA hfr hTT hTL hTT2 hk ht3 k03 hk03 htl hmay
      go_wp2_with (fail)
      with_reducible refine HCL.out.mono ?_
      rintro e w5 ⟨rfl, hA5⟩
      have HA5 := Lib.hid hA5
      clear HCL hA5
      go_wp2_with (fail)
      go_loopw [11, 12] (fun vo vi wx => ∃ (i : Nat) (o : Bs), vo = sv o ∧ vi = .int .i64 i ∧ At w3 wx g ⟨x, y, zz⟩ t t.length o true ∧ i ≤ o.length) (fun vo _ _ => TL - lenS vo)
      case atStart => exact ⟨0, [], rfl, rfl, HA5.out, Nat.zero_le _⟩
      case round =>
        obtain ⟨i, o, rfl, rfl, hA6, hij⟩ := hrel
        clear HA5
        have HRD := Lib.hid hA6.ready
        go_wp2_with (fail)
        with_reducible refine HRD.out.mono ?_
        rintro e w6 ⟨m, rfl, rfl, hom, hom2⟩
        rw [HTT.out, HTL.out] at hom
        rw [HTT.out] at hom2
        clear HRD
        by_cases hm : m = 0
        · subst hm
          have ho := hom2 rfl
          subst ho
          clear hom hom2 hij
          have c0 := (HB3.out.below hA6.w hw3).cell_of (i := 0) rfl
          have c1 := (HB3.out.below hA6.w hw3).cell_of (i := 1) rfl
          have c2 := (HB3.out.below hA6.w hw3).cell_of (i := 2) rfl
          have d1 := (HBD3.out.below hA6.w hwd3).cell_of (i := 1) rfl
          have HQ := Lib.hid hA6
          have hFD : Calls Try.prog 16 #[diaV ⟨x, y, zz⟩, .agg #[.int .i64 1000, .int .i64 100, .int .i64 100, .bool false], sv o, .slice Y zb.length cy] w6 (Rd.FedP (parseP ⟨x, y, zz⟩ ⟨1000, 100, 100, false⟩ o) w6) :=
            Rd.fed_c ⟨x, y, zz⟩ HRI.out ⟨1000, 100, 100, false⟩ (by dsimp only; omega) (by dsimp only; omega) (by dsimp only; omega) o (by have := HTL.out; omega) (.slice Y zb.length cy) zb w6 ((HY3.out.below hA6.w HK3.out).more (Nat.le_trans HK3.out hA6.w.size)) (by have := HLL.out.2; omega)
          rw [HPP.out] at hFD
          have HFD : Hid (Calls Try.prog 16 #[diaV ⟨x, y, zz⟩, .agg #[.int .i64 1000, .int .i64 100, .int .i64 100, .bool false], sv o, .slice Y zb.length cy] w6 (fun e w' => ∃ v, e = .returned (.tuple #[v, .agg #[.int .i64 0, .int .i64 0], .bool true]) ∧ Tbl w' w'.heap.size v t ∧ Keeps [] w6 w')) := Lib.hid hFD
          clear hFD hA6
          go_wp2_with (fail)
          with_reducible refine HFD.out.mono ?_
          rintro e w7 ⟨v, rfl, hT, k7⟩
          obtain ⟨At9, ct9, rfl, _, _⟩ := hT.form
          have hA7 := HQ.out.keep k7
          have ka := Keeps.alloc [] w7 (.cells #[.int .i64 0, .int .i64 0] 35)
          have hA8 := hA7.keep ka
          have hT8 := hT.keepB ka (by simp)
          have hr8 := Blk.new w7 35 [.int .i64 0, .int .i64 0]
          have ht8 := HT3.out.below hA8.w HK3.out
          have HS : Hid (Calls Try.prog 20 #[.slice At9 t.length ct9, .slice A t.length ca] (w7.alloc (.cells #[.int .i64 0, .int .i64 0] 35)) fun e w' => e = .returned (.bool true) ∧ ∃ m, w' = (w7.alloc (.cells #[.int .i64 0, .int .i64 0] 35)).drewN m) := Lib.hid (by
            have := Same.sameTable_c (.slice At9 t.length ct9) (.slice A t.length ca) t t _ _ _ hT8 ht8
            simpa using this)
          have r0 := hr8.cell_of (i := 0) rfl
          have r1 := hr8.cell_of (i := 1) rfl
          have HA8 := Lib.hid hA8
          clear c0 c1 c2 d1 hT k7 hA7 ka hA8 hT8 hr8 ht8 HFD HQ HPP
          go_wp2_with (fail)
          with_reducible refine HS.out.mono ?_
          rintro e w8 ⟨rfl, m, rfl⟩
          have hA9 := HA8.out.keep (Keeps.drewN [] _ m)
          generalize (w7.alloc (.cells #[.int .i64 0, .int .i64 0] 35)).drewN m = w9 at *
          have c0 := (HB3.out.below hA9.w hw3).cell_of (i := 0) rfl
          have c1 := (HB3.out.below hA9.w hw3).cell_of (i := 1) rfl
          have c2 := (HB3.out.below hA9.w hw3).cell_of (i := 2) rfl
          have HA9 := Lib.hid hA9
          clear hA9 r0 r1 HS
          go_wp2_with (fail)
          with_reducible refine (HR.out _).mono ?_
          rintro e w10 ⟨rfl, k10⟩
          have hA10 := HA9.out.keep k10
          have HTQ := Lib.hid (HTX.out _ (HT3.out.below hA10.w HK3.out) (Nat.le_trans HK3.out hA10.w.size))
          have HA10 := Lib.hid hA10
          clear c0 c1 c2 k10 hA10 HA9
          go_wp2_with (fail)
          with_reducible refine HTQ.out.mono ?_
          rintro e w11 ⟨rfl, k11⟩
          have hA11 := HA10.out.keep k11
          have HA11 := Lib.hid hA11
          clear k11 hA11 HTQ HA10
          go_wp2_with (fail)
          with_reducible refine (HA.out _).mono ?_
          rintro e w12 ⟨rfl, k12⟩
          go_wp2_with (fail)
          go_ret
          exact ⟨rfl, HKB.out.trans ((HA11.out.keep k12).w.mono HK3.out)⟩
        have hm' : ((0 : Int) < (m : Int)) := by omega
        have hm2 : ¬ ((m : Int) = 0) := by omega
        have d0 := (HBD3.out.below hA6.w hwd3).cell_of (i := 0) rfl
        clear hom2
        by_cases hi : i < za.length
        · have hii : (i : Int) < (za.length : Int) := by omega
          have hi0 : (0 : Int) ≤ (i : Int) := by omega
          have HZ6 := Lib.hid (HZ3.out.below hA6.w HK3.out)
          obtain ⟨bZ, oZ, uZ, rfl, _, huZ, cZ⟩ := HZ6.out.at_ hi
          have e1 : uZ = .int .i64 za[i] := by
            rw [List.getElem?_map, List.getElem?_eq_getElem hi] at huZ
            exact (Option.some.inj huZ).symm
          have hzb := HZR.out za[i] (List.getElem_mem hi)
          clear huZ
          generalize za[i] = zi at *
          subst e1
          by_cases hzi : zi < 1
          · have hzi2 : ¬ (1 ≤ zi) := by omega
            have HTK := Lib.hid (hA6.take (1 : Int) (by omega) (by omega) (by omega) (by omega))
            have HI6 := Lib.hid hij
            clear hA6 hij
            go_wp2_with (fail)
            with_reducible refine HTK.out.mono ?_
            rintro e w7 ⟨p, l, m2, rfl, hp, hA7, hlm, hln, hl0⟩
            rw [HTT.out, HTL.out] at hlm
            have hl1 : 1 ≤ l.length := by
              rcases Nat.eq_zero_or_pos l.length with h | h
              · have h3 := List.length_eq_zero_iff.mp h
                have := hl0 (by omega) h3
                rw [h3] at hlm
                simp at hlm
                omega
              · exact h
            have hstr : (convert 37 9 p).run Try.prog w7 = .ok (sv l) w7 := run_toString (hp.rd (Nat.le_refl _)) Try.underlying37 Try.underlying5 Try.underlying9
            obtain ⟨Ap, cp, rfl, hp1, hp2⟩ := hp.form
            have hsum : ¬ (9223372036854775807 < o.length + l.length) := by omega
            have hcat := cat_mk o l
            have hq1 : i + 1 ≤ (o ++ l).length := by have := HI6.out; rw [List.length_append]; omega
            have hq2 : TL - lenS (sv (o ++ l)) < TL - lenS (sv o) := by rw [lenS_sv, lenS_sv, List.length_append]; omega
            have HQ1 := Lib.hid hq1
            have HQ2 := Lib.hid hq2
            have hi9 : i ≤ 1000 := by have := HI6.out; omega
            have HA7 := Lib.hid hA7
            clear hp1 hp2 hp HTK hl0 hlm hln hl1 hq1 hq2 hom hA7
            go_wp2_with (with_reducible refine wpList_convert hstr _ rfl rfl rfl ?_)
            go_roundw
            case rel => exact ⟨i + 1, o ++ l, rfl, by go_num, HA7.out, HQ1.out⟩
            case measure => exact HQ2.out
          · have hzi2 : 1 ≤ zi := by omega
            have HTK := Lib.hid (hA6.take zi hzb (by omega) (by omega) (by omega))
            have HI6 := Lib.hid hij
            clear hA6 hij
            go_wp2_with (fail)
            with_reducible refine HTK.out.mono ?_
            rintro e w7 ⟨p, l, m2, rfl, hp, hA7, hlm, hln, hl0⟩
            rw [HTT.out, HTL.out] at hlm
            have hl1 : 1 ≤ l.length := by
              rcases Nat.eq_zero_or_pos l.length with h | h
              · have h3 := List.length_eq_zero_iff.mp h
                have := hl0 (by omega) h3
                rw [h3] at hlm
                simp at hlm
                omega
              · exact h
            have hstr : (convert 37 9 p).run Try.prog w7 = .ok (sv l) w7 := run_toString (hp.rd (Nat.le_refl _)) Try.underlying37 Try.underlying5 Try.underlying9
            obtain ⟨Ap, cp, rfl, hp1, hp2⟩ := hp.form
            have hsum : ¬ (9223372036854775807 < o.length + l.length) := by omega
            have hcat := cat_mk o l
            have hq1 : i + 1 ≤ (o ++ l).length := by have := HI6.out; rw [List.length_append]; omega
            have hq2 : TL - lenS (sv (o ++ l)) < TL - lenS (sv o) := by rw [lenS_sv, lenS_sv, List.length_append]; omega
            have HQ1 := Lib.hid hq1
            have HQ2 := Lib.hid hq2
            have hi9 : i ≤ 1000 := by have := HI6.out; omega
            have HA7 := Lib.hid hA7
            clear hp1 hp2 hp HTK hl0 hlm hln hl1 hq1 hq2 hom hA7
            go_wp2_with (with_reducible refine wpList_convert hstr _ rfl rfl rfl ?_)
            go_roundw
            case rel => exact ⟨i + 1, o ++ l, rfl, by go_num, HA7.out, HQ1.out⟩
            case measure => exact HQ2.out
        · have hii : ¬ ((i : Int) < (za.length : Int)) := by omega
          have HTK := Lib.hid (hA6.take (1 : Int) (by omega) (by omega) (by omega) (by omega))
          have HI6 := Lib.hid hij
          clear hA6 hij
          go_wp2_with (fail)
          with_reducible refine HTK.out.mono ?_
          rintro e w7 ⟨p, l, m2, rfl, hp, hA7, hlm, hln, hl0⟩
          rw [HTT.out, HTL.out] at hlm
          have hl1 : 1 ≤ l.length := by
            rcases Nat.eq_zero_or_pos l.length with h | h
            · have h3 := List.length_eq_zero_iff.mp h
              have := hl0 (by omega) h3
              rw [h3] at hlm
              simp at hlm
              omega
            · exact h
          have hstr : (convert 37 9 p).run Try.prog w7 = .ok (sv l) w7 := run_toString (hp.rd (Nat.le_refl _)) Try.underlying37 Try.underlying5 Try.underlying9
          obtain ⟨Ap, cp, rfl, hp1, hp2⟩ := hp.form
          have hsum : ¬ (9223372036854775807 < o.length + l.length) := by omega
          have hcat := cat_mk o l
          have hq1 : i + 1 ≤ (o ++ l).length := by have := HI6.out; rw [List.length_append]; omega
          have hq2 : TL - lenS (sv (o ++ l)) < TL - lenS (sv o) := by rw [lenS_sv, lenS_sv, List.length_append]; omega
          have HQ1 := Lib.hid hq1
          have HQ2 := Lib.hid hq2
          have hi9 : i ≤ 1000 := by have := HI6.out; omega
          have HA7 := Lib.hid hA7
          clear hp1 hp2 hp HTK hl0 hlm hln hl1 hq1 hq2 hom hA7
          go_wp2_with (with_reducible refine wpList_convert hstr _ rfl rfl rfl ?_)
          go_roundw
          case rel => exact ⟨i + 1, o ++ l, rfl, by go_num, HA7.out, HQ1.out⟩
          case measure => exact HQ2.out
set_option maxRecDepth 100000 in
theorem lifted (os : Os) (started : os.Started) (H : Type) (enc : TypeId × Value → H) :
    ReturnsInHanded {} Try.checked os 7 .any (Rows.topBackSpec.pre6 enc Try.prog Try.f7 Rows.topBackRow.domain false) (Rows.topBackSpec.post enc Try.prog Try.f7 false true false false) := by
  refine returnsInHanded_of_change_sized (C := Try.checked) own started (by kernel_rfl) Try.func7
    (ChangeSpec.witness6 (enc := enc) (C := Try.checked) false ⟨#[], #[.agg #[.int .u8 0, .int .u8 0, .int .i64 0], .slice none 0 0, .agg #[.slice none 0 0, .slice none 0 0]], []⟩ 8 (by kernel_rfl) (by kernel_rfl) (by kernel_rfl) (by kernel_rfl)) ?_
  intro W base args ds gs before hval0 hW hcnd hsz0 _
  have hval : ∀ (j : Nat) t v, Try.f7.params[j]? = some t → args[j]? = some v → Value.okWide Try.prog W .any base t v := hval0
  have hW' := hW
  obtain ⟨p, q, hA0, hV, rfl, hfz, hnd⟩ := hW
  have hA : DataW.TrodAll enc Try.prog W 0 (fun _ => true) true Try.f7.params.toList args.toList ds p := hA0
  have hsz : (DataW.weightsEach Try.prog (Try.f7.params.toList ++ Rows.topBackSpec.plain.varTypes Try.prog) (ds ++ gs)).all (· ≤ reachBytes) = true := hsz0
  rw [Try.params7] at hA hval hsz
  obtain ⟨v0, vs0, d0, ds0, p0, q0, hargs, rfl, rfl, k0, r0⟩ := trodAll_cons hA
  obtain ⟨v1, vs1, d1, ds1, p1, q1, rfl, rfl, rfl, k1, r1⟩ := trodAll_cons r0
  obtain ⟨v2, vs2, d2, ds2, p2, q2, rfl, rfl, rfl, k2, r2⟩ := trodAll_cons r1
  obtain ⟨rfl, rfl, rfl⟩ := trodAll_nil r2
  obtain rfl : args = #[v0, v1, v2] := by cases args; simp_all
  obtain ⟨rfl, rfl⟩ := trodVars_none hV
  have lt0 := Trod_lt k0
  have lt1 := Trod_lt k1
  have lt2 := Trod_lt k2
  obtain ⟨x0, y0, z0, rfl, hz0⟩ := Trod_dialect Try.underlying23 (by kernel_rfl) (by kernel_rfl) Try.underlying5 Try.underlying5 Try.underlying3 (hval 0 23 v0 rfl rfl) k0
  obtain ⟨tb1, rd1, hs1⟩ := Trod_tbl Try.underlying42 (by kernel_rfl) (of_decide_eq_true (by kernel_rfl)) Try.underlying65 Try.underlying9 (by kernel_rfl) (of_decide_eq_true (by kernel_rfl)) (hval 1 42 v1 rfl rfl) k1 (wt_of hsz (j := 1) rfl rfl)
  obtain ⟨va2, vb2, za2, zb2, rfl, ra2, rb2, hz2⟩ := Trod_deal2 (hval 2 56 v2 rfl rfl) k2
  clear hA0 hval0 hsz0
  refine (walk ⟨x0, y0, z0⟩ v1 tb1 va2 vb2 za2 zb2 W rd1 hs1 ra2 rb2 hz2).mono fun e W' ⟨he, bel⟩ => ?_
  subst he
  exact ⟨_, rfl, _, _, _, [], _, [], hW', trodAll_mk1 (shut_bool Try.underlying4 _), (trodAll_cons_mk (Below.trod laidOut (by kernel_rfl) (of_decide_eq_true (by kernel_rfl)) k0 bel lt0) (trodAll_cons_mk (Below.trod laidOut (by kernel_rfl) (of_decide_eq_true (by kernel_rfl)) k1 bel lt1) (trodAll_cons_mk (Below.trod laidOut (by kernel_rfl) (of_decide_eq_true (by kernel_rfl)) k2 bel lt2) trodAll_mk0))), rfl, bel.frame _, fun h => by cases h⟩

theorem proved : Rows.TopBackSaid :=
  OpenClaim.holds_of_wide 7 Try.f7 rfl rfl rfl rfl rfl rfl rfl ⟨rfl, rfl, rfl, rfl, rfl⟩ rfl rfl rfl rfl rfl (by kernel_rfl) Try.func7 (by kernel_rfl)
    (of_decide_eq_true (by kernel_rfl)) (by unfold Func.isWrapper; first | (rw [if_pos (by decide +kernel)]; kernel_rfl) | (rw [if_neg (by decide +kernel)]; exact ⟨rfl, rfl⟩))
    (fun os started H enc _ => lifted os started H enc)
end Go.Proofs.Ytbjejmdbpikgjaa.TopBackP
namespace Go.Proofs.Ytbjejmdbpikgjaa
theorem topBack_holds : Rows.TopBackSaid := TopBackP.proved
#print axioms topBack_holds
end Go.Proofs.Ytbjejmdbpikgjaa
