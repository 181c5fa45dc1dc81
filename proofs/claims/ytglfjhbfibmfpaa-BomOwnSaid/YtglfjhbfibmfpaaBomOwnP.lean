/- PROVED: for all byte slices a and b, BomOwn(a, b) returns true and leaves its arguments as they were. No condition. -/
import Derived.Test.YtglfjhbfibmfpaaRows
import Derived.Test.YtglfjhbfibmfpaaBom2
import Derived.Test.YtglfjhbfibmfpaaOpen
import Derived.Deep.RegionLaw
import Derived.Deep.RegionWith
namespace Go.Proofs.Ytglfjhbfibmfpaa.BomOwnP
set_option linter.unusedVariables false
set_option linter.unusedSimpArgs false
open Go.ChangeShapes Go.WideShapes Go.ChangeAt Go.RowKit Q Bom

theorem own : ownKnob Try.prog.godebug = none := by kernel_rfl
theorem laidOut : laidOutB Try.prog = true := by kernel_rfl

/-- A byte, turned over. -/
theorem xor_byte (b : UInt8) : ∃ c : UInt8, bits .xor .u8 (b.toNat : Int) 255 = (c.toNat : Int) := byte_wf (Go.wf_bits _ _ _ _)

set_option maxHeartbeats 400000 in
theorem walk_long (A B : Value) (a b : List UInt8) (w : World) (ha : Rd w w.heap.size 1 A a.length (a.map bv)) (hb : Rd w w.heap.size 1 B b.length (b.map bv)) (h : 100 < a.length ∨ 100 < b.length) :
    Calls Try.prog 3 #[A, B] w fun e w' => e = .returned (.bool true) ∧ Below w.heap.size w w' := by
  have H3 := Lib.hid awake_c
  have H1 := Lib.hid new_c
  have am := ha.max
  have bm := hb.max
  obtain ⟨A, c, rfl, _⟩ := ha
  obtain ⟨B, c', rfl, _⟩ := hb
  unfold maxLen at am bm
  by_cases h1 : 100 < a.length
  · clear h
    go_enter Try.func3, Try.ntmps3
    go_wp2_with (first | (go_at_call 6; refine (H1.out _).mono ?_; rintro e w' ⟨rfl, hw⟩) | (go_at_call 7; refine (H3.out _).mono ?_; rintro e w' ⟨rfl, hbel⟩))
    go_ret
    rename_i w1
    subst hw
    exact ⟨rfl, ((Below.refl _ _).alloc (Nat.le_refl _) _).trans (hbel.mono (by simp))⟩
  · have h2 : 100 < b.length := by omega
    clear h
    go_enter Try.func3, Try.ntmps3
    go_wp2_with (first | (go_at_call 6; refine (H1.out _).mono ?_; rintro e w' ⟨rfl, hw⟩) | (go_at_call 7; refine (H3.out _).mono ?_; rintro e w' ⟨rfl, hbel⟩))
    go_ret
    subst hw
    exact ⟨rfl, ((Below.refl _ _).alloc (Nat.le_refl _) _).trans (hbel.mono (by simp))⟩

set_option maxHeartbeats 1000000 in
theorem walk_short (A B : Value) (a b : List UInt8) (w : World) (ha : Rd w w.heap.size 1 A a.length (a.map bv)) (hb : Rd w w.heap.size 1 B b.length (b.map bv)) (h1 : a.length ≤ 100) (h2 : b.length ≤ 100) :
    Calls Try.prog 3 #[A, B] w fun e w' => e = .returned (.bool true) ∧ Below w.heap.size w w' := by
  obtain ⟨i0, hi, hz0, hz1, hz2⟩ := info_parts Try.infoU8
  have ha' := ha
  have hb' := hb
  obtain ⟨A, ca, rfl, _⟩ := ha
  obtain ⟨B, cb, rfl, _⟩ := hb
  have hcat : ∀ x y : List UInt8, (ByteArray.mk x.toArray ++ ByteArray.mk y.toArray) = ⟨(x ++ y).toArray⟩ := cat_mk
  have t1 : decide (100 < (a.length : Int)) = false := by simp; omega
  have t2 : decide (100 < (b.length : Int)) = false := by simp; omega
  go_enter Try.func3, Try.ntmps3
  go_wp2_with (fail)
  refine (new_c _).mono ?_
  rintro e w1 ⟨rfl, hw1⟩
  have hs1 : StAt w1 w.heap.size 40 [] [] s0 := ⟨by rw [← hw1]; exact Blk.new w _ _⟩
  have k1 : Keeps [w.heap.size] w w1 := by rw [← hw1]; exact Keeps.alloc _ w _
  have b1 : Below w.heap.size w w1 := k1.below (Nat.le_refl _) (by simp)
  clear hw1
  have l1 : w.heap.size < w1.heap.size := hs1.blk.lt
  have o0 : Own (w1.alloc (.cells #[] 5)) w1.heap.size 5 1 (.slice (some ⟨w1.heap.size, 0, none⟩) 0 0) 0 [] :=
    ⟨by simp, .inr ⟨w1.heap.size, [], [], 0, rfl, Nat.le_refl _, Blk.new w1 5 [], Nat.le_refl _, by simp [maxLen], by simp⟩⟩
  have ra1 : Rd (w1.alloc (.cells #[] 5)) w.heap.size 1 (.slice A a.length ca) a.length (a.map bv) := ha'.below (b1.alloc (Nat.le_of_lt l1) _) (Nat.le_refl _)
  obtain ⟨v2, w2, hap, hown2, hk2, hb2⟩ := run_append (P := Try.prog) (base := w1.heap.size) (u := 22) (ty := 22) Try.underlying22 hi hz0 hz1 hz2 rfl o0 (ra1.src Try.underlying22) (one_bv _) (by simp [maxLen]; omega) (by omega) (by simp)
  simp only [Nat.zero_add, List.nil_append] at hown2
  have k2 : Keeps [] w1 w2 := (Keeps.alloc [] w1 _).trans hk2 (by simp [blkOf])
  have hs2 : StAt w2 w.heap.size 40 [] [] s0 := ⟨hs1.blk.keep k2 (by simp)⟩
  have b2 : Below w.heap.size w w2 := b1.trans ((k2.below (Nat.le_refl _) (by simp)).mono (Nat.le_of_lt l1))
  obtain ⟨A2, c2, hv2, _⟩ := hown2.form
  subst hv2
  have hd2 : ∀ x ∈ blkOf (.slice A2 a.length c2), w1.heap.size ≤ x := fun x hx => (hown2.lt x hx).1
  clear o0 ra1 hk2 hb2 hs1 k1
  go_wp2_with (refine wpList_append hap _ _ rfl rfl rfl rfl rfl ?_)
  clear hap
  refine (feed_open w.heap.size 40 [] [] s0 s0_ok w2.heap.size _ a _ hs2 rfl (hown2.rd (Nat.le_refl _)) (.inr fun x hx => by have := hd2 x hx; omega) (by omega)).mono ?_
  rintro e w3 ⟨v3, rfl, hown3, hs3, k3⟩
  have hin3 : Own w3 w1.heap.size 5 1 (.slice A2 a.length c2) a.length (a.map bv) := hown2.keep k3 (fun x hx => by have := hd2 x hx; simp; omega)
  have b3 : Below w.heap.size w w3 := b2.trans (k3.below b2.size (by simp))
  have z2 : w1.heap.size ≤ w2.heap.size := k2.size
  have z3 := k3.size
  have hcv := run_toString (P := Try.prog) (hown3.rd (Nat.le_refl _)) Try.underlying22 Try.underlying5 Try.underlying9
  obtain ⟨A3, c3, hv3, _⟩ := hown3.form
  subst hv3
  have hd3 : ∀ x ∈ blkOf (.slice A3 (feedOut s0 a).length c3), w2.heap.size ≤ x := fun x hx => (hown3.lt x hx).1
  have hd2' : ∀ x ∈ blkOf (.slice A2 a.length c2), x < w2.heap.size := fun x hx => (hown2.lt x hx).2
  clear hs2 b2 k3 k2 hown2 b1
  go_wp2_with (refine wpList_convert hcv _ rfl rfl rfl ?_)
  clear hcv
  go_loopw [42] (fun i wr => ∃ (k : Nat) (l' : List UInt8), k ≤ a.length ∧ i = .int .i64 k ∧ Own wr w1.heap.size 5 1 (.slice A2 a.length c2) a.length (l'.map bv) ∧ Keeps (blkOf (.slice A2 a.length c2)) w3 wr)
    (fun i _ => a.length - (intOf i).toNat)
  case atStart => exact ⟨0, a, Nat.zero_le _, rfl, hin3, Keeps.refl _ _⟩
  case round =>
    obtain ⟨k, l', hk, rfl, hin, hkr⟩ := hrel
    by_cases hlt : k < a.length
    · obtain ⟨g, off, u, rfl, hg1, hg2, hu, hcell, hfr, hset⟩ := hin.at_ hlt
      obtain ⟨c, rfl⟩ : ∃ c : UInt8, u = bv c := by
        simp [List.getElem?_map] at hu
        obtain ⟨c, _, rfl⟩ := hu
        exact ⟨c, rfl⟩
      obtain ⟨d, hd⟩ := xor_byte c
      go_wp2_with (fail)
      go_roundw
      case rel =>
        refine ⟨k + 1, l'.set k d, by omega, by go_num, ?_, hkr.set1 _ _ (by simp [blkOf])⟩
        have := hset (bv d)
        simpa [List.map_set] using this
      case measure => simp [intOf]; omega
    · obtain rfl : k = a.length := by omega
      have hx3 : Own wr w2.heap.size 5 1 (.slice A3 (feedOut s0 a).length c3) (feedOut s0 a).length ((feedOut s0 a).map bv) := hown3.keep hkr (fun x hx hx2 => by have := hd3 x hx; have := hd2' x hx2; omega)
      have hsr : StAt wr w.heap.size 40 [] [] (feedSt s0 a) := ⟨hs3.blk.keep hkr (fun hx => by have := hd2 _ hx; omega)⟩
      have br : Below w.heap.size w wr := b3.trans (hkr.below b3.size (fun x hx => by have := hd2 x hx; omega))
      have zr := hkr.size
      have hcv := run_toString (P := Try.prog) (hx3.rd (Nat.le_refl _)) Try.underlying22 Try.underlying5 Try.underlying9
      clear hin hkr hown3 hs3 b3 hin3
      have hm : (feedOut s0 a).length ≤ 200 := by have := feedOut_len s0_ok a; omega
      go_wp2_with (refine wpList_convert hcv _ rfl rfl rfl ?_)
      clear hcv
      go_loopw [58] (fun i wq => ∃ (k : Nat) (l' : List UInt8), k ≤ (feedOut s0 a).length ∧ i = .int .i64 k ∧ Own wq w2.heap.size 5 1 (.slice A3 (feedOut s0 a).length c3) (feedOut s0 a).length (l'.map bv) ∧ Keeps (blkOf (.slice A3 (feedOut s0 a).length c3)) wr wq)
        (fun i _ => (feedOut s0 a).length - (intOf i).toNat)
      case atStart => exact ⟨0, _, Nat.zero_le _, rfl, hx3, Keeps.refl _ _⟩
      case round =>
        obtain ⟨wr', rfl⟩ : ∃ x : World, x = wr := ⟨_, rfl⟩
        obtain ⟨k, l', hk, rfl, hin, hkr⟩ := hrel
        by_cases hlt : k < (feedOut s0 a).length
        · obtain ⟨g, off, u, rfl, hg1, hg2, hu, hcell, hfr, hset⟩ := hin.at_ hlt
          obtain ⟨c, rfl⟩ : ∃ c : UInt8, u = bv c := by
            simp [List.getElem?_map] at hu
            obtain ⟨c, _, rfl⟩ := hu
            exact ⟨c, rfl⟩
          obtain ⟨d, hd⟩ := xor_byte c
          go_wp2_with (fail)
          go_roundw
          case rel =>
            refine ⟨k + 1, l'.set k d, by omega, by go_num, ?_, hkr.set1 _ _ (by simp [blkOf])⟩
            have := hset (bv d)
            simpa [List.map_set] using this
          case measure => simp [intOf]; omega
        · obtain rfl : k = (feedOut s0 a).length := by omega
          go_wp2_with (fail)
          have hsd : StAt wr'.drew w.heap.size 40 [] [] (feedSt s0 a) := ⟨(hsr.blk.keep hkr (fun hx => by have := hd3 _ hx; omega)).drew⟩
          have bd : Below w.heap.size w wr'.drew := (br.trans (hkr.below br.size (fun x hx => by have := hd3 x hx; omega))).drew
          have rbd : Rd wr'.drew w.heap.size 1 (.slice B b.length cb) b.length (b.map bv) := hb'.below bd (Nat.le_refl _)
          have hdb : b = [] ∨ ∀ x ∈ blkOf (.slice B b.length cb), x ≠ w.heap.size := rbd.off.imp (by simp) (fun h x hx => by have := h x hx; omega)
          clear hin hkr hsr br hx3
          have zd : w.heap.size < wr'.drew.heap.size := hsd.blk.lt
          have hm5 : (feedOut (feedSt s0 a) b).length ≤ 200 := by have := feedOut_len (feedSt_ok s0_ok a) b; omega
          have hm6 : (closeOut (feedSt (feedSt s0 a) b)).length ≤ 200 := by simp [closeOut, List.length_take]; have := (feedSt_ok (feedSt_ok s0_ok a) b).1; omega
          go_region_with (first
            | (go_at_call 8; refine (feed_open w.heap.size 40 [] [] (feedSt s0 a) (feedSt_ok s0_ok a) w.heap.size _ b _ hsd (feedSt_closed rfl a) rbd hdb (by omega)).mono ?_; rintro e w5 ⟨v5, rfl, hown5, hs5, k5⟩; have hcv5 := run_toString (P := Try.prog) (hown5.rd (Nat.le_refl _)) Try.underlying22 Try.underlying5 Try.underlying9)
            | (go_at_call 9; go_loud (refine (close_c w.heap.size 40 [] [] (feedSt (feedSt s0 a) b) (feedSt_ok (feedSt_ok s0_ok a) b) _ hs5).mono ?_; rintro e w6 ⟨v6, rfl, hown6, hs6, k6⟩; have hcv6 := run_toString (P := Try.prog) (hown6.rd (Nat.le_refl _)) Try.underlying22 Try.underlying5 Try.underlying9; have hcv7 := run_toString (P := Try.prog) ((hown5.keep k6 (fun x hx => by have := (hown5.lt x hx).1; simp; omega)).rd (Nat.le_refl _)) Try.underlying22 Try.underlying5 Try.underlying9)))
          all_goals
            have b5 : Below w.heap.size w w5 := bd.trans (k5.below bd.size (by simp))
            have b6 : Below w.heap.size w w6 := b5.trans (k6.below b5.size (by simp))
            have hcA := run_toString (P := Try.prog) (ha'.below b6 (Nat.le_refl _)) Try.underlying22 Try.underlying5 Try.underlying9
            have hcB := run_toString (P := Try.prog) (hb'.below b6 (Nat.le_refl _)) Try.underlying22 Try.underlying5 Try.underlying9
            clear hcv5 hcv6 hcv7 hown5 hs5 k5 hown6 hs6 k6 hsd bd rbd hdb b5
            have hst := rstrip_c (a ++ b) (by simp [maxLen]; omega)
            have hfin : feedOut s0 a ++ feedOut (feedSt s0 a) b ++ closeOut (feedSt (feedSt s0 a) b) = strip (a ++ b) := by
              rw [(feed_append a b).2, (feed_append a b).1]; exact (feed_whole (a ++ b)).2.2.2
            generalize strip (a ++ b) = S at hst hfin
            generalize (if hasB (a ++ b) 3 = true then (1 : Int) else 0) = N1 at hst
            have heq : ((feedOut s0 a ++ (feedOut (feedSt s0 a) b ++ closeOut (feedSt (feedSt s0 a) b))) == S) = true := by rw [← List.append_assoc, hfin]; simp
            have HS := Lib.hid hst; clear hst hfin
            have H3 := Lib.hid awake_c
            go_wp2_with (first | refine wpList_convert hcA _ rfl rfl rfl ?_ | refine wpList_convert hcB _ rfl rfl rfl ?_ | (go_at_call 10; refine (HS.out _).mono ?_; rintro e w7 ⟨rfl, m, rfl⟩) | (go_at_call 7; refine (H3.out _).mono ?_; rintro e w8 ⟨rfl, hbel⟩))
            go_ret
            exact ⟨rfl, b6.trans ((below_of_drewN _ w6 m).trans (hbel.mono b6.size))⟩

set_option maxHeartbeats 400000 in
theorem walk (A B : Value) (a b : List UInt8) (w : World) (ha : Rd w w.heap.size 1 A a.length (a.map bv)) (hb : Rd w w.heap.size 1 B b.length (b.map bv)) :
    Calls Try.prog 3 #[A, B] w fun e w' => e = .returned (.bool true) ∧ Below w.heap.size w w' := by
  by_cases h : a.length ≤ 100 ∧ b.length ≤ 100
  · exact walk_short A B a b w ha hb h.1 h.2
  · exact walk_long A B a b w ha hb (by omega)
set_option maxRecDepth 100000 in
theorem lifted (os : Os) (started : os.Started) (H : Type) (enc : TypeId × Value → H) :
    ReturnsInHanded {} Try.checked os 3 .any (Rows.bomOwnSpec.pre6 enc Try.prog Try.f3 Rows.bomOwnRow.domain false) (Rows.bomOwnSpec.post enc Try.prog Try.f3 false true false false) := by
  refine returnsInHanded_of_change (C := Try.checked) own started (by kernel_rfl) Try.func3
    (ChangeSpec.witness6 (enc := enc) (C := Try.checked) false ⟨#[], #[.slice none 0 0, .slice none 0 0], []⟩ 8 (by kernel_rfl) (by kernel_rfl) (by kernel_rfl) (by kernel_rfl)) ?_
  intro W base args ds gs before hval0 hW hcnd _
  have hval : ∀ (j : Nat) t v, Try.f3.params[j]? = some t → args[j]? = some v → Value.okWide Try.prog W .any base t v := hval0
  have hW' := hW
  obtain ⟨p, q, hA0, hV, rfl, hfz, hnd⟩ := hW
  have hA : DataW.TrodAll enc Try.prog W 0 (fun _ => true) true Try.f3.params.toList args.toList ds p := hA0
  rw [Try.params3] at hA hval
  obtain ⟨v0, vs0, d0, ds0, p0, q0, hargs, rfl, rfl, k0, r0⟩ := trodAll_cons hA
  obtain ⟨v1, vs1, d1, ds1, p1, q1, rfl, rfl, rfl, k1, r1⟩ := trodAll_cons r0
  obtain ⟨rfl, rfl, rfl⟩ := trodAll_nil r1
  obtain rfl : args = #[v0, v1] := by cases args; simp_all
  obtain ⟨rfl, rfl⟩ := trodVars_none hV
  have lt0 := Trod_lt k0
  have lt1 := Trod_lt k1
  obtain ⟨l0, rd0⟩ := Trod_bytes Try.underlying22 Try.underlying5 (by kernel_rfl) (hval 0 22 v0 rfl rfl) k0
  obtain ⟨l1, rd1⟩ := Trod_bytes Try.underlying22 Try.underlying5 (by kernel_rfl) (hval 1 22 v1 rfl rfl) k1
  clear hA0 hval0
  refine (walk v0 v1 l0 l1 W rd0 rd1).mono fun e W' ⟨he, bel⟩ => ?_
  subst he
  exact ⟨_, rfl, _, _, _, [], _, [], hW', trodAll_mk1 (shut_bool Try.underlying4 _), (trodAll_cons_mk (Below.trod laidOut (by kernel_rfl) (of_decide_eq_true (by kernel_rfl)) k0 bel lt0) (trodAll_cons_mk (Below.trod laidOut (by kernel_rfl) (of_decide_eq_true (by kernel_rfl)) k1 bel lt1) trodAll_mk0)), rfl, bel.frame _, fun h => by cases h⟩

theorem proved : Rows.BomOwnSaid :=
  OpenClaim.holds_of_wide 3 Try.f3 rfl rfl rfl rfl rfl rfl rfl ⟨rfl, rfl, rfl, rfl, rfl⟩ rfl rfl rfl rfl rfl (by kernel_rfl) Try.func3 (by kernel_rfl)
    (of_decide_eq_true (by kernel_rfl)) (by unfold Func.isWrapper; first | (rw [if_pos (by decide +kernel)]; kernel_rfl) | (rw [if_neg (by decide +kernel)]; exact ⟨rfl, rfl⟩))
    (fun os started H enc _ => lifted os started H enc)
end Go.Proofs.Ytglfjhbfibmfpaa.BomOwnP
namespace Go.Proofs.Ytglfjhbfibmfpaa
theorem bomOwn_holds : Rows.BomOwnSaid := BomOwnP.proved
#print axioms bomOwn_holds
end Go.Proofs.Ytglfjhbfibmfpaa
