/- PROVED: for every slice l of byte slices, BomPieces(l) returns true and leaves its argument as it was. No condition. -/
import Derived.Test.YtglfjhbfibmfpaaRows
import Derived.Test.YtglfjhbfibmfpaaBom2
import Derived.Test.YtglfjhbfibmfpaaTbl
import Derived.Lib.SlBytesConst
namespace Go.Proofs.Ytglfjhbfibmfpaa.BomPiecesP
set_option linter.unusedVariables false
set_option linter.unusedSimpArgs false
open Go.ChangeShapes Go.WideShapes Go.ChangeAt Go.RowKit Q Bom

theorem own : ownKnob Try.prog.godebug = none := by kernel_rfl
theorem laidOut : laidOutB Try.prog = true := by kernel_rfl

theorem BTbl.form {w : World} {B : Nat} {v : Value} {t : List (List UInt8)} (h : BTbl w B v t) : ∃ A c, v = .slice A t.length c ∧ t.length ≤ c ∧ c ≤ maxLen := by
  obtain ⟨vs, h1, h2, h3⟩ := h
  exact h2.form
theorem BTbl.at_ {w : World} {B c k : Nat} {A : Option Addr} {t : List (List UInt8)} (h : BTbl w B (.slice A t.length c) t) (hk : k < t.length) :
    ∃ b off A' c', A = some ⟨b, off, none⟩ ∧ b < B ∧ w.cell? ⟨b, off + k, none⟩ = some (.slice A' t[k].length c') ∧ Rd w B 1 (.slice A' t[k].length c') t[k].length (t[k].map bv) := by
  obtain ⟨vs, h1, h2, h3⟩ := h
  obtain ⟨b, off, u, h4, h5, h6, h7⟩ := h2.at_ hk
  have h8 := h3 k u t[k] h6 (List.getElem?_eq_getElem hk)
  obtain ⟨A', c', rfl, _, _⟩ := h8.form
  exact ⟨b, off, A', c', h4, h5, h7, h8⟩

set_option maxHeartbeats 400000 in
theorem walk_long (v : Value) (tb : List (List UInt8)) (w : World) (h : BTbl w w.heap.size v tb) (hl : 40 < tb.length) :
    Calls Try.prog 4 #[v] w fun e w' => e = .returned (.bool true) ∧ Below w.heap.size w w' := by
  have H3 := Lib.hid awake_c
  have H1 := Lib.hid new_c
  obtain ⟨A, c, rfl, h1, h2⟩ := BTbl.form h
  unfold maxLen at h2
  clear h
  go_enter Try.func4, Try.ntmps4
  go_wp2_with (first | (go_at_call 6; refine (H1.out _).mono ?_; rintro e w' ⟨rfl, hw⟩) | (go_at_call 7; refine (H3.out _).mono ?_; rintro e w' ⟨rfl, hbel⟩))
  go_ret
  rename_i w1
  subst hw
  exact ⟨rfl, ((Below.refl _ _).alloc (Nat.le_refl _) _).trans (hbel.mono (by simp))⟩

theorem flat_succ (tb : List (List UInt8)) (k : Nat) (h : k < tb.length) : (tb.take (k + 1)).flatten = (tb.take k).flatten ++ tb[k] := by
  rw [List.take_succ_eq_append_getElem h, List.flatten_append]; simp

set_option maxHeartbeats 1000000 in
theorem walk_few (v : Value) (tb : List (List UInt8)) (w : World) (h : BTbl w w.heap.size v tb) (hl : tb.length ≤ 40) (hb : ∀ r ∈ tb, r.length ≤ reachBytes) :
    Calls Try.prog 4 #[v] w fun e w' => e = .returned (.bool true) ∧ Below w.heap.size w w' := by
  have hcat : ∀ x y : List UInt8, (ByteArray.mk x.toArray ++ ByteArray.mk y.toArray) = ⟨(x ++ y).toArray⟩ := cat_mk
  have kc := fun (w : World) (C : Array Value) (n c : Nat) => Lib.run_convert_bytes_const (P := Try.prog) w 22 5 C n c Try.underlying22 Try.underlying5
  have h' := h
  obtain ⟨A, c, rfl, h1, h2⟩ := BTbl.form h
  have t1 : decide (40 < (tb.length : Int)) = false := by simp; omega
  clear h
  go_enter Try.func4, Try.ntmps4
  go_wp2_with (fail)
  refine (new_c _).mono ?_
  rintro e w1 ⟨rfl, hw1⟩
  have hs1 : StAt w1 w.heap.size 40 [] [] s0 := ⟨by rw [← hw1]; exact Blk.new w _ _⟩
  have k1 : Keeps [w.heap.size] w w1 := by rw [← hw1]; exact Keeps.alloc _ w _
  clear hw1
  go_wp2_with (fail)
  go_loopw [4, 5, 27] (fun a t i wr => ∃ k : Nat, k ≤ tb.length ∧ i = .int .i64 k ∧ a = sv (tb.take k).flatten ∧ t = sv (feedOut s0 (tb.take k).flatten) ∧ (tb.take k).flatten.length ≤ 400 ∧ StAt wr w.heap.size 40 [] [] (feedSt s0 (tb.take k).flatten) ∧ Keeps [w.heap.size] w wr) (fun _ _ i _ => tb.length - (intOf i).toNat)
  case atStart => exact ⟨0, Nat.zero_le _, rfl, rfl, rfl, by simp, hs1, k1⟩
  case round =>
    obtain ⟨k, hk, rfl, rfl, rfl, hL, hs, kw⟩ := hrel
    by_cases hlt : k < tb.length
    · have hfs := flat_succ tb k hlt
      obtain ⟨b0, off, A', c', rfl, hb0, hcell0, hrd0⟩ := BTbl.at_ h' hlt
      have bel : Below w.heap.size w wr := kw.below (Nat.le_refl _) (by simp)
      have hcell := (bel.cell (p := ⟨b0, off + k, none⟩) hb0).trans hcell0
      have hrd := hrd0.below bel (Nat.le_refl _)
      clear hcell0 hrd0
      have hbm := hb tb[k] (List.getElem_mem hlt)
      unfold reachBytes at hbm
      generalize (tb.take k).flatten = L at *
      generalize tb[k] = b at *
      have HF := Lib.hid hfs; clear hfs
      by_cases h4 : 400 < L.length + b.length
      · have H3 := Lib.hid awake_c
        go_wp2_with (go_at_call 7; refine (H3.out _).mono ?_; rintro e w' ⟨rfl, hbel⟩)
        go_ret
        exact ⟨rfl, bel.trans (hbel.mono bel.size)⟩
      · have h4' : decide (400 < (L.length : Int) + (b.length : Int)) = false := by simp; omega
        have hcv := run_toString (P := Try.prog) hrd Try.underlying22 Try.underlying5 Try.underlying9
        have hX : (feedOut s0 L).length ≤ 402 := by have := feedOut_len s0_ok L; omega
        have hY : (feedOut (feedSt s0 L) b).length ≤ 402 := by have := feedOut_len (feedSt_ok s0_ok L) b; omega
        go_wp2_with (refine wpList_convert hcv _ rfl rfl rfl ?_)
        refine (feed_open w.heap.size 40 [] [] (feedSt s0 L) (feedSt_ok s0_ok L) w.heap.size _ b _ hs (feedSt_closed rfl L) hrd (hrd.off.imp (by simp) (fun h x hx => by have := h x hx; omega)) (by omega)).mono ?_
        rintro e w5 ⟨v5, rfl, hown5, hs5, k5⟩
        have hcv5 := run_toString (P := Try.prog) (hown5.rd (Nat.le_refl _)) Try.underlying22 Try.underlying5 Try.underlying9
        have kw5 : Keeps [w.heap.size] w w5 := kw.trans k5 (by simp)
        have ef := feed_append L b
        have fw := feed_whole (L ++ b)
        have c0 := hs5.c0
        have c2 := hs5.c2
        simp only [List.length_nil, Nat.zero_add] at c0 c2
        have hlb : (L ++ b).length ≤ maxLen := by simp [maxLen]; omega
        have HS := Lib.hid (rstrip_c (L ++ b) hlb)
        have HT := Lib.hid (rtold_c (L ++ b) hlb)
        have HH := Lib.hid (rheld_c (L ++ b) hlb)
        have hlb' : (L ++ b).length ≤ 400 := by simp; omega
        rw [← fw.1, ← ef.2] at HT
        rw [← fw.2.1, ← ef.1] at HH
        rw [← fw.2.2.1, ← ef.1] at HS
        have EF := Lib.hid ef
        clear fw ef hcv hrd
        clear hs bel
        have hb2 : ∀ nq : Nat, w5.drewN nq = w5.drewN nq := fun _ => rfl
        generalize feedSt (feedSt s0 L) b = S at *
        generalize feedOut (feedSt s0 L) b = Y at *
        obtain ⟨sh, sp, ss, sc⟩ := S
        have hne : ((sh : Int) != (sh : Int)) = false := by simp
        cases ss
        all_goals
          simp only [if_true, if_false, Bool.false_eq_true] at HS
          go_wp2_with (refine wpList_convert hcv5 _ rfl rfl rfl ?_)
          refine (HS.out _).mono ?_
          rintro e w6 ⟨rfl, m6, rfl⟩
          go_wp2_with (fail)
          refine (HT.out _).mono ?_
          rintro e w7 ⟨rfl, m7, rfl⟩
          go_wp2_with (fail)
          refine (held_c _ _ _ (w5.drewN _) c0).mono ?_
          rintro e w8 ⟨rfl, rfl⟩
          go_wp2_with (fail)
          refine (HH.out _).mono ?_
          rintro e w8 ⟨rfl, m8, rfl⟩
          go_wp2_with (fail)
          refine (stripped_c _ _ _ (w5.drewN _) c2).mono ?_
          rintro e w9 ⟨rfl, rfl⟩
          go_wp2_with (fail)
          go_roundw
          case rel => exact ⟨k + 1, by omega, by go_num, by rw [HF.out], by rw [HF.out, ← EF.out.2], by rw [HF.out]; exact hlb', by rw [HF.out, ← EF.out.1]; exact ⟨hs5.blk⟩, kw5.drewN1 _⟩
          case measure => simp [intOf]; omega
    · obtain rfl : k = tb.length := by omega
      have hLm : (tb.take tb.length).flatten.length ≤ maxLen := by simp only [maxLen]; omega
      generalize (tb.take tb.length).flatten = L at *
      have hX : (feedOut s0 L).length ≤ 402 := by have := feedOut_len s0_ok L; omega
      have hok := feedSt_ok s0_ok L
      have fw := feed_whole L
      have HS := Lib.hid (rstrip_c L hLm)
      rw [← fw.2.2.1] at HS
      have hfin := fw.2.2.2
      generalize strip L = T at *
      clear fw
      go_wp2_with (fail)
      refine (close_c w.heap.size 40 [] [] (feedSt s0 L) hok _ hs).mono ?_
      rintro e w5 ⟨v5, rfl, hown5, hs5, k5⟩
      have hcv5 := run_toString (P := Try.prog) (hown5.rd (Nat.le_refl _)) Try.underlying22 Try.underlying5 Try.underlying9
      have hC : (closeOut (feedSt s0 L)).length ≤ 2 := by simp [closeOut, List.length_take]; have := hok.1; omega
      have kw5 : Keeps [w.heap.size] w w5 := kw.trans k5 (by simp)
      have c2 := hs5.c2
      have c0 := hs5.c0
      simp only [List.length_nil, Nat.zero_add, closeSt] at c0 c2
      have heq : ((feedOut s0 L ++ closeOut (feedSt s0 L)) == T) = true := by rw [hfin]; simp
      have ok5 : (closeSt (feedSt s0 L)).ok := ⟨by simp [closeSt], by simp [closeSt], by have := hok.2.2; simpa [closeSt] using this⟩
      have hc5 : (closeOut (closeSt (feedSt s0 L))).length = 0 := by simp [closeOut, closeSt]
      have hcl : (closeSt (closeSt (feedSt s0 L))).closed = true := rfl
      have HC := Lib.hid hc5; clear hc5 hfin hs kw
      have HL := Lib.hid hcl; clear hcl
      cases hss : (feedSt s0 L).stripped
      all_goals
        rw [hss] at HS c2
        simp only [if_true, if_false, Bool.false_eq_true] at HS
        clear hss
        go_wp2_with (refine wpList_convert hcv5 _ rfl rfl rfl ?_)
        refine (HS.out _).mono ?_
        rintro e w6 ⟨rfl, m6, rfl⟩
        go_wp2_with (fail)
        refine (stripped_c _ _ _ (w5.drewN _) c2).mono ?_
        rintro e w9 ⟨rfl, rfl⟩
        go_wp2_with (fail)
        refine (held_c _ _ _ (w5.drewN _) c0).mono ?_
        rintro e w9 ⟨rfl, rfl⟩
        go_wp2_with (fail)
        refine (close_c w.heap.size 40 [] [] (closeSt (feedSt s0 L)) ok5 (w5.drewN m6) ⟨hs5.blk⟩).mono ?_
        rintro e w7 ⟨v7, rfl, hown7, hs7, k7⟩
        rw [HC.out] at hown7
        obtain ⟨A7, c7, rfl, _⟩ := hown7.form
        clear hown7 hcv5 hown5 hs5 c0 c2
        go_wp2_with (fail)
        refine (feed_closed w.heap.size 40 [] [] (closeSt (closeSt (feedSt s0 L))) _ _ ⟨hs7.blk.alloc _⟩ HL.out).mono ?_
        rintro e w8 ⟨rfl, rfl⟩
        go_wp2_with (fail)
        refine (awake_c _).mono ?_
        rintro e w9 ⟨rfl, hbel⟩
        go_wp2_with (fail)
        go_ret
        have kw7 : Keeps [w.heap.size] w w7 := kw5.trans (Keeps.trans (Keeps.drewN [w.heap.size] w5 m6) k7 (by simp)) (by simp)
        have b7 : Below w.heap.size w w7 := kw7.below (Nat.le_refl _) (by simp)
        exact ⟨rfl, (b7.alloc b7.size _).trans (hbel.mono (by have := b7.size; simp; omega))⟩

theorem walk (v : Value) (tb : List (List UInt8)) (w : World) (h : BTbl w w.heap.size v tb) (hb : ∀ r ∈ tb, r.length ≤ reachBytes) :
    Calls Try.prog 4 #[v] w fun e w' => e = .returned (.bool true) ∧ Below w.heap.size w w' := by
  by_cases hl : tb.length ≤ 40
  · exact walk_few v tb w h hl hb
  · exact walk_long v tb w h (by omega)
set_option maxRecDepth 100000 in
theorem lifted (os : Os) (started : os.Started) (H : Type) (enc : TypeId × Value → H) :
    ReturnsInHanded {} Try.checked os 4 .any (Rows.bomPiecesSpec.pre6 enc Try.prog Try.f4 Rows.bomPiecesRow.domain false) (Rows.bomPiecesSpec.post enc Try.prog Try.f4 false true false false) := by
  refine returnsInHanded_of_change_sized (C := Try.checked) own started (by kernel_rfl) Try.func4
    (ChangeSpec.witness6 (enc := enc) (C := Try.checked) false ⟨#[], #[.slice none 0 0], []⟩ 8 (by kernel_rfl) (by kernel_rfl) (by kernel_rfl) (by kernel_rfl)) ?_
  intro W base args ds gs before hval0 hW hcnd hsz0 _
  have hval : ∀ (j : Nat) t v, Try.f4.params[j]? = some t → args[j]? = some v → Value.okWide Try.prog W .any base t v := hval0
  have hW' := hW
  obtain ⟨p, q, hA0, hV, rfl, hfz, hnd⟩ := hW
  have hA : DataW.TrodAll enc Try.prog W 0 (fun _ => true) true Try.f4.params.toList args.toList ds p := hA0
  have hsz : (DataW.weightsEach Try.prog (Try.f4.params.toList ++ Rows.bomPiecesSpec.plain.varTypes Try.prog) (ds ++ gs)).all (· ≤ reachBytes) = true := hsz0
  rw [Try.params4] at hA hval hsz
  obtain ⟨v0, vs0, d0, ds0, p0, q0, hargs, rfl, rfl, k0, r0⟩ := trodAll_cons hA
  obtain ⟨rfl, rfl, rfl⟩ := trodAll_nil r0
  obtain rfl : args = #[v0] := by cases args; simp_all
  obtain ⟨rfl, rfl⟩ := trodVars_none hV
  have lt0 := Trod_lt k0
  obtain ⟨tb0, rd0, hl0, hs0⟩ := Trod_btbl Try.underlying31 (by kernel_rfl) (of_decide_eq_true (by kernel_rfl)) Try.underlying22 Try.underlying5 (by kernel_rfl) (of_decide_eq_true (by kernel_rfl)) (hval 0 31 v0 rfl rfl) k0 (wt_of hsz (j := 0) rfl rfl)
  clear hA0 hval0 hsz0
  refine (walk v0 tb0 W rd0 hs0).mono fun e W' ⟨he, bel⟩ => ?_
  subst he
  exact ⟨_, rfl, _, _, _, [], _, [], hW', trodAll_mk1 (shut_bool Try.underlying4 _), (trodAll_cons_mk (Below.trod laidOut (by kernel_rfl) (of_decide_eq_true (by kernel_rfl)) k0 bel lt0) trodAll_mk0), rfl, bel.frame _, fun h => by cases h⟩

theorem proved : Rows.BomPiecesSaid :=
  OpenClaim.holds_of_wide 4 Try.f4 rfl rfl rfl rfl rfl rfl rfl ⟨rfl, rfl, rfl, rfl, rfl⟩ rfl rfl rfl rfl rfl (by kernel_rfl) Try.func4 (by kernel_rfl)
    (of_decide_eq_true (by kernel_rfl)) (by unfold Func.isWrapper; first | (rw [if_pos (by decide +kernel)]; kernel_rfl) | (rw [if_neg (by decide +kernel)]; exact ⟨rfl, rfl⟩))
    (fun os started H enc _ => lifted os started H enc)
end Go.Proofs.Ytglfjhbfibmfpaa.BomPiecesP
namespace Go.Proofs.Ytglfjhbfibmfpaa
theorem bomPieces_holds : Rows.BomPiecesSaid := BomPiecesP.proved
#print axioms bomPieces_holds
end Go.Proofs.Ytglfjhbfibmfpaa
