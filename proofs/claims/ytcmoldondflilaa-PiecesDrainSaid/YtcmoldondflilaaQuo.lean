/- The contracts of package quote: fields as they are written. -/
import Derived.Test.YtcmoldondflilaaBld
import Derived.Test.YtcmoldondflilaaNeed
import Derived.Test.YtcmoldondflilaaQuoPlain
import Derived.Outline
import Derived.Deep.QuietTactic
import Derived.BigQuiet
namespace Go.Proofs.Ytcmoldondflilaa.Quo
set_option linter.unusedVariables false
set_option linter.unusedSimpArgs false
set_option maxRecDepth 100000
open Go.RowKit Q Mach Dia Need Bld QuoPlain
attribute [local go_sem ↓] Go.wp_at_zero Go.wp_at_succ

theorem dbl_take (q : UInt8) (f : Bs) (k : Nat) (h : k < f.length) : dbl q (f.take (k + 1)) = dbl q (f.take k) ++ (if f[k] == q then [f[k], f[k]] else [f[k]]) := by
  rw [List.take_succ_eq_append_getElem h, dbl_append]
  congr 1
set_option maxHeartbeats 1000000 in
theorem quoted_c (d : Dia) (f : Bs) (hf : f.length ≤ 100000) (w : World) : Calls Try.prog 63 #[diaV d, sv f] w fun e w' => e = .returned (sv (quoB d.quote f)) ∧ Keeps [] w w' := by
  have hb0 := (Blk.new w 23 [bv d.delim, bv d.quote, .int .i64 d.fin]).alloc (.cells #[.pointer none, .slice none 0 0] 83)
  have hB0 := Bd.new (w.alloc (.cells #[bv d.delim, bv d.quote, .int .i64 d.fin] 23))
  rw [show (w.alloc (.cells #[bv d.delim, bv d.quote, .int .i64 d.fin] 23)).heap.size = w.heap.size + 1 by simp] at hB0
  have kp := (Keeps.alloc [] w (.cells #[bv d.delim, bv d.quote, .int .i64 d.fin] 23)).alloc1 (.cells #[.pointer none, .slice none 0 0] 83)
  have c1 := hb0.cell_of (i := 1) rfl
  obtain ⟨x, q, z⟩ := d
  go_enter Try.func63, Try.ntmps63
  go_wp2_with (fail)
  generalize (w.alloc (.cells #[bv x, bv q, .int .i64 z] 23)).alloc (.cells #[.pointer none, .slice none 0 0] 83) = w0 at *
  refine (writeByte_c (w.heap.size + 1) (w.heap.size + 1) [] q w0 hB0 (by simp)).mono ?_
  rintro e w1 ⟨rfl, hB1, hb1⟩
  clear hB0 c1
  go_wp2_with (fail)
  go_loopw [12] (fun i wr => ∃ k : Nat, k ≤ f.length ∧ i = .int .i64 k ∧ Bd wr (w.heap.size + 1) (w.heap.size + 1) (q :: dbl q (f.take k)) ∧ Below (w.heap.size + 1) w0 wr) (fun i _ => f.length - (intOf i).toNat)
  case atStart => exact ⟨0, Nat.zero_le _, rfl, hB1, hb1⟩
  case round =>
    obtain ⟨k, hk, rfl, hB, hbl⟩ := hrel
    have c1 := (hb0.below hbl (Nat.lt_succ_self _)).cell_of (i := 1) rfl
    have hlen : (q :: dbl q (f.take k)).length ≤ 300000 := by have := (dbl_len q (f.take k)).2; have : (f.take k).length ≤ f.length := List.length_take_le' _ _; simp only [List.length_cons]; omega
    clear hB1 hb1
    by_cases hlt : k < f.length
    · have hi := str_idx (P := Try.prog) Try.underlying9 f k f[k] (List.getElem?_eq_getElem hlt)
      have hq := u8_beq f[k] q
      have hk0 : (0 : Int) ≤ (k : Int) := by omega
      have hkl : (k : Int) < (f.length : Int) := by omega
      have HD := Lib.hid (dbl_take q f k hlt)
      generalize f[k] = y at *
      have hB' := hB
      cases hy : (y == q)
      · rw [hy] at hq
        rw [hy] at HD
        clear hB hy
        go_wp2_with (fail)
        go_quiet (fail)
        have hB2 := hB'.keep (Keeps.drewN [] wr nq)
        have hb2 := below_drewN hbl nq
        clear hB' hbl c1
        generalize wr.drewN nq = wx at *
        go_wp2_with (fail)
        refine (writeByte_c _ _ _ y wx hB2 (by omega)).mono ?_
        rintro e w3 ⟨rfl, hB3, hb3⟩
        go_wp2_with (fail)
        refine ⟨⟨k + 1, by omega, by go_num, ?_, hb2.trans hb3⟩, by simp [intOf]; omega⟩
        rw [HD.out]
        simpa using hB3
      · rw [hy] at hq
        rw [hy] at HD
        rw [beq_iff_eq] at hy
        subst hy
        clear hB
        go_wp2_with (fail)
        go_quiet (fail)
        have hB2 := hB'.keep (Keeps.drewN [] wr nq)
        have hb2 := below_drewN hbl nq
        have c1' := (hb0.below hb2 (Nat.lt_succ_self _)).cell_of (i := 1) rfl
        clear hB' hbl c1
        generalize wr.drewN nq = wx at *
        go_wp2_with (fail)
        refine (writeByte_c _ _ _ y wx hB2 (by omega)).mono ?_
        rintro e w3 ⟨rfl, hB3, hb3⟩
        clear hB2 c1'
        go_wp2_with (fail)
        refine (writeByte_c _ _ _ y w3 hB3 (by simp only [List.length_append, List.length_singleton]; omega)).mono ?_
        rintro e w4 ⟨rfl, hB4, hb4⟩
        go_wp2_with (fail)
        refine ⟨⟨k + 1, by omega, by go_num, ?_, (hb2.trans hb3).trans hb4⟩, by simp [intOf]; omega⟩
        rw [HD.out]
        simpa using hB4
    · obtain rfl : k = f.length := by omega
      have hkl : ¬ ((f.length : Int) < (f.length : Int)) := by omega
      rw [List.take_length] at hB hlen
      go_wp2_with (fail)
      refine (writeByte_c _ _ _ q wr hB (by omega)).mono ?_
      rintro e w3 ⟨rfl, hB3, hb3⟩
      clear c1
      go_wp2_with (fail)
      refine (string_c _ _ _ w3 hB3).mono ?_
      rintro e w4 ⟨rfl, hb4⟩
      go_wp2_with (fail)
      go_ret
      exact ⟨rfl, Keeps.of_below ((kp.below (Nat.le_refl _) (by simp)).trans (((hbl.trans hb3).trans hb4).mono (by omega))) []⟩

def writB (d : Dia) (f : Bs) (alone first : Bool) : Bs := if whyB d f alone first != 0 then quoB d.quote f else f
set_option maxHeartbeats 1000000 in
theorem written_c (d : Dia) (f : Bs) (alone first : Bool) (hf : f.length ≤ 100000) (w : World) : Calls Try.prog 45 #[diaV d, sv f, .bool alone, .bool first] w fun e w' => e = .returned (sv (writB d f alone first)) ∧ Keeps [] w w' := by
  have HN := Lib.hid (fun w => need_c d f alone first (by unfold maxLen; omega) w)
  have HQ := Lib.hid (fun w => quoted_c d f hf w)
  have hb0 := Blk.new w 23 [bv d.delim, bv d.quote, .int .i64 d.fin]
  have kp := Keeps.alloc [] w (.cells #[bv d.delim, bv d.quote, .int .i64 d.fin] 23)
  unfold writB
  generalize (whyB d f alone first != 0) = nb at *
  obtain ⟨x, q, z⟩ := d
  cases nb
  · go_enter Try.func45, Try.ntmps45
    go_wp2_with (fail)
    refine (HN.out _).mono ?_
    rintro e w1 ⟨rfl, k1⟩
    go_wp2_with (fail)
    go_ret
    exact ⟨rfl, kp.trans k1 (by simp)⟩
  · go_enter Try.func45, Try.ntmps45
    go_wp2_with (fail)
    refine (HN.out _).mono ?_
    rintro e w1 ⟨rfl, k1⟩
    have hb1 := hb0.keep k1 (by simp)
    have c0 := hb1.cell_of (i := 0) rfl
    have c1 := hb1.cell_of (i := 1) rfl
    have c2 := hb1.cell_of (i := 2) rfl
    clear hb0
    go_wp2_with (fail)
    refine (HQ.out _).mono ?_
    rintro e w2 ⟨rfl, k2⟩
    go_wp2_with (fail)
    go_ret
    exact ⟨rfl, (kp.trans k1 (by simp)).trans k2 (by simp)⟩

/-! ### The document's -/
set_option maxHeartbeats 1000000 in
theorem rquoted_c (d : Dia) (f : Bs) (hf : f.length ≤ 100000) (w : World) : Calls Try.prog 66 #[rdiaV d, sv f] w fun e w' => e = .returned (sv (quoB d.quote f)) ∧ Keeps [] w w' := by
  have hcat : ∀ x y : List UInt8, (ByteArray.mk x.toArray ++ ByteArray.mk y.toArray) = ⟨(x ++ y).toArray⟩ := cat_mk
  have hb0 := Blk.new w 33 [.int .i64 d.delim.toNat, .int .i64 d.quote.toNat, .int .i64 d.fin]
  have kp := Keeps.alloc [] w (.cells #[.int .i64 d.delim.toNat, .int .i64 d.quote.toNat, .int .i64 d.fin] 33)
  have hw := wrap_u8 d.quote
  have hx' : IntKind.u8.wrap (d.quote.toNat : Int) = d.quote.toNat := by rw [IntKind.wrap_u8]; omega
  have hr := run_str1 (P := Try.prog) Try.underlying60 Try.underlying5 Try.underlying9 d.quote d.quote.toNat rfl (w.alloc (.cells #[.int .i64 d.delim.toNat, .int .i64 d.quote.toNat, .int .i64 d.fin] 33))
  rw [World.size_alloc] at hr
  obtain ⟨x, q, z⟩ := d
  go_enter Try.func66, Try.ntmps66
  go_wp2_with (refine wpList_convert hr _ rfl rfl rfl ?_)
  have hb1 := hb0.alloc (.cells #[bv q] 5)
  have kp1 := kp.alloc1 (.cells #[bv q] 5)
  clear hb0 kp hr hx'
  generalize (w.alloc (.cells #[.int .i64 x.toNat, .int .i64 q.toNat, .int .i64 z] 33)).alloc (.cells #[bv q] 5) = w0 at *
  go_loopw [6, 7] (fun s i wr => ∃ k : Nat, k ≤ f.length ∧ i = .int .i64 k ∧ s = sv (q :: dbl q (f.take k)) ∧ ∃ m, wr = w0.drewN m) (fun _ i _ => f.length - (intOf i).toNat)
  case atStart => exact ⟨0, Nat.zero_le _, rfl, rfl, 0, rfl⟩
  case round =>
    obtain ⟨k, hk, rfl, rfl, m, rfl⟩ := hrel
    have c1 := hb1.cell_of (i := 1) rfl
    have hdl : (dbl q (f.take k)).length ≤ 200000 := by have := (dbl_len q (f.take k)).2; have : (f.take k).length ≤ f.length := List.length_take_le' _ _; omega
    by_cases hlt : k < f.length
    · have hi := str_idx (P := Try.prog) Try.underlying9 f k f[k] (List.getElem?_eq_getElem hlt)
      have hq := u8_beq f[k] q
      have hwy := wrap_u8 f[k]
      have hk0 : (0 : Int) ≤ (k : Int) := by omega
      have hkl : (k : Int) < (f.length : Int) := by omega
      have HD := Lib.hid (dbl_take q f k hlt)
      have hsl : ∀ w, (Instr.sliceAt 9 (sv f) (some (.int .i64 (k : Int))) (some (.int .i64 ((k : Int) + 1))) none).run Try.prog w = .ok (sv [f[k]]) w := by
        intro w
        have h := run_strMid (P := Try.prog) Try.underlying9 f k (k + 1) (by omega) (by omega) w
        have e : (f.take (k + 1)).drop k = [f[k]] := by
          rw [List.drop_take, List.drop_eq_getElem_cons hlt, Nat.add_sub_cancel_left]
          rfl
        rw [e] at h
        exact h
      have hwk : IntKind.i64.wrap ((f[k].toNat : Nat) : Int) = (f[k].toNat : Int) := IntWalk.i64_in _ (by omega)
      generalize f[k] = y at *
      cases hy : (y == q)
      · rw [hy] at hq
        rw [hy] at HD
        clear hy
        go_wp2_with (fail)
        go_quiet (fail)
        go_wp2_with (refine wpList_slice (hsl _) _ _ _ _ rfl rfl rfl rfl rfl rfl ?_)
        refine ⟨⟨k + 1, by omega, by go_num, ?_, _, rfl⟩, by simp [intOf]; omega⟩
        rw [HD.out]
        simp
      · rw [hy] at hq
        rw [hy] at HD
        rw [beq_iff_eq] at hy
        subst hy
        go_wp2_with (fail)
        go_quiet (fail)
        go_wp2_with (refine wpList_slice (hsl _) _ _ _ _ rfl rfl rfl rfl rfl rfl ?_)
        refine ⟨⟨k + 1, by omega, by go_num, ?_, _, rfl⟩, by simp [intOf]; omega⟩
        rw [HD.out]
        simp
    · obtain rfl : k = f.length := by omega
      have hkl : ¬ ((f.length : Int) < (f.length : Int)) := by omega
      rw [List.take_length] at *
      go_wp2_with (fail)
      go_ret
      refine ⟨?_, kp1.drewN1 _⟩
      simp [quoB]
end Go.Proofs.Ytcmoldondflilaa.Quo
