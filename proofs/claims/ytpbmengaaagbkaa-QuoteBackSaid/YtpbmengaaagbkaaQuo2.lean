/- The contracts of package quote, and of the document's: fields read back. -/
import Derived.Test.YtpbmengaaagbkaaQuo
namespace Go.Proofs.Ytpbmengaaagbkaa.Quo
set_option linter.unusedVariables false
set_option linter.unusedSimpArgs false
open Go.RowKit Q Mach Dia Need Bld QuoPlain
attribute [local go_sem ↓] Go.wp_at_zero Go.wp_at_succ

def inV : Option Bs → Value
  | some f => .tuple #[sv f, .bool true]
  | none => .tuple #[sv [], .bool false]
theorem undbl_ne {q b : UInt8} (r : Bs) (h : b ≠ q) : undbl q (b :: r) = (undbl q r).map (b :: ·) := by
  have h' : (b == q) = false := by simpa using h
  cases r with
  | nil => simp [undbl, h']
  | cons c r => simp [undbl, h']
theorem inner_len {q : UInt8} {s : Bs} (h : s.length < 2) : innerB q s = none := by unfold innerB; rw [if_pos h]
theorem inner_last {q : UInt8} {s : Bs} (h : 2 ≤ s.length) (hl : s[s.length - 1] ≠ q) : innerB q s = none := by
  unfold innerB
  rw [if_neg (by omega), if_pos]
  rw [List.getLast?_eq_getElem?, List.getElem?_eq_getElem (by omega)]
  simpa using hl
theorem inner_mid {q : UInt8} {s : Bs} (h : 2 ≤ s.length) (hl : s[s.length - 1] = q) : innerB q s = undbl q ((s.take (s.length - 1)).drop 1) := by
  unfold innerB
  rw [if_neg (by omega), if_neg]
  · rw [List.drop_take]
    rfl
  · rw [List.getLast?_eq_getElem?, List.getElem?_eq_getElem (by omega)]
    simpa using hl
/-- What was read of the middle by now. -/
def Acc (q : UInt8) (m : Bs) (k : Nat) (acc : Bs) : Prop := undbl q m = (undbl q (m.drop k)).map (acc ++ ·) ∧ acc.length ≤ k
theorem acc0 (q : UInt8) (m : Bs) : Acc q m 0 [] := ⟨by simp, by simp⟩
theorem acc_ne {q : UInt8} {m acc : Bs} {k : Nat} (h : Acc q m k acc) (hk : k < m.length) (hb : m[k] ≠ q) : Acc q m (k + 1) (acc ++ [m[k]]) := by
  refine ⟨?_, by have := h.2; simp; omega⟩
  rw [h.1, List.drop_eq_getElem_cons hk, undbl_ne _ hb]
  cases undbl q (m.drop (k + 1)) <;> simp
theorem acc_end {q : UInt8} {m acc : Bs} (h : Acc q m m.length acc) : undbl q m = some acc := by
  rw [h.1, List.drop_length]
  simp [undbl]
theorem acc_last {q : UInt8} {m acc : Bs} {k : Nat} (h : Acc q m k acc) (hk : k + 1 = m.length) (hb : m[k] = q) : undbl q m = none := by
  have hd : m.drop k = [q] := by rw [List.drop_eq_getElem_cons (by omega), hb, List.drop_eq_nil_of_le (by omega)]
  rw [h.1, hd]
  simp [undbl]
theorem acc_bad {q : UInt8} {m acc : Bs} {k : Nat} (h : Acc q m k acc) (hk : k + 1 < m.length) (hb : m[k] = q) (hc : m[k + 1] ≠ q) : undbl q m = none := by
  have hd : m.drop k = q :: m[k + 1] :: m.drop (k + 2) := by rw [List.drop_eq_getElem_cons (by omega), hb, List.drop_eq_getElem_cons (by omega)]
  have hc' : (m[k + 1] == q) = false := by simpa using hc
  rw [h.1, hd]
  simp [undbl, hc']
theorem acc_two {q : UInt8} {m acc : Bs} {k : Nat} (h : Acc q m k acc) (hk : k + 1 < m.length) (hb : m[k] = q) (hc : m[k + 1] = q) : Acc q m (k + 2) (acc ++ [q]) := by
  have hd : m.drop k = q :: q :: m.drop (k + 2) := by rw [List.drop_eq_getElem_cons (by omega), hb, List.drop_eq_getElem_cons (by omega), hc]
  refine ⟨?_, by have := h.2; simp; omega⟩
  rw [h.1, hd]
  simp only [undbl, beq_self_eq_true, if_true]
  cases undbl q (m.drop (k + 2)) <;> simp

set_option maxHeartbeats 2000000 in
theorem inner_c (d : Dia) (s : Bs) (hs : s.length ≤ 100000) (w : World) : Calls Try.prog 41 #[diaV d, sv s] w fun e w' => e = .returned (inV (innerB d.quote s)) ∧ Keeps [] w w' := by
  have hb0 := Blk.new w 23 [bv d.delim, bv d.quote, .int .i64 d.fin]
  have kp := Keeps.alloc [] w (.cells #[bv d.delim, bv d.quote, .int .i64 d.fin] 23)
  have c1 := hb0.cell_of (i := 1) rfl
  have hln : (s.length : Int) ≤ 100000 := by omega
  by_cases h2 : s.length < 2
  · have HR := Lib.hid (inner_len (q := d.quote) h2)
    have h2' : decide ((s.length : Int) < 2) = true := by simp; omega
    obtain ⟨x, q, z⟩ := d
    clear h2
    go_enter Try.func41, Try.ntmps41
    go_wp2_with (fail)
    go_quiet (fail)
    go_wp2_with (fail)
    go_ret2
    exact ⟨by rw [HR.out]; rfl, kp.drewN1 _⟩
  have h2' : decide ((s.length : Int) < 2) = false := by simp; omega
  have hl1 : 0 ≤ (s.length : Int) - 1 := by omega
  have hll : s.length - 1 < s.length := by omega
  have hi : ∀ w, (Instr.index 9 (.string ⟨s.toArray⟩) (.int .i64 ((s.length : Int) - 1))).run Try.prog w = .ok (bv s[s.length - 1]) w := by
    intro w
    have h := str_idx (P := Try.prog) Try.underlying9 s (s.length - 1) s[s.length - 1] (List.getElem?_eq_getElem hll) w
    rw [show ((s.length - 1 : Nat) : Int) = (s.length : Int) - 1 by omega] at h
    exact h
  have hq := u8_beq s[s.length - 1] d.quote
  have hq' : ((s[s.length - 1].toNat : Int) != (d.quote.toNat : Int)) = !(s[s.length - 1] == d.quote) := by rw [bne, hq]
  have hm : ((s.take (s.length - 1)).drop 1).length ≤ 100000 := by simp; omega
  have hsl : ∀ w, (Instr.sliceAt 9 (sv s) (some (.int .i64 1)) (some (.int .i64 ((s.length : Int) - 1))) none).run Try.prog w = .ok (sv ((s.take (s.length - 1)).drop 1)) w := by
    intro w
    have h := run_strMid (P := Try.prog) Try.underlying9 s 1 (s.length - 1) (by omega) (by omega) w
    rw [show ((s.length - 1 : Nat) : Int) = (s.length : Int) - 1 by omega] at h
    exact h
  have h22 : 2 ≤ s.length := by omega
  have HI := Lib.hid (fun (hl : s[s.length - 1] ≠ d.quote) => inner_last h22 hl)
  have HM := Lib.hid (fun (hl : s[s.length - 1] = d.quote) => inner_mid h22 hl)
  have hwl : IntKind.i64.wrap ((s.length : Int) - 1) = (s.length : Int) - 1 := IntWalk.i64_in _ (by omega)
  generalize (s.take (s.length - 1)).drop 1 = m at *
  generalize s[s.length - 1] = y at *
  obtain ⟨x, q, z⟩ := d
  cases hy : (y == q)
  · rw [hy] at hq hq'
    have HR := Lib.hid (HI.out (by simpa using hy))
    clear hy HI HM hsl
    go_enter Try.func41, Try.ntmps41
    go_wp2_with (fail)
    go_quiet (fail)
    go_wp2_with (fail)
    go_ret2
    exact ⟨by rw [HR.out]; rfl, kp.drewN1 _⟩
  rw [hy] at hq hq'
  rw [beq_iff_eq] at hy
  subst hy
  have HR := Lib.hid (HM.out rfl)
  clear HI HM
  go_enter Try.func41, Try.ntmps41
  go_wp2_with (fail)
  go_quiet (fail)
  clear hwl hi
  have hb1 := (hb0.drewN nq).alloc (.cells #[.pointer none, .slice none 0 0] 74)
  have kp1 := (kp.drewN1 nq).alloc1 (.cells #[.pointer none, .slice none 0 0] 74)
  have hB0 := Bd.new ((w.alloc (.cells #[bv x, bv y, .int .i64 z] 23)).drewN nq)
  rw [show ((w.alloc (.cells #[bv x, bv y, .int .i64 z] 23)).drewN nq).heap.size = w.heap.size + 1 by simp] at hB0
  go_wp2_with (refine wpList_slice (hsl _) _ _ _ _ rfl rfl rfl rfl rfl rfl ?_)
  clear hsl hb0 kp c1 hq hq' h2'
  generalize ((w.alloc (.cells #[bv x, bv y, .int .i64 z] 23)).drewN nq).alloc (.cells #[.pointer none, .slice none 0 0] 74) = w0 at *
  have HA0 := Lib.hid (acc0 y m)
  go_loopw [7] (fun i wr => ∃ (k : Nat) (acc : Bs), k ≤ m.length ∧ i = .int .i64 k ∧ Acc y m k acc ∧ Bd wr (w.heap.size + 1) (w.heap.size + 1) acc ∧ Below (w.heap.size + 1) w0 wr) (fun i _ => m.length - (intOf i).toNat)
  case atStart => exact ⟨0, [], Nat.zero_le _, rfl, HA0.out, hB0, Below.refl _ _⟩
  case round =>
    obtain ⟨k, acc, hk, rfl, hacc, hB, hbl⟩ := hrel
    have HAC := Lib.hid hacc
    have hal : acc.length ≤ 100000 := by have := hacc.2; omega
    have c1 := (hb1.below hbl (Nat.lt_succ_self _)).cell_of (i := 1) rfl
    clear hacc HA0 hB0
    by_cases hlt : k < m.length
    · have hi := str_idx (P := Try.prog) Try.underlying9 m k m[k] (List.getElem?_eq_getElem hlt)
      have hq := u8_beq m[k] y
      have hk0 : (0 : Int) ≤ (k : Int) := by omega
      have hkl : (k : Int) < (m.length : Int) := by omega
      cases hb : (m[k] == y)
      · rw [hb] at hq
        have HAN := Lib.hid (acc_ne HAC.out hlt (by simpa using hb))
        clear hb HAC
        generalize m[k] = b at *
        go_wp2_with (fail)
        go_quiet (fail)
        have hB2 := hB.keep (Keeps.drewN [] wr nq)
        have hb2 := below_drewN hbl nq
        clear hB hbl c1
        generalize wr.drewN nq = wx at *
        go_wp2_with (fail)
        refine (writeByte_c _ _ _ b wx hB2 (by omega)).mono ?_
        rintro e w3 ⟨rfl, hB3, hb3⟩
        go_wp2_with (fail)
        exact ⟨⟨k + 1, acc ++ [b], by omega, by go_num, HAN.out, hB3, hb2.trans hb3⟩, by simp [intOf]; omega⟩
      · rw [hb] at hq
        have hby : m[k] = y := by simpa using hb
        by_cases hlast : k + 1 = m.length
        · have HRN := Lib.hid (acc_last HAC.out hlast hby)
          have heq : (((k : Int) + 1) == (m.length : Int)) = true := by rw [beq_iff_eq]; omega
          have heq2 : ((k + 1 : Nat) == m.length) = true := by simpa using hlast
          clear hb HAC hby hlast
          generalize m[k] = b at *
          go_wp2_with (fail)
          go_quiet (fail)
          have hb2 := below_drewN hbl nq
          have c1' : (wr.drewN nq).cell? _ = _ := c1
          clear hB hbl c1
          generalize wr.drewN nq = wx at *
          go_wp2_with (fail)
          go_quiet (fail)
          go_wp2_with (fail)
          go_ret2
          refine ⟨by rw [HR.out, HRN.out]; rfl, ?_⟩
          exact Keeps.of_below ((kp1.below (Nat.le_refl _) (by simp)).trans ((below_drewN hb2 _).mono (by omega))) []
        · have hlt2 : k + 1 < m.length := by omega
          have hi2 : ∀ w, (Instr.index 9 (.string ⟨m.toArray⟩) (.int .i64 ((k : Int) + 1))).run Try.prog w = .ok (bv m[k + 1]) w := str_idx (P := Try.prog) Try.underlying9 m (k + 1) m[k + 1] (List.getElem?_eq_getElem hlt2)
          have heq : (((k : Int) + 1) == (m.length : Int)) = false := by rw [beq_eq_false_iff_ne]; omega
          have hk1 : (0 : Int) ≤ (k : Int) + 1 := by omega
          have hkl1 : (k : Int) + 1 < (m.length : Int) := by omega
          have hq2 := u8_beq m[k + 1] y
          have hq2' : ((m[k + 1].toNat : Int) != (y.toNat : Int)) = !(m[k + 1] == y) := by rw [bne, hq2]
          cases hc : (m[k + 1] == y)
          · rw [hc] at hq2 hq2'
            have HRN := Lib.hid (acc_bad HAC.out hlt2 hby (by simpa using hc))
            clear hb HAC hby hc hlast
            generalize m[k] = b at *
            generalize m[k + 1] = c at *
            go_wp2_with (fail)
            go_quiet (fail)
            have hb2 := below_drewN hbl nq
            have c1' : (wr.drewN nq).cell? _ = _ := c1
            clear hB hbl c1
            generalize wr.drewN nq = wx at *
            go_wp2_with (fail)
            go_quiet (fail)
            go_wp2_with (fail)
            go_ret2
            refine ⟨by rw [HR.out, HRN.out]; rfl, ?_⟩
            exact Keeps.of_below ((kp1.below (Nat.le_refl _) (by simp)).trans ((below_drewN hb2 _).mono (by omega))) []
          · rw [hc] at hq2 hq2'
            have hcy : m[k + 1] = y := by simpa using hc
            have HAN := Lib.hid (acc_two HAC.out hlt2 hby hcy)
            rw [hcy] at hi2
            clear hb HAC hby hc hq2 hq2' hcy hlast
            have hq2' : ((y.toNat : Int) != (y.toNat : Int)) = false := by simp
            generalize m[k] = b at *
            go_wp2_with (fail)
            go_quiet (fail)
            have hB2 := hB.keep (Keeps.drewN [] wr nq)
            have hb2 := below_drewN hbl nq
            have c1' : (wr.drewN nq).cell? _ = _ := c1
            clear hB hbl c1
            generalize wr.drewN nq = wx at *
            go_wp2_with (fail)
            go_quiet (fail)
            have hB3 := hB2.keep (Keeps.drewN [] wx nq)
            have hb3 := below_drewN hb2 nq
            clear hB2 hb2 c1'
            generalize wx.drewN nq = wy at *
            go_wp2_with (fail)
            refine (writeByte_c _ _ _ y wy hB3 (by omega)).mono ?_
            rintro e w3 ⟨rfl, hB4, hb4⟩
            go_wp2_with (fail)
            exact ⟨⟨k + 2, acc ++ [y], by omega, by go_num, HAN.out, hB4, hb3.trans hb4⟩, by simp [intOf]; omega⟩
    · obtain rfl : k = m.length := by omega
      have hkl : ¬ ((m.length : Int) < (m.length : Int)) := by omega
      have HRN := Lib.hid (acc_end HAC.out)
      clear HAC
      go_wp2_with (fail)
      refine (string_c _ _ _ wr hB).mono ?_
      rintro e w4 ⟨rfl, hb4⟩
      go_wp2_with (fail)
      go_ret2
      refine ⟨by rw [HR.out, HRN.out]; rfl, ?_⟩
      exact Keeps.of_below ((kp1.below (Nat.le_refl _) (by simp)).trans ((hbl.trans hb4).mono (by omega))) []
end Go.Proofs.Ytpbmengaaagbkaa.Quo
