/- The contracts of quote.Unquote and of the document's Unquote and Written; the document's example of layer 9. -/
import Derived.Test.YtpbmengaaagbkaaQuo2
namespace Go.Proofs.Ytpbmengaaagbkaa.Quo
set_option linter.unusedVariables false
set_option linter.unusedSimpArgs false
open Go.RowKit Q Mach Dia Need Bld QuoPlain
attribute [local go_sem ↓] Go.wp_at_zero Go.wp_at_succ

def unV (x : Bs × Bool × Nat) : Value := .tuple #[sv x.1, .bool x.2.1, .int .i64 x.2.2]
def runV (x : Bs × Bool × Nat) : Value := .tuple #[sv x.1, .int .i64 (if x.2.1 then 1 else 0), .int .i64 x.2.2]
theorem un_quote {d : Dia} {b : UInt8} {t : Bs} (h : b = d.quote) : unquoB d (b :: t) = (match innerB d.quote (b :: t) with | some f => (f, true, 0) | none => ([], false, 4)) := by
  subst h
  unfold unquoB
  simp only [beq_self_eq_true, if_true] <;> rfl
theorem un_bad {d : Dia} {s : Bs} (h : s.head? ≠ some d.quote) (hb : s.any (badB d) = true) : unquoB d s = ([], false, 23) := by
  cases s with
  | nil => simp at hb
  | cons b t =>
    have h' : (b == d.quote) = false := by simpa using h
    unfold unquoB
    simp only [h', Bool.false_eq_true, if_false, hb, if_true]
theorem un_ok {d : Dia} {s : Bs} (h : s.head? ≠ some d.quote) (hb : s.any (badB d) = false) : unquoB d s = (s, false, 0) := by
  cases s with
  | nil => rfl
  | cons b t =>
    have h' : (b == d.quote) = false := by simpa using h
    unfold unquoB
    simp only [h', Bool.false_eq_true, if_false, hb]
theorem any_contains (d : Dia) (s : Bs) : s.any (badB d) = (s.contains d.delim || s.contains d.quote || s.contains 10 || s.contains 13) := by
  induction s with
  | nil => rfl
  | cons b s ih =>
    simp only [List.any_cons, List.contains_cons, ih, badB]
    rw [show (b == d.delim) = (d.delim == b) from Bool.beq_comm .., show (b == d.quote) = (d.quote == b) from Bool.beq_comm .., show (b == 13) = ((13 : UInt8) == b) from Bool.beq_comm .., show (b == 10) = ((10 : UInt8) == b) from Bool.beq_comm ..]
    cases d.delim == b <;> cases d.quote == b <;> cases (13 : UInt8) == b <;> cases (10 : UInt8) == b <;> simp
theorem any_take {d : Dia} {s : Bs} {k : Nat} (h : k < s.length) (ht : (s.take k).any (badB d) = false) (hb : badB d s[k] = false) : (s.take (k + 1)).any (badB d) = false := by
  rw [List.take_succ_eq_append_getElem h, List.any_append, ht]
  simp [hb]
theorem any_at {d : Dia} {s : Bs} {k : Nat} (h : k < s.length) (hb : badB d s[k] = true) : s.any (badB d) = true := by
  rw [List.any_eq_true]
  exact ⟨s[k], List.getElem_mem h, hb⟩

set_option maxHeartbeats 2000000 in
theorem unquote_c (d : Dia) (s : Bs) (hs : s.length ≤ 100000) (w : World) : Calls Try.prog 25 #[diaV d, sv s] w fun e w' => e = .returned (unV (unquoB d s)) ∧ Keeps [] w w' := by
  have hb0 := Blk.new w 23 [bv d.delim, bv d.quote, .int .i64 d.fin]
  have kp := Keeps.alloc [] w (.cells #[bv d.delim, bv d.quote, .int .i64 d.fin] 23)
  have c0 := hb0.cell_of (i := 0) rfl
  have c1 := hb0.cell_of (i := 1) rfl
  have c2 := hb0.cell_of (i := 2) rfl
  by_cases hh : s.head? = some d.quote
  · cases s with
    | nil => simp at hh
    | cons b t =>
      have hbq : b = d.quote := by simpa using hh
      have HI := Lib.hid (fun w => inner_c d (b :: t) hs w)
      have HU := Lib.hid (un_quote (t := t) hbq)
      have hi : ∀ w, (Instr.index 9 (.string ⟨(b :: t).toArray⟩) (.int .i64 0)).run Try.prog w = .ok (bv b) w := str_idx (P := Try.prog) Try.underlying9 (b :: t) 0 b rfl
      have hq : ((b.toNat : Int) == (d.quote.toNat : Int)) = true := by rw [hbq]; simp
      generalize innerB d.quote (b :: t) = X at *
      clear hh hbq
      obtain ⟨x, q, z⟩ := d
      have hne : ((b :: t).isEmpty) = false := rfl
      go_enter Try.func25, Try.ntmps25
      go_wp2_with (fail)
      go_quiet (fail)
      have kp1 := kp.drewN1 nq
      have c0' : ((w.alloc (.cells #[bv x, bv q, .int .i64 z] 23)).drewN nq).cell? _ = _ := c0
      have c1' : ((w.alloc (.cells #[bv x, bv q, .int .i64 z] 23)).drewN nq).cell? _ = _ := c1
      have c2' : ((w.alloc (.cells #[bv x, bv q, .int .i64 z] 23)).drewN nq).cell? _ = _ := c2
      clear c0 c1 c2 hi
      generalize (w.alloc (.cells #[bv x, bv q, .int .i64 z] 23)).drewN nq = w1 at *
      cases X with
      | some f =>
        unfold inV at HI
        go_wp2_with (fail)
        refine (HI.out _).mono ?_
        rintro e w2 ⟨rfl, k2⟩
        go_wp2_with (fail)
        go_ret3
        exact ⟨by rw [HU.out]; rfl, kp1.trans k2 (by simp)⟩
      | none =>
        unfold inV at HI
        go_wp2_with (fail)
        refine (HI.out _).mono ?_
        rintro e w2 ⟨rfl, k2⟩
        go_wp2_with (fail)
        go_ret3
        exact ⟨by rw [HU.out]; rfl, kp1.trans k2 (by simp)⟩
  have HB := Lib.hid (fun hb => un_bad (d := d) (s := s) hh hb)
  have HO := Lib.hid (fun hb => un_ok (d := d) (s := s) hh hb)
  have HH := Lib.hid hh
  clear hh
  obtain ⟨x, q, z⟩ := d
  dsimp only at hb0 kp c0 c1 c2
  -- the first test
  have hfirst : ∀ (b : UInt8) (t : Bs), s = b :: t → ((b.toNat : Int) == (q.toNat : Int)) = false := by
    rintro b t rfl
    have := HH.out
    rw [u8_beq]
    simpa using this
  have HF := Lib.hid hfirst
  clear hfirst
  go_enter Try.func25, Try.ntmps25
  go_upto_region 1 with (fail)
  generalize w.alloc (.cells #[bv x, bv q, .int .i64 z] 23) = w0 at *
  go_cut [18] (fun v wx => v = .bool false ∧ ∃ n, wx = w0.drewN n)
  case first =>
    cases s with
    | nil =>
      go_quiet (fail)
      go_wp2_with (fail)
      go_meet
      exact ⟨rfl, _, rfl⟩
    | cons b t =>
      have hi : ∀ w, (Instr.index 9 (.string ⟨(b :: t).toArray⟩) (.int .i64 0)).run Try.prog w = .ok (bv b) w := str_idx (P := Try.prog) Try.underlying9 (b :: t) 0 b rfl
      have hq := HF.out b t rfl
      have hne : ((b :: t).isEmpty) = false := rfl
      go_quiet (fail)
      go_wp2_with (fail)
      go_meet
      exact ⟨rfl, _, rfl⟩
  case rest =>
    obtain ⟨rfl, n0, rfl⟩ := hcut
    have kp1 := kp.drewN1 n0
    clear HF HH hb0 kp
    go_wp2_with (fail)
    go_loop [30] (fun i => ∃ k : Nat, k ≤ s.length ∧ i = .int .i64 k ∧ (s.take k).any (badB ⟨x, q, z⟩) = false) (fun i => s.length - (intOf i).toNat)
    case atStart => exact ⟨0, Nat.zero_le _, rfl, rfl⟩
    case round =>
      obtain ⟨k, hk, rfl, hany⟩ := hrel
      have HA := Lib.hid hany
      clear hany
      by_cases hlt : k < s.length
      · have hi := str_idx (P := Try.prog) Try.underlying9 s k s[k] (List.getElem?_eq_getElem hlt)
        have hk0 : (0 : Int) ≤ (k : Int) := by omega
        have hkl : (k : Int) < (s.length : Int) := by omega
        have h1 := u8_beq s[k] x
        have h2 := u8_beq s[k] q
        have h3 := u8_13 s[k]
        have h4 := u8_10 s[k]
        have HN := Lib.hid (fun hb => any_take (d := ⟨x, q, z⟩) hlt HA.out hb)
        have HY := Lib.hid (fun hb => any_at (d := ⟨x, q, z⟩) hlt hb)
        have hbd : badB ⟨x, q, z⟩ s[k] = (s[k] == x || s[k] == q || s[k] == 13 || s[k] == 10) := rfl
        rw [hbd] at HN HY
        clear hbd
        generalize s[k] = b at *
        generalize (b == x) = e1 at *
        generalize (b == q) = e2 at *
        generalize (b == 13) = e3 at *
        generalize (b == 10) = e4 at *
        cases e1
        rotate_left
        · have HU := Lib.hid (HB.out (HY.out rfl))
          clear HN HY HB HO
          go_wp2_with (fail)
          go_ret3
          exact ⟨by rw [HU.out]; rfl, kp1⟩
        cases e2
        rotate_left
        · have HU := Lib.hid (HB.out (HY.out rfl))
          clear HN HY HB HO
          go_wp2_with (fail)
          go_ret3
          exact ⟨by rw [HU.out]; rfl, kp1⟩
        cases e3
        rotate_left
        · have HU := Lib.hid (HB.out (HY.out rfl))
          clear HN HY HB HO
          go_wp2_with (fail)
          go_ret3
          exact ⟨by rw [HU.out]; rfl, kp1⟩
        cases e4
        rotate_left
        · have HU := Lib.hid (HB.out (HY.out rfl))
          clear HN HY HB HO
          go_wp2_with (fail)
          go_ret3
          exact ⟨by rw [HU.out]; rfl, kp1⟩
        clear HY HB HO
        go_wp2_with (fail)
        exact ⟨⟨k + 1, by omega, by go_num, HN.out rfl⟩, by simp [intOf]; omega⟩
      · obtain rfl : k = s.length := by omega
        have hkl : ¬ ((s.length : Int) < (s.length : Int)) := by omega
        have ha := HA.out
        rw [List.take_length] at ha
        have HU := Lib.hid (HO.out ha)
        clear ha HA HB HO
        go_wp2_with (fail)
        go_ret3
        exact ⟨by rw [HU.out]; rfl, kp1⟩

/-! ### The document's -/
/-- The document's loop: what was read by now. -/
theorem rl_ne {q b c : UInt8} (r : Bs) (h : b ≠ q) : rl q (b :: c :: r) = b :: rl q (c :: r) := by
  have h' : (b == q) = false := by simpa using h
  simp [rl, h']
theorem rl_short {q : UInt8} {l : Bs} (h : l.length ≤ 1) : rl q l = [] := by
  match l, h with
  | [], _ => rfl
  | [_], _ => rfl
def RAcc (q : UInt8) (t s : Bs) (k : Nat) (acc : Bs) : Prop := rl q t = acc ++ rl q (s.drop k) ∧ acc.length ≤ k
theorem racc_ne {q : UInt8} {t s acc : Bs} {k : Nat} (h : RAcc q t s k acc) (hk : k + 1 < s.length) (hb : s[k] ≠ q) : RAcc q t s (k + 1) (acc ++ [s[k]]) := by
  refine ⟨?_, by have := h.2; simp; omega⟩
  have hd : s.drop k = s[k] :: s[k + 1] :: s.drop (k + 2) := by rw [List.drop_eq_getElem_cons (by omega), List.drop_eq_getElem_cons (by omega)]
  have hd1 : s.drop (k + 1) = s[k + 1] :: s.drop (k + 2) := by rw [List.drop_eq_getElem_cons (by omega)]
  rw [h.1, hd, rl_ne _ hb, hd1]
  simp
theorem racc_two {q : UInt8} {t s acc : Bs} {k : Nat} (h : RAcc q t s k acc) (hk : k + 2 < s.length) (hb : s[k] = q) : RAcc q t s (k + 2) (acc ++ [s[k + 1]]) := by
  refine ⟨?_, by have := h.2; simp; omega⟩
  have hd : s.drop k = q :: s[k + 1] :: s.drop (k + 2) := by rw [List.drop_eq_getElem_cons (by omega), hb, List.drop_eq_getElem_cons (by omega)]
  have hne : s.drop (k + 2) ≠ [] := by intro e; have := congrArg List.length e; simp at this; omega
  rw [h.1, hd]
  simp [rl, hne]
theorem racc_skip {q : UInt8} {t s acc : Bs} {k : Nat} (h : RAcc q t s k acc) (hk : k + 2 = s.length) (hb : s[k] = q) : RAcc q t s (k + 2) acc := by
  refine ⟨?_, by have := h.2; omega⟩
  have hd : s.drop k = q :: s[k + 1] :: s.drop (k + 2) := by rw [List.drop_eq_getElem_cons (by omega), hb, List.drop_eq_getElem_cons (by omega)]
  have hne : s.drop (k + 2) = [] := List.drop_eq_nil_of_le (by omega)
  rw [h.1, hd, hne]
  simp [rl]
theorem racc_end {q : UInt8} {t s acc : Bs} {k : Nat} (h : RAcc q t s k acc) (hk : s.length ≤ k + 1) : rl q t = acc := by
  rw [h.1, rl_short (by simp; omega), List.append_nil]
set_option maxHeartbeats 2000000 in
theorem runquote_c (d : Dia) (s : Bs) (hs : s.length ≤ 10000) (w : World) : Calls Try.prog 26 #[rdiaV d, sv s] w fun e w' => e = .returned (runV (unquoB d s)) ∧ Keeps [] w w' := by
  have hcat : ∀ x y : List UInt8, (ByteArray.mk x.toArray ++ ByteArray.mk y.toArray) = ⟨(x ++ y).toArray⟩ := cat_mk
  have hb0 := Blk.new w 26 [.int .i64 d.delim.toNat, .int .i64 d.quote.toNat, .int .i64 d.fin]
  have kp := Keeps.alloc [] w (.cells #[.int .i64 d.delim.toNat, .int .i64 d.quote.toNat, .int .i64 d.fin] 26)
  have c0 := hb0.cell_of (i := 0) rfl
  have c1 := hb0.cell_of (i := 1) rfl
  have c2 := hb0.cell_of (i := 2) rfl
  have hmx : s.length ≤ maxLen := by unfold maxLen; omega
  by_cases hh : s.head? = some d.quote
  · cases s with
    | nil => simp at hh
    | cons b t =>
      obtain rfl : b = d.quote := by simpa using hh
      have HU := Lib.hid (un_quote (d := d) (t := t) rfl)
      have HIR := Lib.hid (inner_rl d.quote t)
      have HQ := Lib.hid (fun f (hf : f.length ≤ 10001) w => rquoted_c d f (by omega) w)
      have hi : ∀ w, (Instr.index 9 (.string ⟨(d.quote :: t).toArray⟩) (.int .i64 0)).run Try.prog w = .ok (bv d.quote) w := str_idx (P := Try.prog) Try.underlying9 (d.quote :: t) 0 d.quote rfl
      have hq : ((d.quote.toNat : Int) == (d.quote.toNat : Int)) = true := by simp
      have hwq := wrap_u8 d.quote
      have hwk : IntKind.i64.wrap (d.quote.toNat : Int) = (d.quote.toNat : Int) := IntWalk.i64_in _ (by omega)
      have hR0 : RAcc d.quote t (d.quote :: t) 1 [] := ⟨rfl, by simp⟩
      have hl0 : decide (0 < (((d.quote :: t).length : Nat) : Int)) = true := by simp
      have hl0' : decide (0 < (d.quote :: t).length) = true := by simp
      clear hh hmx
      generalize hs0 : d.quote :: t = s at *
      obtain ⟨x, q, z⟩ := d
      dsimp only at hb0 kp c0 c1 c2 hi hq hwq hwk hR0 HIR
      have HS0 := Lib.hid hs0
      clear hs0
      go_enter Try.func26, Try.ntmps26
      go_wp2_with (fail)
      go_quiet (fail)
      have kp0 := kp
      clear hi hl0 hl0' hwk hq hb0 kp
      generalize w.alloc (.cells #[.int .i64 x.toNat, .int .i64 q.toNat, .int .i64 z] 26) = w0 at *
      go_wp2_with (fail)
      go_loopw [7, 8] (fun v i wr => ∃ (k : Nat) (acc : Bs), 1 ≤ k ∧ k ≤ s.length + 1 ∧ i = .int .i64 k ∧ v = sv acc ∧ RAcc q t s k acc ∧ ∃ m, wr = w0.drewN m) (fun _ i _ => s.length + 2 - (intOf i).toNat)
      case atStart => exact ⟨1, [], by omega, by omega, rfl, rfl, hR0, _, rfl⟩
      case round =>
        obtain ⟨k, acc, hk1, hk, rfl, rfl, hacc, m, rfl⟩ := hrel
        have HAC := Lib.hid hacc
        have hal : acc.length ≤ 10001 := by have := hacc.2; omega
        clear hacc hR0
        by_cases hlt : k + 1 < s.length
        · have hlt' : decide ((k : Int) + 1 < (s.length : Int)) = true := by simp; omega
          have hi := str_idx (P := Try.prog) Try.underlying9 s k s[k] (List.getElem?_eq_getElem (by omega))
          have hq := u8_beq s[k] q
          have hk0 : (0 : Int) ≤ (k : Int) := by omega
          have hkl : (k : Int) < (s.length : Int) := by omega
          have hwy := wrap_u8 s[k]
          have HW := IntWalk.i64_in (s[k].toNat : Int) (by omega)
          cases hb : (s[k] == q)
          · rw [hb] at hq
            have HAN := Lib.hid (racc_ne HAC.out hlt (by simpa using hb))
            have hsl : ∀ w, (Instr.sliceAt 9 (sv s) (some (.int .i64 (k : Int))) (some (.int .i64 ((k : Int) + 1))) none).run Try.prog w = .ok (sv [s[k]]) w := by
              intro w
              have h := run_strMid (P := Try.prog) Try.underlying9 s k (k + 1) (by omega) (by omega) w
              rw [List.drop_take, List.drop_eq_getElem_cons (by omega), Nat.add_sub_cancel_left] at h
              exact h
            clear hb HAC
            generalize s[k] = b at *
            go_wp2_with (fail)
            go_quiet (fail)
            clear HW
            go_wp2_with (refine wpList_slice (hsl _) _ _ _ _ rfl rfl rfl rfl rfl rfl ?_)
            exact ⟨⟨k + 1, acc ++ [b], by omega, by omega, by go_num, rfl, HAN.out, _, rfl⟩, by simp [intOf]; omega⟩
          · rw [hb] at hq
            have hbq : s[k] = q := by simpa using hb
            by_cases hlt2 : k + 2 < s.length
            · have hlt2' : decide ((k : Int) + 1 + 1 < (s.length : Int)) = true := by simp; omega
              have hlt2'' : decide ((k : Int) + 2 < (s.length : Int)) = true := by simp; omega
              have HAN := Lib.hid (racc_two HAC.out hlt2 hbq)
              have hsl : ∀ w, (Instr.sliceAt 9 (sv s) (some (.int .i64 ((k : Int) + 1))) (some (.int .i64 ((k : Int) + 1 + 1))) none).run Try.prog w = .ok (sv [s[k + 1]]) w := by
                intro w
                have h := run_strMid (P := Try.prog) Try.underlying9 s (k + 1) (k + 1 + 1) (by omega) (by omega) w
                rw [List.drop_take, List.drop_eq_getElem_cons (by omega), Nat.add_sub_cancel_left] at h
                exact h
              have hsl2 : ∀ w, (Instr.sliceAt 9 (sv s) (some (.int .i64 ((k : Int) + 1))) (some (.int .i64 ((k : Int) + 2))) none).run Try.prog w = .ok (sv [s[k + 1]]) w := by
                intro w
                rw [show (k : Int) + 2 = (k : Int) + 1 + 1 by omega]
                exact hsl w
              clear hb HAC hbq
              generalize s[k] = b at *
              generalize s[k + 1] = c at *
              go_wp2_with (fail)
              go_quiet (fail)
              clear HW
              go_wp2_with (first | refine wpList_slice (hsl _) _ _ _ _ rfl rfl rfl rfl rfl rfl ?_ | refine wpList_slice (hsl2 _) _ _ _ _ rfl rfl rfl rfl rfl rfl ?_)
              exact ⟨⟨k + 2, acc ++ [c], by omega, by omega, by go_num, rfl, HAN.out, _, rfl⟩, by simp [intOf]; omega⟩
            · have hlt2' : decide ((k : Int) + 1 + 1 < (s.length : Int)) = false := by simp; omega
              have hlt2'' : decide ((k : Int) + 2 < (s.length : Int)) = false := by simp; omega
              have HAN := Lib.hid (racc_skip HAC.out (by omega) hbq)
              clear hb HAC hbq
              generalize s[k] = b at *
              go_wp2_with (fail)
              go_quiet (fail)
              clear HW
              go_wp2_with (fail)
              exact ⟨⟨k + 2, acc, by omega, by omega, by go_num, rfl, HAN.out, _, rfl⟩, by simp [intOf]; omega⟩
        · have hlt' : decide ((k : Int) + 1 < (s.length : Int)) = false := by simp; omega
          have hrl := racc_end HAC.out (by omega)
          rw [hrl] at HIR
          have HQ2 := Lib.hid (fun w => HQ.out acc hal w)
          clear hrl HAC HQ
          by_cases he : quoB q acc = s
          · have heq : (quoB q acc == s) = true := by simpa using he
            have HR : Hid (unquoB ⟨x, q, z⟩ s = (acc, true, 0)) := Lib.hid (by rw [HU.out, HIR.out, if_pos he])
            clear he HU HIR
            generalize quoB q acc = qs at *
            go_wp2_with (fail)
            refine (HQ2.out _).mono ?_
            rintro e w2 ⟨rfl, k2⟩
            go_wp2_with (fail)
            go_ret3
            exact ⟨by rw [HR.out]; rfl, (kp0.drewN1 _).trans k2 (by simp)⟩
          · have heq : (quoB q acc == s) = false := by simpa using he
            have HR : Hid (unquoB ⟨x, q, z⟩ s = ([], false, 4)) := Lib.hid (by rw [HU.out, HIR.out, if_neg he])
            clear he HU HIR
            generalize quoB q acc = qs at *
            go_wp2_with (fail)
            refine (HQ2.out _).mono ?_
            rintro e w2 ⟨rfl, k2⟩
            go_wp2_with (fail)
            go_ret3
            exact ⟨by rw [HR.out]; rfl, (kp0.drewN1 _).trans k2 (by simp)⟩
  have H1 := Lib.hid (fun w => rhas_c s d.delim _ rfl hmx w)
  have H2 := Lib.hid (fun w => rhas_c s d.quote _ rfl hmx w)
  have H3 := Lib.hid (fun w => rhas_c s 10 10 rfl hmx w)
  have H4 := Lib.hid (fun w => rhas_c s 13 13 rfl hmx w)
  have HB := Lib.hid (fun hb => un_bad (d := d) (s := s) hh hb)
  have HO := Lib.hid (fun hb => un_ok (d := d) (s := s) hh hb)
  rw [any_contains] at HB HO
  have HH := Lib.hid hh
  clear hh
  obtain ⟨x, q, z⟩ := d
  dsimp only at hb0 kp c0 c1 c2 H1 H2 HB HO HH
  have HF : Hid (∀ (b : UInt8) (t : Bs), s = b :: t → ((b.toNat : Int) == (q.toNat : Int)) = false) := Lib.hid (by
    rintro b t rfl
    have := HH.out
    rw [u8_beq]
    simpa using this)
  generalize s.contains x = e1 at *
  generalize s.contains q = e2 at *
  generalize s.contains 10 = e3 at *
  generalize s.contains 13 = e4 at *
  go_enter Try.func26, Try.ntmps26
  go_upto_region 1 with (fail)
  generalize w.alloc (.cells #[.int .i64 x.toNat, .int .i64 q.toNat, .int .i64 z] 26) = w0 at *
  go_cut [19] (fun v wx => v = .bool false ∧ ∃ n, wx = w0.drewN n)
  case first =>
    clear H1 H2 H3 H4
    cases s with
    | nil =>
      go_quiet (fail)
      go_wp2_with (fail)
      go_meet
      exact ⟨rfl, _, rfl⟩
    | cons b t =>
      have hi : ∀ w, (Instr.index 9 (.string ⟨(b :: t).toArray⟩) (.int .i64 0)).run Try.prog w = .ok (bv b) w := str_idx (P := Try.prog) Try.underlying9 (b :: t) 0 b rfl
      have hq := HF.out b t rfl
      have hwb := wrap_u8 b
      have hwk : IntKind.i64.wrap (b.toNat : Int) = (b.toNat : Int) := IntWalk.i64_in _ (by omega)
      have hl0 : decide (0 < ((b :: t).length : Int)) = true := by simp
      have hl0' : decide (0 < (b :: t).length) = true := by simp
      go_quiet (fail)
      go_wp2_with (fail)
      go_meet
      exact ⟨rfl, _, rfl⟩
  case rest =>
    obtain ⟨rfl, n0, rfl⟩ := hcut
    have kp1 := kp.drewN1 n0
    clear HF HH hb0 kp
    cases e1
    rotate_left
    · have HU := Lib.hid (HB.out rfl)
      clear HB HO
      go_wp2_with (fail)
      refine (H1.out _).mono ?_
      rintro e w1 ⟨rfl, rfl⟩
      go_wp2_with (fail)
      go_ret3
      exact ⟨by rw [HU.out]; rfl, kp1⟩
    cases e2
    rotate_left
    · have HU := Lib.hid (HB.out rfl)
      clear HB HO
      go_wp2_with (fail)
      refine (H1.out _).mono ?_
      rintro e w1 ⟨rfl, rfl⟩
      go_wp2_with (fail)
      refine (H2.out _).mono ?_
      rintro e w1 ⟨rfl, rfl⟩
      go_wp2_with (fail)
      go_ret3
      exact ⟨by rw [HU.out]; rfl, kp1⟩
    cases e3
    rotate_left
    · have HU := Lib.hid (HB.out rfl)
      clear HB HO
      go_wp2_with (fail)
      refine (H1.out _).mono ?_
      rintro e w1 ⟨rfl, rfl⟩
      go_wp2_with (fail)
      refine (H2.out _).mono ?_
      rintro e w1 ⟨rfl, rfl⟩
      go_wp2_with (fail)
      refine (H3.out _).mono ?_
      rintro e w1 ⟨rfl, rfl⟩
      go_wp2_with (fail)
      go_ret3
      exact ⟨by rw [HU.out]; rfl, kp1⟩
    cases e4
    rotate_left
    · have HU := Lib.hid (HB.out rfl)
      clear HB HO
      go_wp2_with (fail)
      refine (H1.out _).mono ?_
      rintro e w1 ⟨rfl, rfl⟩
      go_wp2_with (fail)
      refine (H2.out _).mono ?_
      rintro e w1 ⟨rfl, rfl⟩
      go_wp2_with (fail)
      refine (H3.out _).mono ?_
      rintro e w1 ⟨rfl, rfl⟩
      go_wp2_with (fail)
      refine (H4.out _).mono ?_
      rintro e w1 ⟨rfl, rfl⟩
      go_wp2_with (fail)
      go_ret3
      exact ⟨by rw [HU.out]; rfl, kp1⟩
    have HU := Lib.hid (HO.out rfl)
    clear HB HO
    go_wp2_with (fail)
    refine (H1.out _).mono ?_
    rintro e w1 ⟨rfl, rfl⟩
    go_wp2_with (fail)
    refine (H2.out _).mono ?_
    rintro e w1 ⟨rfl, rfl⟩
    go_wp2_with (fail)
    refine (H3.out _).mono ?_
    rintro e w1 ⟨rfl, rfl⟩
    go_wp2_with (fail)
    refine (H4.out _).mono ?_
    rintro e w1 ⟨rfl, rfl⟩
    go_wp2_with (fail)
    go_ret3
    exact ⟨by rw [HU.out]; rfl, kp1⟩
end Go.Proofs.Ytpbmengaaagbkaa.Quo
