/- The contracts of strings.IndexByte, package need, and the document's words of layer 8. -/
import Derived.Test.YtcmoldondflilaaRef3
import Derived.Test.YtcmoldondflilaaDia
import Derived.Lib.Bytealg
namespace Go.Proofs.Ytcmoldondflilaa.Need
set_option linter.unusedVariables false
set_option linter.unusedSimpArgs false
set_option maxRecDepth 100000
open Go.RowKit Q Mach Dia Bom

theorem idx_has (l : Bs) (b : UInt8) : decide (0 ≤ Lib.indexByte l b) = l.contains b := by
  induction l with
  | nil => simp [Lib.indexByte]
  | cons a l ih =>
    have hge := Lib.indexByte_ge l b
    unfold Lib.indexByte
    by_cases h : a = b
    · subst h; simp
    · have h1 : (a == b) = false := by simpa using h
      have h2 : (b == a) = false := by simpa using fun e => h e.symm
      rw [h1, if_neg (by simp), List.contains_cons, h2, Bool.false_or, ← ih]
      by_cases h3 : Lib.indexByte l b = -1
      · simp [h3]
      · have h3' : (Lib.indexByte l b == -1) = false := by simpa using h3
        rw [h3', if_neg (by simp)]
        congr 1
        apply propext
        omega
set_option maxHeartbeats 1000000 in
theorem liteIdx_c (l : Bs) (b : UInt8) (c : Int) (hc : (b.toNat : Int) = c) (w : World) : Calls Try.prog 89 #[.string ⟨l.toArray⟩, .int .u8 c] w fun e w' => e = .returned (.int .i64 (Lib.indexByte l b)) ∧ w = w' := by
  have hb : c.toNat.toUInt8 = b := by
    subst hc
    apply UInt8.toNat_inj.1
    simp
  have HB := Lib.hid hb
  clear hb hc
  go_enter Try.func89, Try.ntmps89
  go_wp2
  rw [run_callFunc_extern Try.func91 (by kernel_rfl) (by kernel_rfl) (by kernel_rfl) (e := Extern.BytealgIndexByte.indexByte) (by kernel_rfl), Lib.run_indexByteString]
  simp only [Result.andThen]
  rw [Oper.upon_value]
  rw [HB.out]
  go_wp2
  go_ret
  exact ⟨rfl, rfl⟩
set_option maxHeartbeats 400000 in
theorem idx_c (l : Bs) (b : UInt8) (c : Int) (hc : (b.toNat : Int) = c) (w : World) : Calls Try.prog 86 #[.string ⟨l.toArray⟩, .int .u8 c] w fun e w' => e = .returned (.int .i64 (Lib.indexByte l b)) ∧ w = w' := by
  have H := Lib.hid (liteIdx_c l b c hc)
  clear hc
  generalize Lib.indexByte l b = n at *
  go_enter Try.func86, Try.ntmps86
  go_wp2_with (go_at_call 89; refine (H.out _).mono ?_; rintro e w' ⟨rfl, rfl⟩)
  go_ret
  exact ⟨rfl, rfl⟩

def whyB (d : Dia) (f : Bs) (alone first : Bool) : Nat :=
  if f.contains d.delim then 1 else if f.contains d.quote then 2 else if f.contains 13 || f.contains 10 then 3 else if f.isEmpty && alone then 4 else if first && hasB f 3 then 5 else 0

set_option maxHeartbeats 2000000 in
theorem why_c (d : Dia) (f : Bs) (alone first : Bool) (hf : f.length ≤ maxLen) (w : World) : Calls Try.prog 75 #[diaV d, sv f, .bool alone, .bool first] w fun e w' => e = .returned (.int .i64 (whyB d f alone first)) ∧ Keeps [] w w' := by
  have H1 := Lib.hid (fun w => idx_c f d.delim _ rfl w)
  have H2 := Lib.hid (fun w => idx_c f d.quote _ rfl w)
  have H3 := Lib.hid (fun w => idx_c f 13 13 rfl w)
  have H4 := Lib.hid (fun w => idx_c f 10 10 rfl w)
  have H5 := Lib.hid (fun w => prefix_c f Bom.mark hf (by simp [Bom.mark, maxLen]) w)
  have e1 := idx_has f d.delim
  have e2 := idx_has f d.quote
  have e3 := idx_has f 13
  have e4 := idx_has f 10
  have e5 : hasPre f Bom.mark = hasB f 3 := rfl
  rw [e5] at H5
  unfold whyB
  generalize Lib.indexByte f d.delim = i1 at *
  generalize Lib.indexByte f d.quote = i2 at *
  generalize Lib.indexByte f 13 = i3 at *
  generalize Lib.indexByte f 10 = i4 at *
  generalize f.contains d.delim = c1 at *
  generalize f.contains d.quote = c2 at *
  generalize f.contains 13 = c3 at *
  generalize f.contains 10 = c4 at *
  generalize hasB f 3 = c5 at *
  obtain ⟨x, y, z⟩ := d
  have kp : Keeps [] w (w.alloc (.cells #[bv x, bv y, .int .i64 z] 23)) := Keeps.alloc [] w _
  clear e5 hf
  cases c1
  rotate_left
  · go_enter Try.func75, Try.ntmps75
    go_wp2_with (fail)
    refine (H1.out _).mono ?_
    rintro e w1 ⟨rfl, rfl⟩
    go_wp2_with (fail)
    go_ret
    exact ⟨rfl, kp⟩
  cases c2
  rotate_left
  · go_enter Try.func75, Try.ntmps75
    go_wp2_with (fail)
    refine (H1.out _).mono ?_
    rintro e w1 ⟨rfl, rfl⟩
    go_wp2_with (fail)
    refine (H2.out _).mono ?_
    rintro e w1 ⟨rfl, rfl⟩
    go_wp2_with (fail)
    go_ret
    exact ⟨rfl, kp⟩
  cases c3
  rotate_left
  · go_enter Try.func75, Try.ntmps75
    go_wp2_with (fail)
    refine (H1.out _).mono ?_
    rintro e w1 ⟨rfl, rfl⟩
    go_wp2_with (fail)
    refine (H2.out _).mono ?_
    rintro e w1 ⟨rfl, rfl⟩
    go_wp2_with (fail)
    refine (H3.out _).mono ?_
    rintro e w1 ⟨rfl, rfl⟩
    go_wp2_with (fail)
    go_ret
    exact ⟨rfl, kp⟩
  cases c4
  rotate_left
  · go_enter Try.func75, Try.ntmps75
    go_wp2_with (fail)
    refine (H1.out _).mono ?_
    rintro e w1 ⟨rfl, rfl⟩
    go_wp2_with (fail)
    refine (H2.out _).mono ?_
    rintro e w1 ⟨rfl, rfl⟩
    go_wp2_with (fail)
    refine (H3.out _).mono ?_
    rintro e w1 ⟨rfl, rfl⟩
    go_wp2_with (fail)
    refine (H4.out _).mono ?_
    rintro e w1 ⟨rfl, rfl⟩
    go_wp2_with (fail)
    go_ret
    exact ⟨rfl, kp⟩
  cases f with
  | nil =>
    cases alone
    · cases first
      · go_enter Try.func75, Try.ntmps75
        go_wp2_with (fail)
        refine (H1.out _).mono ?_
        rintro e w1 ⟨rfl, rfl⟩
        go_wp2_with (fail)
        refine (H2.out _).mono ?_
        rintro e w1 ⟨rfl, rfl⟩
        go_wp2_with (fail)
        refine (H3.out _).mono ?_
        rintro e w1 ⟨rfl, rfl⟩
        go_wp2_with (fail)
        refine (H4.out _).mono ?_
        rintro e w1 ⟨rfl, rfl⟩
        go_wp2_with (fail)
        go_ret
        exact ⟨rfl, kp⟩
      · cases c5
        all_goals
          go_enter Try.func75, Try.ntmps75
          go_wp2_with (fail)
          refine (H1.out _).mono ?_
          rintro e w1 ⟨rfl, rfl⟩
          go_wp2_with (fail)
          refine (H2.out _).mono ?_
          rintro e w1 ⟨rfl, rfl⟩
          go_wp2_with (fail)
          refine (H3.out _).mono ?_
          rintro e w1 ⟨rfl, rfl⟩
          go_wp2_with (fail)
          refine (H4.out _).mono ?_
          rintro e w1 ⟨rfl, rfl⟩
          go_wp2_with (fail)
          refine (H5.out _).mono ?_
          rintro e w1 ⟨rfl, rfl⟩
          go_wp2_with (fail)
          go_ret
          exact ⟨rfl, kp⟩
    · go_enter Try.func75, Try.ntmps75
      go_wp2_with (fail)
      refine (H1.out _).mono ?_
      rintro e w1 ⟨rfl, rfl⟩
      go_wp2_with (fail)
      refine (H2.out _).mono ?_
      rintro e w1 ⟨rfl, rfl⟩
      go_wp2_with (fail)
      refine (H3.out _).mono ?_
      rintro e w1 ⟨rfl, rfl⟩
      go_wp2_with (fail)
      refine (H4.out _).mono ?_
      rintro e w1 ⟨rfl, rfl⟩
      go_wp2_with (fail)
      go_ret
      exact ⟨rfl, kp⟩
  | cons b f =>
    cases first
    · go_enter Try.func75, Try.ntmps75
      go_wp2_with (fail)
      refine (H1.out _).mono ?_
      rintro e w1 ⟨rfl, rfl⟩
      go_wp2_with (fail)
      refine (H2.out _).mono ?_
      rintro e w1 ⟨rfl, rfl⟩
      go_wp2_with (fail)
      refine (H3.out _).mono ?_
      rintro e w1 ⟨rfl, rfl⟩
      go_wp2_with (fail)
      refine (H4.out _).mono ?_
      rintro e w1 ⟨rfl, rfl⟩
      go_wp2_with (fail)
      go_ret
      exact ⟨rfl, kp⟩
    · cases c5
      all_goals
        go_enter Try.func75, Try.ntmps75
        go_wp2_with (fail)
        refine (H1.out _).mono ?_
        rintro e w1 ⟨rfl, rfl⟩
        go_wp2_with (fail)
        refine (H2.out _).mono ?_
        rintro e w1 ⟨rfl, rfl⟩
        go_wp2_with (fail)
        refine (H3.out _).mono ?_
        rintro e w1 ⟨rfl, rfl⟩
        go_wp2_with (fail)
        refine (H4.out _).mono ?_
        rintro e w1 ⟨rfl, rfl⟩
        go_wp2_with (fail)
        refine (H5.out _).mono ?_
        rintro e w1 ⟨rfl, rfl⟩
        go_wp2_with (fail)
        go_ret
        exact ⟨rfl, kp⟩
set_option maxHeartbeats 400000 in
theorem need_c (d : Dia) (f : Bs) (alone first : Bool) (hf : f.length ≤ maxLen) (w : World) : Calls Try.prog 62 #[diaV d, sv f, .bool alone, .bool first] w fun e w' => e = .returned (.bool (whyB d f alone first != 0)) ∧ Keeps [] w w' := by
  have H := Lib.hid (fun w => why_c d f alone first hf w)
  generalize whyB d f alone first = n at *
  have hb : ((n : Int) != 0) = (n != 0) := by
    cases n with
    | zero => rfl
    | succ n => simp; omega
  obtain ⟨x, y, z⟩ := d
  clear hf
  go_enter Try.func62, Try.ntmps62
  go_wp2_with (fail)
  refine (H.out _).mono ?_
  rintro e w1 ⟨rfl, k1⟩
  go_wp2_with (fail)
  go_ret
  exact ⟨rfl, (Keeps.alloc [] w _).trans k1 (by simp)⟩
theorem contains_off {l : Bs} {b : UInt8} (h : ∀ j (hj : j < l.length), l[j] ≠ b) : l.contains b = false := by
  rw [← Bool.not_eq_true, List.contains_iff_mem]
  intro hm
  obtain ⟨j, hj, he⟩ := List.getElem_of_mem hm
  exact h j hj he
set_option maxHeartbeats 400000 in
theorem rhas_c (l : Bs) (b : UInt8) (c : Int) (hc : (b.toNat : Int) = c) (hl : l.length ≤ maxLen) (w : World) : Calls Try.prog 77 #[sv l, .int .i64 c] w fun e w' => e = .returned (.bool (l.contains b)) ∧ w = w' := by
  unfold maxLen at hl
  have HC := Lib.hid hc; clear hc
  obtain ⟨rr, hrr⟩ : ∃ rr, l.contains b = rr := ⟨_, rfl⟩
  rw [hrr]
  have HRR := Lib.hid hrr; clear hrr
  go_enter Try.func77, Try.ntmps77
  go_wp2_with (fail)
  go_loop [5] (fun i => ∃ k : Nat, k ≤ l.length ∧ i = .int .i64 k ∧ ∀ j (hj : j < l.length), j < k → l[j] ≠ b) (fun i => l.length - (intOf i).toNat)
  case atStart => exact ⟨0, by omega, rfl, by intro j _ h; omega⟩
  case round =>
    obtain ⟨k, hk, rfl, hall⟩ := hrel
    have HA := Lib.hid hall; clear hall
    by_cases hlt : k < l.length
    · have hi := str_idx (P := Try.prog) Try.underlying9 l k l[k] (List.getElem?_eq_getElem hlt)
      have hr := wrap_u8 l[k]
      by_cases he : l[k] = b
      · have he' : ((l[k].toNat : Int) == c) = true := by rw [← HC.out, he]; simp
        have HE := Lib.hid (show l.contains b = true by rw [List.contains_iff_mem, ← he]; exact List.getElem_mem hlt)
        clear he
        generalize l[k] = a at *
        go_wp2_with (fail)
        go_ret
        exact ⟨ret_bool (HE.out.symm.trans HRR.out), rfl⟩
      · have he' : ((l[k].toNat : Int) == c) = false := by rw [← HC.out, u8_beq]; simpa using he
        have HE := Lib.hid he; clear he
        go_wp2_with (fail)
        go_round
        case rel =>
          refine ⟨k + 1, by omega, by go_num, fun j hj hjk => ?_⟩
          by_cases e : j = k
          · subst e; exact HE.out
          · exact HA.out j hj (by omega)
        case measure => simp [intOf]; omega
    · go_wp2_with (fail)
      go_ret
      exact ⟨ret_bool ((contains_off (fun j hj => HA.out j hj (by omega))).symm.trans HRR.out), rfl⟩
set_option maxHeartbeats 2000000 in
theorem rwhy_c (d : Dia) (f : Bs) (alone first : Bool) (A F : Int) (hA : (A == 1) = alone) (hF : (F == 1) = first) (hf : f.length ≤ maxLen) (w : World) : Calls Try.prog 65 #[rdiaV d, sv f, .int .i64 A, .int .i64 F] w fun e w' => e = .returned (.int .i64 (whyB d f alone first)) ∧ Keeps [] w w' := by
  have H1 := Lib.hid (fun w => rhas_c f d.delim _ rfl hf w)
  have H2 := Lib.hid (fun w => rhas_c f d.quote _ rfl hf w)
  have H3 := Lib.hid (fun w => rhas_c f 13 13 rfl hf w)
  have H4 := Lib.hid (fun w => rhas_c f 10 10 rfl hf w)
  have H5 := Lib.hid (fun w => has_c f 3 (by omega) hf w)
  unfold whyB
  generalize f.contains d.delim = c1 at *
  generalize f.contains d.quote = c2 at *
  generalize f.contains 13 = c3 at *
  generalize f.contains 10 = c4 at *
  generalize hasB f 3 = c5 at *
  obtain ⟨x, y, z⟩ := d
  have kp : Keeps [] w (w.alloc (.cells #[.int .i64 x.toNat, .int .i64 y.toNat, .int .i64 z] 33)) := Keeps.alloc [] w _
  unfold maxLen at hf
  cases c1
  rotate_left
  · go_enter Try.func65, Try.ntmps65
    go_wp2_with (fail)
    refine (H1.out _).mono ?_
    rintro e w1 ⟨rfl, rfl⟩
    go_wp2_with (fail)
    go_ret
    exact ⟨rfl, kp⟩
  cases c2
  rotate_left
  · go_enter Try.func65, Try.ntmps65
    go_wp2_with (fail)
    refine (H1.out _).mono ?_
    rintro e w1 ⟨rfl, rfl⟩
    go_wp2_with (fail)
    refine (H2.out _).mono ?_
    rintro e w1 ⟨rfl, rfl⟩
    go_wp2_with (fail)
    go_ret
    exact ⟨rfl, kp⟩
  cases c3
  rotate_left
  · go_enter Try.func65, Try.ntmps65
    go_wp2_with (fail)
    refine (H1.out _).mono ?_
    rintro e w1 ⟨rfl, rfl⟩
    go_wp2_with (fail)
    refine (H2.out _).mono ?_
    rintro e w1 ⟨rfl, rfl⟩
    go_wp2_with (fail)
    refine (H3.out _).mono ?_
    rintro e w1 ⟨rfl, rfl⟩
    go_wp2_with (fail)
    go_ret
    exact ⟨rfl, kp⟩
  cases c4
  rotate_left
  · go_enter Try.func65, Try.ntmps65
    go_wp2_with (fail)
    refine (H1.out _).mono ?_
    rintro e w1 ⟨rfl, rfl⟩
    go_wp2_with (fail)
    refine (H2.out _).mono ?_
    rintro e w1 ⟨rfl, rfl⟩
    go_wp2_with (fail)
    refine (H3.out _).mono ?_
    rintro e w1 ⟨rfl, rfl⟩
    go_wp2_with (fail)
    refine (H4.out _).mono ?_
    rintro e w1 ⟨rfl, rfl⟩
    go_wp2_with (fail)
    go_ret
    exact ⟨rfl, kp⟩
  cases f with
  | nil =>
    cases alone
    · cases first
      · go_enter Try.func65, Try.ntmps65
        go_wp2_with (fail)
        refine (H1.out _).mono ?_
        rintro e w1 ⟨rfl, rfl⟩
        go_wp2_with (fail)
        refine (H2.out _).mono ?_
        rintro e w1 ⟨rfl, rfl⟩
        go_wp2_with (fail)
        refine (H3.out _).mono ?_
        rintro e w1 ⟨rfl, rfl⟩
        go_wp2_with (fail)
        refine (H4.out _).mono ?_
        rintro e w1 ⟨rfl, rfl⟩
        go_wp2_with (fail)
        go_ret
        exact ⟨rfl, kp⟩
      · cases c5
        all_goals
          go_enter Try.func65, Try.ntmps65
          go_wp2_with (fail)
          refine (H1.out _).mono ?_
          rintro e w1 ⟨rfl, rfl⟩
          go_wp2_with (fail)
          refine (H2.out _).mono ?_
          rintro e w1 ⟨rfl, rfl⟩
          go_wp2_with (fail)
          refine (H3.out _).mono ?_
          rintro e w1 ⟨rfl, rfl⟩
          go_wp2_with (fail)
          refine (H4.out _).mono ?_
          rintro e w1 ⟨rfl, rfl⟩
          go_wp2_with (fail)
          refine (H5.out _).mono ?_
          rintro e w1 ⟨rfl, m, rfl⟩
          go_wp2_with (fail)
          go_ret
          exact ⟨rfl, kp.drewN1 m⟩
    · go_enter Try.func65, Try.ntmps65
      go_wp2_with (fail)
      refine (H1.out _).mono ?_
      rintro e w1 ⟨rfl, rfl⟩
      go_wp2_with (fail)
      refine (H2.out _).mono ?_
      rintro e w1 ⟨rfl, rfl⟩
      go_wp2_with (fail)
      refine (H3.out _).mono ?_
      rintro e w1 ⟨rfl, rfl⟩
      go_wp2_with (fail)
      refine (H4.out _).mono ?_
      rintro e w1 ⟨rfl, rfl⟩
      go_wp2_with (fail)
      go_ret
      exact ⟨rfl, kp⟩
  | cons b f =>
    have hne : (((f.length : Int) + 1) == 0) = false := by rw [beq_eq_false_iff_ne]; omega
    cases first
    · go_enter Try.func65, Try.ntmps65
      go_wp2_with (fail)
      refine (H1.out _).mono ?_
      rintro e w1 ⟨rfl, rfl⟩
      go_wp2_with (fail)
      refine (H2.out _).mono ?_
      rintro e w1 ⟨rfl, rfl⟩
      go_wp2_with (fail)
      refine (H3.out _).mono ?_
      rintro e w1 ⟨rfl, rfl⟩
      go_wp2_with (fail)
      refine (H4.out _).mono ?_
      rintro e w1 ⟨rfl, rfl⟩
      go_wp2_with (fail)
      go_ret
      exact ⟨rfl, kp⟩
    · cases c5
      all_goals
        go_enter Try.func65, Try.ntmps65
        go_wp2_with (fail)
        refine (H1.out _).mono ?_
        rintro e w1 ⟨rfl, rfl⟩
        go_wp2_with (fail)
        refine (H2.out _).mono ?_
        rintro e w1 ⟨rfl, rfl⟩
        go_wp2_with (fail)
        refine (H3.out _).mono ?_
        rintro e w1 ⟨rfl, rfl⟩
        go_wp2_with (fail)
        refine (H4.out _).mono ?_
        rintro e w1 ⟨rfl, rfl⟩
        go_wp2_with (fail)
        refine (H5.out _).mono ?_
        rintro e w1 ⟨rfl, m, rfl⟩
        go_wp2_with (fail)
        go_ret
        exact ⟨rfl, kp.drewN1 m⟩
end Go.Proofs.Ytcmoldondflilaa.Need
