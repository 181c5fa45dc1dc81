/- Parsing dialects: the contracts of digit, unspell, endOf and Parse. -/
import Derived.Test.YtlcgdndaailjpaaDia3
namespace Go.Proofs.Ytlcgdndaailjpaa.Dia
set_option linter.unusedVariables false
set_option linter.unusedSimpArgs false
open Go.RowKit Q Mach Limits

def unhex (b : UInt8) : Option Nat := if 48 ≤ b.toNat ∧ b.toNat ≤ 57 then some (b.toNat - 48) else if 97 ≤ b.toNat ∧ b.toNat ≤ 102 then some (b.toNat - 87) else none
def unspellO (a b : UInt8) : Option Nat := match unhex a, unhex b with
  | some h, some l => some (16 * h + l)
  | _, _ => none
def endOfO (s : Bs) : Option Nat := if s = [108, 102] then some 1 else if s = [99, 114, 108, 102] then some 2 else if s = [101, 105, 116, 104, 101, 114] then some 3 else none
theorem unhex_lt {b : UInt8} {n : Nat} (h : unhex b = some n) : n < 16 := by
  unfold unhex at h
  split at h
  · injection h; omega
  · split at h
    · injection h; omega
    · cases h
theorem unspell_lt {a b : UInt8} {n : Nat} (h : unspellO a b = some n) : n < 256 := by
  unfold unspellO at h
  split at h
  · next h1 h2 => have := unhex_lt h1; have := unhex_lt h2; injection h; omega
  · cases h

set_option maxRecDepth 100000 in
set_option maxHeartbeats 400000 in
theorem digit_c (b : UInt8) (w : World) : Calls Try.prog 28 #[bv b] w fun e w' => e = .returned (.tuple #[.int .u8 ((unhex b).getD 0 : Nat), .bool (unhex b).isSome]) ∧ w = w' := by
  have hb := wrap_u8 b
  by_cases h1 : 48 ≤ b.toNat ∧ b.toNat ≤ 57
  · have e : unhex b = some (b.toNat - 48) := by simp [unhex, h1]
    rw [e]
    clear e
    have h2 : decide ((48 : Int) ≤ b.toNat) = true := by simp; omega
    have h3 : decide ((b.toNat : Int) ≤ 57) = true := by simp; omega
    have hw : IntKind.u8.wrap ((b.toNat : Int) - 48) = (b.toNat : Int) - 48 := by rw [IntKind.wrap_u8]; omega
    have HV := Lib.hid (show ((b.toNat - 48 : Nat) : Int) = (b.toNat : Int) - 48 by omega)
    obtain ⟨h1a, h1b⟩ := h1
    go_enter Try.func28, Try.ntmps28
    go_wp2_with (fail)
    go_ret2
    exact ⟨by simp [HV.out], rfl⟩
  · have h1' : (decide ((48 : Int) ≤ b.toNat) && decide ((b.toNat : Int) ≤ 57)) = false := by
      rw [Bool.and_eq_false_iff, decide_eq_false_iff_not, decide_eq_false_iff_not]; omega
    by_cases h4 : 97 ≤ b.toNat ∧ b.toNat ≤ 102
    · have e : unhex b = some (b.toNat - 87) := by rw [unhex, if_neg h1, if_pos h4]
      rw [e]
      clear e h1 h1'
      have h2 : decide ((48 : Int) ≤ b.toNat) = true := by simp; omega
      have h3 : decide ((b.toNat : Int) ≤ 57) = false := by simp; omega
      have h5 : decide ((97 : Int) ≤ b.toNat) = true := by simp; omega
      have h6 : decide ((b.toNat : Int) ≤ 102) = true := by simp; omega
      have hw : IntKind.u8.wrap ((b.toNat : Int) - 97) = (b.toNat : Int) - 97 := by rw [IntKind.wrap_u8]; omega
      have hw2 : IntKind.u8.wrap ((b.toNat : Int) - 97 + 10) = (b.toNat : Int) - 97 + 10 := by rw [IntKind.wrap_u8]; omega
      have HV := Lib.hid (show ((b.toNat - 87 : Nat) : Int) = (b.toNat : Int) - 97 + 10 by omega)
      obtain ⟨h4a, h4b⟩ := h4
      go_enter Try.func28, Try.ntmps28
      go_wp2_with (fail)
      go_ret2
      exact ⟨by simp [HV.out], rfl⟩
    · have e : unhex b = none := by rw [unhex, if_neg h1, if_neg h4]
      rw [e]
      clear e
      by_cases g1 : 48 ≤ b.toNat
      · have g1' : decide ((48 : Int) ≤ b.toNat) = true := by simp; omega
        have g2' : decide ((b.toNat : Int) ≤ 57) = false := by simp; omega
        by_cases g3 : 97 ≤ b.toNat
        · have g3' : decide ((97 : Int) ≤ b.toNat) = true := by simp; omega
          have g4' : decide ((b.toNat : Int) ≤ 102) = false := by simp; omega
          clear h1 h4 h1'
          go_enter Try.func28, Try.ntmps28
          go_wp2_with (fail)
          go_ret2
          exact ⟨rfl, rfl⟩
        · have g3' : decide ((97 : Int) ≤ b.toNat) = false := by simp; omega
          clear h1 h4 h1'
          go_enter Try.func28, Try.ntmps28
          go_wp2_with (fail)
          go_ret2
          exact ⟨rfl, rfl⟩
      · have g1' : decide ((48 : Int) ≤ b.toNat) = false := by simp; omega
        have g3' : decide ((97 : Int) ≤ b.toNat) = false := by simp; omega
        clear h1 h4 h1'
        go_enter Try.func28, Try.ntmps28
        go_wp2_with (fail)
        go_ret2
        exact ⟨rfl, rfl⟩

theorem or_nib (h l : Nat) (hh : h < 16) (hl : l < 16) : bits .or .u8 ((h : Int) * 16) (l : Int) = ((16 * h + l : Nat) : Int) := by
  have key : ∀ (a b : Fin 16), bits .or .u8 ((a.val : Int) * 16) (b.val : Int) = ((16 * a.val + b.val : Nat) : Int) := by decide
  exact key ⟨h, hh⟩ ⟨l, hl⟩

set_option maxHeartbeats 400000 in
theorem unspell_c (a b : UInt8) (w : World) : Calls Try.prog 26 #[bv a, bv b] w fun e w' => e = .returned (.tuple #[.int .u8 ((unspellO a b).getD 0 : Nat), .bool (unspellO a b).isSome]) ∧ w = w' := by
  have HA := Lib.hid (fun w => digit_c a w)
  have HB := Lib.hid (fun w => digit_c b w)
  unfold unspellO
  have la : ∀ n, unhex a = some n → n < 16 := fun n => unhex_lt
  have lb : ∀ n, unhex b = some n → n < 16 := fun n => unhex_lt
  generalize unhex a = x at *
  generalize unhex b = y at *
  cases x with
  | none =>
    go_enter Try.func26, Try.ntmps26
    go_wp2_with (fail)
    refine (HA.out _).mono ?_
    rintro e w1 ⟨rfl, rfl⟩
    go_wp2_with (fail)
    refine (HB.out _).mono ?_
    rintro e w1 ⟨rfl, rfl⟩
    go_wp2_with (fail)
    go_ret2
    exact ⟨rfl, rfl⟩
  | some h =>
    cases y with
    | none =>
      go_enter Try.func26, Try.ntmps26
      go_wp2_with (fail)
      refine (HA.out _).mono ?_
      rintro e w1 ⟨rfl, rfl⟩
      go_wp2_with (fail)
      refine (HB.out _).mono ?_
      rintro e w1 ⟨rfl, rfl⟩
      go_wp2_with (fail)
      go_ret2
      exact ⟨rfl, rfl⟩
    | some l =>
      have hh := la h rfl
      have hl := lb l rfl
      have ho := or_nib h l hh hl
      clear la lb
      go_enter Try.func26, Try.ntmps26
      go_wp2_with (fail)
      refine (HA.out _).mono ?_
      rintro e w1 ⟨rfl, rfl⟩
      go_wp2_with (fail)
      refine (HB.out _).mono ?_
      rintro e w1 ⟨rfl, rfl⟩
      go_wp2_with (fail)
      go_ret2
      exact ⟨rfl, rfl⟩

set_option maxHeartbeats 400000 in
theorem endOf_c (s : Bs) (w : World) : Calls Try.prog 27 #[sv s] w fun e w' => e = .returned (.tuple #[.int .i64 ((endOfO s).getD 0 : Nat), .bool (endOfO s).isSome]) ∧ w = w' := by
  by_cases h1 : s = [108, 102]
  · subst h1
    go_enter Try.func27, Try.ntmps27
    go_wp2_with (fail)
    go_ret2
    exact ⟨rfl, rfl⟩
  · have h1' : (s == [108, 102]) = false := by simpa using h1
    by_cases h2 : s = [99, 114, 108, 102]
    · subst h2
      go_enter Try.func27, Try.ntmps27
      go_wp2_with (fail)
      go_ret2
      exact ⟨rfl, rfl⟩
    · have h2' : (s == [99, 114, 108, 102]) = false := by simpa using h2
      by_cases h3 : s = [101, 105, 116, 104, 101, 114]
      · subst h3
        go_enter Try.func27, Try.ntmps27
        go_wp2_with (fail)
        go_ret2
        exact ⟨rfl, rfl⟩
      · have h3' : (s == [101, 105, 116, 104, 101, 114]) = false := by simpa using h3
        have e : endOfO s = none := by simp [endOfO, h1, h2, h3]
        rw [e]
        clear e h1 h2 h3
        go_enter Try.func27, Try.ntmps27
        go_wp2_with (fail)
        go_ret2
        exact ⟨rfl, rfl⟩

def pr3 (U V E : Option Nat) : Option (Nat × Nat × Nat) := match U, V, E with
  | some x, some y, some z => some (x, y, z)
  | _, _, _ => none
def parseRaw : Bs → Option (Nat × Nat × Nat)
  | a :: b :: c :: d :: e :: f :: r => if c = 32 ∧ f = 32 then pr3 (unspellO a b) (unspellO d e) (endOfO r) else none
  | _ => none
def dia3 (x y z : Nat) : Dia := ⟨UInt8.ofNat x, UInt8.ofNat y, z⟩
abbrev formV : Value := .tuple #[.agg #[.int .u8 0, .int .u8 0, .int .i64 0], .int .i64 23]
abbrev badV : Value := .tuple #[.agg #[.int .u8 0, .int .u8 0, .int .i64 0], .int .i64 1]
abbrev goodV (x y z : Nat) : Value := .tuple #[.agg #[.int .u8 x, .int .u8 y, .int .i64 z], .int .i64 0]
def parseV : Option (Nat × Nat × Nat) → Value
  | none => formV
  | some (x, y, z) => if (dia3 x y z).right then goodV x y z else badV
def ParsePost (s : Bs) (w : World) (e : Ending) (w' : World) : Prop := e = .returned (parseV (parseRaw s)) ∧ Keeps [] w w'
theorem raw_no (a b c d e f : UInt8) (r : Bs) (h : ¬ (c = 32 ∧ f = 32)) : parseRaw (a :: b :: c :: d :: e :: f :: r) = none := by rw [parseRaw, if_neg h]
theorem raw_yes (a b d e : UInt8) (r : Bs) : parseRaw (a :: b :: 32 :: d :: e :: 32 :: r) = pr3 (unspellO a b) (unspellO d e) (endOfO r) := by rw [parseRaw, if_pos ⟨rfl, rfl⟩]
theorem parseRaw_short {s : Bs} (h : s.length < 6) : parseRaw s = none := by
  match s, h with
  | [], _ => rfl
  | [_], _ => rfl
  | [_, _], _ => rfl
  | [_, _, _], _ => rfl
  | [_, _, _, _], _ => rfl
  | [_, _, _, _, _], _ => rfl
  | _ :: _ :: _ :: _ :: _ :: _ :: _, h => simp at h; omega

set_option maxHeartbeats 400000 in
theorem parse_short (s : Bs) (h : s.length < 6) (w : World) : Calls Try.prog 19 #[sv s] w (ParsePost s w) := by
  unfold ParsePost
  rw [parseRaw_short h]
  go_enter Try.func19, Try.ntmps19
  go_wp2_with (fail)
  refine bodyPost_ret (v := .tuple #[.agg #[.int .u8 0, .int .u8 0, .int .i64 0], .int .i64 23]) (by simp [results, Try.results19, go_sem]) rfl ⟨rfl, ?_⟩
  exact (Keeps.refl [] w).alloc1 _

theorem pr3_none {U V E : Option Nat} (h : ¬ (U.isSome = true ∧ V.isSome = true ∧ E.isSome = true)) : pr3 U V E = none := by
  cases U <;> cases V <;> cases E <;> simp [pr3] at *
set_option maxHeartbeats 4000000 in
theorem parse_long (a b c d e f : UInt8) (r s : Bs) (hs : s = a :: b :: c :: d :: e :: f :: r) (hr : s.length ≤ 1000) (w : World) : Calls Try.prog 19 #[sv s] w (ParsePost s w) := by
  have HU := Lib.hid (fun w => unspell_c a b w)
  have HV := Lib.hid (fun w => unspell_c d e w)
  have HE := Lib.hid (fun w => endOf_c r w)
  have HC := Lib.hid check_c
  have l1 : ∀ n, unspellO a b = some n → n < 256 := fun n => unspell_lt
  have l2 : ∀ n, unspellO d e = some n → n < 256 := fun n => unspell_lt
  have h6 : decide ((s.length : Int) < 6) = false := by rw [hs]; simp; omega
  have h6' : 6 ≤ s.length := by rw [hs]; simp
  have i0 : ∀ w, (Instr.index 9 (sv s) (.int .i64 0)).run Try.prog w = .ok (bv a) w := fun w => str_idx (P := Try.prog) Try.underlying9 s 0 a (by rw [hs]; rfl) w
  have i1 : ∀ w, (Instr.index 9 (sv s) (.int .i64 1)).run Try.prog w = .ok (bv b) w := fun w => str_idx (P := Try.prog) Try.underlying9 s 1 b (by rw [hs]; rfl) w
  have i2 : ∀ w, (Instr.index 9 (sv s) (.int .i64 2)).run Try.prog w = .ok (bv c) w := fun w => str_idx (P := Try.prog) Try.underlying9 s 2 c (by rw [hs]; rfl) w
  have i3 : ∀ w, (Instr.index 9 (sv s) (.int .i64 3)).run Try.prog w = .ok (bv d) w := fun w => str_idx (P := Try.prog) Try.underlying9 s 3 d (by rw [hs]; rfl) w
  have i4 : ∀ w, (Instr.index 9 (sv s) (.int .i64 4)).run Try.prog w = .ok (bv e) w := fun w => str_idx (P := Try.prog) Try.underlying9 s 4 e (by rw [hs]; rfl) w
  have i5 : ∀ w, (Instr.index 9 (sv s) (.int .i64 5)).run Try.prog w = .ok (bv f) w := fun w => str_idx (P := Try.prog) Try.underlying9 s 5 f (by rw [hs]; rfl) w
  have isl : ∀ w, (Instr.sliceAt 9 (sv s) (some (.int .i64 6)) none none).run Try.prog w = .ok (sv r) w := fun w => by
    have := run_strFrom (P := Try.prog) Try.underlying9 s 6 h6' w
    rw [show s.drop 6 = r by rw [hs]; rfl] at this
    exact this
  unfold ParsePost
  by_cases hc : c = 32
  · by_cases hf : f = 32
    · subst hc hf
      rw [hs, raw_yes]
      rw [← hs]
      have HS := Lib.hid hs; clear hs
      generalize unspellO a b = U at *
      generalize unspellO d e = V at *
      generalize endOfO r = E at *
      have kA : Keeps [] w (w.alloc (.cells #[.int .u8 0, .int .u8 0, .int .i64 0] 23)) := Keeps.alloc [] w _
      have hbx := Blk.new w 23 [.int .u8 0, .int .u8 0, .int .i64 0]
      by_cases hall : U.isSome = true ∧ V.isSome = true ∧ E.isSome = true
      · obtain ⟨x, rfl⟩ := Option.isSome_iff_exists.1 hall.1
        obtain ⟨y, rfl⟩ := Option.isSome_iff_exists.1 hall.2.1
        obtain ⟨z, rfl⟩ := Option.isSome_iff_exists.1 hall.2.2
        have hx := l1 x rfl
        have hy := l2 y rfl
        clear hall l1 l2
        have hR : diaV (dia3 x y z) = .agg #[.int .u8 x, .int .u8 y, .int .i64 z] := by
          simp only [diaV, dia3, bv, UInt8.toNat_ofNat']
          rw [show x % 2 ^ 8 = x by omega, show y % 2 ^ 8 = y by omega]
        have HCC := Lib.hid (fun w => check_c (dia3 x y z) w)
        rw [hR] at HCC
        clear hR
        show Calls _ _ _ _ fun e w' => e = .returned (if (dia3 x y z).right then goodV x y z else badV) ∧ _
        generalize (dia3 x y z).right = R at *
        cases R
        all_goals
          simp only [if_true, if_false, Bool.false_eq_true] at HCC ⊢
          go_enter Try.func19, Try.ntmps19
          go_wp2_with (fail)
          go_quiet ((go_at_call 26; exact Calls.quiet_of_same ((HU.out _).mono (fun _ _ h => ⟨h.1, h.2.symm⟩))))
          go_wp2_with (fail)
          have hbA := hbx.drewN nq
          have kB := kA.drewN1 nq
          clear hbx kA
          generalize (w.alloc (.cells #[.int .u8 0, .int .u8 0, .int .i64 0] 23)).drewN nq = wA at *
          clear nq
          go_quiet ((go_at_call 26; exact Calls.quiet_of_same ((HV.out _).mono (fun _ _ h => ⟨h.1, h.2.symm⟩))))
          have hbB := hbA.drewN nq
          have kC := kB.drewN1 nq
          clear hbA kB
          generalize wA.drewN nq = wB at *
          clear nq
          go_wp2_with (refine wpList_slice (isl _) _ _ _ _ rfl rfl rfl rfl rfl rfl ?_)
          refine (HE.out _).mono ?_
          rintro e' wC ⟨rfl, rfl⟩
          have hbD := hbB.alloc (.cells #[.int .u8 x, .int .u8 y, .int .i64 z] 23)
          have hbN := Blk.new wB 23 [.int .u8 x, .int .u8 y, .int .i64 z]
          have kD := kC.alloc1 (.cells #[.int .u8 x, .int .u8 y, .int .i64 z] 23)
          go_wp2_with (fail)
          refine (HCC.out _).mono ?_
          rintro e' wE ⟨rfl, kE⟩
          have hbE := hbD.keep kE (by simp)
          have hbM := hbN.keep kE (by simp)
          have kF := kD.trans kE (by simp)
          have c0 := hbE.cell 0
          have c1 := hbE.cell 1
          have c2 := hbE.cell 2
          have f0 := hbE.frozen (i := 0) (by simp)
          have f1 := hbE.frozen (i := 1) (by simp)
          have f2 := hbE.frozen (i := 2) (by simp)
          have d0 := hbM.cell 0
          have d1 := hbM.cell 1
          have d2 := hbM.cell 2
          have hlt : w.heap.size < wB.heap.size := hbB.lt
          simp only [List.getElem?_cons_zero, List.getElem?_cons_succ] at c0 c1 c2 d0 d1 d2
          clear hbD hbN kD kE kC hbB hbE hbM
          go_wp2_with (fail)
          first
            | exact bodyPost_ret (v := badV) (by simp [results, Try.results19, go_sem, c0, c1, c2]) rfl ⟨rfl, ((kF.set1 _ _ (by simp)).set1 _ _ (by simp)).set1 _ _ (by simp)⟩
            | exact bodyPost_ret (v := goodV x y z) (by simp [results, Try.results19, go_sem, c0, c1, c2]) rfl ⟨rfl, ((kF.set1 _ _ (by simp)).set1 _ _ (by simp)).set1 _ _ (by simp)⟩
      · rw [pr3_none hall]
        go_enter Try.func19, Try.ntmps19
        go_wp2_with (fail)
        go_quiet ((go_at_call 26; exact Calls.quiet_of_same ((HU.out _).mono (fun _ _ h => ⟨h.1, h.2.symm⟩))))
        go_wp2_with (fail)
        have hbA := hbx.drewN nq
        have kB := kA.drewN1 nq
        clear hbx kA
        generalize (w.alloc (.cells #[.int .u8 0, .int .u8 0, .int .i64 0] 23)).drewN nq = wA at *
        clear nq
        go_quiet ((go_at_call 26; exact Calls.quiet_of_same ((HV.out _).mono (fun _ _ h => ⟨h.1, h.2.symm⟩))))
        have hbB := hbA.drewN nq
        have kC := kB.drewN1 nq
        clear hbA kB
        generalize wA.drewN nq = wB at *
        clear nq
        go_wp2_with (refine wpList_slice (isl _) _ _ _ _ rfl rfl rfl rfl rfl rfl ?_)
        refine (HE.out _).mono ?_
        rintro e' wC ⟨rfl, rfl⟩
        have c0 := hbB.cell 0
        have c1 := hbB.cell 1
        have c2 := hbB.cell 2
        have f0 := hbB.frozen (i := 0) (by simp)
        have f1 := hbB.frozen (i := 1) (by simp)
        have f2 := hbB.frozen (i := 2) (by simp)
        simp only [List.getElem?_cons_zero, List.getElem?_cons_succ] at c0 c1 c2
        have HALL := Lib.hid hall; clear hall
        cases U
        · go_wp2_with (fail)
          exact bodyPost_ret (v := formV) (by simp [results, Try.results19, go_sem, c0, c1, c2]) rfl ⟨rfl, ((kC.set1 _ _ (by simp)).set1 _ _ (by simp)).set1 _ _ (by simp)⟩
        · cases V
          · go_wp2_with (fail)
            exact bodyPost_ret (v := formV) (by simp [results, Try.results19, go_sem, c0, c1, c2]) rfl ⟨rfl, ((kC.set1 _ _ (by simp)).set1 _ _ (by simp)).set1 _ _ (by simp)⟩
          · cases E
            · go_wp2_with (fail)
              exact bodyPost_ret (v := formV) (by simp [results, Try.results19, go_sem, c0, c1, c2]) rfl ⟨rfl, ((kC.set1 _ _ (by simp)).set1 _ _ (by simp)).set1 _ _ (by simp)⟩
            · exact absurd ⟨rfl, rfl, rfl⟩ HALL.out
    · rw [hs, raw_no _ _ _ _ _ _ _ (fun h => hf h.2)]
      rw [← hs]
      have HS := Lib.hid hs; clear hs
      have hf' : ((f.toNat : Int) != 32) = true := by rw [bne_iff_ne, ← beq_eq_false_iff_ne]; exact (u8_beq_n f 32 (by omega)).trans (by simpa using hf)
      subst hc
      clear hf
      go_enter Try.func19, Try.ntmps19
      go_wp2_with (fail)
      refine bodyPost_ret (v := formV) (by simp [results, Try.results19, go_sem]) rfl ⟨rfl, ?_⟩
      exact (Keeps.refl [] w).alloc1 _
  · rw [hs, raw_no _ _ _ _ _ _ _ (fun h => hc h.1)]
    rw [← hs]
    have HS := Lib.hid hs; clear hs
    have hc' : ((c.toNat : Int) != 32) = true := by rw [bne_iff_ne, ← beq_eq_false_iff_ne]; exact (u8_beq_n c 32 (by omega)).trans (by simpa using hc)
    clear hc
    go_enter Try.func19, Try.ntmps19
    go_wp2_with (fail)
    refine bodyPost_ret (v := formV) (by simp [results, Try.results19, go_sem]) rfl ⟨rfl, ?_⟩
    exact (Keeps.refl [] w).alloc1 _
end Go.Proofs.Ytlcgdndaailjpaa.Dia
