/- Texts of dialects: the contracts of spell, Text, the document's digit and Text. -/
import Derived.Test.YtlcgdndaailjpaaDia
import Derived.Deep.RegionHeld3
namespace Go.Proofs.Ytlcgdndaailjpaa.Dia
set_option linter.unusedVariables false
set_option linter.unusedSimpArgs false
open Go.RowKit Q Mach

def hexd (n : Nat) : UInt8 := if n < 10 then UInt8.ofNat (48 + n) else UInt8.ofNat (87 + n)
def spellB (b : UInt8) : Bs := [hexd (b.toNat / 16), hexd (b.toNat % 16)]
def textB (d : Dia) : Bs := spellB d.delim ++ 32 :: (spellB d.quote ++ 32 :: wordB d.fin)
theorem hexd_lo {n : Nat} (h : n < 10) : ((hexd n).toNat : Int) = 48 + n := by
  unfold hexd; rw [if_pos h, UInt8.toNat_ofNat']; omega
theorem hexd_hi {n : Nat} (h : ¬ n < 10) (h2 : n < 16) : ((hexd n).toNat : Int) = 87 + n := by
  unfold hexd; rw [if_neg h, UInt8.toNat_ofNat']; omega

set_option maxHeartbeats 400000 in
theorem rdigit_c (n : Int) (h0 : 0 ≤ n) (hn : n < 16) (w : World) : Calls Try.prog 24 #[.int .i64 n] w fun e w' => e = .returned (sv [hexd n.toNat]) ∧ Keeps [] w w' := by
  obtain ⟨n, rfl⟩ : ∃ m : Nat, n = m := ⟨n.toNat, by omega⟩
  rw [Int.toNat_natCast]
  by_cases h : n < 10
  · have hr := run_str1 (P := Try.prog) Try.underlying64 Try.underlying5 Try.underlying9 (hexd n) _ (hexd_lo h)
    have hx' : IntKind.u8.wrap (48 + (n : Int)) = 48 + n := by rw [IntKind.wrap_u8]; omega
    go_enter Try.func24, Try.ntmps24
    go_wp2_with (refine wpList_convert (hr _) _ rfl rfl rfl ?_)
    go_ret
    exact ⟨rfl, Keeps.alloc _ _ _⟩
  · have hr := run_str1 (P := Try.prog) Try.underlying64 Try.underlying5 Try.underlying9 (hexd n) (97 + (n : Int) - 10) (by rw [hexd_hi h (by omega)]; omega)
    have hx' : IntKind.u8.wrap (97 + (n : Int) - 10) = 97 + n - 10 := by rw [IntKind.wrap_u8]; omega
    go_enter Try.func24, Try.ntmps24
    go_wp2_with (refine wpList_convert (hr _) _ rfl rfl rfl ?_)
    go_ret
    exact ⟨rfl, Keeps.alloc _ _ _⟩

theorem hex_extract {n : Nat} (h : n < 16) : (ByteArray.mk #[48, 49, 50, 51, 52, 53, 54, 55, 56, 57, 97, 98, 99, 100, 101, 102]).extract n (n + 1) = ⟨[hexd n].toArray⟩ := by
  have key : ∀ m : Fin 16, (#[48, 49, 50, 51, 52, 53, 54, 55, 56, 57, 97, 98, 99, 100, 101, 102] : Array UInt8).extract m (m + 1) = [hexd m].toArray := by decide
  apply ByteArray.ext
  rw [ByteArray.data_extract]
  exact key ⟨n, h⟩
theorem spell_c (b : UInt8) (w : World) : Calls Try.prog 21 #[bv b] w fun e w' => e = .returned (sv (spellB b)) ∧ ∃ m, w' = w.drewN m := by
  have hb := b.toNat_lt
  have b1 : (0 : Int) ≤ (b.toNat : Int) / 16 := by omega
  have b2 : (b.toNat : Int) / 16 + 1 ≤ 16 := by omega
  have b3 : (0 : Int) ≤ (b.toNat : Int) % 16 := by omega
  have b4 : (b.toNat : Int) % 16 + 1 ≤ 16 := by omega
  have H1 := Lib.hid (hex_extract (n := b.toNat / 16) (by omega))
  have H2 := Lib.hid (hex_extract (n := b.toNat % 16) (by omega))
  have w1 : IntKind.u8.wrap ((b.toNat : Int) / 16 + 1) = (b.toNat : Int) / 16 + 1 := by rw [IntKind.wrap_u8]; omega
  have w2 : IntKind.u8.wrap ((b.toNat : Int) % 16 + 1) = (b.toNat : Int) % 16 + 1 := by rw [IntKind.wrap_u8]; omega
  go_enter Try.func21, Try.ntmps21
  go_wp2_with (fail)
  go_quiet (fail)
  go_wp2_with (fail)
  go_ret
  refine ⟨?_, _, rfl⟩
  simp only [H1.out, H2.out, cat_mk]
  rfl

theorem spell_len (b : UInt8) : (spellB b).length ≤ 2 := by simp [spellB]
theorem word_len (z : Int) : (wordB z).length ≤ 6 := by
  unfold wordB
  repeat' split
  all_goals simp
def TextPost (d : Dia) (w : World) (e : Ending) (w' : World) : Prop :=
  e = .returned (.tuple #[sv (if d.right then textB d else []), .int .i64 (if d.right then 0 else 1)]) ∧ Keeps [] w w'
set_option maxHeartbeats 1000000 in
theorem text_c (d : Dia) (w : World) : Calls Try.prog 7 #[diaV d] w (TextPost d w) := by
  have hcat : ∀ x y : List UInt8, (ByteArray.mk x.toArray ++ ByteArray.mk y.toArray) = ⟨(x ++ y).toArray⟩ := cat_mk
  have HC := Lib.hid (fun w => check_c d w)
  have l1 := spell_len d.delim
  have l2 := spell_len d.quote
  have l3 := word_len d.fin
  have HS := Lib.hid spell_c
  have HW := Lib.hid word_c
  have hT : textB d = spellB d.delim ++ 32 :: (spellB d.quote ++ 32 :: wordB d.fin) := rfl
  unfold TextPost
  cases hr : d.right
  · rw [hr] at HC
    simp only [if_false, Bool.false_eq_true] at HC ⊢
    clear hr hT
    go_enter Try.func7, Try.ntmps7
    go_wp2_with (fail)
    refine (HC.out _).mono ?_
    rintro e w1 ⟨rfl, k1⟩
    go_wp2_with (fail)
    go_ret2
    exact ⟨rfl, (Keeps.alloc [] w _).trans k1 (by simp)⟩
  · rw [hr] at HC
    simp only [if_true] at HC ⊢
    rw [hT]
    clear hr hT
    obtain ⟨x, y, z⟩ := d
    have hbx := Blk.new w 23 [bv x, bv y, .int .i64 z]
    go_enter Try.func7, Try.ntmps7
    go_wp2_with (fail)
    refine (HC.out _).mono ?_
    rintro e w1 ⟨rfl, k1⟩
    have kp : Keeps [] w w1 := (Keeps.alloc [] w _).trans k1 (by simp)
    have hb1 := hbx.keep k1 (by simp)
    have c0 := hb1.cell 0
    have c1 := hb1.cell 1
    have c2 := hb1.cell 2
    simp only [List.getElem?_cons_zero, List.getElem?_cons_succ] at c0 c1 c2
    clear hbx hb1 k1
    go_wp2_with (fail)
    go_quiet ((first | (go_at_call 21; exact Calls.quiet_of (HS.out _ _)) | (go_at_call 22; exact Calls.quiet_of_same ((HW.out _ _).mono (fun _ _ h => ⟨h.1, h.2.symm⟩)))))
    go_wp2_with (fail)
    go_ret2
    exact ⟨by simp, kp.drewN1 _⟩

theorem idxWord (i : Nat) (hi : i < 4) (w : World) : (Instr.index 55 (.agg #[.string ⟨#[]⟩, .string ⟨#[108, 102]⟩, .string ⟨#[99, 114, 108, 102]⟩, .string ⟨#[101, 105, 116, 104, 101, 114]⟩]) (.int .i64 (i : Int))).run Try.prog w = .ok (sv (wordB i)) w := by
  match i, hi with
  | 0, _ => show _ = _; kernel_rfl
  | 1, _ => show _ = _; kernel_rfl
  | 2, _ => show _ = _; kernel_rfl
  | 3, _ => show _ = _; kernel_rfl
/-- The document's text of a dialect's numbers. -/
def rtextB (a b : Nat) (z : Int) : Bs := hexd (a / 16) :: hexd (a % 16) :: 32 :: hexd (b / 16) :: hexd (b % 16) :: 32 :: wordB z
set_option maxHeartbeats 2000000 in
theorem rtext_z (a b : Nat) (ha : a < 256) (hb : b < 256) (zn : Nat) (l : Bs) (hl : wordB zn = l) (hz : zn < 4) (hadd : ∀ x : List UInt8, x.length ≤ 10 → ∀ w : World, (Op.stringOp .add ⟨x.toArray⟩ ⟨l.toArray⟩).run Try.prog w = .ok (sv (x ++ l)) w) (w : World) : Calls Try.prog 14 #[.agg #[.int .i64 a, .int .i64 b, .int .i64 zn]] w fun e w' => e = .returned (sv (hexd (a / 16) :: hexd (a % 16) :: 32 :: hexd (b / 16) :: hexd (b % 16) :: 32 :: l)) ∧ Keeps [] w w' := by
  have hcat : ∀ x y : List UInt8, (ByteArray.mk x.toArray ++ ByteArray.mk y.toArray) = ⟨(x ++ y).toArray⟩ := cat_mk
  have hix := idxWord zn hz
  rw [hl] at hix
  clear hl
  have HD := Lib.hid (fun n h0 h1 w => rdigit_c n h0 h1 w)
  have a1 : (0 : Int) ≤ (a : Int) / 16 := by omega
  have a2 : (a : Int) / 16 < 16 := by omega
  have a3 : (0 : Int) ≤ (a : Int) % 16 := by omega
  have a4 : (a : Int) % 16 < 16 := by omega
  have b1 : (0 : Int) ≤ (b : Int) / 16 := by omega
  have b2 : (b : Int) / 16 < 16 := by omega
  have b3 : (0 : Int) ≤ (b : Int) % 16 := by omega
  have b4 : (b : Int) % 16 < 16 := by omega
  have e1 : ((a : Int) / 16).toNat = a / 16 := by omega
  have e2 : ((a : Int) % 16).toNat = a % 16 := by omega
  have e3 : ((b : Int) / 16).toNat = b / 16 := by omega
  have e4 : ((b : Int) % 16).toNat = b % 16 := by omega
  have E1 := Lib.hid e1; have E2 := Lib.hid e2; have E3 := Lib.hid e3; have E4 := Lib.hid e4
  clear e1 e2 e3 e4
  have t1 : ((a : Int).tmod 16).toNat = a % 16 := by rw [Int.tmod_eq_emod_of_nonneg (by omega)]; omega
  have t2 : ((b : Int).tmod 16).toNat = b % 16 := by rw [Int.tmod_eq_emod_of_nonneg (by omega)]; omega
  have T1 := Lib.hid t1; have T2 := Lib.hid t2
  clear t1 t2
  have v1 : IntKind.i64.wrap ((a : Int) / 16) = (a : Int) / 16 := IntWalk.i64_in _ (by omega)
  have v2 : IntKind.i64.wrap ((b : Int) / 16) = (b : Int) / 16 := IntWalk.i64_in _ (by omega)
  have v3 : IntKind.i64.wrap ((a : Int) % 16) = (a : Int) % 16 := IntWalk.i64_in _ (by omega)
  have v4 : IntKind.i64.wrap ((b : Int) % 16) = (b : Int) % 16 := IntWalk.i64_in _ (by omega)
  have kp : Keeps [] w (w.alloc (.cells #[.int .i64 a, .int .i64 b, .int .i64 zn] 29)) := Keeps.alloc [] w _
  have hbx := Blk.new w 29 [.int .i64 a, .int .i64 b, .int .i64 zn]
  go_enter Try.func14, Try.ntmps14
  go_wp2_with (fail)
  have hlt := hbx.lt
  generalize w.alloc (.cells #[.int .i64 a, .int .i64 b, .int .i64 zn] 29) = w1 at *
  have c0 := hbx.cell 0
  have c1 := hbx.cell 1
  simp only [List.getElem?_cons_zero, List.getElem?_cons_succ] at c0 c1
  go_region_held3 (fun w' => w'.cell? ⟨w.heap.size, 0, none⟩ = some (.int .i64 a) ∧ w'.cell? ⟨w.heap.size, 1, none⟩ = some (.int .i64 b) ∧ w.heap.size < w'.heap.size ∧ Keeps [] w w') (first | exact ⟨c0, c1, hlt, kp.drew1⟩ | exact ⟨c0, c1, hlt, kp⟩ | (go_split_ands; exact ⟨(hk.cell (p := ⟨w.heap.size, 0, none⟩) (by assumption) (by simp)).trans (by assumption), (hk.cell (p := ⟨w.heap.size, 1, none⟩) (by assumption) (by simp)).trans (by assumption), Nat.lt_of_lt_of_le (by assumption) hk.size, Keeps.trans (by assumption) hk (by simp)⟩)) (first | (go_at_call 24; refine (HD.out _ (by assumption) (by assumption) _).mono ?_; rintro e w' ⟨rfl, hk⟩))
  all_goals
    go_wp2_with (fail)
    go_ret
    refine ⟨?_, by go_split_ands; assumption⟩
    simp [E1.out, E2.out, E3.out, E4.out, T1.out, T2.out]
set_option maxHeartbeats 2000000 in
theorem rtext_c (a b : Nat) (ha : a < 256) (hb : b < 256) (z : Int) (hz : 1 ≤ z ∧ z ≤ 3) (w : World) : Calls Try.prog 14 #[.agg #[.int .i64 a, .int .i64 b, .int .i64 z]] w fun e w' => e = .returned (sv (rtextB a b z)) ∧ Keeps [] w w' := by
  obtain ⟨zn, rfl⟩ : ∃ zn : Nat, z = zn := ⟨z.toNat, by omega⟩
  exact rtext_z a b ha hb zn _ rfl (by omega) (fun x hx w => by
    have := word_len zn
    rw [run_string_add_sum w _ _ (by simp [ByteArray.size]; omega), ByteArray.mk_append_mk]) w
end Go.Proofs.Ytlcgdndaailjpaa.Dia
