/- The contract of the document's Parse of dialects. -/
import Derived.Test.YtlcgdndaailjpaaDia4
namespace Go.Proofs.Ytlcgdndaailjpaa.Dia
set_option linter.unusedVariables false
set_option linter.unusedSimpArgs false
open Go.RowKit Q Mach Limits

theorem unhex_hexd {n : Nat} (h : n < 16) : unhex (hexd n) = some n := by
  have key : ∀ m : Fin 16, unhex (hexd m.val) = some m.val := by decide
  exact key ⟨n, h⟩
theorem hexd_unhex {b : UInt8} {n : Nat} (h : unhex b = some n) : hexd n = b := by
  have h1 := h
  unfold unhex at h1
  apply UInt8.toNat_inj.1
  split at h1
  · injection h1 with h1
    subst h1
    have := hexd_lo (n := b.toNat - 48) (by omega)
    omega
  · split at h1
    · injection h1 with h1
      subst h1
      have := hexd_hi (n := b.toNat - 87) (by omega) (by omega)
      omega
    · cases h1
theorem endOf_word {r : Bs} {z : Nat} : endOfO r = some z ↔ (1 ≤ z ∧ z ≤ 3) ∧ wordB z = r := by
  unfold endOfO
  constructor
  · intro h
    split at h
    · next e => injection h with h; subst h e; exact ⟨by omega, rfl⟩
    · split at h
      · next e => injection h with h; subst h e; exact ⟨by omega, rfl⟩
      · split at h
        · next e => injection h with h; subst h e; exact ⟨by omega, rfl⟩
        · cases h
  · rintro ⟨hz, rfl⟩
    obtain rfl | rfl | rfl : z = 1 ∨ z = 2 ∨ z = 3 := by omega
    · rfl
    · rfl
    · rfl
theorem raw_len {s : Bs} (h : ¬ (8 ≤ s.length ∧ s.length ≤ 12)) : parseRaw s = none := by
  match s with
  | [] => rfl
  | [_] => rfl
  | [_, _] => rfl
  | [_, _, _] => rfl
  | [_, _, _, _] => rfl
  | [_, _, _, _, _] => rfl
  | a :: b :: c :: d :: e :: f :: r =>
    by_cases hcf : c = 32 ∧ f = 32
    · obtain ⟨rfl, rfl⟩ := hcf
      have he : endOfO r = none := by
        cases hE : endOfO r with
        | none => rfl
        | some z =>
          obtain ⟨hz, rfl⟩ := endOf_word.1 hE
          exfalso
          apply h
          obtain rfl | rfl | rfl : z = 1 ∨ z = 2 ∨ z = 3 := by omega
          · simp [wordB]
          · simp [wordB]
          · simp [wordB]
      rw [raw_yes, he]
      exact pr3_none (by simp)
    · exact raw_no _ _ _ _ _ _ _ hcf
theorem raw_bad (a b c d e f : UInt8) (r : Bs) (k : Nat) (hk : k < 4) (h : unhex ([a, b, d, e].getD k 0) = none) : parseRaw (a :: b :: c :: d :: e :: f :: r) = none := by
  by_cases hcf : c = 32 ∧ f = 32
  · obtain ⟨rfl, rfl⟩ := hcf
    rw [raw_yes]
    apply pr3_none
    intro hh
    obtain ⟨h1, h2, _⟩ := hh
    unfold unspellO at h1 h2
    match k, hk with
    | 0, _ => simp at h; simp [h] at h1
    | 1, _ => simp at h; cases hx : unhex a <;> simp [h, hx] at h1
    | 2, _ => simp at h; simp [h] at h2
    | 3, _ => simp at h; cases hx : unhex d <;> simp [h, hx] at h2
  · exact raw_no _ _ _ _ _ _ _ hcf
theorem rtext_nib {n0 n1 n2 n3 : Nat} (h1 : n1 < 16) (h3 : n3 < 16) (z : Int) : rtextB (n0 * 16 + n1) (n2 * 16 + n3) z = hexd n0 :: hexd n1 :: 32 :: hexd n2 :: hexd n3 :: 32 :: wordB z := by
  unfold rtextB
  rw [show (n0 * 16 + n1) / 16 = n0 by omega, show (n0 * 16 + n1) % 16 = n1 by omega, show (n2 * 16 + n3) / 16 = n2 by omega, show (n2 * 16 + n3) % 16 = n3 by omega]
theorem raw_some {a b c d e f : UInt8} {r : Bs} {n0 n1 n2 n3 z : Nat} (h0 : unhex a = some n0) (h1 : unhex b = some n1) (h2 : unhex d = some n2) (h3 : unhex e = some n3) (hz : 1 ≤ z ∧ z ≤ 3) (h : rtextB (n0 * 16 + n1) (n2 * 16 + n3) z = a :: b :: c :: d :: e :: f :: r) :
    parseRaw (a :: b :: c :: d :: e :: f :: r) = some (16 * n0 + n1, 16 * n2 + n3, z) := by
  rw [rtext_nib (unhex_lt h1) (unhex_lt h3)] at h
  simp only [List.cons.injEq] at h
  obtain ⟨_, _, hc, _, _, hf, hr⟩ := h
  subst hc hf
  rw [raw_yes]
  simp [unspellO, h0, h1, h2, h3, endOf_word.2 ⟨hz, hr⟩, pr3]
theorem raw_none {a b c d e f : UInt8} {r : Bs} {n0 n1 n2 n3 : Nat} (h0 : unhex a = some n0) (h1 : unhex b = some n1) (h2 : unhex d = some n2) (h3 : unhex e = some n3) (h : ∀ z : Nat, 1 ≤ z → z ≤ 3 → rtextB (n0 * 16 + n1) (n2 * 16 + n3) z ≠ a :: b :: c :: d :: e :: f :: r) :
    parseRaw (a :: b :: c :: d :: e :: f :: r) = none := by
  by_cases hcf : c = 32 ∧ f = 32
  · obtain ⟨rfl, rfl⟩ := hcf
    rw [raw_yes]
    have he : endOfO r = none := by
      cases hE : endOfO r with
      | none => rfl
      | some z =>
        obtain ⟨hz, rfl⟩ := endOf_word.1 hE
        refine absurd ?_ (h z hz.1 hz.2)
        rw [rtext_nib (unhex_lt h1) (unhex_lt h3), hexd_unhex h0, hexd_unhex h1, hexd_unhex h2, hexd_unhex h3]
    rw [he]
    exact pr3_none (by simp)
  · exact raw_no _ _ _ _ _ _ _ hcf
def rparseV : Option (Nat × Nat × Nat) → Value
  | none => .tuple #[.agg #[.int .i64 0, .int .i64 0, .int .i64 0], .bool false]
  | some (x, y, z) => .tuple #[.agg #[.int .i64 x, .int .i64 y, .int .i64 z], .bool true]
def RParsePost (s : Bs) (w : World) (e : Ending) (w' : World) : Prop := e = .returned (rparseV (parseRaw s)) ∧ Keeps [] w w'

theorem idx4 (k : Nat) (hk : k < 4) (w : World) : (Instr.index 62 (.agg #[.int .i64 0, .int .i64 1, .int .i64 3, .int .i64 4]) (.int .i64 (k : Int))).run Try.prog w = .ok (.int .i64 (([0, 1, 3, 4].getD k 0 : Nat) : Int)) w := by
  match k, hk with
  | 0, _ => show _ = _; kernel_rfl
  | 1, _ => show _ = _; kernel_rfl
  | 2, _ => show _ = _; kernel_rfl
  | 3, _ => show _ = _; kernel_rfl
set_option maxHeartbeats 400000 in
theorem rparse_len (s : Bs) (h : ¬ (8 ≤ s.length ∧ s.length ≤ 12)) (hl : s.length ≤ 1000) (w : World) : Calls Try.prog 20 #[sv s] w (RParsePost s w) := by
  unfold RParsePost
  rw [raw_len h]
  by_cases h1 : s.length < 8
  · go_enter Try.func20, Try.ntmps20
    go_wp2_with (fail)
    refine bodyPost_ret (v := rparseV none) (by simp [results, Try.results20, go_sem, rparseV]) rfl ⟨rfl, ?_⟩
    exact (Keeps.refl [] w).alloc1 _
  · have h1' : decide ((s.length : Int) < 8) = false := by simp; omega
    have h2' : decide (12 < (s.length : Int)) = true := by simp; omega
    clear h
    go_enter Try.func20, Try.ntmps20
    go_wp2_with (fail)
    refine bodyPost_ret (v := rparseV none) (by simp [results, Try.results20, go_sem, rparseV]) rfl ⟨rfl, ?_⟩
    exact (Keeps.refl [] w).alloc1 _

/-- The numbers by now: those of the first k digits, and -1. -/
def nums (bs : List UInt8) (k : Nat) : List Value := (List.range 4).map fun j => if j < k then .int .i64 (((unhex (bs.getD j 0)).getD 0 : Nat) : Int) else .int .i64 (-1)
theorem nums_len (bs : List UInt8) (k : Nat) : (nums bs k).length = 4 := rfl
theorem nums_set (bs : List UInt8) (k : Nat) (hk : k < 4) (n : Nat) (h : unhex (bs.getD k 0) = some n) : (nums bs k).set k (.int .i64 (n : Int)) = nums bs (k + 1) := by
  have e : ((unhex (bs.getD k 0)).getD 0 : Nat) = n := by rw [h]; rfl
  match k, hk with
  | 0, _ => subst e; simp [nums, List.range, List.range.loop]
  | 1, _ => subst e; simp [nums, List.range, List.range.loop]
  | 2, _ => subst e; simp [nums, List.range, List.range.loop]
  | 3, _ => subst e; simp [nums, List.range, List.range.loop]
theorem nums_at (bs : List UInt8) (k : Nat) (hk : k < 4) : (nums bs k)[k]? = some (.int .i64 (-1)) := by
  match k, hk with
  | 0, _ => rfl
  | 1, _ => rfl
  | 2, _ => rfl
  | 3, _ => rfl

set_option maxRecDepth 100000 in
set_option maxHeartbeats 4000000 in
theorem rparse_c (a b c d e f : UInt8) (r s : Bs) (hs : s = a :: b :: c :: d :: e :: f :: r) (h8 : 8 ≤ s.length) (h12 : s.length ≤ 12) (w : World) : Calls Try.prog 20 #[sv s] w (RParsePost s w) := by
  have h8' : decide ((s.length : Int) < 8) = false := by simp; omega
  have h12' : decide (12 < (s.length : Int)) = false := by simp; omega
  have HI := Lib.hid (show ∀ k (hk : k < 4) w, (Instr.index 9 (sv s) (.int .i64 (([0, 1, 3, 4].getD k 0 : Nat) : Int))).run Try.prog w = .ok (bv ([a, b, d, e].getD k 0)) w from fun k hk w => by
    match k, hk with
    | 0, _ => exact str_idx (P := Try.prog) Try.underlying9 s 0 a (by rw [hs]; rfl) w
    | 1, _ => exact str_idx (P := Try.prog) Try.underlying9 s 1 b (by rw [hs]; rfl) w
    | 2, _ => exact str_idx (P := Try.prog) Try.underlying9 s 3 d (by rw [hs]; rfl) w
    | 3, _ => exact str_idx (P := Try.prog) Try.underlying9 s 4 e (by rw [hs]; rfl) w)
  have HS := Lib.hid hs; clear hs
  have kA : Keeps [] w (w.alloc (.cells #[.int .i64 0, .int .i64 0, .int .i64 0] 29)) := Keeps.alloc [] w _
  have hbx := Blk.new w 29 [.int .i64 0, .int .i64 0, .int .i64 0]
  have hbn := Blk.new (w.alloc (.cells #[.int .i64 0, .int .i64 0, .int .i64 0] 29)) 62 [.int .i64 (-1), .int .i64 (-1), .int .i64 (-1), .int .i64 (-1)]
  have hb2 := hbx.alloc (.cells #[.int .i64 (-1), .int .i64 (-1), .int .i64 (-1), .int .i64 (-1)] 62)
  have kB := kA.alloc1 (.cells #[.int .i64 (-1), .int .i64 (-1), .int .i64 (-1), .int .i64 (-1)] 62)
  go_enter Try.func20, Try.ntmps20
  go_wp2_with (fail)
  have hzz : (w.alloc (.cells #[.int .i64 0, .int .i64 0, .int .i64 0] 29)).heap.size = w.heap.size + 1 := by simp
  rw [hzz] at hbn
  clear hzz hbx kA
  generalize (w.alloc (.cells #[.int .i64 0, .int .i64 0, .int .i64 0] 29)).alloc (.cells #[.int .i64 (-1), .int .i64 (-1), .int .i64 (-1), .int .i64 (-1)] 62) = w2 at *
  go_loopw [5] (fun i wr => ∃ k : Nat, k ≤ 4 ∧ i = .int .i64 k ∧ (∀ j, j < k → (unhex ([a, b, d, e].getD j 0)).isSome = true) ∧ Blk wr (w.heap.size + 1) 62 (nums [a, b, d, e] k) ∧ Blk wr w.heap.size 29 [.int .i64 0, .int .i64 0, .int .i64 0] ∧ Keeps [] w wr) (fun i _ => 4 - (intOf i).toNat)
  case atStart => exact ⟨0, by omega, rfl, by intro j h; omega, hbn, hb2, kB⟩
  case round =>
    obtain ⟨k, hk, rfl, hall, hn, hd, kw⟩ := hrel
    have HA := Lib.hid hall; clear hall
    by_cases hlt : k < 4
    · have hi := idx4 k hlt
      have hx := HI.out k hlt
      obtain ⟨β, hβ⟩ : ∃ β, [a, b, d, e].getD k 0 = β := ⟨_, rfl⟩
      rw [hβ] at hx
      generalize (([0, 1, 3, 4].getD k 0 : Nat) : Int) = p at hi hx
      have hkk : (k : Int) < 4 := by omega
      have hk0 : (0 : Int) ≤ (k : Int) := by omega
      have hr := wrap_u8 β
      have cN := hn.cell_of (nums_at [a, b, d, e] k hlt)
      have fN := hn.frozen (i := k) (by rw [nums_len]; exact hlt)
      have HN := Lib.hid hn; clear hn
      have HB := Lib.hid hβ; clear hβ
      by_cases g1 : 48 ≤ β.toNat ∧ β.toNat ≤ 57
      · have hu : unhex β = some (β.toNat - 48) := by simp [unhex, g1]
        have g1' : decide ((48 : Int) ≤ β.toNat) = true := by simp; omega
        have g2' : decide ((β.toNat : Int) ≤ 57) = true := by simp; omega
        have g3' : decide ((97 : Int) ≤ β.toNat) = false := by simp; omega
        have hw : IntKind.u8.wrap ((β.toNat : Int) - 48) = (β.toNat : Int) - 48 := by rw [IntKind.wrap_u8]; omega
        have hv : ((β.toNat : Int) - 48) = ((β.toNat - 48 : Nat) : Int) := by omega
        have hset := HN.out.set_ k (.int .i64 ((β.toNat - 48 : Nat) : Int))
        rw [nums_set _ k hlt _ (by rw [HB.out]; exact hu), ← hv] at hset
        have HU := Lib.hid hu
        have HSET := Lib.hid hset
        obtain ⟨g1a, g1b⟩ := g1
        clear hu hset hv
        go_wp2_with (fail)
        go_roundw
        case rel =>
          refine ⟨k + 1, by omega, by go_num, ?_, HSET.out, hd.far (by show w.heap.size ≠ w.heap.size + 1; omega) _, kw.set1 _ _ (by simp)⟩
          intro j hj
          by_cases ee : j = k
          · subst ee; rw [HB.out, HU.out]; rfl
          · exact HA.out j (by omega)
        case measure => simp [intOf]; omega
      · by_cases g4 : 97 ≤ β.toNat ∧ β.toNat ≤ 102
        · have hu : unhex β = some (β.toNat - 87) := by rw [unhex, if_neg g1, if_pos g4]
          have g1' : decide ((48 : Int) ≤ β.toNat) = true := by simp; omega
          have g2' : decide ((β.toNat : Int) ≤ 57) = false := by simp; omega
          have g3' : decide ((97 : Int) ≤ β.toNat) = true := by simp; omega
          have g4' : decide ((β.toNat : Int) ≤ 102) = true := by simp; omega
          have hw : IntKind.u8.wrap ((β.toNat : Int) - 97) = (β.toNat : Int) - 97 := by rw [IntKind.wrap_u8]; omega
          have hv : ((β.toNat : Int) - 97 + 10) = ((β.toNat - 87 : Nat) : Int) := by omega
          have hset := HN.out.set_ k (.int .i64 ((β.toNat - 87 : Nat) : Int))
          rw [nums_set _ k hlt _ (by rw [HB.out]; exact hu), ← hv] at hset
          have HU := Lib.hid hu
          have HSET := Lib.hid hset
          obtain ⟨g4a, g4b⟩ := g4
          clear hu hset hv g1
          go_wp2_with (fail)
          go_roundw
          case rel =>
            refine ⟨k + 1, by omega, by go_num, ?_, HSET.out, hd.far (by show w.heap.size ≠ w.heap.size + 1; omega) _, kw.set1 _ _ (by simp)⟩
            intro j hj
            by_cases ee : j = k
            · subst ee; rw [HB.out, HU.out]; rfl
            · exact HA.out j (by omega)
          case measure => simp [intOf]; omega
        · have hu : unhex β = none := by rw [unhex, if_neg g1, if_neg g4]
          have hraw : parseRaw s = none := by rw [HS.out]; exact raw_bad a b c d e f r k hlt (by rw [HB.out]; exact hu)
          have HRAW := Lib.hid hraw
          have c0 := hd.cell 0
          have c1 := hd.cell 1
          have c2 := hd.cell 2
          have f0 := hd.frozen (i := 0) (by simp)
          have f1 := hd.frozen (i := 1) (by simp)
          have f2 := hd.frozen (i := 2) (by simp)
          simp only [List.getElem?_cons_zero, List.getElem?_cons_succ] at c0 c1 c2
          clear hu hraw
          by_cases g5 : 48 ≤ β.toNat
          · have g1' : decide ((48 : Int) ≤ β.toNat) = true := by simp; omega
            have g2' : decide ((β.toNat : Int) ≤ 57) = false := by simp; omega
            by_cases g6 : 97 ≤ β.toNat
            · have g3' : decide ((97 : Int) ≤ β.toNat) = true := by simp; omega
              have g4' : decide ((β.toNat : Int) ≤ 102) = false := by simp; omega
              clear g1 g4
              go_wp2_with (fail)
              exact bodyPost_ret (v := rparseV none) (by simp [results, Try.results20, go_sem, c0, c1, c2, rparseV]) rfl ⟨by rw [HRAW.out], ((kw.set1 _ _ (by simp)).set1 _ _ (by simp)).set1 _ _ (by simp)⟩
            · have g3' : decide ((97 : Int) ≤ β.toNat) = false := by simp; omega
              clear g1 g4
              go_wp2_with (fail)
              exact bodyPost_ret (v := rparseV none) (by simp [results, Try.results20, go_sem, c0, c1, c2, rparseV]) rfl ⟨by rw [HRAW.out], ((kw.set1 _ _ (by simp)).set1 _ _ (by simp)).set1 _ _ (by simp)⟩
          · have g1' : decide ((48 : Int) ≤ β.toNat) = false := by simp; omega
            have g3' : decide ((97 : Int) ≤ β.toNat) = false := by simp; omega
            clear g1 g4
            go_wp2_with (fail)
            exact bodyPost_ret (v := rparseV none) (by simp [results, Try.results20, go_sem, c0, c1, c2, rparseV]) rfl ⟨by rw [HRAW.out], ((kw.set1 _ _ (by simp)).set1 _ _ (by simp)).set1 _ _ (by simp)⟩
    · obtain rfl : k = 4 := by omega
      obtain ⟨n0, h0⟩ := Option.isSome_iff_exists.1 (HA.out 0 (by omega))
      obtain ⟨n1, h1⟩ := Option.isSome_iff_exists.1 (HA.out 1 (by omega))
      obtain ⟨n2, h2⟩ := Option.isSome_iff_exists.1 (HA.out 2 (by omega))
      obtain ⟨n3, h3⟩ := Option.isSome_iff_exists.1 (HA.out 3 (by omega))
      simp only [List.getD_cons_zero, List.getD_cons_succ] at h0 h1 h2 h3
      have hnn : nums [a, b, d, e] 4 = [.int .i64 (n0 : Int), .int .i64 (n1 : Int), .int .i64 (n2 : Int), .int .i64 (n3 : Int)] := by
        simp [nums, List.range, List.range.loop, h0, h1, h2, h3]
      rw [hnn] at hn
      have q0 := unhex_lt h0
      have q1 := unhex_lt h1
      have q2 := unhex_lt h2
      have q3 := unhex_lt h3
      have H0 := Lib.hid h0; have H1 := Lib.hid h1; have H2 := Lib.hid h2; have H3 := Lib.hid h3
      clear h0 h1 h2 h3 hnn hlt hk
      obtain ⟨wo, rfl⟩ : ∃ wo : World, wo = wr := ⟨_, rfl⟩
      go_wp2_with (fail)
      go_loopw [7] (fun i wr => ∃ z : Nat, 1 ≤ z ∧ z ≤ 4 ∧ i = .int .i64 z ∧ (∀ z' : Nat, 1 ≤ z' → z' < z → rtextB (n0 * 16 + n1) (n2 * 16 + n3) z' ≠ a :: b :: c :: d :: e :: f :: r) ∧ Blk wr (w.heap.size + 1) 62 [.int .i64 (n0 : Int), .int .i64 (n1 : Int), .int .i64 (n2 : Int), .int .i64 (n3 : Int)] ∧ Blk wr w.heap.size 29 [.int .i64 0, .int .i64 0, .int .i64 0] ∧ Keeps [] w wr) (fun i _ => 4 - (intOf i).toNat)
      case atStart => exact ⟨1, by omega, by omega, rfl, by intro z' h1 h2; omega, hn, hd, kw⟩
      case round =>
        obtain ⟨z, hz1, hz4, rfl, hno, hn', hd', kw'⟩ := hrel
        have HNO := Lib.hid hno; clear hno
        by_cases hz3 : z ≤ 3
        · have hb1 := hn'.cell 0
          have hb2 := hn'.cell 1
          have hb3 := hn'.cell 2
          have hb4 := hn'.cell 3
          simp only [List.getElem?_cons_zero, List.getElem?_cons_succ] at hb1 hb2 hb3 hb4
          have HT := Lib.hid (fun w => rtext_c (n0 * 16 + n1) (n2 * 16 + n3) (by omega) (by omega) z (by omega) w)
          simp only [Int.natCast_add, Int.natCast_mul, Int.cast_ofNat_Int] at HT
          obtain ⟨X, hX⟩ : ∃ X, rtextB (n0 * 16 + n1) (n2 * 16 + n3) z = X := ⟨_, rfl⟩
          rw [hX] at HT
          have hbN := Blk.new wr 29 [.int .i64 ((n0 : Int) * 16 + n1), .int .i64 ((n2 : Int) * 16 + n3), .int .i64 z]
          have hd2 := hd'.alloc (.cells #[.int .i64 ((n0 : Int) * 16 + n1), .int .i64 ((n2 : Int) * 16 + n3), .int .i64 z] 29)
          have hn2 := hn'.alloc (.cells #[.int .i64 ((n0 : Int) * 16 + n1), .int .i64 ((n2 : Int) * 16 + n3), .int .i64 z] 29)
          have kw2 := kw'.alloc1 (.cells #[.int .i64 ((n0 : Int) * 16 + n1), .int .i64 ((n2 : Int) * 16 + n3), .int .i64 z] 29)
          have HX := Lib.hid hX; clear hX
          go_wp2_with (fail)
          refine (HT.out _).mono ?_
          rintro e' w5 ⟨rfl, k5⟩
          have hbN5 := hbN.keep k5 (by simp)
          have hd5 := hd2.keep k5 (by simp)
          have hn5 := hn2.keep k5 (by simp)
          have kw5 := kw2.trans k5 (by simp)
          have hlt := hd'.lt
          clear hbN hd2 hn2 kw2 k5 hn' hd' kw'
          by_cases hXs : X = s
          · have hXs' : (X == s) = true := by simp [hXs]
            have hraw : parseRaw s = some (16 * n0 + n1, 16 * n2 + n3, z) := by
              rw [HS.out]
              exact raw_some H0.out H1.out H2.out H3.out ⟨hz1, hz3⟩ (by rw [HX.out, hXs, HS.out])
            have HRAW := Lib.hid hraw; clear hraw
            have HXS := Lib.hid hXs; clear hXs
            have c0 := hd5.cell 0
            have c1 := hd5.cell 1
            have c2 := hd5.cell 2
            have f0 := hd5.frozen (i := 0) (by simp)
            have f1 := hd5.frozen (i := 1) (by simp)
            have f2 := hd5.frozen (i := 2) (by simp)
            have d0 := hbN5.cell 0
            have d1 := hbN5.cell 1
            have d2 := hbN5.cell 2
            simp only [List.getElem?_cons_zero, List.getElem?_cons_succ] at c0 c1 c2 d0 d1 d2
            have hmm0 : ((16 * n0 + n1 : Nat) : Int) = (n0 : Int) * 16 + n1 := by omega
            have hmm1 : ((16 * n2 + n3 : Nat) : Int) = (n2 : Int) * 16 + n3 := by omega
            have HM0 := Lib.hid hmm0; have HM1 := Lib.hid hmm1; clear hmm0 hmm1
            go_wp2_with (fail)
            exact bodyPost_ret (v := .tuple #[.agg #[.int .i64 ((n0 : Int) * 16 + n1), .int .i64 ((n2 : Int) * 16 + n3), .int .i64 z], .bool true]) (by simp [results, Try.results20, go_sem, c0, c1, c2]) rfl ⟨by rw [HRAW.out, rparseV, HM0.out, HM1.out], ((kw5.set1 _ _ (by simp)).set1 _ _ (by simp)).set1 _ _ (by simp)⟩
          · have hXs' : (X == s) = false := by simp [hXs]
            have HXS := Lib.hid hXs; clear hXs
            go_wp2_with (fail)
            go_roundw
            case rel =>
              have hall : ∀ z' : Nat, 1 ≤ z' → z' < z + 1 → rtextB (n0 * 16 + n1) (n2 * 16 + n3) z' ≠ a :: b :: c :: d :: e :: f :: r := by
                intro z' h1 h2
                by_cases ee : z' = z
                · subst ee; rw [HX.out, ← HS.out]; exact HXS.out
                · exact HNO.out z' h1 (by omega)
              first
                | exact ⟨z + 1, by omega, by omega, by go_num, hall, hn5, hd5, kw5⟩
                | ((repeat apply Exists.intro); exact ⟨⟨z + 1, by omega, by omega, by go_num, hall, hn5, hd5, kw5⟩, rfl⟩)
            case measure => simp [intOf]; omega
        · obtain rfl : z = 4 := by omega
          have hraw : parseRaw s = none := by
            rw [HS.out]
            exact raw_none H0.out H1.out H2.out H3.out (fun z h1 h2 => HNO.out z h1 (by omega))
          have HRAW := Lib.hid hraw; clear hraw
          have c0 := hd'.cell 0
          have c1 := hd'.cell 1
          have c2 := hd'.cell 2
          have f0 := hd'.frozen (i := 0) (by simp)
          have f1 := hd'.frozen (i := 1) (by simp)
          have f2 := hd'.frozen (i := 2) (by simp)
          simp only [List.getElem?_cons_zero, List.getElem?_cons_succ] at c0 c1 c2
          clear kw
          have kw := kw'
          go_wp2_with (fail)
          exact bodyPost_ret (v := rparseV none) (by simp [results, Try.results20, go_sem, c0, c1, c2, rparseV]) rfl ⟨by rw [HRAW.out], ((kw.set1 _ _ (by simp)).set1 _ _ (by simp)).set1 _ _ (by simp)⟩
end Go.Proofs.Ytlcgdndaailjpaa.Dia
