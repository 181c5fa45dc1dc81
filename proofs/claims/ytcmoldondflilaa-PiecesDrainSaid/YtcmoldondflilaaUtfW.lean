/- The document's answer for layer 2: code points laid, sequences' lengths, whole texts. -/
import Derived.Test.YtcmoldondflilaaDia
import Derived.Test.YtcmoldondflilaaKeep
import Derived.Test.YtcmoldondflilaaUtfPlain
import Derived.Outline
import Derived.Deep.QuietTactic
import Derived.BigQuiet
import Derived.Deep.RegionLaw
import Derived.BigRegion
import Derived.Deep.DeepCutAuto
namespace Go.Proofs.Ytcmoldondflilaa.UtfW
set_option linter.unusedVariables false
set_option linter.unusedSimpArgs false
set_option maxRecDepth 100000
open Go.RowKit Q Mach Dia Utf
attribute [local go_sem ↓] Go.wp_at_zero Go.wp_at_succ

/-- string([]byte{..}), the bytes laid in a block of their own. -/
theorem run_strL {P : Program} {t e s : TypeId} (ht : P.underlying t = some (.slice e)) (he : P.underlying e = some (.int .u8)) (hs : P.underlying s = some .string) (l : List UInt8) (hl : l.length ≤ maxLen) (w : World) :
    (convert t s (.slice (some ⟨w.heap.size, 0, none⟩) l.length l.length)).run P (w.alloc (.cells (l.map bv).toArray e)) = .ok (sv l) (w.alloc (.cells (l.map bv).toArray e)) := by
  have h := (own_lit w e (l.map bv) (by simpa using hl)).rd (B := w.heap.size + 1) (by simp)
  rw [List.length_map] at h
  exact run_toString h ht he hs
theorem byteOf_bv {n : Int} (h0 : 0 ≤ n) (h : n ≤ 255) : bv (Utf.byteOf n) = .int .u8 n := by
  show Value.int .u8 ((Utf.byteOf n).toNat : Int) = _
  rw [byteOf_toNat h0 h]
  congr 1
  omega
set_option maxHeartbeats 1000000 in
theorem put_c (c : Int) (h0 : 0 ≤ c) (h9 : c ≤ 1114111) (w : World) : Calls Try.prog 76 #[.int .i64 c] w fun e w' => e = .returned (sv (Utf.put c)) ∧ Keeps [] w w' := by
  unfold Utf.put
  by_cases h1 : c < 128
  · rw [if_pos h1]
    have hw : IntKind.u8.wrap c = c := by rw [IntKind.wrap_u8]; omega
    have hr := run_strL (P := Try.prog) Try.underlying60 Try.underlying5 Try.underlying9 [Utf.byteOf (c)] (by simp [maxLen]) w
    rw [show ([Utf.byteOf (c)] : List UInt8).length = 1 from rfl] at hr
    simp only [List.map_cons, List.map_nil, byteOf_bv (by omega : 0 ≤ c) (by omega)] at hr
    go_enter Try.func76, Try.ntmps76
    go_wp2_with (refine wpList_convert hr _ rfl rfl rfl ?_)
    go_ret
    exact ⟨rfl, Keeps.alloc [] w _⟩
  rw [if_neg h1]
  by_cases h2 : c < 2048
  · rw [if_pos h2]
    have hr := run_strL (P := Try.prog) Try.underlying60 Try.underlying5 Try.underlying9 [Utf.byteOf (192 + c / 64), Utf.byteOf (128 + c % 64)] (by simp [maxLen]) w
    rw [show ([Utf.byteOf (192 + c / 64), Utf.byteOf (128 + c % 64)] : List UInt8).length = 2 from rfl] at hr
    simp only [List.map_cons, List.map_nil, byteOf_bv (by omega : 0 ≤ 192 + c / 64) (by omega), byteOf_bv (by omega : 0 ≤ 128 + c % 64) (by omega)] at hr
    go_enter Try.func76, Try.ntmps76
    go_wp2_with (refine wpList_convert hr _ rfl rfl rfl ?_)
    go_ret
    exact ⟨rfl, Keeps.alloc [] w _⟩
  rw [if_neg h2]
  by_cases h3 : c < 65536
  · rw [if_pos h3]
    have hr := run_strL (P := Try.prog) Try.underlying60 Try.underlying5 Try.underlying9 [Utf.byteOf (224 + c / 4096), Utf.byteOf (128 + c / 64 % 64), Utf.byteOf (128 + c % 64)] (by simp [maxLen]) w
    rw [show ([Utf.byteOf (224 + c / 4096), Utf.byteOf (128 + c / 64 % 64), Utf.byteOf (128 + c % 64)] : List UInt8).length = 3 from rfl] at hr
    simp only [List.map_cons, List.map_nil, byteOf_bv (by omega : 0 ≤ 224 + c / 4096) (by omega), byteOf_bv (by omega : 0 ≤ 128 + c / 64 % 64) (by omega), byteOf_bv (by omega : 0 ≤ 128 + c % 64) (by omega)] at hr
    go_enter Try.func76, Try.ntmps76
    go_wp2_with (refine wpList_convert hr _ rfl rfl rfl ?_)
    go_ret
    exact ⟨rfl, Keeps.alloc [] w _⟩
  rw [if_neg h3]
  have hr := run_strL (P := Try.prog) Try.underlying60 Try.underlying5 Try.underlying9 [Utf.byteOf (240 + c / 262144), Utf.byteOf (128 + c / 4096 % 64), Utf.byteOf (128 + c / 64 % 64), Utf.byteOf (128 + c % 64)] (by simp [maxLen]) w
  rw [show ([Utf.byteOf (240 + c / 262144), Utf.byteOf (128 + c / 4096 % 64), Utf.byteOf (128 + c / 64 % 64), Utf.byteOf (128 + c % 64)] : List UInt8).length = 4 from rfl] at hr
  simp only [List.map_cons, List.map_nil, byteOf_bv (by omega : 0 ≤ 240 + c / 262144) (by omega), byteOf_bv (by omega : 0 ≤ 128 + c / 4096 % 64) (by omega), byteOf_bv (by omega : 0 ≤ 128 + c / 64 % 64) (by omega), byteOf_bv (by omega : 0 ≤ 128 + c % 64) (by omega)] at hr
  go_enter Try.func76, Try.ntmps76
  go_wp2_with (refine wpList_convert hr _ rfl rfl rfl ?_)
  go_ret
  exact ⟨rfl, Keeps.alloc [] w _⟩
end Go.Proofs.Ytcmoldondflilaa.UtfW
