/- The law package's great and the document's example of layer 13. -/
import Derived.Test.YtnbeebagblkkfaaTab2
namespace Go.Proofs.Ytnbeebagblkkfaa.Tab
set_option linter.unusedVariables false
set_option linter.unusedSimpArgs false
open Go.RowKit Q Same

set_option maxHeartbeats 400000 in
theorem great13_c (A : Value) (t : Tb) (B1 : Nat) (w : World) (ht : Tbl w B1 A t) (hs : Small t) :
    Calls Try.prog 8 #[A] w (GreatPost t 40 200 2000 w) := by
  have HG := Lib.hid (great_c A t 40 200 2000 (by omega) (by omega) (by omega) B1 w ht hs)
  obtain ⟨A, ca, rfl, ha1, ha2⟩ := ht.form
  go_enter Try.func8, Try.ntmps8
  go_wp2_with (fail)
  refine HG.out.mono ?_
  rintro e w1 ⟨b, rfl, hb, m, rfl⟩
  have HB := Lib.hid hb; clear hb
  go_wp2_with (fail)
  go_ret
  exact ⟨b, rfl, HB.out, m, rfl⟩

def exA : Tb := [[[97], [98]], [[99], [100]]]
def exB : Tb := [[[97], [99]], [[98], [100]]]
theorem ex_turn : turn exA = exB := rfl
theorem ex_even : evenT exA = true := rfl
theorem ex_even2 : evenT exB = true := rfl

/-- A table of two records of two fields, laid in three blocks. -/
theorem tbl_lit (w : World) (a b c d : List UInt8) :
    Tbl (((w.alloc (.cells #[sv a, sv b] 9)).alloc (.cells #[sv c, sv d] 9)).alloc (.cells #[.slice (some ⟨w.heap.size, 0, none⟩) 2 2, .slice (some ⟨w.heap.size + 1, 0, none⟩) 2 2] 33)) (w.heap.size + 3)
      (.slice (some ⟨w.heap.size + 2, 0, none⟩) 2 2) [[a, b], [c, d]] := by
  have o1 := own_lit w 9 [sv a, sv b] (by simp [maxLen])
  have o2 := own_lit (w.alloc (.cells #[sv a, sv b] 9)) 9 [sv c, sv d] (by simp [maxLen])
  have o3 := own_lit ((w.alloc (.cells #[sv a, sv b] 9)).alloc (.cells #[sv c, sv d] 9)) 33 [.slice (some ⟨w.heap.size, 0, none⟩) 2 2, .slice (some ⟨w.heap.size + 1, 0, none⟩) 2 2] (by simp [maxLen])
  have o1' := (o1.keep (Keeps.alloc [] _ (.cells #[sv c, sv d] 9)) (by simp)).keep (Keeps.alloc [] _ (.cells #[.slice (some ⟨w.heap.size, 0, none⟩) 2 2, .slice (some ⟨w.heap.size + 1, 0, none⟩) 2 2] 33)) (by simp)
  have o2' := o2.keep (Keeps.alloc [] _ (.cells #[.slice (some ⟨w.heap.size, 0, none⟩) 2 2, .slice (some ⟨w.heap.size + 1, 0, none⟩) 2 2] 33)) (by simp)
  refine ⟨[.slice (some ⟨w.heap.size, 0, none⟩) 2 2, .slice (some ⟨w.heap.size + 1, 0, none⟩) 2 2], rfl, ?_, ?_⟩
  · have := o3.rd (B := w.heap.size + 3) (by simp)
    simpa using this
  · intro i u r hu hr
    match i, hu, hr with
    | 0, hu, hr =>
      simp at hu hr; subst hu hr
      have := o1'.rd (B := w.heap.size + 3) (by simp)
      simpa using this
    | 1, hu, hr =>
      simp at hu hr; subst hu hr
      have := o2'.rd (B := w.heap.size + 3) (by simp)
      simpa using this

set_option maxHeartbeats 400000 in
theorem awake_c (w : World) : Calls Try.prog 9 #[] w fun e w' => e = .returned (.bool true) ∧ Below w.heap.size w w' := by
  have ht := tbl_lit w [97] [98] [99] [100]
  have b0 : Below w.heap.size w (((w.alloc (.cells #[sv [97], sv [98]] 9)).alloc (.cells #[sv [99], sv [100]] 9)).alloc (.cells #[.slice (some ⟨w.heap.size, 0, none⟩) 2 2, .slice (some ⟨w.heap.size + 1, 0, none⟩) 2 2] 33)) :=
    (((Below.refl _ _).alloc (Nat.le_refl _) _).alloc (by simp) _).alloc (by simp; omega) _
  go_enter Try.func9, Try.ntmps9
  go_wp2_with (fail)
  refine (turn_c _ exA (w.heap.size + 3) _ ht ex_even (by decide) (by simp) (by decide) (by decide)).mono ?_
  rintro e w1 ⟨v1, vs1, rfl, ho1, hk1⟩
  rw [ex_turn] at ho1
  have b1 : Below w.heap.size w w1 := b0.trans (hk1.below (by simp; omega) (by simp))
  clear hk1 b0 ht
  obtain ⟨A1, c1, hv1, _⟩ := ho1.2.1.form
  subst hv1
  have ht2 := tbl_lit w1 [97] [99] [98] [100]
  have hk2 : Keeps [] w1 (((w1.alloc (.cells #[sv [97], sv [99]] 9)).alloc (.cells #[sv [98], sv [100]] 9)).alloc (.cells #[.slice (some ⟨w1.heap.size, 0, none⟩) 2 2, .slice (some ⟨w1.heap.size + 1, 0, none⟩) 2 2] 33)) :=
    (((Keeps.refl [] _).alloc1 _).alloc1 _).alloc1 _
  have ho2 := ho1.keep hk2 (by simp)
  have b2 := b1.trans (hk2.below b1.size (by simp))
  have hS := sameTable_c _ _ exB exB _ _ _ (ho2.tbl (Nat.le_refl _)) ht2
  rw [decide_eq_true rfl] at hS
  have HS := Lib.hid hS
  have HE := Lib.hid (fun m => even_c _ exB _ _ ((ho2.tbl (Nat.le_refl _)).drewN m))
  rw [ex_even2] at HE
  rw [show exB.length = 2 from rfl] at HS HE ⊢
  clear hS ho1 ho2 ht2
  go_wp2_with (fail)
  refine HS.out.mono ?_
  rintro e w3 ⟨rfl, m3, rfl⟩
  go_wp2_with (fail)
  refine (HE.out _).mono ?_
  rintro e w4 ⟨rfl, rfl⟩
  go_wp2_with (fail)
  go_ret
  exact ⟨rfl, b2.trans (below_of_drewN _ _ m3)⟩
end Go.Proofs.Ytnbeebagblkkfaa.Tab
