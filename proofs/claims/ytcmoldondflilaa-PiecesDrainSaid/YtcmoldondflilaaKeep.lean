/- Small facts that carry a cell, a length, a frame over one step of a region. No program in sight. -/
import Derived.Test.YtcmoldondflilaaLib
import Derived.Deep.RegionHeld3
import Derived.Deep.DeepCutAuto
import Derived.Deep.LoopGhost
import Derived.Deep.DrawnRows
namespace Go.Proofs.Ytcmoldondflilaa.Q
set_option linter.unusedVariables false
set_option linter.unusedSimpArgs false
set_option maxRecDepth 100000
open Go.RowKit

theorem kA {w : World} {p : Addr} {v : Value} (h : w.cell? p = some v) (o : Obj) : (w.alloc o).cell? p = some v := by
  rw [World.cell?_of_block (Below.heap_alloc w o p.block (World.block_lt_of_cell? _ _ h))]
  exact h
theorem kS {w : World} {p : Addr} {v : Value} (h : w.cell? p = some v) {q : Addr} (u : Value) (hne : p.block ≠ q.block) : (w.setCell q u).cell? p = some v := by
  rw [World.cell?_of_block (Below.heap_setCell w q u p.block hne)]
  exact h
theorem kC {F : List Nat} {w w' : World} (k : Keeps F w w') {p : Addr} {v : Value} (h : w.cell? p = some v) (hF : p.block ∉ F) : w'.cell? p = some v := by
  rw [k.cell (World.block_lt_of_cell? _ _ h) hF]
  exact h
theorem kAA {w : World} {p : Addr} {v : Value} {o : Obj} (h : (w.alloc o).cell? p = some v) (hp : p.block + 1 < (w.alloc o).heap.size) (o' : Obj) : (w.alloc o').cell? p = some v := by
  rw [World.cell?_of_block (Below.heap_alloc w o p.block (by simp at hp; omega))] at h
  exact kA h o'
theorem lAA {w : World} {n : Nat} {o : Obj} (h : n < (w.alloc o).heap.size) (o' : Obj) : n < (w.alloc o').heap.size := by simpa using h
theorem lA {w : World} {n : Nat} (h : n < w.heap.size) (o : Obj) : n < (w.alloc o).heap.size := by simp; omega
theorem lS {w : World} {n : Nat} (h : n < w.heap.size) (q : Addr) (u : Value) : n < (w.setCell q u).heap.size := by simpa using h
theorem lC {F : List Nat} {w w' : World} {n : Nat} (k : Keeps F w w') (h : n < w.heap.size) : n < w'.heap.size := Nat.lt_of_lt_of_le h k.size
/-- One step of a region, over the frame 'Below B a'. -/
theorem bD {B : Nat} {a w : World} (h : Below B a w) : Below B a w.drew := ⟨h.os, h.tape, h.output, h.size, h.block⟩
theorem bA {B : Nat} {a w : World} (hB : B ≤ a.heap.size) (h : Below B a w) (o : Obj) : Below B a (w.alloc o) := h.alloc (by have := h.size; omega) o
theorem bS {B : Nat} {a w : World} (h : Below B a w) (p : Addr) (u : Value) (hp : B ≤ p.block) : Below B a (w.setCell p u) := h.setCell (p := p) hp u
/-- A store into the block at the frame's edge. -/
theorem bSe {B o : Nat} {a w : World} (h : Below B a w) (u : Value) : Below B a (w.setCell ⟨B, o, none⟩ u) := h.setCell (p := ⟨B, o, none⟩) (Nat.le_refl _) u
theorem bC {B : Nat} {a w w' : World} (hB : B ≤ a.heap.size) (k : Keeps [] w w') (h : Below B a w) : Below B a w' :=
  h.trans (k.below (by have := h.size; omega) (by simp))
theorem bAA {B : Nat} {a w : World} {o : Obj} (hB : B < a.heap.size) (h : Below B a (w.alloc o)) (o' : Obj) : Below B a (w.alloc o') :=
  ⟨h.os, h.tape, h.output, by simpa using h.size, fun k hk => by
    have hs := h.size
    simp only [World.size_alloc] at hs
    have h1 := h.block k hk
    rw [Below.heap_alloc w o k (by omega)] at h1
    rw [Below.heap_alloc w o' k (by omega)]
    exact h1⟩
/-- A block that is new since 'a' is none of a's. -/
theorem Keeps.setNew {F : List Nat} {a w : World} (h : Keeps F a w) (p : Addr) (u : Value) (hp : a.heap.size ≤ p.block) : Keeps F a (w.setCell p u) :=
  h.set1 p u (fun hl => by omega)
theorem Keeps.then_ {F : List Nat} {a b c : World} (h : Keeps F a b) (k : Keeps [] b c) : Keeps F a c := h.trans k (by simp)
end Go.Proofs.Ytcmoldondflilaa.Q
