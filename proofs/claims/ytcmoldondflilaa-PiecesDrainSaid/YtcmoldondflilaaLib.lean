/- General words for memory, used by all walks of this seat: blocks known whole, owned slices, slices that are read, frames; and the law of append over them. No program in sight. -/
import Derived.WalkKit
import Derived.WalkSpells
import Derived.WalkLawsBesides
import Derived.Lib.Hide
import Derived.Deep.Draws
import Derived.Lib.AppendStr
import Derived.Laws.IdiomStrings
namespace Go.Proofs.Ytcmoldondflilaa.Q
set_option linter.unusedVariables false
set_option linter.unusedSimpArgs false
set_option maxRecDepth 100000
open Go.RowKit

/-- A byte's cell; a string's value. -/
abbrev bv (b : UInt8) : Value := .int .u8 (b.toNat : Int)
abbrev sv (l : List UInt8) : Value := .string ⟨l.toArray⟩

theorem ret_bool {a b : Bool} (h : a = b) : Ending.returned (.bool a) = .returned (.bool b) := by rw [h]
theorem ret_int {k : IntKind} {a b : Int} (h : a = b) : Ending.returned (.int k a) = .returned (.int k b) := by rw [h]
theorem ret_str {a b : List UInt8} (h : a = b) : Ending.returned (sv a) = .returned (sv b) := by rw [h]

theorem cat_mk (x y : List UInt8) : (ByteArray.mk x.toArray ++ ByteArray.mk y.toArray) = ⟨(x ++ y).toArray⟩ := by
  rw [ByteArray.mk_append_mk]

/-- No cell below n is frozen. -/
def NoFz (fz : Nat × Nat) (n : Nat) : Prop := ∀ o, o < n → ¬ (fz.1 ≤ o ∧ o < fz.2)

/-- Block g is just the cells cs, of element type e, none of them frozen. -/
def Blk (w : World) (g : Nat) (e : TypeId) (cs : List Value) : Prop := ∃ fz, w.heap[g]? = some (.cells cs.toArray e fz) ∧ NoFz fz cs.length

/-- What a call leaves: blocks outside F are as they were. -/
structure Keeps (F : List Nat) (w w' : World) : Prop where
  os : w'.os = w.os
  tape : w'.tape = w.tape
  output : w'.output = w.output
  size : w.heap.size ≤ w'.heap.size
  block : ∀ k, k < w.heap.size → k ∉ F → w'.heap[k]? = w.heap[k]?

theorem Keeps.refl (F : List Nat) (w : World) : Keeps F w w := ⟨rfl, rfl, rfl, Nat.le_refl _, fun _ _ _ => rfl⟩
theorem Keeps.drewN (F : List Nat) (w : World) (n : Nat) : Keeps F w (w.drewN n) := ⟨rfl, rfl, rfl, Nat.le_refl _, fun _ _ _ => rfl⟩
theorem Keeps.drew (F : List Nat) (w : World) : Keeps F w w.drew := ⟨rfl, rfl, rfl, Nat.le_refl _, fun _ _ _ => rfl⟩
theorem Keeps.trans {F F' : List Nat} {a b c : World} (h : Keeps F a b) (k : Keeps F' b c) (hF : ∀ x ∈ F', x < a.heap.size → x ∈ F) : Keeps F a c :=
  ⟨k.os.trans h.os, k.tape.trans h.tape, k.output.trans h.output, Nat.le_trans h.size k.size,
    fun i hi hn => (k.block i (Nat.lt_of_lt_of_le hi h.size) (fun hm => hn (hF i hm hi))).trans (h.block i hi hn)⟩
theorem Keeps.sub {F F' : List Nat} {a b : World} (h : Keeps F a b) (hF : ∀ x ∈ F, x < a.heap.size → x ∈ F') : Keeps F' a b :=
  ⟨h.os, h.tape, h.output, h.size, fun i hi hn => h.block i hi (fun hm => hn (hF i hm hi))⟩
theorem Keeps.alloc (F : List Nat) (w : World) (o : Obj) : Keeps F w (w.alloc o) := ⟨rfl, rfl, rfl, by simp, fun k hk _ => Below.heap_alloc w o k hk⟩
theorem Keeps.setCell (w : World) (p : Addr) (u : Value) : Keeps [p.block] w (w.setCell p u) :=
  ⟨rfl, rfl, rfl, by simp, fun k _ hn => Below.heap_setCell w p u k (by simpa using hn)⟩
theorem Keeps.setRow (w : World) (g : Nat) (cs : Array Value) : Keeps [g] w (w.setRow g cs) :=
  ⟨rfl, rfl, rfl, by simp, fun k _ hn => setRow_other w g k cs (by simpa using hn)⟩
theorem Keeps.set1 {F : List Nat} {a w : World} (h : Keeps F a w) (p : Addr) (u : Value) (hp : p.block < a.heap.size → p.block ∈ F) : Keeps F a (w.setCell p u) :=
  h.trans (Keeps.setCell w p u) (by intro x hx hl; simp at hx; subst hx; exact hp hl)
theorem Keeps.drewN1 {F : List Nat} {a w : World} (h : Keeps F a w) (n : Nat) : Keeps F a (w.drewN n) := ⟨h.os, h.tape, h.output, h.size, h.block⟩
theorem Keeps.drew1 {F : List Nat} {a w : World} (h : Keeps F a w) : Keeps F a w.drew := ⟨h.os, h.tape, h.output, h.size, h.block⟩
theorem Keeps.alloc1 {F : List Nat} {a w : World} (h : Keeps F a w) (o : Obj) : Keeps F a (w.alloc o) := h.trans (Keeps.alloc [] w o) (by simp)
theorem Keeps.below {F : List Nat} {B : Nat} {w w' : World} (h : Keeps F w w') (hB : B ≤ w.heap.size) (hF : ∀ x ∈ F, B ≤ x) : Below B w w' :=
  ⟨h.os, h.tape, h.output, h.size, fun k hk => h.block k (by omega) (fun hm => by have := hF k hm; omega)⟩
theorem Keeps.of_below {w w' : World} (h : Below w.heap.size w w') (F : List Nat) : Keeps F w w' := ⟨h.os, h.tape, h.output, h.size, fun k hk _ => h.block k hk⟩
theorem Keeps.cell {F : List Nat} {w w' : World} (h : Keeps F w w') {p : Addr} (hp : p.block < w.heap.size) (hn : p.block ∉ F) : w'.cell? p = w.cell? p :=
  World.cell?_of_block (h.block p.block hp hn)

theorem below_drewN {B : Nat} {a w : World} (h : Below B a w) (n : Nat) : Below B a (w.drewN n) := ⟨h.os, h.tape, h.output, h.size, h.block⟩
theorem below_of_drewN (B : Nat) (w : World) (n : Nat) : Below B w (w.drewN n) := ⟨rfl, rfl, rfl, Nat.le_refl _, fun _ _ => rfl⟩

section blk
variable {w w' : World} {g : Nat} {e : TypeId} {cs : List Value}
theorem Blk.lt (h : Blk w g e cs) : g < w.heap.size := by
  obtain ⟨fz, hg, _⟩ := h
  exact (Array.getElem?_eq_some_iff.1 hg).1
theorem Blk.cell (h : Blk w g e cs) (i : Nat) : w.cell? ⟨g, i, none⟩ = cs[i]? := by
  obtain ⟨fz, hg, _⟩ := h
  rw [cell_of_row w g i _ e fz hg]
  simp
theorem Blk.cell_of (h : Blk w g e cs) {i : Nat} {u : Value} (hi : cs[i]? = some u) : w.cell? ⟨g, i, none⟩ = some u := (h.cell i).trans hi
theorem Blk.frozen (h : Blk w g e cs) {i : Nat} (hi : i < cs.length) : w.frozen? ⟨g, i, none⟩ = false := by
  obtain ⟨fz, hg, hn⟩ := h
  have := hn i hi
  simp only [World.frozen?, hg, Bool.and_eq_false_iff, decide_eq_false_iff_not]
  by_cases h1 : fz.1 ≤ i
  · exact .inr (fun h2 => this ⟨h1, h2⟩)
  · exact .inl h1
theorem Blk.new (w : World) (e : TypeId) (cs : List Value) : Blk (w.alloc (.cells cs.toArray e)) w.heap.size e cs :=
  ⟨(0, 0), heap_alloc_new w _, fun o _ h => by simp at h⟩
theorem Blk.new_mark (w : World) (e : TypeId) (cs : List Value) : Blk (w.alloc (.cells cs.toArray e (cs.length, cs.length + 1))) w.heap.size e cs :=
  ⟨_, heap_alloc_new w _, fun o ho h => by simp at h; omega⟩
theorem Blk.keep (h : Blk w g e cs) {F : List Nat} (k : Keeps F w w') (hF : g ∉ F) : Blk w' g e cs := by
  have hl := h.lt
  obtain ⟨fz, hg, hn⟩ := h
  exact ⟨fz, (k.block g hl hF).trans hg, hn⟩
theorem Blk.below (h : Blk w g e cs) {B : Nat} (k : Below B w w') (hF : g < B) : Blk w' g e cs := by
  obtain ⟨fz, hg, hn⟩ := h
  exact ⟨fz, (k.block g hF).trans hg, hn⟩
theorem Blk.alloc (h : Blk w g e cs) (o : Obj) : Blk (w.alloc o) g e cs := h.keep (Keeps.alloc [] w o) (by simp)
theorem Blk.drewN (h : Blk w g e cs) (n : Nat) : Blk (w.drewN n) g e cs := h
theorem Blk.drew (h : Blk w g e cs) : Blk w.drew g e cs := h
theorem Blk.set_ (h : Blk w g e cs) (i : Nat) (u : Value) : Blk (w.setCell ⟨g, i, none⟩ u) g e (cs.set i u) := by
  obtain ⟨fz, hg, hn⟩ := h
  refine ⟨fz, ?_, by simpa using hn⟩
  rw [setCell_eq_setRow w g i _ e fz u hg, setRow_heap w g _ _ e fz hg]
  simp
theorem Blk.far (h : Blk w g e cs) {p : Addr} (hp : g ≠ p.block) (u : Value) : Blk (w.setCell p u) g e cs := h.keep (Keeps.setCell w p u) (by simpa using hp)
theorem Blk.setRow (h : Blk w g e cs) (ds : List Value) (hl : ds.length = cs.length) : Blk (w.setRow g ds.toArray) g e ds := by
  obtain ⟨fz, hg, hn⟩ := h
  exact ⟨fz, setRow_heap w g _ _ e fz hg, by rw [hl]; exact hn⟩
theorem Blk.ne_ {g' : Nat} {e' : TypeId} {cs' : List Value} (h : Blk w g e cs) (h' : Blk w g' e' cs') (hne : e ≠ e') : g ≠ g' := by
  rintro rfl
  obtain ⟨fz, hg, _⟩ := h
  obtain ⟨fz', hg', _⟩ := h'
  rw [hg] at hg'
  injection hg' with hg'
  injection hg' with _ ht
  exact hne ht
theorem Blk.same {cs' : List Value} (h : Blk w g e cs) (h' : Blk w g e cs') : cs = cs' := by
  obtain ⟨fz, hg, _⟩ := h
  obtain ⟨fz', hg', _⟩ := h'
  rw [hg] at hg'
  injection hg' with hg'
  injection hg' with hc
  simpa using hc
end blk

/-- The blocks of a slice's value. -/
def blkOf : Value → List Nat
  | .slice (some a) _ _ => [a.block]
  | _ => []

/-- The slice v, of n elements of 'size' cells each, owns the cells xs: nil, or a stretch of a block from 'base' on, none of it frozen. -/
def Own (w : World) (base : Nat) (e : TypeId) (size : Nat) (v : Value) (n : Nat) (xs : List Value) : Prop :=
  xs.length = n * size ∧ ((v = .slice none 0 0 ∧ n = 0) ∨
    ∃ g pre post cap, v = .slice (some ⟨g, pre.length, none⟩) n cap ∧ base ≤ g ∧ Blk w g e (pre ++ xs ++ post) ∧ n ≤ cap ∧ cap ≤ maxLen ∧ cap * size ≤ (xs ++ post).length)

/-- The slice v, of n elements, reads as the cells xs, all below block B. -/
def Rd (w : World) (B : Nat) (size : Nat) (v : Value) (n : Nat) (xs : List Value) : Prop :=
  ∃ A c, v = .slice A n c ∧ n ≤ c ∧ c ≤ maxLen ∧ xs.length = n * size ∧ (xs = [] ∨ ∃ b off, A = some ⟨b, off, none⟩ ∧ b < B ∧ ∀ j u, xs[j]? = some u → w.cell? ⟨b, off + j, none⟩ = some u)

section rd
variable {w w' : World} {B size n : Nat} {v : Value} {xs : List Value}
theorem Rd.keep (h : Rd w B size v n xs) (hk : ∀ p : Addr, p.block < B → w'.cell? p = w.cell? p) : Rd w' B size v n xs := by
  obtain ⟨A, c, hv, hn, hc, hl, hx⟩ := h
  refine ⟨A, c, hv, hn, hc, hl, hx.imp id ?_⟩
  rintro ⟨b, off, hA, hb, hcell⟩
  exact ⟨b, off, hA, hb, fun j u hu => (hk _ hb).trans (hcell j u hu)⟩
theorem Rd.below (h : Rd w B size v n xs) {B' : Nat} (hb : Below B' w w') (hB : B ≤ B') : Rd w' B size v n xs := h.keep fun _ hp => hb.cell (by omega)
theorem Rd.more (h : Rd w B size v n xs) {B' : Nat} (hB : B ≤ B') : Rd w B' size v n xs := by
  obtain ⟨A, c, hv, hn, hc, hl, hx⟩ := h
  refine ⟨A, c, hv, hn, hc, hl, hx.imp id ?_⟩
  rintro ⟨b, off, hA, hb, hcell⟩
  exact ⟨b, off, hA, by omega, hcell⟩
theorem Rd.keepF (h : Rd w B size v n xs) {F : List Nat} (k : Keeps F w w') (hF : ∀ x ∈ blkOf v, x ∉ F) : Rd w' B size v n xs := by
  obtain ⟨A, c, hv, hn, hc, hl, hx⟩ := h
  refine ⟨A, c, hv, hn, hc, hl, hx.imp id ?_⟩
  rintro ⟨b, off, hA, hb, hcell⟩
  refine ⟨b, off, hA, hb, fun j u hu => ?_⟩
  have h1 := hcell j u hu
  rw [k.cell (World.block_lt_of_cell? _ _ h1) (hF b (by rw [hv, hA]; simp [blkOf]))]
  exact h1
theorem Rd.toSize (h : Rd w B size v n xs) : Rd w w.heap.size size v n xs := by
  obtain ⟨A, c, hv, hn, hc, hl, hx⟩ := h
  refine ⟨A, c, hv, hn, hc, hl, ?_⟩
  cases xs with
  | nil => exact .inl rfl
  | cons y ys =>
    rcases hx with hx | ⟨b, off, hA, _, hcell⟩
    · cases hx
    · exact .inr ⟨b, off, hA, World.block_lt_of_cell? _ _ (hcell 0 y rfl), hcell⟩
theorem Rd.drewN (h : Rd w B size v n xs) (k : Nat) : Rd (w.drewN k) B size v n xs := h
theorem Rd.len (h : Rd w B size v n xs) : xs.length = n * size := by obtain ⟨A, c, hv, hn, hc, hl, hx⟩ := h; exact hl
theorem Rd.max (h : Rd w B size v n xs) : n ≤ maxLen := by obtain ⟨A, c, hv, hn, hc, hl, hx⟩ := h; omega
/-- Where there is anything to read, it lies below B. -/
theorem Rd.off (h : Rd w B size v n xs) : xs = [] ∨ ∀ x ∈ blkOf v, x < B := by
  obtain ⟨A, c, hv, hn, hc, hl, hx⟩ := h
  rcases hx with hx | ⟨b, off, rfl, hb, _⟩
  · exact .inl hx
  · subst hv
    exact .inr (by simpa [blkOf] using hb)
/-- A nil slice. -/
theorem Rd.nil_ (w : World) (B size : Nat) : Rd w B size (.slice none 0 0) 0 [] := ⟨none, 0, rfl, Nat.le_refl _, by simp [maxLen], by simp, .inl rfl⟩
end rd

section own
variable {w w' : World} {base size n : Nat} {e : TypeId} {v : Value} {xs : List Value}
theorem Own.nil_ (w : World) (base : Nat) (e : TypeId) (size : Nat) : Own w base e size (.slice none 0 0) 0 [] := ⟨by simp, .inl ⟨rfl, rfl⟩⟩
theorem Own.len (h : Own w base e size v n xs) : xs.length = n * size := h.1
theorem Own.lt (h : Own w base e size v n xs) : ∀ k ∈ blkOf v, base ≤ k ∧ k < w.heap.size := by
  rcases h.2 with ⟨rfl, _⟩ | ⟨g, pre, post, cap, rfl, hb, hg, _⟩
  · simp [blkOf]
  · simpa [blkOf] using ⟨hb, hg.lt⟩
theorem Own.keep (h : Own w base e size v n xs) {F : List Nat} (k : Keeps F w w') (hF : ∀ x ∈ blkOf v, x ∉ F) : Own w' base e size v n xs := by
  refine ⟨h.1, ?_⟩
  rcases h.2 with hn | ⟨g, pre, post, cap, rfl, hb, hg, rest⟩
  · exact .inl hn
  · exact .inr ⟨g, pre, post, cap, rfl, hb, hg.keep k (hF g (by simp [blkOf])), rest⟩
theorem Own.below (h : Own w base e size v n xs) {B : Nat} (k : Below B w w') (hF : ∀ x ∈ blkOf v, x < B) : Own w' base e size v n xs := by
  refine ⟨h.1, ?_⟩
  rcases h.2 with hn | ⟨g, pre, post, cap, rfl, hb, hg, rest⟩
  · exact .inl hn
  · exact .inr ⟨g, pre, post, cap, rfl, hb, hg.below k (hF g (by simp [blkOf])), rest⟩
theorem Own.allBelow (h : Own w base e size v n xs) (k : Below w.heap.size w w') : Own w' base e size v n xs := h.below k fun x hx => (h.lt x hx).2
theorem Own.base_ (h : Own w base e size v n xs) {b' : Nat} (hb : ∀ x ∈ blkOf v, b' ≤ x) : Own w b' e size v n xs := by
  refine ⟨h.1, ?_⟩
  rcases h.2 with hn | ⟨g, pre, post, cap, rfl, _, hg, rest⟩
  · exact .inl hn
  · exact .inr ⟨g, pre, post, cap, rfl, hb g (by simp [blkOf]), hg, rest⟩
theorem Own.less (h : Own w base e size v n xs) {b' : Nat} (hb : b' ≤ base) : Own w b' e size v n xs := h.base_ fun x hx => Nat.le_trans hb (h.lt x hx).1
theorem Own.rd (h : Own w base e size v n xs) {B : Nat} (hB : w.heap.size ≤ B) : Rd w B size v n xs := by
  rcases h.2 with ⟨rfl, rfl⟩ | ⟨g, pre, post, cap, rfl, hb, hg, hn, hc, hf⟩
  · obtain rfl : xs = [] := List.eq_nil_of_length_eq_zero (by simpa using h.1)
    exact Rd.nil_ w B size
  · refine ⟨_, cap, rfl, hn, hc, h.1, .inr ⟨g, pre.length, rfl, Nat.lt_of_lt_of_le hg.lt hB, fun j u hu => hg.cell_of ?_⟩⟩
    rw [List.append_assoc, List.getElem?_append_right (by omega)]
    have hj : j < xs.length := (List.getElem?_eq_some_iff.1 hu).1
    rw [List.getElem?_append_left (by omega)]
    simpa using hu
theorem Own.form (h : Own w base e size v n xs) : ∃ A c, v = .slice A n c ∧ n ≤ c ∧ c ≤ maxLen := by
  rcases h.2 with ⟨rfl, rfl⟩ | ⟨g, pre, post, cap, rfl, hb, hg, hn, hc, hf⟩
  · exact ⟨_, _, rfl, Nat.le_refl _, by simp [maxLen]⟩
  · exact ⟨_, _, rfl, hn, hc⟩
/-- An element of what is owned: its cell, and what is owned behind a store. -/
theorem Own.at_ {A : Option Addr} {c k : Nat} (h : Own w base e 1 (.slice A n c) n xs) (hk : k < n) :
    ∃ g off u, A = some ⟨g, off, none⟩ ∧ base ≤ g ∧ g < w.heap.size ∧ xs[k]? = some u ∧ w.cell? ⟨g, off + k, none⟩ = some u ∧ w.frozen? ⟨g, off + k, none⟩ = false ∧ ∀ u', Own (w.setCell ⟨g, off + k, none⟩ u') base e 1 (.slice A n c) n (xs.set k u') := by
  have hl : xs.length = n := by simpa using h.1
  rcases h.2 with ⟨hv, rfl⟩ | ⟨g, pre, post, cap, hv, hb, hg, hn, hc, hf⟩
  · omega
  · injection hv with h1 _ h3
    subst h1 h3
    have hx : (pre ++ xs ++ post)[pre.length + k]? = xs[k]? := by
      rw [List.append_assoc, List.getElem?_append_right (by omega), List.getElem?_append_left (by omega)]
      simp
    have hu : xs[k]? = some (xs[k]'(by omega)) := List.getElem?_eq_getElem (by omega)
    refine ⟨g, pre.length, xs[k]'(by omega), rfl, hb, hg.lt, hu, hg.cell_of (hx.trans hu), hg.frozen (by simp; omega), fun u' => ?_⟩
    refine ⟨by simpa using h.1, .inr ⟨g, pre, post, c, rfl, hb, ?_, hn, hc, by simpa using hf⟩⟩
    have := hg.set_ (pre.length + k) u'
    rwa [List.append_assoc, List.set_append_right _ _ (by omega), List.set_append_left _ _ (by omega), Nat.add_sub_cancel_left, ← List.append_assoc] at this
end own

/-! ### append -/
theorem run_storeCells_nofz (P : Program) (g o : Nat) (t : TypeId) (fz : Nat × Nat) : ∀ (vs : List Value) (i : Nat) (cur : Array Value) (w : World), w.heap[g]? = some (.cells cur t fz) → NoFz fz cur.size → o + i + vs.length ≤ cur.size → (∀ v ∈ vs, v.oneCell' = true) →
    (storeCells ⟨g, o, none⟩ vs i).run P w = .ok () (w.setRow g (cur.toList.take (o + i) ++ vs ++ cur.toList.drop (o + i + vs.length)).toArray)
  | [], i, cur, w, hg, _, _, _ => by
    simp only [storeCells, List.append_nil, List.length_nil, Nat.add_zero, List.take_append_drop, Array.toArray_toList]
    rw [setRow_self w g cur t fz hg]
    rfl
  | v :: rest, i, cur, w, hg, hfz, hl, h1 => by
    have hi : o + i < cur.size := by simp at hl; omega
    have hadd : (⟨g, o, none⟩ : Addr).add i = ⟨g, o + i, none⟩ := Addr.add_lit g o i
    have hcell : w.cell? ⟨g, o + i, none⟩ = some cur[o + i] := by simp [World.cell?, hg, hi]
    have hfro : w.frozen? ⟨g, o + i, none⟩ = false := by
      have := hfz (o + i) hi
      simp only [World.frozen?, hg, Bool.and_eq_false_iff, decide_eq_false_iff_not]
      by_cases h1 : fz.1 ≤ o + i
      · exact .inr (fun h2 => this ⟨h1, h2⟩)
      · exact .inl h1
    have hst : (store ((⟨g, o, none⟩ : Addr).add i) v).run P w = .ok () (w.setRow g (cur.setIfInBounds (o + i) v)) := by
      rw [hadd, run_store P w _ v _ (h1 v (by simp)), hcell]
      simp [hfro, setCell_eq_setRow w g (o + i) cur t fz v hg]
    have ih := run_storeCells_nofz P g o t fz rest (i + 1) (cur.setIfInBounds (o + i) v) (w.setRow g (cur.setIfInBounds (o + i) v)) (setRow_heap w g cur _ t _ hg) (by simpa using hfz) (by simp at hl ⊢; omega) (fun x hx => h1 x (by simp [hx]))
    simp only [storeCells, Sem.run_bind, hst, Result.andThen_ok, ih, setRow_setRow]
    congr 3
    have e := list_seg_step cur.toList (o + i) v rest (by simp at hl ⊢; omega)
    simpa [Array.toList_setIfInBounds, Nat.add_assoc] using e

/-- What is appended: a slice that reads as news, or a string. -/
def Src (P : Program) (w : World) (u e : TypeId) (size : Nat) (x : Value) (m : Nat) (news : List Value) : Prop :=
  news.length = m * size ∧ ((P.underlying u = some (.slice e) ∧ ∃ A c, x = .slice A m c ∧ (news = [] ∨ ∃ b off, A = some ⟨b, off, none⟩ ∧ ∀ j y, news[j]? = some y → w.cell? ⟨b, off + j, none⟩ = some y)) ∨
    (P.underlying u = some .string ∧ size = 1 ∧ ∃ l : List UInt8, x = sv l ∧ m = l.length ∧ news = l.map bv))

theorem Rd.src {P : Program} {w : World} {B size n : Nat} {v : Value} {xs : List Value} {u e : TypeId} (h : Rd w B size v n xs) (hu : P.underlying u = some (.slice e)) : Src P w u e size v n xs := by
  obtain ⟨A, c, hv, hn, hc, hl, hx⟩ := h
  refine ⟨hl, .inl ⟨hu, A, c, hv, hx.imp id ?_⟩⟩
  rintro ⟨b, off, hA, _, hcell⟩
  exact ⟨b, off, hA, hcell⟩
theorem src_string {P : Program} {w : World} {u e : TypeId} (l : List UInt8) (hu : P.underlying u = some .string) : Src P w u e 1 (sv l) l.length (l.map bv) := ⟨by simp, .inr ⟨hu, rfl, l, rfl, rfl, rfl⟩⟩
/-- One element, laid in a block of its own ahead of the append. -/
theorem src_one {P : Program} {u e : TypeId} (w : World) (y : Value) (c : Nat) (hu : P.underlying u = some (.slice e)) : Src P (w.alloc (.cells #[y] e)) u e 1 (.slice (some ⟨w.heap.size, 0, none⟩) 1 c) 1 [y] :=
  ⟨by simp, .inl ⟨hu, _, c, rfl, .inr ⟨w.heap.size, 0, rfl, fun j z hz => by
    match j, hz with
    | 0, hz => simp at hz; subst hz; simp⟩⟩⟩

theorem src_first {P : Program} {w : World} {u e : TypeId} {size m : Nat} {x : Value} {news : List Value} (h : Src P w u e size x m news) (w2 : World) (hw : w2.heap = w.heap) : (Builtin.firstCells size m x).run P w2 = .ok news.toArray w2 := by
  obtain ⟨hl, ⟨_, A, c, rfl, hx⟩ | ⟨_, rfl, l, rfl, rfl, rfl⟩⟩ := h
  · rcases hx with rfl | ⟨b, off, rfl, hc⟩
    · have h0 : m * size = 0 := by simpa using hl.symm
      cases A with
      | none => simp [Builtin.firstCells]
      | some a => simp [Builtin.firstCells, h0, loadCells, loadCellsFrom]
    · have hc2 : ∀ j y, news[j]? = some y → w2.cell? ((⟨b, off, none⟩ : Addr).add j) = some y := fun j y hy => by
        rw [Addr.add_lit]
        have : w2.cell? ⟨b, off + j, none⟩ = w.cell? ⟨b, off + j, none⟩ := by simp [World.cell?, hw]
        rw [this]
        exact hc j y hy
      have := run_loadCells_list (P := P) w2 ⟨b, off, none⟩ news hc2
      rw [hl] at this
      simpa [Builtin.firstCells] using this
  · have e1 : (ByteArray.mk l.toArray).extract 0 l.length = ByteArray.mk l.toArray := by
      have : (ByteArray.mk l.toArray).size = l.length := by simp [ByteArray.size]
      rw [← this]
      exact ByteArray.extract_zero_size
    simp [Builtin.firstCells, e1]

theorem src_lenOf {P : Program} {w : World} {u e : TypeId} {size m : Nat} {x : Value} {news : List Value} (h : Src P w u e size x m news) (w2 : World) : (Builtin.lenOf x).run P w2 = .ok m w2 := by
  obtain ⟨hl, ⟨_, A, c, rfl, hx⟩ | ⟨_, rfl, l, rfl, rfl, rfl⟩⟩ := h
  · simp [Builtin.lenOf]
  · simp [Builtin.lenOf, ByteArray.size]

theorem src_zeros {P : Program} {w : World} {u e : TypeId} {size m : Nat} {x : Value} {news : List Value} (h : Src P w u e size x m news) : P.underlying u = some (.slice e) ∨ P.underlying u = some .string := by
  obtain ⟨hl, ⟨hu, A, c, rfl, hx⟩ | ⟨hu, rfl, l, rfl, rfl, rfl⟩⟩ := h
  · exact .inl hu
  · exact .inr hu

set_option linter.unusedSimpArgs false in
/-- THE LAW OF append: onto what is owned, whatever is appended. -/
theorem run_append {P : Program} {w : World} {base size bytes n m : Nat} {t u ty e : TypeId} {i : TypeInfo} {z v x : Value} {xs news : List Value} (ht : P.underlying t = some (.slice e)) (hi : P.info? e = some i) (hz : i.zero = some z)
    (hsize : i.size = size) (hby : i.bytes = bytes) (hzs : z.cells.size = size) (hown : Own w base e size v n xs) (hsrc : Src P w u e size x m news) (h1 : ∀ y ∈ news, y.oneCell' = true)
    (h63 : n + m ≤ maxLen) (hbytes : (n + m) * bytes ≤ 140737488355328) (hbase : base ≤ w.heap.size) :
    ∃ v' w', (Builtin.append_ #[t, u] ty #[v, x]).run P w = .ok v' w' ∧ Own w' base e size v' (n + m) (xs ++ news) ∧ Keeps (blkOf v) w w' ∧ (∀ k ∈ blkOf v', k ∈ blkOf v ∨ k = w.heap.size) := by
  subst hsize
  subst hby
  have hsmall : n + m ≤ 9223372036854775807 := by simp only [maxLen] at h63; omega
  have hku := src_zeros hsrc
  have hlen : (xs ++ news).length = (n + m) * i.size := by rw [List.length_append, hown.1, hsrc.1, Nat.add_mul]
  have hlo := src_lenOf hsrc w
  have hfc := src_first hsrc w rfl
  have hfd := src_first hsrc w.drew rfl
  have grown : ∀ (old : Nat), old < n + m → ∀ F : List Nat,
      Own (w.drew.alloc (.cells (xs.toArray ++ news.toArray ++ Builtin.zeroCells z.cells (grownCap w (n + m) old e - (n + m))) e)) base e i.size
        (.slice (some ⟨w.heap.size, 0, none⟩) (n + m) (grownCap w (n + m) old e)) (n + m) (xs ++ news) ∧
      Keeps F w (w.drew.alloc (.cells (xs.toArray ++ news.toArray ++ Builtin.zeroCells z.cells (grownCap w (n + m) old e - (n + m))) e)) := by
    intro old ho F
    have hge := grownCap_ge w (n + m) old e
    have hcm : grownCap w (n + m) old e ≤ maxLen := grownCap_le_maxLen w (n + m) old e h63
    refine ⟨⟨hlen, .inr ⟨w.heap.size, [], (Builtin.zeroCells z.cells (grownCap w (n + m) old e - (n + m))).toList, _, rfl, hbase, ?_, hge, hcm, ?_⟩⟩, ?_⟩
    · have := Blk.new w.drew e ([] ++ (xs ++ news) ++ (Builtin.zeroCells z.cells (grownCap w (n + m) old e - (n + m))).toList)
      have e1 : ([] ++ (xs ++ news) ++ (Builtin.zeroCells z.cells (grownCap w (n + m) old e - (n + m))).toList).toArray = xs.toArray ++ news.toArray ++ Builtin.zeroCells z.cells (grownCap w (n + m) old e - (n + m)) := by
        apply Array.ext'; simp
      rw [e1] at this
      exact this
    · simp only [List.length_append, Array.length_toList, size_zeroCells, hzs, hown.1, hsrc.1, ← Nat.add_mul]
      exact Nat.mul_le_mul_right _ (by omega)
    · exact ⟨rfl, rfl, rfl, by simp, fun k hk _ => Below.heap_alloc w.drew _ k hk⟩
  rcases hown.2 with ⟨rfl, rfl⟩ | ⟨g, pre, post, cap, rfl, hbg, hg, hnc, hcm, hcs⟩
  · have hx : xs = [] := List.eq_nil_of_length_eq_zero (by simpa using hown.1)
    subst hx
    by_cases hm : m = 0
    · subst hm
      have hn : news = [] := List.eq_nil_of_length_eq_zero (by simpa using hsrc.1)
      subst hn
      refine ⟨.slice none 0 0, w, ?_, Own.nil_ w base e i.size, Keeps.refl _ _, by simp [blkOf]⟩
      rcases hku with hku | hku <;> simp [Builtin.append_, run_underlying ht, run_underlying hku, sizeOf, typeInfo, hi, hlo, hfc]
    · have hgr := grown 0 (by omega) (blkOf (.slice none 0 0))
      simp only [Nat.zero_add, List.nil_append, Array.empty_append] at hgr ⊢
      refine ⟨_, _, ?_, hgr.1, hgr.2, by simp [blkOf]⟩
      have hn : m ≠ 0 := hm
      have h63' : ¬ (9223372036854775807 < (m : Int)) := by omega
      have h48' : ¬ (281474976710656 < Builtin.nextslicecap m 0 * i.bytes) := by rw [nextslicecap_zero (by omega)]; have hb := hbytes; simp only [Nat.zero_add] at hb; omega
      rcases hku with hku | hku <;> simp [Builtin.append_, run_underlying ht, run_underlying hku, sizeOf, typeInfo, zeroValue, hi, hz, hlo, hn, h63', h48', Question.forced, run_firstCells_none, hfd, newRow, grownCap]
  · by_cases hroom : n + m ≤ cap
    · obtain ⟨fz, hgg, hfz⟩ := hg
      have hfit : pre.length + n * i.size + 0 + news.length ≤ (pre ++ xs ++ post).toArray.size := by
        have h2 := Nat.mul_le_mul_right i.size hroom
        simp only [List.size_toArray, List.length_append, Nat.add_mul] at h2 hcs ⊢
        rw [hsrc.1]
        omega
      have hst := run_storeCells_nofz P g (pre.length + n * i.size) e fz news 0 (pre ++ xs ++ post).toArray w hgg (by simpa using hfz) hfit h1
      refine ⟨.slice (some ⟨g, pre.length, none⟩) (n + m) cap, w.setRow g (pre ++ (xs ++ news) ++ post.drop news.length).toArray, ?_, ⟨hlen, .inr ⟨g, pre, post.drop news.length, cap, rfl, hbg, ?_, hroom, hcm, ?_⟩⟩, (Keeps.setRow w g _).sub (by simp [blkOf]), by simp [blkOf]⟩
      · have e1 : ((pre ++ xs ++ post).toArray.toList.take (pre.length + n * i.size + 0) ++ news ++ (pre ++ xs ++ post).toArray.toList.drop (pre.length + n * i.size + 0 + news.length)) = pre ++ (xs ++ news) ++ post.drop news.length := by
          have e2 : pre.length + n * i.size = (pre ++ xs).length := by rw [List.length_append, hown.1]
          simp only [Nat.add_zero, e2]
          rw [List.take_left, List.drop_append]
          simp
        rw [e1] at hst
        rcases hku with hku | hku <;> simp [Builtin.append_, run_underlying ht, run_underlying hku, sizeOf, typeInfo, hi, hlo, hroom, hfc, Addr.add_lit, hst]
      · exact Blk.setRow (cs := pre ++ xs ++ post) ⟨fz, hgg, hfz⟩ _ (by
          simp only [List.size_toArray] at hfit
          simp only [List.length_append, List.length_drop] at hfit ⊢
          rw [hown.1] at hfit ⊢
          omega)
      · simp only [List.length_append, List.length_drop] at hcs ⊢
        omega
    · have holds : ∀ j y, xs[j]? = some y → w.drew.cell? ((⟨g, pre.length, none⟩ : Addr).add j) = some y := by
        intro j y hy
        rw [Addr.add_lit]
        refine (hg.cell_of (i := pre.length + j) ?_)
        have hj : j < xs.length := (List.getElem?_eq_some_iff.1 hy).1
        rw [List.append_assoc, List.getElem?_append_right (by omega), List.getElem?_append_left (by omega)]
        simpa using hy
      have hgr := grown cap (by omega) (blkOf (.slice (some ⟨g, pre.length, none⟩) n cap))
      refine ⟨_, _, ?_, hgr.1, hgr.2, by simp [blkOf]⟩
      have hn : ¬ (n + m ≤ cap) := hroom
      have h63' : ¬ (9223372036854775807 < ((n : Int) + (m : Int))) := by omega
      have h48' : ¬ (281474976710656 < Builtin.nextslicecap (n + m) cap * i.bytes) := by have := growslice_fits (old := cap) (by omega) hbytes; omega
      have hfo := run_firstCells_some (P := P) w.drew i.size n ⟨g, pre.length, none⟩ n cap xs hown.1 holds
      rcases hku with hku | hku <;> (simp [Builtin.append_, run_underlying ht, run_underlying hku, sizeOf, typeInfo, zeroValue, hi, hz, hlo, hn, h63', h48', Question.forced, hfd, hfo, newRow, grownCap]; congr 2; apply Array.ext'; simp [List.append_assoc])

/-! ### Slices of slices -/
section cut
variable {P : Program} {t e : TypeId} {i : TypeInfo} {size : Nat}
theorem run_sliceFrom (ht : P.underlying t = some (.slice e)) (hi : P.info? e = some i) (hs : i.size = size) (A : Option Addr) (n c k : Nat) (hk : k ≤ n) (w : World) :
    (Instr.sliceAt t (.slice A n c) (some (.int .i64 (k : Int))) none none).run P w = .ok (.slice (if c = k then A else A.map (·.add (k * size))) (n - k) (c - k)) w := by
  have h1 : (0 : Int) ≤ (k : Int) := by omega
  have h2 : (k : Int) ≤ (n : Int) := by omega
  simp [Instr.sliceAt, Instr.slice, run_underlying ht, Instr.sliceBounds, Instr.sliceBound, asIntOf, sizeOf, typeInfo, hi, hs, hk]
theorem run_sliceUpto (ht : P.underlying t = some (.slice e)) (hi : P.info? e = some i) (A : Option Addr) (n c k : Nat) (hk : k ≤ c) (w : World) :
    (Instr.sliceAt t (.slice A n c) none (some (.int .i64 (k : Int))) none).run P w = .ok (.slice A k c) w := by
  have h2 : (k : Int) ≤ (c : Int) := by omega
  have ha : ∀ a : Addr, a.add 0 = a := fun a => by simp [Addr.add]
  have hA : A.map (·.add 0) = A := by cases A <;> simp [ha]
  simp [Instr.sliceAt, Instr.slice, run_underlying ht, Instr.sliceBounds, Instr.sliceBound, asIntOf, sizeOf, typeInfo, hi, hk, hA]

theorem Rd.from_ {w : World} {B n c k : Nat} {A : Option Addr} {xs : List Value} (h : Rd w B size (.slice A n c) n xs) (hk : k ≤ n) :
    Rd w B size (.slice (if c = k then A else A.map (·.add (k * size))) (n - k) (c - k)) (n - k) (xs.drop (k * size)) := by
  obtain ⟨A', c', hv, hn, hc, hl, hx⟩ := h
  injection hv with h1 _ h3
  subst h1 h3
  refine ⟨_, _, rfl, by omega, by omega, by rw [List.length_drop, hl, Nat.sub_mul], ?_⟩
  rcases hx with rfl | ⟨b, off, rfl, hb, hcell⟩
  · exact .inl (by simp)
  · by_cases hck : c = k
    · have : n - k = 0 := by omega
      refine .inl (List.eq_nil_of_length_eq_zero ?_)
      rw [List.length_drop, hl, ← Nat.sub_mul, this, Nat.zero_mul]
    · refine .inr ⟨b, off + k * size, by simp [hck, Addr.add_lit], hb, fun j u hu => ?_⟩
      rw [List.getElem?_drop] at hu
      rw [Nat.add_assoc]
      exact hcell _ u hu
theorem Rd.upto_ {w : World} {B n c k : Nat} {A : Option Addr} {xs : List Value} (h : Rd w B size (.slice A n c) n xs) (hk : k ≤ n) :
    Rd w B size (.slice A k c) k (xs.take (k * size)) := by
  obtain ⟨A', c', hv, hn, hc, hl, hx⟩ := h
  injection hv with h1 _ h3
  subst h1 h3
  refine ⟨_, _, rfl, by omega, by omega, ?_, ?_⟩
  · rw [List.length_take, hl]
    exact Nat.min_eq_left (Nat.mul_le_mul_right _ hk)
  · rcases hx with rfl | ⟨b, off, rfl, hb, hcell⟩
    · exact .inl (by simp)
    · refine .inr ⟨b, off, rfl, hb, fun j u hu => hcell j u ?_⟩
      rw [List.getElem?_take] at hu
      split at hu
      · exact hu
      · cases hu
theorem Own.from_ {w : World} {base n c k : Nat} {A : Option Addr} {xs : List Value} (h : Own w base e size (.slice A n c) n xs) (hk : k ≤ n) :
    Own w base e size (.slice (if c = k then A else A.map (·.add (k * size))) (n - k) (c - k)) (n - k) (xs.drop (k * size)) := by
  refine ⟨by rw [List.length_drop, h.1, Nat.sub_mul], ?_⟩
  rcases h.2 with ⟨hv, rfl⟩ | ⟨g, pre, post, cap, hv, hb, hg, hn, hc, hf⟩
  · injection hv with h1 _ h3
    subst h1 h3
    exact .inl ⟨by simp, by omega⟩
  · injection hv with h1 _ h3
    subst h1 h3
    by_cases hck : c = k
    · have h0 : n - k = 0 := by omega
      have hd : xs.drop (k * size) = [] := List.eq_nil_of_length_eq_zero (by rw [List.length_drop, h.1, ← Nat.sub_mul, h0, Nat.zero_mul])
      refine .inr ⟨g, pre, xs ++ post, c - k, by simp [hck], hb, by rw [hd]; simpa using hg, by omega, by omega, by simp [hck]⟩
    · refine .inr ⟨g, pre ++ xs.take (k * size), post, c - k, ?_, hb, ?_, by omega, by omega, ?_⟩
      · have : (xs.take (k * size)).length = k * size := by rw [List.length_take, h.1]; exact Nat.min_eq_left (Nat.mul_le_mul_right _ hk)
        simp [hck, Addr.add_lit, this]
      · have : pre ++ xs.take (k * size) ++ xs.drop (k * size) ++ post = pre ++ xs ++ post := by
          rw [List.append_assoc pre, List.take_append_drop]
        rw [this]
        exact hg
      · simp only [List.length_append, List.length_drop] at hf ⊢
        rw [Nat.sub_mul]
        omega
theorem Own.upto_ {w : World} {base n c k : Nat} {A : Option Addr} {xs : List Value} (h : Own w base e size (.slice A n c) n xs) (hk : k ≤ n) :
    Own w base e size (.slice A k c) k (xs.take (k * size)) := by
  have hl : (xs.take (k * size)).length = k * size := by rw [List.length_take, h.1]; exact Nat.min_eq_left (Nat.mul_le_mul_right _ hk)
  refine ⟨hl, ?_⟩
  rcases h.2 with ⟨hv, rfl⟩ | ⟨g, pre, post, cap, hv, hb, hg, hn, hc, hf⟩
  · injection hv with h1 _ h3
    subst h1 h3
    obtain rfl : k = 0 := by omega
    exact .inl ⟨rfl, rfl⟩
  · injection hv with h1 _ h3
    subst h1 h3
    refine .inr ⟨g, pre, xs.drop (k * size) ++ post, c, rfl, hb, ?_, by omega, hc, ?_⟩
    · have : pre ++ xs.take (k * size) ++ (xs.drop (k * size) ++ post) = pre ++ xs ++ post := by
        rw [List.append_assoc, ← List.append_assoc (xs.take _), List.take_append_drop, List.append_assoc]
      rw [this]
      exact hg
    · rw [← List.append_assoc, List.take_append_drop]
      exact hf
theorem blkOf_from (A : Option Addr) (n c k n' c' : Nat) : ∀ x ∈ blkOf (.slice (if c = k then A else A.map (·.add (k * size))) n' c'), x ∈ blkOf (.slice A n c) := by
  intro x hx
  cases A with
  | none => split at hx <;> simp [blkOf] at hx
  | some a =>
    split at hx
    · simpa [blkOf] using hx
    · have : (a.add (k * size)).block = a.block := by unfold Addr.add; split <;> rfl
      simpa [blkOf, this] using hx
end cut

theorem one_bv (l : List UInt8) : ∀ y ∈ l.map bv, y.oneCell' = true := by intro y hy; simp at hy; obtain ⟨b, _, rfl⟩ := hy; rfl
theorem one_sv (l : List (List UInt8)) : ∀ y ∈ l.map sv, y.oneCell' = true := by intro y hy; simp at hy; obtain ⟨b, _, rfl⟩ := hy; rfl

/-! ### Slices of strings -/
section str
variable {P : Program} {t : TypeId}
theorem extract_mk (l : List UInt8) (a b : Nat) (hb : b ≤ l.length) : (ByteArray.mk l.toArray).extract a b = ⟨((l.take b).drop a).toArray⟩ := by
  apply ByteArray.ext
  rw [ByteArray.data_extract]
  simp [List.drop_take]
theorem run_strMid (ht : P.underlying t = some .string) (l : List UInt8) (a b : Nat) (hab : a ≤ b) (hb : b ≤ l.length) (w : World) :
    (Instr.sliceAt t (sv l) (some (.int .i64 (a : Int))) (some (.int .i64 (b : Int))) none).run P w = .ok (sv ((l.take b).drop a)) w := by
  have hsz : (ByteArray.mk l.toArray).size = l.length := by simp [ByteArray.size]
  simp [Instr.sliceAt, Instr.slice, run_underlying ht, Instr.sliceBounds, Instr.sliceBound, asIntOf, hsz, hb, hab, extract_mk l a b hb]
theorem run_strFrom (ht : P.underlying t = some .string) (l : List UInt8) (a : Nat) (ha : a ≤ l.length) (w : World) :
    (Instr.sliceAt t (sv l) (some (.int .i64 (a : Int))) none none).run P w = .ok (sv (l.drop a)) w := by
  have hsz : (ByteArray.mk l.toArray).size = l.length := by simp [ByteArray.size]
  simp [Instr.sliceAt, Instr.slice, run_underlying ht, Instr.sliceBounds, Instr.sliceBound, asIntOf, hsz, ha, extract_mk l a l.length (Nat.le_refl _)]
theorem run_strUpto (ht : P.underlying t = some .string) (l : List UInt8) (b : Nat) (hb : b ≤ l.length) (w : World) :
    (Instr.sliceAt t (sv l) none (some (.int .i64 (b : Int))) none).run P w = .ok (sv (l.take b)) w := by
  have hsz : (ByteArray.mk l.toArray).size = l.length := by simp [ByteArray.size]
  simp [Instr.sliceAt, Instr.slice, run_underlying ht, Instr.sliceBounds, Instr.sliceBound, asIntOf, hsz, hb, extract_mk l 0 b hb]
end str

/-! ### Conversions between strings and bytes -/
section conv
variable {P : Program} {src dst e : TypeId}
theorem run_toBytes (w : World) (l : List UInt8) (hs : P.underlying src = some .string) (hd : P.underlying dst = some (.slice e)) (he : P.underlying e = some (.int .u8)) (hl : l.length ≤ maxLen) :
    ∃ v' w', (convert src dst (sv l)).run P w = .ok v' w' ∧ Own w' w.heap.size e 1 v' l.length (l.map bv) ∧ Keeps [] w w' ∧ blkOf v' = [w.heap.size] := by
  have hsz : (ByteArray.mk l.toArray).size = l.length := by simp [ByteArray.size]
  refine ⟨_, _, run_bytes_of_string w src dst e ⟨l.toArray⟩ hs hd he, ?_, ?_, rfl⟩
  · rw [hsz]
    refine ⟨by simp, .inr ⟨w.heap.size, [], List.replicate (grownCap w l.length 0 e - l.length) (.int .u8 0), _, rfl, Nat.le_refl _, ?_, grownCap_ge w _ _ _, grownCap_le_maxLen w _ _ _ hl, ?_⟩⟩
    · have hb := Blk.new_mark w.drew e ([] ++ l.map bv ++ List.replicate (grownCap w l.length 0 e - l.length) (.int .u8 0))
      have e1 : bytesRow ⟨l.toArray⟩ (grownCap w l.length 0 e) = ([] ++ l.map bv ++ List.replicate (grownCap w l.length 0 e - l.length) (Value.int .u8 0)).toArray := by
        apply Array.ext'
        simp [bytesRow, ByteArray.size]
      rw [e1, List.size_toArray]
      exact hb
    · have := grownCap_ge w l.length 0 e
      simp
      omega
  · exact ⟨rfl, rfl, rfl, by simp, fun k hk _ => Below.heap_alloc w.drew _ k hk⟩
theorem run_toString {w : World} {B : Nat} {v : Value} {l : List UInt8} (h : Rd w B 1 v l.length (l.map bv)) (hs : P.underlying src = some (.slice e)) (he : P.underlying e = some (.int .u8)) (hd : P.underlying dst = some .string) :
    (convert src dst v).run P w = .ok (sv l) w := by
  obtain ⟨A, c, rfl, hn, hc, hl, hx⟩ := h
  rcases hx with hx | ⟨b, off, rfl, hb, hcell⟩
  · obtain rfl : l = [] := by simpa using hx
    rw [List.length_nil, run_convert_bytes_string w src dst e A 0 c hs he hd]
    cases A with
    | none => simp [Conv.bytesToString]; rfl
    | some a => simp [Conv.bytesToString, loadCells, loadCellsFrom]; rfl
  · refine run_convert_bytes_back w src dst e ⟨b, off, none⟩ c l hs he hd fun j hj => ?_
    rw [Addr.add_lit]
    exact hcell j _ (by simp [List.getElem?_map, List.getElem?_eq_getElem hj])
end conv

/-! ### An operation whose run is known, in a list of operations -/
section use
variable {P : Program} {ops : Array Oper} {rest : List Oper} {o : Oper} {a : Act} {w w' : World} {Q : Exit → Act → World → Prop} {v v' x : Value}
theorem wpList_use (hrun : (execOp a.eval o).run P w = .ok (.value v') w') (hg : Region.wanted o (yielded ops a.tmps) = true) (h : wpList P ops Q rest (a.put o.dst v') w') : wpList P ops Q (o :: rest) a w :=
  BigFrame.wpList_want hg fun K hK => by
    unfold Oper.wp
    rw [hrun]
    exact hK _ _ h
theorem wpList_append {t u ty : TypeId} (hrun : (Builtin.append_ #[t, u] ty #[v, x]).run P w = .ok v' w') (s y : Operand) (ho : o.op = .call { callee := .builtin .append, args := #[s, y], argTypes := #[t, u] }) (hty : o.type = ty)
    (hg : Region.wanted o (yielded ops a.tmps) = true) (hs : a.eval s = v) (hy : a.eval y = x) (h : wpList P ops Q rest (a.put o.dst v') w') : wpList P ops Q (o :: rest) a w :=
  wpList_use (by
    subst hty
    unfold execOp
    simp only [ho, resolve, invoke, builtin, Sem.run_bind, Sem.run_pure, Result.andThen_ok, List.map_toArray, List.map_cons, List.map_nil, hs, hy, hrun]) hg h
theorem wpList_slice {t : TypeId} {lo hi mx : Option Value} (hrun : (Instr.sliceAt t v lo hi mx).run P w = .ok v' w') (s : Operand) (l h m : Option Operand) (ho : o.op = .slice t s l h m)
    (hg : Region.wanted o (yielded ops a.tmps) = true) (hs : a.eval s = v) (hlo : l.map a.eval = lo) (hhi : h.map a.eval = hi) (hmx : m.map a.eval = mx) (hh : wpList P ops Q rest (a.put o.dst v') w') : wpList P ops Q (o :: rest) a w :=
  wpList_use (by
    unfold execOp
    simp only [ho, Sem.run_bind, Sem.run_pure, Result.andThen_ok, hs, hlo, hhi, hmx, hrun]) hg hh
theorem wpList_convert {t u : TypeId} (hrun : (convert t u v).run P w = .ok v' w') (s : Operand) (ho : o.op = .convert t u s)
    (hg : Region.wanted o (yielded ops a.tmps) = true) (hs : a.eval s = v) (hh : wpList P ops Q rest (a.put o.dst v') w') : wpList P ops Q (o :: rest) a w :=
  wpList_use (by
    unfold execOp
    simp only [ho, Sem.run_bind, Sem.run_pure, Result.andThen_ok, hs, hrun]) hg hh
theorem wpList_make {t : TypeId} (hrun : (Instr.makeSlice t v x).run P w = .ok v' w') (s y : Operand) (ho : o.op = .makeSlice t s y)
    (hg : Region.wanted o (yielded ops a.tmps) = true) (hs : a.eval s = v) (hy : a.eval y = x) (hh : wpList P ops Q rest (a.put o.dst v') w') : wpList P ops Q (o :: rest) a w :=
  wpList_use (by
    unfold execOp
    simp only [ho, Sem.run_bind, Sem.run_pure, Result.andThen_ok, hs, hy, hrun]) hg hh
/-- The same, as one step of a region that draws its order. -/
theorem step_convert {E : Prop} {K : Act → World → Prop} {t u : TypeId} (hrun : (convert t u v).run P w = .ok v' w') (s : Operand) (ho : o.op = .convert t u s)
    (hg : Region.wanted o (yielded ops a.tmps) = true) (hs : a.eval s = v) (hh : K (a.put o.dst v') w') : if Region.wanted o (yielded ops a.tmps) = true then Oper.wp P o a w K Q else E := by
  rw [if_pos hg]
  unfold Oper.wp execOp
  simp only [ho, Sem.run_bind, Sem.run_pure, Result.andThen_ok, hs, hrun]
  exact hh
end use

end Go.Proofs.Ytcmoldondflilaa.Q
