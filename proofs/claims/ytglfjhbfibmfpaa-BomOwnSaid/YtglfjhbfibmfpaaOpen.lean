/- The arguments of a law, opened: what a reading of each shape says of cells. And the last step of every row: a law that returns true and leaves what was there. -/
import Derived.Test.YtglfjhbfibmfpaaLib
import Derived.ProofKit
import Derived.OpenShut
import Derived.ShutString
import Derived.ChangeOld
import Derived.Deep.Slices
import Derived.Lib.SmallJoins
namespace Go.Proofs.Ytglfjhbfibmfpaa.Q
set_option linter.unusedVariables false
set_option linter.unusedSimpArgs false
open Go.RowKit Go.ChangeShapes Go.WideShapes

section opened
variable {H : Type} {enc : TypeId × Value → H} {P : Program} {w : World} {base : Nat} {spare : Nat → Bool} {held : Bool}

theorem flat_at {size : Nat} : ∀ (rows : List (List Value)) (_ : ∀ r ∈ rows, r.length = size) (j : Nat) (u : Value), rows.flatten[j]? = some u → ∃ i k r, rows[i]? = some r ∧ k < size ∧ j = i * size + k ∧ r[k]? = some u
  | [], _, j, u, h => by simp at h
  | r :: rows, hr, j, u, h => by
    have h1 := hr r (by simp)
    rw [List.flatten_cons] at h
    by_cases hj : j < r.length
    · rw [List.getElem?_append_left hj] at h
      exact ⟨0, j, r, rfl, by omega, by omega, h⟩
    · rw [List.getElem?_append_right (by omega)] at h
      obtain ⟨i, k, r', h2, h3, h4, h5⟩ := flat_at rows (fun x hx => hr x (by simp [hx])) _ u h
      exact ⟨i + 1, k, r', by simpa using h2, h3, by rw [Nat.add_mul]; omega, h5⟩

theorem flat_len {size : Nat} (rows : List (List Value)) (h : ∀ r ∈ rows, r.length = size) : rows.flatten.length = rows.length * size := by
  induction rows with
  | nil => simp
  | cons r rows ih =>
    rw [List.flatten_cons, List.length_append, h r (by simp), ih (fun x hx => h x (by simp [hx])), List.length_cons, Nat.add_mul]
    omega

/-- A slice of whatever elements: its value, and each element's cells with their reading. -/
theorem open_sl {t e : TypeId} {size fuel : Nat} {cs : List Value} {x : DataW H × List MemPlace} (ht : P.underlying t = some (.slice e)) (hC : P.cellsOf e = size) (h : DataW.trod enc P w base spare held fuel t cs = some x) :
    ∃ (v : Value) (rows : List (List Value)) (f' : Nat), cs = [v] ∧ Rd w w.heap.size size v rows.length rows.flatten ∧ ∀ r ∈ rows, r.length = size ∧ ∃ y, DataW.trod enc P w base spare held f' e r = some y := by
  rcases Go.Deep.open_slice ht h with ⟨hcs, _⟩ | ⟨a, len, cap, m, n, D, Pl, hcs, _, hl, hm, hmm, _, hi⟩
  · exact ⟨_, [], 0, hcs, by simpa using Rd.nil_ w _ size, by simp⟩
  · have hlm : len ≤ m := by rw [hmm]; split <;> omega
    rw [hC] at hi
    let f : Nat → List Value := fun i => (w.cells? base (a.add (i * size)) size).getD []
    have hf : ∀ i, i < len → w.cells? base (a.add (i * size)) size = some (f i) ∧ DataW.trod enc P w base spare held n e (f i) = some (D i, Pl i) := by
      intro i hil
      obtain ⟨cs', h1, h2⟩ := hi i (by omega)
      have : f i = cs' := by simp [f, h1]
      rw [this]
      exact ⟨h1, h2⟩
    have hrows : ∀ r ∈ (List.range len).map f, r.length = size ∧ ∃ y, DataW.trod enc P w base spare held n e r = some y := by
      intro r hr
      simp only [List.mem_map, List.mem_range] at hr
      obtain ⟨i, hil, rfl⟩ := hr
      obtain ⟨h1, h2⟩ := hf i hil
      exact ⟨(World.cells?_some h1).2.1, _, h2⟩
    refine ⟨_, (List.range len).map f, n, hcs, ?_, hrows⟩
    refine ⟨some a, cap, by simp, by simpa using hl, hm, flat_len _ (fun r hr => (hrows r hr).1), ?_⟩
    have hcell : ∀ j u, ((List.range len).map f).flatten[j]? = some u → w.cell? (a.add j) = some u := by
      intro j u hu
      obtain ⟨i, k, r, h1, h2, h3, h4⟩ := flat_at _ (fun r hr => (hrows r hr).1) j u hu
      simp only [List.getElem?_map] at h1
      have hil : i < len := by
        rcases Nat.lt_or_ge i len with h' | h'
        · exact h'
        · simp [List.getElem?_eq_none, h'] at h1
      simp [hil] at h1
      subst h1
      obtain ⟨h5, _⟩ := hf i hil
      have := (World.cells?_some h5).2.2 k h2
      rw [Go.Deep.add_add, ← h3] at this
      rw [this, h4]
    cases hfl : ((List.range len).map f).flatten with
    | nil => exact .inl rfl
    | cons y ys =>
      have h0 := hcell 0 y (by simp [hfl])
      have hs : a.spot = none := by
        have := World.cell?_spot h0
        simpa [Addr.add] using this
      obtain ⟨b, off, sp⟩ := a
      simp at hs
      subst hs
      have hlt : b < w.heap.size := by
        have := World.block_lt_of_cell? _ _ h0
        simpa [Addr.add] using this
      refine .inr ⟨b, off, rfl, hlt, fun j u hu => ?_⟩
      have := hcell j u (by rw [hfl]; exact hu)
      rwa [Addr.add_lit] at this

theorem byte_wf {n : Int} (h : (Lit.int .u8 n).wf = true) : ∃ b : UInt8, n = (b.toNat : Int) := by
  have hx : 0 ≤ n ∧ n ≤ 255 := by simpa [Lit.wf, IntKind.min, IntKind.max, IntKind.signed, IntKind.bits] using h
  exact ⟨UInt8.ofNat n.toNat, by simp; omega⟩
theorem i64_wf {n : Int} (h : (Lit.int .i64 n).wf = true) : -9223372036854775808 ≤ n ∧ n ≤ 9223372036854775807 := by
  simpa [Lit.wf, IntKind.min, IntKind.max, IntKind.signed, IntKind.bits] using h

theorem rows_bytes {e : TypeId} (he : P.underlying e = some (.int .u8)) {f' : Nat} : ∀ rows : List (List Value), (∀ r ∈ rows, r.length = 1 ∧ ∃ y, DataW.trod enc P w base spare held f' e r = some y) → ∃ l : List UInt8, rows.flatten = l.map bv ∧ rows.length = l.length
  | [], _ => ⟨[], rfl, rfl⟩
  | r :: rows, h => by
    obtain ⟨l, h1, h2⟩ := rows_bytes he rows (fun x hx => h x (by simp [hx]))
    obtain ⟨_, y, hy⟩ := h r (by simp)
    obtain ⟨n, rfl, _, hn⟩ := DataW.trod_int he hy
    obtain ⟨b, rfl⟩ := byte_wf hn
    exact ⟨b :: l, by simp [h1], by simp [h2]⟩
theorem rows_strs {e : TypeId} (he : P.underlying e = some .string) {f' : Nat} : ∀ rows : List (List Value), (∀ r ∈ rows, r.length = 1 ∧ ∃ y, DataW.trod enc P w base spare held f' e r = some y) → ∃ l : List (List UInt8), rows.flatten = l.map sv ∧ rows.length = l.length ∧ ∀ s ∈ l, s.length ≤ maxLen
  | [], _ => ⟨[], rfl, rfl, by simp⟩
  | r :: rows, h => by
    obtain ⟨l, h1, h2, h3⟩ := rows_strs he rows (fun x hx => h x (by simp [hx]))
    obtain ⟨_, y, hy⟩ := h r (by simp)
    obtain ⟨s, rfl, _, hn⟩ := DataW.trod_string he hy
    refine ⟨s.data.toList :: l, by simp [h1], by simp [h2], ?_⟩
    intro x hx
    rcases List.mem_cons.1 hx with rfl | hx
    · have e1 : s.data.toList.length = s.size := by rw [Array.length_toList]; rfl
      rw [e1]; exact hn
    · exact h3 x hx

/-- '[]byte' -/
theorem trod_bytes {t e : TypeId} {fuel : Nat} {cs : List Value} {x : DataW H × List MemPlace} (ht : P.underlying t = some (.slice e)) (he : P.underlying e = some (.int .u8)) (hC : P.cellsOf e = 1) (h : DataW.trod enc P w base spare held fuel t cs = some x) :
    ∃ (v : Value) (l : List UInt8), cs = [v] ∧ Rd w w.heap.size 1 v l.length (l.map bv) := by
  obtain ⟨v, rows, f', hcs, hrd, hr⟩ := open_sl ht hC h
  obtain ⟨l, h1, h2⟩ := rows_bytes he rows hr
  rw [h1, h2] at hrd
  exact ⟨v, l, hcs, hrd⟩
/-- '[]string' -/
theorem trod_strs {t e : TypeId} {fuel : Nat} {cs : List Value} {x : DataW H × List MemPlace} (ht : P.underlying t = some (.slice e)) (he : P.underlying e = some .string) (hC : P.cellsOf e = 1) (h : DataW.trod enc P w base spare held fuel t cs = some x) :
    ∃ (v : Value) (l : List (List UInt8)), cs = [v] ∧ Rd w w.heap.size 1 v l.length (l.map sv) ∧ ∀ s ∈ l, s.length ≤ maxLen := by
  obtain ⟨v, rows, f', hcs, hrd, hr⟩ := open_sl ht hC h
  obtain ⟨l, h1, h2, h3⟩ := rows_strs he rows hr
  rw [h1, h2] at hrd
  exact ⟨v, l, hcs, hrd, h3⟩

/-- A slice of slices of strings, that reads as a table. -/
def Tbl (w : World) (B : Nat) (v : Value) (t : List (List (List UInt8))) : Prop :=
  ∃ vs : List Value, vs.length = t.length ∧ Rd w B 1 v t.length vs ∧ ∀ (i : Nat) u r, vs[i]? = some u → t[i]? = some r → Rd w B 1 u r.length (r.map sv)
/-- A slice of slices of bytes. -/
def BTbl (w : World) (B : Nat) (v : Value) (t : List (List UInt8)) : Prop :=
  ∃ vs : List Value, vs.length = t.length ∧ Rd w B 1 v t.length vs ∧ ∀ (i : Nat) u r, vs[i]? = some u → t[i]? = some r → Rd w B 1 u r.length (r.map bv)

theorem rows_tbl {e e' : TypeId} (he : P.underlying e = some (.slice e')) (he' : P.underlying e' = some .string) (hC : P.cellsOf e' = 1) {f' : Nat} : ∀ rows : List (List Value), (∀ r ∈ rows, r.length = 1 ∧ ∃ y, DataW.trod enc P w base spare held f' e r = some y) →
    ∃ (vs : List Value) (t : List (List (List UInt8))), rows.flatten = vs ∧ rows.length = vs.length ∧ vs.length = t.length ∧ (∀ (i : Nat) u r, vs[i]? = some u → t[i]? = some r → Rd w w.heap.size 1 u r.length (r.map sv)) ∧ ∀ r ∈ t, ∀ s ∈ r, s.length ≤ maxLen
  | [], _ => ⟨[], [], rfl, rfl, rfl, by simp, by simp⟩
  | r :: rows, h => by
    obtain ⟨vs, t, h1, h2, h3, h4, h5⟩ := rows_tbl he he' hC rows (fun x hx => h x (by simp [hx]))
    obtain ⟨_, y, hy⟩ := h r (by simp)
    obtain ⟨v, l, rfl, hrd, hl⟩ := trod_strs he he' hC hy
    refine ⟨v :: vs, l :: t, by simp [h1], by simp [h2], by simp [h3], ?_, ?_⟩
    · intro i u r hu hr
      match i, hu, hr with
      | 0, hu, hr => simp at hu hr; subst hu hr; exact hrd
      | i + 1, hu, hr => exact h4 i u r (by simpa using hu) (by simpa using hr)
    · intro x hx
      rcases List.mem_cons.1 hx with rfl | hx
      · exact hl
      · exact h5 x hx
theorem rows_btbl {e e' : TypeId} (he : P.underlying e = some (.slice e')) (he' : P.underlying e' = some (.int .u8)) (hC : P.cellsOf e' = 1) {f' : Nat} : ∀ rows : List (List Value), (∀ r ∈ rows, r.length = 1 ∧ ∃ y, DataW.trod enc P w base spare held f' e r = some y) →
    ∃ (vs : List Value) (t : List (List UInt8)), rows.flatten = vs ∧ rows.length = vs.length ∧ vs.length = t.length ∧ (∀ (i : Nat) u r, vs[i]? = some u → t[i]? = some r → Rd w w.heap.size 1 u r.length (r.map bv))
  | [], _ => ⟨[], [], rfl, rfl, rfl, by simp⟩
  | r :: rows, h => by
    obtain ⟨vs, t, h1, h2, h3, h4⟩ := rows_btbl he he' hC rows (fun x hx => h x (by simp [hx]))
    obtain ⟨_, y, hy⟩ := h r (by simp)
    obtain ⟨v, l, rfl, hrd⟩ := trod_bytes he he' hC hy
    refine ⟨v :: vs, l :: t, by simp [h1], by simp [h2], by simp [h3], ?_⟩
    intro i u r hu hr
    match i, hu, hr with
    | 0, hu, hr => simp at hu hr; subst hu hr; exact hrd
    | i + 1, hu, hr => exact h4 i u r (by simpa using hu) (by simpa using hr)
/-- '[][]string' -/
theorem trod_tbl {t e e' : TypeId} {fuel : Nat} {cs : List Value} {x : DataW H × List MemPlace} (ht : P.underlying t = some (.slice e)) (hC : P.cellsOf e = 1) (he : P.underlying e = some (.slice e')) (he' : P.underlying e' = some .string) (hC' : P.cellsOf e' = 1) (h : DataW.trod enc P w base spare held fuel t cs = some x) :
    ∃ (v : Value) (tb : List (List (List UInt8))), cs = [v] ∧ Tbl w w.heap.size v tb ∧ ∀ r ∈ tb, ∀ s ∈ r, s.length ≤ maxLen := by
  obtain ⟨v, rows, f', hcs, hrd, hr⟩ := open_sl ht hC h
  obtain ⟨vs, tb, h1, h2, h3, h4, h5⟩ := rows_tbl he he' hC' rows hr
  rw [h1, h2, h3] at hrd
  exact ⟨v, tb, hcs, ⟨vs, h3, hrd, h4⟩, h5⟩
/-- '[][]byte' -/
theorem trod_btbl {t e e' : TypeId} {fuel : Nat} {cs : List Value} {x : DataW H × List MemPlace} (ht : P.underlying t = some (.slice e)) (hC : P.cellsOf e = 1) (he : P.underlying e = some (.slice e')) (he' : P.underlying e' = some (.int .u8)) (hC' : P.cellsOf e' = 1) (h : DataW.trod enc P w base spare held fuel t cs = some x) :
    ∃ (v : Value) (tb : List (List UInt8)), cs = [v] ∧ BTbl w w.heap.size v tb := by
  obtain ⟨v, rows, f', hcs, hrd, hr⟩ := open_sl ht hC h
  obtain ⟨vs, tb, h1, h2, h3, h4⟩ := rows_btbl he he' hC' rows hr
  rw [h1, h2, h3] at hrd
  exact ⟨v, tb, hcs, ⟨vs, h3, hrd, h4⟩⟩

/-! ### At an argument's value -/
section args
variable {r : Reach} {b0 : Nat} {t e e' : TypeId} {v : Value} {d : DataW H} {p : List MemPlace}
theorem Trod_bytes (ht : P.underlying t = some (.slice e)) (he : P.underlying e = some (.int .u8)) (hC : P.cellsOf e = 1) (hv : Value.okWide P w r b0 t v) (h : DataW.Trod enc P w base spare held t v d p) :
    ∃ l : List UInt8, Rd w w.heap.size 1 v l.length (l.map bv) := by
  obtain ⟨a, len, cap, rfl⟩ := okWide_slice ht hv
  obtain ⟨fuel, hf⟩ := h
  obtain ⟨v', l, hcs, hrd⟩ := trod_bytes ht he hC hf
  simp [Value.cells] at hcs
  subst hcs
  exact ⟨l, hrd⟩
theorem Trod_strs (ht : P.underlying t = some (.slice e)) (he : P.underlying e = some .string) (hC : P.cellsOf e = 1) (hv : Value.okWide P w r b0 t v) (h : DataW.Trod enc P w base spare held t v d p) :
    ∃ l : List (List UInt8), Rd w w.heap.size 1 v l.length (l.map sv) ∧ ∀ s ∈ l, s.length ≤ maxLen := by
  obtain ⟨a, len, cap, rfl⟩ := okWide_slice ht hv
  obtain ⟨fuel, hf⟩ := h
  obtain ⟨v', l, hcs, hrd⟩ := trod_strs ht he hC hf
  simp [Value.cells] at hcs
  subst hcs
  exact ⟨l, hrd⟩
theorem Trod_tbl (ht : P.underlying t = some (.slice e)) (hC : P.cellsOf e = 1) (he : P.underlying e = some (.slice e')) (he' : P.underlying e' = some .string) (hC' : P.cellsOf e' = 1) (hv : Value.okWide P w r b0 t v) (h : DataW.Trod enc P w base spare held t v d p) :
    ∃ tb : List (List (List UInt8)), Tbl w w.heap.size v tb ∧ ∀ r ∈ tb, ∀ s ∈ r, s.length ≤ maxLen := by
  obtain ⟨a, len, cap, rfl⟩ := okWide_slice ht hv
  obtain ⟨fuel, hf⟩ := h
  obtain ⟨v', l, hcs, hrd⟩ := trod_tbl ht hC he he' hC' hf
  simp [Value.cells] at hcs
  subst hcs
  exact ⟨l, hrd⟩
theorem Trod_btbl (ht : P.underlying t = some (.slice e)) (hC : P.cellsOf e = 1) (he : P.underlying e = some (.slice e')) (he' : P.underlying e' = some (.int .u8)) (hC' : P.cellsOf e' = 1) (hv : Value.okWide P w r b0 t v) (h : DataW.Trod enc P w base spare held t v d p) :
    ∃ tb : List (List UInt8), BTbl w w.heap.size v tb := by
  obtain ⟨a, len, cap, rfl⟩ := okWide_slice ht hv
  obtain ⟨fuel, hf⟩ := h
  obtain ⟨v', l, hcs, hrd⟩ := trod_btbl ht hC he he' hC' hf
  simp [Value.cells] at hcs
  subst hcs
  exact ⟨l, hrd⟩
theorem Trod_str (ht : P.underlying t = some .string) (hv : Value.okWide P w r b0 t v) (h : DataW.Trod enc P w base spare held t v d p) : ∃ l : List UInt8, v = sv l ∧ l.length ≤ maxLen := by
  obtain ⟨s, rfl, _, _, hs⟩ := Go.ChangeMaps.open_string ht hv h
  refine ⟨s.data.toList, by cases s; simp, ?_⟩
  have e1 : s.data.toList.length = s.size := by rw [Array.length_toList]; rfl
  rw [e1]; exact hs
theorem Trod_u8 (ht : P.underlying t = some (.int .u8)) (hv : Value.okWide P w r b0 t v) (h : DataW.Trod enc P w base spare held t v d p) : ∃ b : UInt8, v = bv b := by
  obtain ⟨n, rfl, _, _, hn⟩ := open_int ht hv h
  obtain ⟨b, rfl⟩ := byte_wf hn
  exact ⟨b, rfl⟩
theorem Trod_int (ht : P.underlying t = some (.int .i64)) (hv : Value.okWide P w r b0 t v) (h : DataW.Trod enc P w base spare held t v d p) : ∃ n : Int, v = .int .i64 n ∧ -9223372036854775808 ≤ n ∧ n ≤ 9223372036854775807 := by
  obtain ⟨n, rfl, _, _, hn⟩ := open_int ht hv h
  exact ⟨n, rfl, i64_wf hn⟩
theorem Trod_bool (ht : P.underlying t = some .bool) (hv : Value.okWide P w r b0 t v) (h : DataW.Trod enc P w base spare held t v d p) : ∃ b : Bool, v = .bool b := by
  obtain ⟨b, rfl, _, _⟩ := open_bool ht hv h
  exact ⟨b, rfl⟩
theorem Trod_lt (h : DataW.Trod enc P w base spare held t v d p) : ∀ x ∈ p, x.block < w.heap.size := by obtain ⟨m, hm⟩ := h; exact DataW.trod_lt m _ _ _ hm
end args
end opened

section tbl
variable {w w' : World} {B B' : Nat} {v : Value}
theorem Tbl.below {t : List (List (List UInt8))} (h : Tbl w B v t) (hb : Below B' w w') (hB : B ≤ B') : Tbl w' B v t := by
  obtain ⟨vs, h1, h2, h3⟩ := h
  exact ⟨vs, h1, h2.below hb hB, fun i u r hu hr => (h3 i u r hu hr).below hb hB⟩
theorem BTbl.below {t : List (List UInt8)} (h : BTbl w B v t) (hb : Below B' w w') (hB : B ≤ B') : BTbl w' B v t := by
  obtain ⟨vs, h1, h2, h3⟩ := h
  exact ⟨vs, h1, h2.below hb hB, fun i u r hu hr => (h3 i u r hu hr).below hb hB⟩
theorem Tbl.more {t : List (List (List UInt8))} (h : Tbl w B v t) (hB : B ≤ B') : Tbl w B' v t := by
  obtain ⟨vs, h1, h2, h3⟩ := h
  exact ⟨vs, h1, h2.more hB, fun i u r hu hr => (h3 i u r hu hr).more hB⟩
end tbl

/-- A string's bytes, as a list. -/
theorem str_list (s : ByteArray) : s = ⟨s.data.toList.toArray⟩ := by cases s; simp

end Go.Proofs.Ytglfjhbfibmfpaa.Q
