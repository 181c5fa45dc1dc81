/- The arguments of a law, opened: what a reading of each shape says of cells. And the last step of every row: a law that returns true and leaves what was there. -/
import Derived.Test.YtcmoldondflilaaLib
import Derived.ProofKit
import Derived.OpenShut
import Derived.ShutString
import Derived.ChangeOld
import Derived.Deep.Slices
import Derived.Lib.SmallJoins
import Derived.SizedLaws
namespace Go.Proofs.Ytcmoldondflilaa.Q
set_option linter.unusedVariables false
set_option linter.unusedSimpArgs false
set_option maxRecDepth 100000
open Go.RowKit Go.ChangeShapes Go.WideShapes

section opened
variable {H : Type} {enc : TypeId × Value → H} {P : Program} {w : World} {base : Nat} {spare : Nat → Bool} {held : Bool}

theorem flat_at {size : Nat} : ∀ (rows : List (List Value)) (_ : ∀ r ∈ rows, r.length = size) (j : Nat) (u : Value), rows.flatten[j]? = some u → ∃ i k r, rows[i]? = some r ∧ k < size ∧ j = i * size + k ∧ r[k]? = some u
  | [], _, j, u, h => by simp at h
  | r :: rows, hr, j, u, h => by
    have h1 := hr r (by simp)
    rw [List.flatten_cons] at h
    by_cases hj : j < r.length
    · rw [List.getElem?_append_left hj] at h
      exact ⟨0, j, r, rfl, by omega, by omega, h⟩
    · rw [List.getElem?_append_right (by omega)] at h
      obtain ⟨i, k, r', h2, h3, h4, h5⟩ := flat_at rows (fun x hx => hr x (by simp [hx])) _ u h
      exact ⟨i + 1, k, r', by simpa using h2, h3, by rw [Nat.add_mul]; omega, h5⟩

theorem flat_len {size : Nat} (rows : List (List Value)) (h : ∀ r ∈ rows, r.length = size) : rows.flatten.length = rows.length * size := by
  induction rows with
  | nil => simp
  | cons r rows ih =>
    rw [List.flatten_cons, List.length_append, h r (by simp), ih (fun x hx => h x (by simp [hx])), List.length_cons, Nat.add_mul]
    omega

/-- What a datum weighs is within the reach. -/
def Wt (P : Program) (t : TypeId) (d : DataW H) : Prop := ∀ n ∈ d.weights P t, n ≤ reachBytes
theorem weightsAll_mem {e : TypeId} {d : DataW H} : ∀ {ds : List (DataW H)}, d ∈ ds → ∀ n ∈ d.weights P e, n ∈ DataW.weightsAll P e ds
  | d0 :: ds, h, n, hn => by
    simp only [DataW.weightsAll, List.mem_append]
    rcases List.mem_cons.1 h with rfl | h
    · exact .inl hn
    · exact .inr (weightsAll_mem h n hn)
theorem wt_of {ts : List TypeId} {ds : List (DataW H)} (h : (DataW.weightsEach P ts ds).all (· ≤ reachBytes) = true) {j : Nat} {t : TypeId} {d : DataW H} (ht : ts[j]? = some t) (hd : ds[j]? = some d) : Wt P t d := fun n hn => by
  have := List.all_eq_true.1 h _ (DataW.weights_mem_each ht hd n hn)
  simpa using this
theorem Wt.field {t : TypeId} {fs : Array Field} {parts : List (DataW H)} (h : Wt P t (.agg parts)) (ht : P.underlying t = some (.struct fs)) {j : Nat} {u : TypeId} {d : DataW H} (hu : (fs.toList.map (·.type))[j]? = some u) (hd : parts[j]? = some d) : Wt P u d := fun n hn =>
  h n (by simp only [DataW.weights, ht]; exact DataW.weights_mem_each hu hd n hn)

/-- A slice of whatever elements: its value, and each element's cells with their reading. -/
theorem open_sl {t e : TypeId} {size fuel : Nat} {cs : List Value} {x : DataW H × List MemPlace} (ht : P.underlying t = some (.slice e)) (hC : P.cellsOf e = size) (h : DataW.trod enc P w base spare held fuel t cs = some x) :
    ∃ (v : Value) (rows : List (List Value)) (f' : Nat), cs = [v] ∧ Rd w w.heap.size size v rows.length rows.flatten ∧ (Wt P t x.1 → 1 ≤ P.bytesOf e → rows.length ≤ reachBytes) ∧ ∀ r ∈ rows, r.length = size ∧ ∃ y, DataW.trod enc P w base spare held f' e r = some y ∧ (Wt P t x.1 → Wt P e y.1) := by
  rcases Go.Deep.open_slice ht h with ⟨hcs, _⟩ | ⟨a, len, cap, m, n, D, Pl, hcs, _, hl, hm, hmm, hxx, hi⟩
  · exact ⟨_, [], 0, hcs, by simpa using Rd.nil_ w _ size, by simp, by simp⟩
  · have hlm : len ≤ m := by rw [hmm]; split <;> omega
    rw [hC] at hi
    let f : Nat → List Value := fun i => (w.cells? base (a.add (i * size)) size).getD []
    have hf : ∀ i, i < len → w.cells? base (a.add (i * size)) size = some (f i) ∧ DataW.trod enc P w base spare held n e (f i) = some (D i, Pl i) := by
      intro i hil
      obtain ⟨cs', h1, h2⟩ := hi i (by omega)
      have : f i = cs' := by simp [f, h1]
      rw [this]
      exact ⟨h1, h2⟩
    have hwt : ∀ i, i < len → Wt P t x.1 → Wt P e (D i) := by
      intro i hil hw q hq
      subst hxx
      apply hw
      simp only [DataW.weights, ht, List.mem_cons, List.mem_append]
      exact .inr (.inl (weightsAll_mem (List.mem_map.2 ⟨i, List.mem_range.2 hil, rfl⟩) q hq))
    have hrows : ∀ r ∈ (List.range len).map f, r.length = size ∧ ∃ y, DataW.trod enc P w base spare held n e r = some y ∧ (Wt P t x.1 → Wt P e y.1) := by
      intro r hr
      simp only [List.mem_map, List.mem_range] at hr
      obtain ⟨i, hil, rfl⟩ := hr
      obtain ⟨h1, h2⟩ := hf i hil
      exact ⟨(World.cells?_some h1).2.1, _, h2, hwt i hil⟩
    refine ⟨_, (List.range len).map f, n, hcs, ?_, ?_, hrows⟩
    rotate_left
    · intro hw hb
      subst hxx
      have := hw _ (by simp only [DataW.weights, ht]; exact List.mem_cons_self ..)
      simp only [List.length_map, List.length_range] at this ⊢
      exact Nat.le_trans (Nat.le_trans (Nat.le_add_right len (m - len)) (Nat.le_mul_of_pos_right _ hb)) this
    refine ⟨some a, cap, by simp, by simpa using hl, hm, flat_len _ (fun r hr => (hrows r hr).1), ?_⟩
    have hcell : ∀ j u, ((List.range len).map f).flatten[j]? = some u → w.cell? (a.add j) = some u := by
      intro j u hu
      obtain ⟨i, k, r, h1, h2, h3, h4⟩ := flat_at _ (fun r hr => (hrows r hr).1) j u hu
      simp only [List.getElem?_map] at h1
      have hil : i < len := by
        rcases Nat.lt_or_ge i len with h' | h'
        · exact h'
        · simp [List.getElem?_eq_none, h'] at h1
      simp [hil] at h1
      subst h1
      obtain ⟨h5, _⟩ := hf i hil
      have := (World.cells?_some h5).2.2 k h2
      rw [Go.Deep.add_add, ← h3] at this
      rw [this, h4]
    cases hfl : ((List.range len).map f).flatten with
    | nil => exact .inl rfl
    | cons y ys =>
      have h0 := hcell 0 y (by simp [hfl])
      have hs : a.spot = none := by
        have := World.cell?_spot h0
        simpa [Addr.add] using this
      obtain ⟨b, off, sp⟩ := a
      simp at hs
      subst hs
      have hlt : b < w.heap.size := by
        have := World.block_lt_of_cell? _ _ h0
        simpa [Addr.add] using this
      refine .inr ⟨b, off, rfl, hlt, fun j u hu => ?_⟩
      have := hcell j u (by rw [hfl]; exact hu)
      rwa [Addr.add_lit] at this

theorem byte_wf {n : Int} (h : (Lit.int .u8 n).wf = true) : ∃ b : UInt8, n = (b.toNat : Int) := by
  have hx : 0 ≤ n ∧ n ≤ 255 := by simpa [Lit.wf, IntKind.min, IntKind.max, IntKind.signed, IntKind.bits] using h
  exact ⟨UInt8.ofNat n.toNat, by simp; omega⟩
theorem i64_wf {n : Int} (h : (Lit.int .i64 n).wf = true) : -9223372036854775808 ≤ n ∧ n ≤ 9223372036854775807 := by
  simpa [Lit.wf, IntKind.min, IntKind.max, IntKind.signed, IntKind.bits] using h

theorem rows_bytes {e : TypeId} (he : P.underlying e = some (.int .u8)) {f' : Nat} {W : Prop} : ∀ rows : List (List Value), (∀ r ∈ rows, r.length = 1 ∧ ∃ y, DataW.trod enc P w base spare held f' e r = some y ∧ (W → Wt P e y.1)) → ∃ l : List UInt8, rows.flatten = l.map bv ∧ rows.length = l.length
  | [], _ => ⟨[], rfl, rfl⟩
  | r :: rows, h => by
    obtain ⟨l, h1, h2⟩ := rows_bytes he rows (fun x hx => h x (by simp [hx]))
    obtain ⟨_, y, hy, _⟩ := h r (by simp)
    obtain ⟨n, rfl, _, hn⟩ := DataW.trod_int he hy
    obtain ⟨b, rfl⟩ := byte_wf hn
    exact ⟨b :: l, by simp [h1], by simp [h2]⟩
theorem rows_ints {e : TypeId} (he : P.underlying e = some (.int .i64)) {f' : Nat} {W : Prop} : ∀ rows : List (List Value), (∀ r ∈ rows, r.length = 1 ∧ ∃ y, DataW.trod enc P w base spare held f' e r = some y ∧ (W → Wt P e y.1)) → ∃ l : List Int, rows.flatten = l.map (Value.int .i64) ∧ rows.length = l.length ∧ ∀ n ∈ l, -9223372036854775808 ≤ n ∧ n ≤ 9223372036854775807
  | [], _ => ⟨[], rfl, rfl, by simp⟩
  | r :: rows, h => by
    obtain ⟨l, h1, h2, h3⟩ := rows_ints he rows (fun x hx => h x (by simp [hx]))
    obtain ⟨_, y, hy, _⟩ := h r (by simp)
    obtain ⟨n, rfl, _, hn⟩ := DataW.trod_int he hy
    refine ⟨n :: l, by simp [h1], by simp [h2], ?_⟩
    intro x hx
    rcases List.mem_cons.1 hx with rfl | hx
    · exact i64_wf hn
    · exact h3 x hx
theorem rows_strs {e : TypeId} (he : P.underlying e = some .string) {f' : Nat} {W : Prop} : ∀ rows : List (List Value), (∀ r ∈ rows, r.length = 1 ∧ ∃ y, DataW.trod enc P w base spare held f' e r = some y ∧ (W → Wt P e y.1)) → ∃ l : List (List UInt8), rows.flatten = l.map sv ∧ rows.length = l.length ∧ (W → ∀ s ∈ l, s.length ≤ reachBytes)
  | [], _ => ⟨[], rfl, rfl, by simp⟩
  | r :: rows, h => by
    obtain ⟨l, h1, h2, h3⟩ := rows_strs he rows (fun x hx => h x (by simp [hx]))
    obtain ⟨_, y, hy, hw⟩ := h r (by simp)
    obtain ⟨s, rfl, rfl, hn⟩ := DataW.trod_string he hy
    refine ⟨s.data.toList :: l, by simp [h1], by simp [h2], ?_⟩
    intro hW x hx
    rcases List.mem_cons.1 hx with rfl | hx
    · exact hw hW _ (by simp [DataW.weights])
    · exact h3 hW x hx

/-- '[]byte' -/
theorem trod_bytes {t e : TypeId} {fuel : Nat} {cs : List Value} {x : DataW H × List MemPlace} (ht : P.underlying t = some (.slice e)) (he : P.underlying e = some (.int .u8)) (hC : P.cellsOf e = 1) (hB : 1 ≤ P.bytesOf e) (h : DataW.trod enc P w base spare held fuel t cs = some x) :
    ∃ (v : Value) (l : List UInt8), cs = [v] ∧ Rd w w.heap.size 1 v l.length (l.map bv) ∧ (Wt P t x.1 → l.length ≤ reachBytes) := by
  obtain ⟨v, rows, f', hcs, hrd, hz, hr⟩ := open_sl ht hC h
  obtain ⟨l, h1, h2⟩ := rows_bytes he rows hr
  rw [h1, h2] at hrd
  exact ⟨v, l, hcs, hrd, fun hw => by rw [← h2]; exact hz hw hB⟩
/-- '[]int' -/
theorem trod_ints {t e : TypeId} {fuel : Nat} {cs : List Value} {x : DataW H × List MemPlace} (ht : P.underlying t = some (.slice e)) (he : P.underlying e = some (.int .i64)) (hC : P.cellsOf e = 1) (hB : 1 ≤ P.bytesOf e) (h : DataW.trod enc P w base spare held fuel t cs = some x) :
    ∃ (v : Value) (l : List Int), cs = [v] ∧ Rd w w.heap.size 1 v l.length (l.map (Value.int .i64)) ∧ (∀ n ∈ l, -9223372036854775808 ≤ n ∧ n ≤ 9223372036854775807) ∧ (Wt P t x.1 → l.length ≤ reachBytes) := by
  obtain ⟨v, rows, f', hcs, hrd, hz, hr⟩ := open_sl ht hC h
  obtain ⟨l, h1, h2, h3⟩ := rows_ints he rows hr
  rw [h1, h2] at hrd
  exact ⟨v, l, hcs, hrd, h3, fun hw => by rw [← h2]; exact hz hw hB⟩
/-- '[]string' -/
theorem trod_strs {t e : TypeId} {fuel : Nat} {cs : List Value} {x : DataW H × List MemPlace} (ht : P.underlying t = some (.slice e)) (he : P.underlying e = some .string) (hC : P.cellsOf e = 1) (hB : 1 ≤ P.bytesOf e) (h : DataW.trod enc P w base spare held fuel t cs = some x) :
    ∃ (v : Value) (l : List (List UInt8)), cs = [v] ∧ Rd w w.heap.size 1 v l.length (l.map sv) ∧ (Wt P t x.1 → l.length ≤ reachBytes ∧ ∀ s ∈ l, s.length ≤ reachBytes) := by
  obtain ⟨v, rows, f', hcs, hrd, hz, hr⟩ := open_sl ht hC h
  obtain ⟨l, h1, h2, h3⟩ := rows_strs he rows hr
  rw [h1, h2] at hrd
  exact ⟨v, l, hcs, hrd, fun hw => ⟨by rw [← h2]; exact hz hw hB, h3 hw⟩⟩

/-- A slice of slices of strings, that reads as a table. -/
def Tbl (w : World) (B : Nat) (v : Value) (t : List (List (List UInt8))) : Prop :=
  ∃ vs : List Value, vs.length = t.length ∧ Rd w B 1 v t.length vs ∧ ∀ (i : Nat) u r, vs[i]? = some u → t[i]? = some r → Rd w B 1 u r.length (r.map sv)
/-- A slice of slices of bytes. -/
def BTbl (w : World) (B : Nat) (v : Value) (t : List (List UInt8)) : Prop :=
  ∃ vs : List Value, vs.length = t.length ∧ Rd w B 1 v t.length vs ∧ ∀ (i : Nat) u r, vs[i]? = some u → t[i]? = some r → Rd w B 1 u r.length (r.map bv)
/-- A table within the reach. -/
def Small (t : List (List (List UInt8))) : Prop := t.length ≤ reachBytes ∧ ∀ r ∈ t, r.length ≤ reachBytes ∧ ∀ s ∈ r, s.length ≤ reachBytes

theorem rows_tbl {e e' : TypeId} (he : P.underlying e = some (.slice e')) (he' : P.underlying e' = some .string) (hC : P.cellsOf e' = 1) (hB : 1 ≤ P.bytesOf e') {f' : Nat} {W : Prop} : ∀ rows : List (List Value), (∀ r ∈ rows, r.length = 1 ∧ ∃ y, DataW.trod enc P w base spare held f' e r = some y ∧ (W → Wt P e y.1)) →
    ∃ (vs : List Value) (t : List (List (List UInt8))), rows.flatten = vs ∧ rows.length = vs.length ∧ vs.length = t.length ∧ (∀ (i : Nat) u r, vs[i]? = some u → t[i]? = some r → Rd w w.heap.size 1 u r.length (r.map sv)) ∧ (W → ∀ r ∈ t, r.length ≤ reachBytes ∧ ∀ s ∈ r, s.length ≤ reachBytes)
  | [], _ => ⟨[], [], rfl, rfl, rfl, by simp, by simp⟩
  | r :: rows, h => by
    obtain ⟨vs, t, h1, h2, h3, h4, h5⟩ := rows_tbl he he' hC hB rows (fun x hx => h x (by simp [hx]))
    obtain ⟨_, y, hy, hw⟩ := h r (by simp)
    obtain ⟨v, l, rfl, hrd, hl⟩ := trod_strs he he' hC hB hy
    refine ⟨v :: vs, l :: t, by simp [h1], by simp [h2], by simp [h3], ?_, ?_⟩
    · intro i u r hu hr
      match i, hu, hr with
      | 0, hu, hr => simp at hu hr; subst hu hr; exact hrd
      | i + 1, hu, hr => exact h4 i u r (by simpa using hu) (by simpa using hr)
    · intro hW x hx
      rcases List.mem_cons.1 hx with rfl | hx
      · exact hl (hw hW)
      · exact h5 hW x hx
theorem rows_btbl {e e' : TypeId} (he : P.underlying e = some (.slice e')) (he' : P.underlying e' = some (.int .u8)) (hC : P.cellsOf e' = 1) (hB : 1 ≤ P.bytesOf e') {f' : Nat} {W : Prop} : ∀ rows : List (List Value), (∀ r ∈ rows, r.length = 1 ∧ ∃ y, DataW.trod enc P w base spare held f' e r = some y ∧ (W → Wt P e y.1)) →
    ∃ (vs : List Value) (t : List (List UInt8)), rows.flatten = vs ∧ rows.length = vs.length ∧ vs.length = t.length ∧ (∀ (i : Nat) u r, vs[i]? = some u → t[i]? = some r → Rd w w.heap.size 1 u r.length (r.map bv)) ∧ (W → ∀ r ∈ t, r.length ≤ reachBytes)
  | [], _ => ⟨[], [], rfl, rfl, rfl, by simp, by simp⟩
  | r :: rows, h => by
    obtain ⟨vs, t, h1, h2, h3, h4, h5⟩ := rows_btbl he he' hC hB rows (fun x hx => h x (by simp [hx]))
    obtain ⟨_, y, hy, hw⟩ := h r (by simp)
    obtain ⟨v, l, rfl, hrd, hl⟩ := trod_bytes he he' hC hB hy
    refine ⟨v :: vs, l :: t, by simp [h1], by simp [h2], by simp [h3], ?_, ?_⟩
    · intro i u r hu hr
      match i, hu, hr with
      | 0, hu, hr => simp at hu hr; subst hu hr; exact hrd
      | i + 1, hu, hr => exact h4 i u r (by simpa using hu) (by simpa using hr)
    · intro hW x hx
      rcases List.mem_cons.1 hx with rfl | hx
      · exact hl (hw hW)
      · exact h5 hW x hx
/-- '[][]string' -/
theorem trod_tbl {t e e' : TypeId} {fuel : Nat} {cs : List Value} {x : DataW H × List MemPlace} (ht : P.underlying t = some (.slice e)) (hC : P.cellsOf e = 1) (hB : 1 ≤ P.bytesOf e) (he : P.underlying e = some (.slice e')) (he' : P.underlying e' = some .string) (hC' : P.cellsOf e' = 1) (hB' : 1 ≤ P.bytesOf e') (h : DataW.trod enc P w base spare held fuel t cs = some x) :
    ∃ (v : Value) (tb : List (List (List UInt8))), cs = [v] ∧ Tbl w w.heap.size v tb ∧ (Wt P t x.1 → Small tb) := by
  obtain ⟨v, rows, f', hcs, hrd, hz, hr⟩ := open_sl ht hC h
  obtain ⟨vs, tb, h1, h2, h3, h4, h5⟩ := rows_tbl he he' hC' hB' rows hr
  rw [h1, h2, h3] at hrd
  exact ⟨v, tb, hcs, ⟨vs, h3, hrd, h4⟩, fun hw => ⟨by rw [← h3, ← h2]; exact hz hw hB, h5 hw⟩⟩
/-- '[][]byte' -/
theorem trod_btbl {t e e' : TypeId} {fuel : Nat} {cs : List Value} {x : DataW H × List MemPlace} (ht : P.underlying t = some (.slice e)) (hC : P.cellsOf e = 1) (hB : 1 ≤ P.bytesOf e) (he : P.underlying e = some (.slice e')) (he' : P.underlying e' = some (.int .u8)) (hC' : P.cellsOf e' = 1) (hB' : 1 ≤ P.bytesOf e') (h : DataW.trod enc P w base spare held fuel t cs = some x) :
    ∃ (v : Value) (tb : List (List UInt8)), cs = [v] ∧ BTbl w w.heap.size v tb ∧ (Wt P t x.1 → tb.length ≤ reachBytes ∧ ∀ r ∈ tb, r.length ≤ reachBytes) := by
  obtain ⟨v, rows, f', hcs, hrd, hz, hr⟩ := open_sl ht hC h
  obtain ⟨vs, tb, h1, h2, h3, h4, h5⟩ := rows_btbl he he' hC' hB' rows hr
  rw [h1, h2, h3] at hrd
  exact ⟨v, tb, hcs, ⟨vs, h3, hrd, h4⟩, fun hw => ⟨by rw [← h3, ← h2]; exact hz hw hB, h5 hw⟩⟩

/-! ### At an argument's value -/
section args
variable {r : Reach} {b0 : Nat} {t e e' : TypeId} {v : Value} {d : DataW H} {p : List MemPlace}
theorem Trod_bytes (ht : P.underlying t = some (.slice e)) (he : P.underlying e = some (.int .u8)) (hC : P.cellsOf e = 1) (hB : 1 ≤ P.bytesOf e) (hv : Value.okWide P w r b0 t v) (h : DataW.Trod enc P w base spare held t v d p) (hw : Wt P t d) :
    ∃ l : List UInt8, Rd w w.heap.size 1 v l.length (l.map bv) ∧ l.length ≤ reachBytes := by
  obtain ⟨a, len, cap, rfl⟩ := okWide_slice ht hv
  obtain ⟨fuel, hf⟩ := h
  obtain ⟨v', l, hcs, hrd, hz⟩ := trod_bytes ht he hC hB hf
  simp [Value.cells] at hcs
  subst hcs
  exact ⟨l, hrd, hz hw⟩
theorem Trod_ints (ht : P.underlying t = some (.slice e)) (he : P.underlying e = some (.int .i64)) (hC : P.cellsOf e = 1) (hB : 1 ≤ P.bytesOf e) (hv : Value.okWide P w r b0 t v) (h : DataW.Trod enc P w base spare held t v d p) (hw : Wt P t d) :
    ∃ l : List Int, Rd w w.heap.size 1 v l.length (l.map (Value.int .i64)) ∧ (∀ n ∈ l, -9223372036854775808 ≤ n ∧ n ≤ 9223372036854775807) ∧ l.length ≤ reachBytes := by
  obtain ⟨a, len, cap, rfl⟩ := okWide_slice ht hv
  obtain ⟨fuel, hf⟩ := h
  obtain ⟨v', l, hcs, hrd, h1, hz⟩ := trod_ints ht he hC hB hf
  simp [Value.cells] at hcs
  subst hcs
  exact ⟨l, hrd, h1, hz hw⟩
theorem Trod_strs (ht : P.underlying t = some (.slice e)) (he : P.underlying e = some .string) (hC : P.cellsOf e = 1) (hB : 1 ≤ P.bytesOf e) (hv : Value.okWide P w r b0 t v) (h : DataW.Trod enc P w base spare held t v d p) (hw : Wt P t d) :
    ∃ l : List (List UInt8), Rd w w.heap.size 1 v l.length (l.map sv) ∧ l.length ≤ reachBytes ∧ ∀ s ∈ l, s.length ≤ reachBytes := by
  obtain ⟨a, len, cap, rfl⟩ := okWide_slice ht hv
  obtain ⟨fuel, hf⟩ := h
  obtain ⟨v', l, hcs, hrd, hz⟩ := trod_strs ht he hC hB hf
  simp [Value.cells] at hcs
  subst hcs
  exact ⟨l, hrd, hz hw⟩
theorem Trod_tbl (ht : P.underlying t = some (.slice e)) (hC : P.cellsOf e = 1) (hB : 1 ≤ P.bytesOf e) (he : P.underlying e = some (.slice e')) (he' : P.underlying e' = some .string) (hC' : P.cellsOf e' = 1) (hB' : 1 ≤ P.bytesOf e') (hv : Value.okWide P w r b0 t v) (h : DataW.Trod enc P w base spare held t v d p) (hw : Wt P t d) :
    ∃ tb : List (List (List UInt8)), Tbl w w.heap.size v tb ∧ Small tb := by
  obtain ⟨a, len, cap, rfl⟩ := okWide_slice ht hv
  obtain ⟨fuel, hf⟩ := h
  obtain ⟨v', l, hcs, hrd, hz⟩ := trod_tbl ht hC hB he he' hC' hB' hf
  simp [Value.cells] at hcs
  subst hcs
  exact ⟨l, hrd, hz hw⟩
theorem Trod_btbl (ht : P.underlying t = some (.slice e)) (hC : P.cellsOf e = 1) (hB : 1 ≤ P.bytesOf e) (he : P.underlying e = some (.slice e')) (he' : P.underlying e' = some (.int .u8)) (hC' : P.cellsOf e' = 1) (hB' : 1 ≤ P.bytesOf e') (hv : Value.okWide P w r b0 t v) (h : DataW.Trod enc P w base spare held t v d p) (hw : Wt P t d) :
    ∃ tb : List (List UInt8), BTbl w w.heap.size v tb ∧ tb.length ≤ reachBytes ∧ ∀ r ∈ tb, r.length ≤ reachBytes := by
  obtain ⟨a, len, cap, rfl⟩ := okWide_slice ht hv
  obtain ⟨fuel, hf⟩ := h
  obtain ⟨v', l, hcs, hrd, hz⟩ := trod_btbl ht hC hB he he' hC' hB' hf
  simp [Value.cells] at hcs
  subst hcs
  exact ⟨l, hrd, hz hw⟩
theorem Trod_str (ht : P.underlying t = some .string) (hv : Value.okWide P w r b0 t v) (h : DataW.Trod enc P w base spare held t v d p) (hw : Wt P t d) : ∃ l : List UInt8, v = sv l ∧ l.length ≤ reachBytes := by
  obtain ⟨s, rfl, rfl, _, hs⟩ := Go.ChangeMaps.open_string ht hv h
  refine ⟨s.data.toList, by cases s; simp, ?_⟩
  exact hw _ (by simp [DataW.weights])
theorem Trod_u8 (ht : P.underlying t = some (.int .u8)) (hv : Value.okWide P w r b0 t v) (h : DataW.Trod enc P w base spare held t v d p) : ∃ b : UInt8, v = bv b := by
  obtain ⟨n, rfl, _, _, hn⟩ := open_int ht hv h
  obtain ⟨b, rfl⟩ := byte_wf hn
  exact ⟨b, rfl⟩
theorem Trod_int (ht : P.underlying t = some (.int .i64)) (hv : Value.okWide P w r b0 t v) (h : DataW.Trod enc P w base spare held t v d p) : ∃ n : Int, v = .int .i64 n ∧ -9223372036854775808 ≤ n ∧ n ≤ 9223372036854775807 := by
  obtain ⟨n, rfl, _, _, hn⟩ := open_int ht hv h
  exact ⟨n, rfl, i64_wf hn⟩
theorem Trod_bool (ht : P.underlying t = some .bool) (hv : Value.okWide P w r b0 t v) (h : DataW.Trod enc P w base spare held t v d p) : ∃ b : Bool, v = .bool b := by
  obtain ⟨b, rfl, _, _⟩ := open_bool ht hv h
  exact ⟨b, rfl⟩
theorem Trod_lt (h : DataW.Trod enc P w base spare held t v d p) : ∀ x ∈ p, x.block < w.heap.size := by obtain ⟨m, hm⟩ := h; exact DataW.trod_lt m _ _ _ hm
end args
end opened

section tbl
variable {w w' : World} {B B' : Nat} {v : Value}
theorem Tbl.below {t : List (List (List UInt8))} (h : Tbl w B v t) (hb : Below B' w w') (hB : B ≤ B') : Tbl w' B v t := by
  obtain ⟨vs, h1, h2, h3⟩ := h
  exact ⟨vs, h1, h2.below hb hB, fun i u r hu hr => (h3 i u r hu hr).below hb hB⟩
theorem BTbl.below {t : List (List UInt8)} (h : BTbl w B v t) (hb : Below B' w w') (hB : B ≤ B') : BTbl w' B v t := by
  obtain ⟨vs, h1, h2, h3⟩ := h
  exact ⟨vs, h1, h2.below hb hB, fun i u r hu hr => (h3 i u r hu hr).below hb hB⟩
theorem Tbl.more {t : List (List (List UInt8))} (h : Tbl w B v t) (hB : B ≤ B') : Tbl w B' v t := by
  obtain ⟨vs, h1, h2, h3⟩ := h
  exact ⟨vs, h1, h2.more hB, fun i u r hu hr => (h3 i u r hu hr).more hB⟩
end tbl

/-- A string's bytes, as a list. -/
theorem str_list (s : ByteArray) : s = ⟨s.data.toList.toArray⟩ := by cases s; simp

end Go.Proofs.Ytcmoldondflilaa.Q
