/- Tables in memory: slices of slices of strings, read and owned; make. No program in sight. -/
import Derived.Test.YtcmoldondflilaaOpen
import Derived.Deep.OwnRows
namespace Go.Proofs.Ytcmoldondflilaa.Q
set_option linter.unusedVariables false
set_option linter.unusedSimpArgs false
set_option maxRecDepth 100000
open Go.RowKit

theorem own_lit (w : World) (e : TypeId) (xs : List Value) (h : xs.length ≤ maxLen) :
    Own (w.alloc (.cells xs.toArray e)) w.heap.size e 1 (.slice (some ⟨w.heap.size, 0, none⟩) xs.length xs.length) xs.length xs :=
  ⟨by simp, .inr ⟨w.heap.size, [], [], xs.length, rfl, Nat.le_refl _, by simpa using Blk.new w e xs, Nat.le_refl _, h, by simp⟩⟩
theorem rd_one' (w : World) (b : UInt8) (e : TypeId) : Rd (w.alloc (.cells #[bv b] e)) (w.heap.size + 1) 1 (.slice (some ⟨w.heap.size, 0, none⟩) 1 1) [b].length ([b].map bv) := by
  have := (own_lit w e [bv b] (by simp [maxLen])).rd (B := w.heap.size + 1) (by simp)
  simpa using this
/-- string([]byte{b}), the byte laid in a block of its own. -/
theorem run_str1 {P : Program} {t e s : TypeId} (ht : P.underlying t = some (.slice e)) (he : P.underlying e = some (.int .u8)) (hs : P.underlying s = some .string) (b : UInt8) (v : Int) (hv : (b.toNat : Int) = v) (w : World) :
    (convert t s (.slice (some ⟨w.heap.size, 0, none⟩) 1 1)).run P (w.alloc (.cells #[.int .u8 v] e)) = .ok (sv [b]) (w.alloc (.cells #[.int .u8 v] e)) := by
  subst hv
  exact run_toString (rd_one' w b e) ht he hs
theorem str_idx {P : Program} {t : TypeId} (ht : P.underlying t = some .string) (l : List UInt8) (k : Nat) (b : UInt8) (h : l[k]? = some b) (w : World) : (Instr.index t (.string ⟨l.toArray⟩) (.int .i64 (k : Int))).run P w = .ok (bv b) w := by
  obtain ⟨hk, hb⟩ := List.getElem?_eq_some_iff.1 h
  rw [run_index_string w t ⟨l.toArray⟩ .i64 k ht]
  have hs : (ByteArray.mk l.toArray).size = l.length := by simp [ByteArray.size]
  have hc : (0 : Int) ≤ (k : Int) ∧ (k : Int) < (ByteArray.mk l.toArray).size := by rw [hs]; omega
  rw [dif_pos hc]
  congr 3
  subst hb
  simp only [Int.toNat_natCast]
  rfl
theorem Rd.at_ {w : World} {B n c k : Nat} {A : Option Addr} {xs : List Value} (h : Rd w B 1 (.slice A n c) n xs) (hk : k < n) :
    ∃ b off u, A = some ⟨b, off, none⟩ ∧ b < B ∧ xs[k]? = some u ∧ w.cell? ⟨b, off + k, none⟩ = some u := by
  obtain ⟨A', c', hv, hn, hc, hl, hx⟩ := h
  injection hv with h1 _ h3
  subst h1 h3
  have hu : xs[k]? = some (xs[k]'(by omega)) := List.getElem?_eq_getElem (by omega)
  rcases hx with rfl | ⟨b, off, rfl, hb, hcell⟩
  · simp at hl; omega
  · exact ⟨b, off, _, rfl, hb, hu, hcell k _ hu⟩
theorem Rd.str_at {w : World} {B c k : Nat} {A : Option Addr} {r : List (List UInt8)} (h : Rd w B 1 (.slice A r.length c) r.length (r.map sv)) (hk : k < r.length) :
    ∃ b off, A = some ⟨b, off, none⟩ ∧ b < B ∧ w.cell? ⟨b, off + k, none⟩ = some (sv r[k]) := by
  obtain ⟨b, off, u, h1, h2, h3, h4⟩ := h.at_ hk
  rw [List.getElem?_map, List.getElem?_eq_getElem hk] at h3
  simp only [Option.map_some, Option.some.injEq] at h3
  subst h3
  exact ⟨b, off, h1, h2, h4⟩
theorem Rd.form {w : World} {B size n : Nat} {v : Value} {xs : List Value} (h : Rd w B size v n xs) : ∃ A c, v = .slice A n c ∧ n ≤ c ∧ c ≤ maxLen := by
  obtain ⟨A, c, hv, hn, hc, _⟩ := h
  exact ⟨A, c, hv, hn, hc⟩
/-- The reading does not hang on where an empty slice points. -/
theorem Rd.keepE {w w' : World} {B size n : Nat} {v : Value} {xs : List Value} (h : Rd w B size v n xs) {F : List Nat} (k : Keeps F w w') (hF : xs = [] ∨ ∀ x ∈ blkOf v, x ∉ F) : Rd w' B size v n xs := by
  rcases hF with rfl | hF
  · obtain ⟨A, c, hv, hn, hc, hl, hx⟩ := h
    exact ⟨A, c, hv, hn, hc, hl, .inl rfl⟩
  · exact h.keepF k hF
/-- What lies below block B is not in F. -/
theorem Rd.keepB {w w' : World} {B size n : Nat} {v : Value} {xs : List Value} (h : Rd w B size v n xs) {F : List Nat} (k : Keeps F w w') (hF : ∀ x ∈ F, B ≤ x) : Rd w' B size v n xs := by
  obtain ⟨A, c, hv, hn, hc, hl, hx⟩ := h
  refine ⟨A, c, hv, hn, hc, hl, hx.imp id ?_⟩
  rintro ⟨b, off, hA, hb, hcell⟩
  refine ⟨b, off, hA, hb, fun j u hu => ?_⟩
  have h1 := hcell j u hu
  rw [k.cell (World.block_lt_of_cell? _ _ h1) (fun hm => by have := hF b hm; omega)]
  exact h1

theorem Tbl.form {w : World} {B : Nat} {v : Value} {t : List (List (List UInt8))} (h : Tbl w B v t) : ∃ A c, v = .slice A t.length c ∧ t.length ≤ c ∧ c ≤ maxLen := by
  obtain ⟨vs, h1, h2, h3⟩ := h
  exact h2.form
theorem Tbl.at_ {w : World} {B c k : Nat} {A : Option Addr} {t : List (List (List UInt8))} (h : Tbl w B (.slice A t.length c) t) (hk : k < t.length) :
    ∃ b off A' c', A = some ⟨b, off, none⟩ ∧ b < B ∧ w.cell? ⟨b, off + k, none⟩ = some (.slice A' t[k].length c') ∧ Rd w B 1 (.slice A' t[k].length c') t[k].length (t[k].map sv) := by
  obtain ⟨vs, h1, h2, h3⟩ := h
  obtain ⟨b, off, u, h4, h5, h6, h7⟩ := h2.at_ hk
  have h8 := h3 k u t[k] h6 (List.getElem?_eq_getElem hk)
  obtain ⟨A', c', rfl, _, _⟩ := h8.form
  exact ⟨b, off, A', c', h4, h5, h7, h8⟩
theorem Tbl.keepB {w w' : World} {B : Nat} {v : Value} {t : List (List (List UInt8))} (h : Tbl w B v t) {F : List Nat} (k : Keeps F w w') (hF : ∀ x ∈ F, B ≤ x) : Tbl w' B v t := by
  obtain ⟨vs, h1, h2, h3⟩ := h
  exact ⟨vs, h1, h2.keepB k hF, fun i u r hu hr => (h3 i u r hu hr).keepB k hF⟩
theorem Tbl.drewN {w : World} {B : Nat} {v : Value} {t : List (List (List UInt8))} (h : Tbl w B v t) (n : Nat) : Tbl (w.drewN n) B v t := h
theorem Tbl.nil_ (w : World) (B : Nat) : Tbl w B (.slice none 0 0) [] := ⟨[], rfl, Rd.nil_ w B 1, by simp⟩

/-- An owned table: the rows' values are vs. -/
def OTb (w : World) (base : Nat) (er es : TypeId) (v : Value) (vs : List Value) (t : List (List (List UInt8))) : Prop :=
  vs.length = t.length ∧ Own w base er 1 v t.length vs ∧ ∀ (i : Nat) u r, vs[i]? = some u → t[i]? = some r → Own w base es 1 u r.length (r.map sv)
def tblks (v : Value) (vs : List Value) : List Nat := blkOf v ++ vs.flatMap blkOf
theorem OTb.keep {w w' : World} {base : Nat} {er es : TypeId} {v : Value} {vs : List Value} {t : List (List (List UInt8))} (h : OTb w base er es v vs t) {F : List Nat} (k : Keeps F w w') (hF : ∀ x ∈ tblks v vs, x ∉ F) : OTb w' base er es v vs t := by
  obtain ⟨h1, h2, h3⟩ := h
  refine ⟨h1, h2.keep k (fun x hx => hF x (by simp [tblks, hx])), fun i u r hu hr => (h3 i u r hu hr).keep k fun x hx => hF x ?_⟩
  simp only [tblks, List.mem_append, List.mem_flatMap]
  exact .inr ⟨u, List.mem_of_getElem? hu, hx⟩
theorem OTb.lt {w : World} {base : Nat} {er es : TypeId} {v : Value} {vs : List Value} {t : List (List (List UInt8))} (h : OTb w base er es v vs t) : ∀ x ∈ tblks v vs, base ≤ x ∧ x < w.heap.size := by
  obtain ⟨h1, h2, h3⟩ := h
  intro x hx
  simp only [tblks, List.mem_append, List.mem_flatMap] at hx
  rcases hx with hx | ⟨u, hu, hx⟩
  · exact h2.lt x hx
  · obtain ⟨i, hi, rfl⟩ := List.getElem_of_mem hu
    exact (h3 i _ _ (List.getElem?_eq_getElem hi) (List.getElem?_eq_getElem (by omega))).lt x hx
theorem OTb.tbl {w : World} {base : Nat} {er es : TypeId} {v : Value} {vs : List Value} {t : List (List (List UInt8))} (h : OTb w base er es v vs t) {B : Nat} (hB : w.heap.size ≤ B) : Tbl w B v t := by
  obtain ⟨h1, h2, h3⟩ := h
  exact ⟨vs, h1, h2.rd hB, fun i u r hu hr => (h3 i u r hu hr).rd hB⟩
theorem OTb.allBelow {w w' : World} {base : Nat} {er es : TypeId} {v : Value} {vs : List Value} {t : List (List (List UInt8))} (h : OTb w base er es v vs t) (k : Below w.heap.size w w') : OTb w' base er es v vs t := by
  obtain ⟨h1, h2, h3⟩ := h
  exact ⟨h1, h2.allBelow k, fun i u r hu hr => (h3 i u r hu hr).allBelow k⟩
theorem OTb.less {w : World} {base b' : Nat} {er es : TypeId} {v : Value} {vs : List Value} {t : List (List (List UInt8))} (h : OTb w base er es v vs t) (hb : b' ≤ base) : OTb w b' er es v vs t := by
  obtain ⟨h1, h2, h3⟩ := h
  exact ⟨h1, h2.less hb, fun i u r hu hr => (h3 i u r hu hr).less hb⟩
theorem OTb.nil_ (w : World) (base : Nat) (er es : TypeId) : OTb w base er es (.slice none 0 0) [] [] := ⟨rfl, Own.nil_ w base er 1, by simp⟩

/-- make([]T, n, c): a new row of zeroes. -/
theorem run_mk {P : Program} {t e : TypeId} {i : TypeInfo} {z : Value} (ht : P.underlying t = some (.slice e)) (hi : P.info? e = some i) (hz : i.zero = some z) (hs : i.size = 1) (hz1 : z.cells = #[z])
    (n c : Nat) (hnc : n ≤ c) (hb : i.bytes * c ≤ 281474976710656) (hn : c ≤ maxLen) (w : World) :
    ∃ w', (Instr.makeSlice t (.int .i64 (n : Int)) (.int .i64 (c : Int))).run P w = .ok (.slice (some ⟨w.heap.size, 0, none⟩) n c) w' ∧ Blk w' w.heap.size e (List.replicate c z) ∧ Keeps [] w w' ∧ w.heap.size < w'.heap.size ∧ w'.heap.size ≤ w.heap.size + 1 := by
  have hb' : (i.bytes : Int) * (c : Int) ≤ 281474976710656 := by
    have h : ((i.bytes * c : Nat) : Int) ≤ 281474976710656 := by omega
    rwa [Int.natCast_mul] at h
  have hr := run_make (P := P) w t e i z ht hi hz .i64 .i64 n c (by omega) (by omega) hb' (by unfold maxLen at hn; omega)
  have e1 : madeCells #[z] c = (List.replicate c z).toArray := by
    apply Array.ext
    · simp [madeCells]
    · intro j h1 h2
      simp [madeCells, Nat.mod_one]
  simp only [Int.toNat_natCast, hs, Nat.mul_one, hz1, e1] at hr
  exact ⟨_, hr, Blk.new w e _, Keeps.alloc [] w _, by simp, by simp⟩
theorem own_blk {w : World} {g c n base : Nat} {e : TypeId} {xs post : List Value} (h : Blk w g e (xs ++ post)) (hx : xs.length = n) (hb : base ≤ g) (hn : n ≤ c) (hc : c ≤ maxLen) (hl : c ≤ (xs ++ post).length) : Own w base e 1 (.slice (some ⟨g, 0, none⟩) n c) n xs :=
  ⟨by omega, .inr ⟨g, [], post, c, rfl, hb, by simpa using h, hn, hc, by omega⟩⟩
/-- append(v, y), y laid in a block of its own ahead of it. -/
theorem run_append1 {P : Program} {w : World} {base bytes n : Nat} {t e : TypeId} {i : TypeInfo} {z v y : Value} {xs : List Value} (ht : P.underlying t = some (.slice e)) (hi : P.info? e = some i) (hz : i.zero = some z)
    (hsize : i.size = 1) (hby : i.bytes = bytes) (hzs : z.cells.size = 1) (hown : Own w base e 1 v n xs) (h1 : y.oneCell' = true) (h63 : n + 1 ≤ maxLen) (hbytes : (n + 1) * bytes ≤ 140737488355328) (hbase : base ≤ w.heap.size) (ty : TypeId) :
    ∃ v' w', (Builtin.append_ #[t, t] ty #[v, .slice (some ⟨w.heap.size, 0, none⟩) 1 1]).run P (w.alloc (.cells #[y] e)) = .ok v' w' ∧ Own w' base e 1 v' (n + 1) (xs ++ [y]) ∧ Keeps (blkOf v) w w' ∧ ∀ k ∈ blkOf v', k ∈ blkOf v ∨ w.heap.size ≤ k := by
  obtain ⟨v', w', h2, h3, h4, h5⟩ := run_append (P := P) (w := w.alloc (.cells #[y] e)) (base := base) (u := t) (ty := ty) ht hi hz hsize hby hzs (hown.keep (Keeps.alloc [] w _) (by simp)) (src_one w y 1 ht) (by simpa using h1) h63 hbytes (by simp; omega)
  exact ⟨v', w', h2, h3, (Keeps.alloc (blkOf v) w _).trans h4 (fun _ h _ => h), fun k hk => (h5 k hk).imp id (by intro e; simp at e; omega)⟩
/-- What is owned of unlike types lies apart. -/
theorem Own.apart {w : World} {b1 b2 s1 s2 n1 n2 : Nat} {e1 e2 : TypeId} {v1 v2 : Value} {x1 x2 : List Value} (h1 : Own w b1 e1 s1 v1 n1 x1) (h2 : Own w b2 e2 s2 v2 n2 x2) (hne : e1 ≠ e2) : ∀ x ∈ blkOf v1, x ∉ blkOf v2 := by
  intro x hx1 hx2
  rcases h1.2 with ⟨rfl, _⟩ | ⟨g, pre, post, cap, rfl, _, hg, _⟩
  · simp [blkOf] at hx1
  · rcases h2.2 with ⟨rfl, _⟩ | ⟨g', pre', post', cap', rfl, _, hg', _⟩
    · simp [blkOf] at hx2
    · simp only [blkOf, List.mem_singleton] at hx1 hx2
      exact hg.ne_ hg' hne (hx1.symm.trans hx2)
theorem Own.apartBlk {w : World} {b1 s1 n1 g : Nat} {e1 e2 : TypeId} {v1 : Value} {x1 x2 : List Value} (h1 : Own w b1 e1 s1 v1 n1 x1) (h2 : Blk w g e2 x2) (hne : e1 ≠ e2) : ∀ x ∈ blkOf v1, x ≠ g := by
  intro x hx1 hx2
  rcases h1.2 with ⟨rfl, _⟩ | ⟨g', pre, post, cap, rfl, _, hg, _⟩
  · simp [blkOf] at hx1
  · simp only [blkOf, List.mem_singleton] at hx1
    exact hg.ne_ h2 hne (hx1.symm.trans hx2)
theorem OTb.push {w w' : World} {base : Nat} {er es : TypeId} {v v' u : Value} {vs : List Value} {t : List (List (List UInt8))} {r : List (List UInt8)} (h : OTb w base er es v vs t) (hne : er ≠ es) (hu : Own w base es 1 u r.length (r.map sv))
    (hv : Own w' base er 1 v' (t.length + 1) (vs ++ [u])) (k : Keeps (blkOf v) w w') : OTb w' base er es v' (vs ++ [u]) (t ++ [r]) := by
  obtain ⟨h1, h2, h3⟩ := h
  refine ⟨by simp [h1], by simpa using hv, fun i x y hx hy => ?_⟩
  by_cases hi : i < vs.length
  · rw [List.getElem?_append_left hi] at hx
    rw [List.getElem?_append_left (by omega)] at hy
    have h4 := h3 i x y hx hy
    exact h4.keep k (fun a ha ha' => h4.apart h2 (Ne.symm hne) a ha ha')
  · rw [List.getElem?_append_right (by omega)] at hx
    rw [List.getElem?_append_right (by omega)] at hy
    have hi0 : i - vs.length = 0 := by
      rcases Nat.eq_zero_or_pos (i - vs.length) with h | h
      · exact h
      · rw [List.getElem?_eq_none (by simp; omega)] at hx; cases hx
    rw [hi0] at hx
    rw [show i - t.length = 0 by omega] at hy
    simp at hx hy
    subst hx hy
    exact hu.keep k (fun a ha ha' => hu.apart h2 (Ne.symm hne) a ha ha')
/-- A literal table. -/
theorem Tbl.of_own {w : World} {base B : Nat} {er es : TypeId} {v : Value} {vs : List Value} {t : List (List (List UInt8))} (h : OTb w base er es v vs t) (hB : w.heap.size ≤ B) : Tbl w B v t := h.tbl hB
end Go.Proofs.Ytcmoldondflilaa.Q
