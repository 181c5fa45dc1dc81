/- The contracts of package read: the reader, a byte's step. -/
import Derived.Test.YtbjejmdbpikgjaaFld4
import Derived.Test.YtbjejmdbpikgjaaUpto
import Derived.Test.YtbjejmdbpikgjaaBom
import Derived.Test.YtbjejmdbpikgjaaUtfS
import Derived.Test.YtbjejmdbpikgjaaRdp
import Derived.Test.YtbjejmdbpikgjaaStep
namespace Go.Proofs.Ytbjejmdbpikgjaa.Rd
set_option linter.unusedVariables false
set_option linter.unusedSimpArgs false
set_option maxRecDepth 100000
open Go.RowKit Q Mach Dia Scan Ref4 Fld
attribute [local go_sem ↓] Go.wp_at_zero Go.wp_at_succ
structure Rs where
  bs : Bom.St
  mm : Mk
  sq : Nat
  st : Nat
  fed : Nat
  recs : Tb
  handed : Nat
  kind : Nat
  pl : Nat
  cl : Bool
def rP (d : Dia) (s : Rs) : List Value := [bv d.delim, bv d.quote, .int .i64 d.fin] ++ Bom.St.cells s.bs
def rT (s : Rs) (vq : Value) : List Value := [.int .i64 s.sq, .int .i64 s.st, .int .i64 s.fed, vq, .int .i64 s.handed, .int .i64 s.kind, .int .i64 s.pl, .bool s.cl]
def rC (d : Dia) (s : Rs) (vf vr vq : Value) : List Value := rP d s ++ mkC s.mm vf vr ++ rT s vq
/-- A reader, its own cells and slices. -/
structure RAt (w : World) (base g : Nat) (d : Dia) (s : Rs) (vf vr vq : Value) (vs : List Value) : Prop where
  mka : MkAt w base g 84 (rP d s) (rT s vq) s.mm vf vr
  tab : OTb w base 65 9 vq vs s.recs
  ap : ∀ x ∈ vs.flatMap blkOf, x ∉ blkOf vr
section at_
variable {w w' : World} {base g : Nat} {d : Dia} {s s' : Rs} {vf vr vq : Value} {vs : List Value}
theorem RAt.blk (h : RAt w base g d s vf vr vq vs) : Blk w g 84 (rC d s vf vr vq) := h.mka.blk
theorem RAt.c (h : RAt w base g d s vf vr vq vs) {i : Nat} {u : Value} (hi : (rC d s vf vr vq)[i]? = some u) : w.cell? ⟨g, i, none⟩ = some u := h.mka.blk.cell_of hi
theorem RAt.f (h : RAt w base g d s vf vr vq vs) {i : Nat} (hi : i < 25) : w.frozen? ⟨g, i, none⟩ = false := h.mka.blk.frozen (by simpa [rP, rT, mkC, Bom.St.cells] using hi)
theorem RAt.lt (h : RAt w base g d s vf vr vq vs) : g < w.heap.size := h.mka.blk.lt
theorem RAt.keepF (h : RAt w base g d s vf vr vq vs) {F : List Nat} (k : Keeps F w w') (hF : g ∉ F) (h1 : ∀ x ∈ blkOf vf, x ∉ F) (h2 : ∀ x ∈ blkOf vr, x ∉ F) (h3 : ∀ x ∈ tblks vq vs, x ∉ F) : RAt w' base g d s vf vr vq vs :=
  ⟨⟨h.mka.blk.keep k hF, h.mka.low, h.mka.fld.keep k h1, h.mka.rcd.keep k h2⟩, h.tab.keep k h3, h.ap⟩
theorem RAt.keep (h : RAt w base g d s vf vr vq vs) (k : Keeps [] w w') : RAt w' base g d s vf vr vq vs := h.keepF k (by simp) (by simp) (by simp) (by simp)
theorem RAt.less (h : RAt w base g d s vf vr vq vs) {b : Nat} (hb : b ≤ base) : RAt w b g d s vf vr vq vs :=
  ⟨⟨h.mka.blk, Nat.le_trans hb h.mka.low, h.mka.fld.less hb, h.mka.rcd.less hb⟩, h.tab.less hb, h.ap⟩
theorem RAt.tabG (h : RAt w base g d s vf vr vq vs) : ∀ x ∈ tblks vq vs, x ≠ g := by
  obtain ⟨h1, h2, h3⟩ := h.tab
  intro x hx
  simp only [tblks, List.mem_append, List.mem_flatMap] at hx
  rcases hx with hx | ⟨u, hu, hx⟩
  · exact h2.apartBlk h.mka.blk (by decide) x hx
  · obtain ⟨i, hi, rfl⟩ := List.getElem_of_mem hu
    exact (h3 i _ _ (List.getElem?_eq_getElem hi) (List.getElem?_eq_getElem (by omega))).apartBlk h.mka.blk (by decide) x hx
theorem RAt.tabF (h : RAt w base g d s vf vr vq vs) : ∀ x ∈ tblks vq vs, x ∉ blkOf vf := by
  obtain ⟨h1, h2, h3⟩ := h.tab
  intro x hx
  simp only [tblks, List.mem_append, List.mem_flatMap] at hx
  rcases hx with hx | ⟨u, hu, hx⟩
  · exact h2.apart h.mka.fld (by decide) x hx
  · obtain ⟨i, hi, rfl⟩ := List.getElem_of_mem hu
    exact (h3 i _ _ (List.getElem?_eq_getElem hi) (List.getElem?_eq_getElem (by omega))).apart h.mka.fld (by decide) x hx
theorem RAt.tabR (h : RAt w base g d s vf vr vq vs) : ∀ x ∈ tblks vq vs, x ∉ blkOf vr := by
  intro x hx
  simp only [tblks, List.mem_append] at hx
  rcases hx with hx | hx
  · exact h.tab.2.1.apart h.mka.rcd (by decide) x hx
  · exact h.ap x hx
/-- One of the reader's cells is stored. -/
theorem RAt.set (h : RAt w base g d s vf vr vq vs) (i : Nat) (u : Value) (hi : (rC d s vf vr vq).set i u = rC d s' vf vr vq) (hm : s'.mm = s.mm) (hr : s'.recs = s.recs) : RAt (w.setCell ⟨g, i, none⟩ u) base g d s' vf vr vq vs := by
  have k := Keeps.setCell w ⟨g, i, none⟩ u
  refine ⟨⟨?_, h.mka.low, ?_, ?_⟩, ?_, h.ap⟩
  · have h1 := h.blk.set_ i u
    rw [hi] at h1
    exact h1
  · rw [hm]; exact h.mka.fld.keep k (fun a ha hm => by simp at hm; exact h.mka.fld.apartBlk h.mka.blk (by decide) a ha hm)
  · rw [hm]; exact h.mka.rcd.keep k (fun a ha hm => by simp at hm; exact h.mka.rcd.apartBlk h.mka.blk (by decide) a ha hm)
  · rw [hr]; exact h.tab.keep k (fun a ha hm => by simp at hm; exact h.tabG a ha hm)
end at_
/-- The reader and the blocks that it may write. -/
def RA (w : World) (base g : Nat) (d : Dia) (s : Rs) (O : List Nat) : Prop := ∃ vf vr vq vs, O = blkOf vf ++ (blkOf vr ++ blkOf vq) ∧ RAt w base g d s vf vr vq vs
def RP (w : World) (base g : Nat) (d : Dia) (s' : Rs) (O : List Nat) (w' : World) : Prop :=
  ∃ O', RA w' base g d s' O' ∧ Keeps (g :: O) w w' ∧ ∀ k ∈ O', k ∈ O ∨ w.heap.size ≤ k
section ra
variable {w w' w'' : World} {base g : Nat} {d : Dia} {s s' : Rs} {O : List Nat}
theorem RA.keep (h : RA w base g d s O) (k : Keeps [] w w') : RA w' base g d s O := by
  obtain ⟨vf, vr, vq, vs, h1, h2⟩ := h
  exact ⟨vf, vr, vq, vs, h1, h2.keep k⟩
theorem RA.less (h : RA w base g d s O) {b : Nat} (hb : b ≤ base) : RA w b g d s O := by
  obtain ⟨vf, vr, vq, vs, h1, h2⟩ := h
  exact ⟨vf, vr, vq, vs, h1, h2.less hb⟩
theorem RA.lt (h : RA w base g d s O) : base ≤ g ∧ g < w.heap.size ∧ ∀ k ∈ O, base ≤ k ∧ k < w.heap.size := by
  obtain ⟨vf, vr, vq, vs, rfl, h2⟩ := h
  refine ⟨h2.mka.low, h2.lt, fun k hk => ?_⟩
  simp only [List.mem_append] at hk
  rcases hk with hk | hk | hk
  · exact h2.mka.fld.lt k hk
  · exact h2.mka.rcd.lt k hk
  · exact h2.tab.2.1.lt k hk
theorem RP.refl (h : RA w base g d s O) : RP w base g d s O w := ⟨O, h, Keeps.refl _ _, fun k hk => .inl hk⟩
theorem RP.of (h : RA w base g d s O) (k : Keeps [] w w') : RP w base g d s O w' := ⟨O, h.keep k, k.sub (by simp), fun k hk => .inl hk⟩
theorem RP.trans (h : RP w base g d s O w') (h2 : ∀ O', RA w' base g d s O' → RP w' base g d s' O' w'') : RP w base g d s' O w'' := by
  obtain ⟨O', h1, k1, n1⟩ := h
  obtain ⟨O2, h3, k3, n3⟩ := h2 O' h1
  refine ⟨O2, h3, k1.trans k3 ?_, fun k hk => ?_⟩
  · intro x hx hl
    simp only [List.mem_cons] at hx ⊢
    rcases hx with rfl | hx
    · exact .inl rfl
    · rcases n1 x hx with h | h
      · exact .inr h
      · omega
  · rcases n3 k hk with h | h
    · exact n1 k h
    · exact .inr (by have := k1.size; omega)
theorem RP.keep (h : RP w base g d s O w') (k : Keeps [] w' w'') : RP w base g d s O w'' := h.trans fun O' h' => RP.of h' k
theorem RP.below (h : RP w base g d s O w') (hw : RA w base g d s' O) : Below base w w' := by
  obtain ⟨O', h1, k1, n1⟩ := h
  obtain ⟨l1, l2, l3⟩ := hw.lt
  refine k1.below (by omega) ?_
  intro x hx
  simp only [List.mem_cons] at hx
  rcases hx with rfl | hx
  · exact l1
  · exact (l3 x hx).1
end ra
end Go.Proofs.Ytbjejmdbpikgjaa.Rd
