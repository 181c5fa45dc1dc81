/- The contracts of package fields: the maker. -/
import Derived.Test.YtbjejmdbpikgjaaRef4T
import Derived.Test.YtbjejmdbpikgjaaKeep
import Derived.Outline
import Derived.Deep.QuietTactic
import Derived.BigQuiet
import Derived.Deep.RegionLaw
import Derived.BigRegion
namespace Go.Proofs.Ytbjejmdbpikgjaa.Q
open Go.RowKit
theorem step_append {P : Program} {ops : Array Oper} {o : Oper} {a : Act} {w w' : World} {Q : Exit → Act → World → Prop} {E : Prop} {K : Act → World → Prop} {t u ty : TypeId} {v v' x : Value} (hrun : (Builtin.append_ #[t, u] ty #[v, x]).run P w = .ok v' w') (s y : Operand) (ho : o.op = .call { callee := .builtin .append, args := #[s, y], argTypes := #[t, u] }) (hty : o.type = ty)
    (hg : Region.wanted o (yielded ops a.tmps) = true) (hs : a.eval s = v) (hy : a.eval y = x) (hh : K (a.put o.dst v') w') : if Region.wanted o (yielded ops a.tmps) = true then Oper.wp P o a w K Q else E := by
  rw [if_pos hg]
  subst hty
  unfold Oper.wp execOp
  simp only [ho, resolve, invoke, builtin, Sem.run_bind, Sem.run_pure, Result.andThen_ok, List.map_toArray, List.map_cons, List.map_nil, hs, hy, hrun]
  exact hh
end Go.Proofs.Ytbjejmdbpikgjaa.Q
namespace Go.Proofs.Ytbjejmdbpikgjaa.Fld
set_option linter.unusedVariables false
set_option linter.unusedSimpArgs false
set_option maxRecDepth 100000
open Go.RowKit Q Mach Dia Scan Ref4
attribute [local go_sem ↓] Go.wp_at_zero Go.wp_at_succ

def mkC (m : Mk) (vf vr : Value) : List Value := [.int .i64 m.lim.field, .int .i64 m.lim.fields, .int .i64 m.lim.records, .bool m.lim.uniform, vf, vr, .int .i64 m.begun, .int .i64 m.count, .int .i64 m.width, .int .i64 m.stopped]
/-- The maker m, in the midst of a block. -/
structure MkAt (w : World) (base g : Nat) (e : TypeId) (pre post : List Value) (m : Mk) (vf vr : Value) : Prop where
  blk : Blk w g e (pre ++ mkC m vf vr ++ post)
  low : base ≤ g
  fld : Own w base 5 1 vf m.field.length (m.field.map bv)
  rcd : Own w base 9 1 vr m.record.length (m.record.map sv)
theorem MkAt.c {w : World} {base g : Nat} {e : TypeId} {pre post : List Value} {m : Mk} {vf vr : Value} (h : MkAt w base g e pre post m vf vr) {i : Nat} {u : Value} (hi : (mkC m vf vr)[i]? = some u) : w.cell? ⟨g, pre.length + i, none⟩ = some u := by
  have hl : i < (mkC m vf vr).length := (List.getElem?_eq_some_iff.1 hi).1
  rw [h.blk.cell, List.append_assoc, List.getElem?_append_right (by omega), List.getElem?_append_left (by omega), Nat.add_sub_cancel_left]
  exact hi
theorem MkAt.f {w : World} {base g : Nat} {e : TypeId} {pre post : List Value} {m : Mk} {vf vr : Value} (h : MkAt w base g e pre post m vf vr) {i : Nat} (hi : i < 10) : w.frozen? ⟨g, pre.length + i, none⟩ = false :=
  h.blk.frozen (by simp [mkC]; omega)
theorem infoStr : (Try.prog.info? 9).map (fun i => (i.zero, i.size, i.bytes)) = some (some (.string ⟨#[]⟩), 1, 16) := by kernel_rfl
theorem infoU8 : (Try.prog.info? 5).map (fun i => (i.zero, i.size, i.bytes)) = some (some (.int .u8 0), 1, 1) := by kernel_rfl

/-- What a call on the maker leaves. -/
def MkPost (w : World) (base g : Nat) (e : TypeId) (pre post : List Value) (m' : Mk) (vf vr : Value) (w' : World) : Prop :=
  ∃ vf' vr', MkAt w' base g e pre post m' vf' vr' ∧ Keeps (g :: (blkOf vf ++ blkOf vr)) w w' ∧ (∀ k ∈ blkOf vf', k ∈ blkOf vf ∨ w.heap.size ≤ k) ∧ (∀ k ∈ blkOf vr', k ∈ blkOf vr ∨ w.heap.size ≤ k)

set_option maxHeartbeats 1000000 in
theorem putField_c (base g : Nat) (e : TypeId) (pre post : List Value) (m : Mk) (vf vr : Value) (w : World) (h : MkAt w base g e pre post m vf vr) (he : e ≠ 5 ∧ e ≠ 9) (hl : m.record.length ≤ 1000000) :
    Calls Try.prog 101 #[.pointer (some ⟨g, pre.length, none⟩)] w fun r w' => r = .returned (.tuple #[]) ∧ MkPost w base g e pre post (putField m) vf vr w' := by
  obtain ⟨iS, hiS, hS0, hS1, hS2⟩ := info_parts infoStr
  have HF := Lib.hid h
  have c4 := h.c (i := 4) rfl
  have c5 := h.c (i := 5) rfl
  have f4 := h.f (i := 4) (by omega)
  have f5 := h.f (i := 5) (by omega)
  have hgl := h.blk.lt
  have hcv : ∀ w' B, Rd w' B 1 vf m.field.length (m.field.map bv) → (convert 37 9 vf).run Try.prog w' = .ok (sv m.field) w' := fun w' B hr => run_toString hr Try.underlying37 Try.underlying5 Try.underlying9
  clear h
  go_enter Try.func101, Try.ntmps101
  go_wp2_with (fail)
  have hownD : Own (w.alloc (.cells #[sv m.field] 9)).drew base 9 1 vr m.record.length (m.record.map sv) := HF.out.rcd.keep ((Keeps.alloc [] w _).drew1) (by simp)
  have hsrc : Src Try.prog (w.alloc (.cells #[sv m.field] 9)).drew 65 9 1 (.slice (some ⟨w.heap.size, 0, none⟩) 1 1) 1 [sv m.field] := src_one w (sv m.field) 1 Try.underlying65
  obtain ⟨v', w2, hap, hown2, k2, hb2⟩ := run_append (P := Try.prog) (ty := 65) Try.underlying65 hiS hS0 hS1 hS2 rfl hownD hsrc (by simp [Value.oneCell']) (by simp only [maxLen]; omega) (by omega) (by have := HF.out.low; simp; omega)
  obtain ⟨A', c', rfl, _, _⟩ := hown2.form
  obtain ⟨A, cf, rfl, hn1, hm1⟩ := HF.out.fld.form
  have hfl := HF.out.fld
  have hcv1 := hcv w.drew _ (((hfl.keep (Keeps.drew [] w) (by simp))).rd (Nat.le_refl _))
  have hcv2 := hcv (w.alloc (.cells #[sv m.field] 9)).drew _ (((hfl.keep ((Keeps.alloc [] w _).drew1) (by simp))).rd (Nat.le_refl _))
  have hgr : ∀ k ∈ blkOf vr, k ≠ g := by intro k hk; exact HF.out.rcd.apartBlk HF.out.blk (Ne.symm he.2) k hk
  have hgf : ∀ k ∈ blkOf (.slice A m.field.length cf), k ≠ g := by intro k hk; exact HF.out.fld.apartBlk HF.out.blk (Ne.symm he.1) k hk
  have kA : Keeps [] w (w.alloc (.cells #[sv m.field] 9)).drew := (Keeps.alloc [] w _).drew1
  have hblk2 := (HF.out.blk.keep kA (by simp)).keep k2 (fun hm => hgr _ hm rfl)
  have hfl2 := (hfl.keep kA (by simp)).keep k2 (fun a ha hm => hfl.apart HF.out.rcd (by decide) a ha hm)
  have k02 := (kA.sub (F' := blkOf vr) (by simp)).trans k2 (fun x h _ => h)
  have hg2 := hblk2.lt
  have hI : ∀ (i : Nat) (u : Value), (mkC m (.slice A m.field.length cf) vr)[i]? = some u → w2.cell? ⟨g, pre.length + i, none⟩ = some u ∧ w2.frozen? ⟨g, pre.length + i, none⟩ = false := by
    intro i u hi
    have hl : i < (mkC m (.slice A m.field.length cf) vr).length := (List.getElem?_eq_some_iff.1 hi).1
    refine ⟨?_, hblk2.frozen (by simp; omega)⟩
    rw [hblk2.cell, List.append_assoc, List.getElem?_append_right (by omega), List.getElem?_append_left (by omega), Nat.add_sub_cancel_left]
    exact hi
  obtain ⟨g5, h5⟩ := hI 5 _ rfl
  obtain ⟨g4, h4⟩ := hI 4 _ rfl
  have HB2 := Lib.hid hblk2; have HF2 := Lib.hid hfl2; have HO2 := Lib.hid hown2; have K2 := Lib.hid k02; have HN := Lib.hid hb2; have HC := Lib.hid hcv; have HGR := Lib.hid hgr; have HGF := Lib.hid hgf
  clear hownD hsrc hown2 k2 hb2 hcv hfl hiS hS0 hS1 hS2 hblk2 hfl2 k02 hI hgr hgf kA
  go_region_law (first | (refine step_append hap _ _ rfl rfl rfl rfl rfl ?_))
  all_goals go_wp2_with (fail)
  all_goals
    go_end0
    refine ⟨?_, .slice A 0 cf, .slice A' (m.record.length + 1) c', ⟨?_, ?_, ?_, ?_⟩, ?_, ?_, ?_⟩
    · rfl
    · have h2 := (HB2.out.set_ (pre.length + 5) (.slice A' (m.record.length + 1) c')).set_ (pre.length + 4) (.slice A 0 cf)
      simpa [mkC, putField, List.set_append] using h2
    · exact HF.out.low
    · have h2 := (HF2.out.upto_ (k := 0) (by omega)).keep ((Keeps.setCell w2 ⟨g, pre.length + 5, none⟩ (.slice A' (m.record.length + 1) c')).set1 ⟨g, pre.length + 4, none⟩ (.slice A 0 cf) (by simp)) (fun a ha hm => by simp at hm; exact HGF.out a (by cases A <;> exact ha) hm)
      simpa [putField] using h2
    · have h2 := HO2.out.keep ((Keeps.setCell w2 ⟨g, pre.length + 5, none⟩ (.slice A' (m.record.length + 1) c')).set1 ⟨g, pre.length + 4, none⟩ (.slice A 0 cf) (by simp)) (fun a ha hm => by simp at hm; rcases HN.out a ha with h3 | h3; exact HGR.out a h3 hm; simp at h3; omega)
      simpa [putField] using h2
    · exact ((K2.out.sub (F' := g :: (blkOf (.slice A m.field.length cf) ++ blkOf vr)) (fun x hx _ => by simp [hx])).set1 _ _ (by simp)).set1 _ _ (by simp)
    · intro k hk
      exact .inl (by cases A <;> exact hk)
    · intro k hk
      exact (HN.out k hk).imp id (by intro h; simp at h; omega)
end Go.Proofs.Ytbjejmdbpikgjaa.Fld
