/- Steps of a region that draws its order: a call of a Go function met by its contract; a slice. No program in sight. -/
import Derived.Test.YtcmoldondflilaaTbl
import Derived.Test.YtcmoldondflilaaKeep
import Derived.BigCall
import Derived.Deep.RegionLaw
import Derived.BigRegion
namespace Go.Proofs.Ytcmoldondflilaa.Q
set_option linter.unusedVariables false
set_option linter.unusedSimpArgs false
set_option maxRecDepth 100000
open Go.RowKit

theorem step_call {P : Program} {ops : Array Oper} {o : Oper} {a : Act} {w : World} {Q : Exit → Act → World → Prop} {E : Prop} {K : Act → World → Prop} {f : FuncId} {args : Array Value} {Post : Ending → World → Prop} {fn : Func} (hc : Calls P f args w Post) (hf : P.funcs[f]? = some fn)
    (hb : (fn.name == "runtime.NumGoroutine") = false ∧ fn.body.isNone = false) (xs : Array Operand) (tys : Array TypeId) (ho : o.op = .call { callee := .value (.func f), args := xs, argTypes := tys }) (hg : Region.wanted o (yielded ops a.tmps) = true) (hargs : xs.toList.map a.eval = args.toList)
    (hp : ∀ e w', Post e w' → ∃ v, e = .returned v ∧ K (a.put o.dst v) w') : if Region.wanted o (yielded ops a.tmps) = true then Oper.wp P o a w K Q else E := by
  rw [if_pos hg]
  unfold Oper.wp
  have hrun : (execOp a.eval o).run P w = .ok (.enter f args) w := by
    obtain ⟨dst, op, ty, pos, after, guard⟩ := o
    dsimp only at ho
    subst ho
    have hargs' : #[] ++ xs.map a.eval ++ #[] = args := by
      apply Array.ext'
      simpa using hargs
    rw [execOp_call_go, hargs']
    unfold callFunc
    have n1 : fn.name ≠ "runtime.NumGoroutine" := by simpa using hb.1
    have n2 : fn.body ≠ none := by
      intro e
      rw [e] at hb
      simp at hb
    simp [go_sem, hf, n1, n2]
  rw [hrun, Oper.upon_enter]
  refine hc.mono ?_
  intro e w' h
  obtain ⟨v, rfl, hk⟩ := hp e w' h
  exact hk
theorem step_slice {P : Program} {ops : Array Oper} {o : Oper} {a : Act} {w w' : World} {Q : Exit → Act → World → Prop} {E : Prop} {K : Act → World → Prop} {t : TypeId} {v v' : Value} {lo hi mx : Option Value} (hrun : (Instr.sliceAt t v lo hi mx).run P w = .ok v' w') (s : Operand) (l h m : Option Operand) (ho : o.op = .slice t s l h m)
    (hg : Region.wanted o (yielded ops a.tmps) = true) (hs : a.eval s = v) (hlo : l.map a.eval = lo) (hhi : h.map a.eval = hi) (hmx : m.map a.eval = mx) (hh : K (a.put o.dst v') w') : if Region.wanted o (yielded ops a.tmps) = true then Oper.wp P o a w K Q else E := by
  rw [if_pos hg]
  unfold Oper.wp execOp
  simp only [ho, Sem.run_bind, Sem.run_pure, Result.andThen_ok, hs, hlo, hhi, hmx, hrun]
  exact hh
end Go.Proofs.Ytcmoldondflilaa.Q
