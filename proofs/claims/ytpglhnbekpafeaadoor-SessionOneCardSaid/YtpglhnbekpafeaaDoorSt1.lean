/-
  A call of a Go function, by its contract, as one step of a region that draws its order: for go_region_law.
-/
import Derived.Test.YtpglhnbekpafeaaDoorProg
import Derived.Deep.RegionLaw
import Derived.WalkKit
namespace Go.Proofs.YtpglhnbekpafeaaDoor
set_option linter.unusedVariables false
set_option linter.unusedSimpArgs false
open Go Go.RowKit

theorem step_go_call {P : Program} {w : World} {ops : Array Oper} {o : Oper} {a : Act} {K : Act → World → Prop} {Q : Exit → Act → World → Prop} {E : Prop} (hgd : o.guard = none) (f : FuncId) (x : Operand) (at_ : Array TypeId)
    (ho : o.op = .call { callee := .value (.func f), args := #[x], argTypes := at_ }) (hcf : ∀ (xs : Array Value) (W : World), (callFunc f xs).run P W = .ok (.enter f xs) W) (v : Value) (hx : a.eval x = v)
    (R : Value → World → Prop) (hc : Calls P f #[v] w fun e w' => ∃ r, e = .returned r ∧ R r w') (h : ∀ r w', R r w' → K (a.put o.dst r) w') :
    if Region.wanted o (yielded ops a.tmps) = true then Oper.wp P o a w K Q else E := by
  have hw : Region.wanted o (yielded ops a.tmps) = true := by simp [Region.wanted, hgd]
  rw [if_pos hw]
  have hrun : (execOp a.eval o).run P w = .ok (.enter f #[v]) w := by
    unfold execOp
    have hfv : a.eval (.func f) = .func (.func f) #[] #[] := rfl
    simp [ho, resolve, invoke, hx, hfv, hcf, Deferred.ofValue, Sem.run_pure]
  unfold Oper.wp
  rw [hrun, Oper.upon_enter]
  refine hc.mono ?_
  rintro e w' ⟨r, rfl, hr⟩
  exact h r w' hr
end Go.Proofs.YtpglhnbekpafeaaDoor
