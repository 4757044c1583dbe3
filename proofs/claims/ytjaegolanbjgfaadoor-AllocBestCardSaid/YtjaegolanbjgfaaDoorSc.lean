import Derived.Test.YtjaegolanbjgfaaDoorAp
import Derived.WalkKit
import Derived.WalkSpells
import Derived.WalkLawsBesides
import Derived.Lib.Hide
import Derived.Deep.DeepCutAuto
import Derived.Deep.LoopGhost
import Derived.Deep.QuietTactic
import Derived.BigQuiet
import Derived.Deep.OwnRows
import Derived.StillTailTactics
import Derived.IntWalk
import Derived.Laws.BitsLemmas
import Derived.Laws.MathBits
import Derived.Laws.Bits64
import Derived.Deep.RegionHeld3
import Derived.BigRegion
import Derived.Lib.SliceRun
import Derived.Deep.AppendLies
set_option linter.unusedVariables false
set_option linter.unusedSimpArgs false
namespace Go.Proofs.YtjaegolanbjgfaaDoor
open Go.RowKit
section
variable {P : Program} {ops : Array Oper} {o : Oper} {a : Act} {K : Act → World → Prop} {Q : Exit → Act → World → Prop} {E : Prop}
/-- A call that hands back a value and leaves the world, as one step of a region that draws its order. -/
theorem step_call {W : World} (f : FuncId) (fn : Func) (hfn : P.funcs[f]? = some fn) (hbd : fn.body.isNone = false) (hnm : (fn.name == "runtime.NumGoroutine") = false) (x y : Operand) (tys : Array TypeId) (vx vy v : Value) (hgd : o.guard = none)
    (ho : o.op = .call { callee := .value (.func f), args := #[x, y], argTypes := tys }) (hx : a.eval x = vx) (hy : a.eval y = vy)
    (hc : Calls P f #[vx, vy] W fun e w' => e = .returned v ∧ W = w') (hK : K (a.put o.dst v) W) :
    if Region.wanted o (yielded ops a.tmps) = true then Oper.wp P o a W K Q else E := by
  have hw : Region.wanted o (yielded ops a.tmps) = true := by simp [Region.wanted, hgd]
  rw [if_pos hw]
  unfold Oper.wp
  have he : (execOp a.eval o).run P W = .ok (.enter f #[vx, vy]) W := by
    unfold execOp
    have e0 : a.eval (.func f) = .func (.func f) #[] #[] := rfl
    simp [ho, resolve, invoke, hx, hy, e0, Deferred.ofValue, callFunc, hfn, hnm]
    simp at hbd hnm
    simp [hbd, hnm]
    intro hb
    rw [hb] at hbd
    cases hbd
  rw [he]
  refine hc.mono ?_
  rintro e w' ⟨rfl, rfl⟩
  exact hK
end

end Go.Proofs.YtjaegolanbjgfaaDoor
