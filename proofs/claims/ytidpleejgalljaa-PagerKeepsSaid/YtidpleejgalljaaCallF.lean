/-
  A call of a known function inside a region that draws. Over any program.
-/
import Derived.Test.YtidpleejgalljaaRegion
import Derived.Test.YtidpleejgalljaaLaws
namespace Go.Proofs.Ytidpleejgalljaa
open Go.RowKit

section
variable {P : Program} {o : Oper} {a : Act} {w : World} {K : Act → World → Prop} {Q : Exit → Act → World → Prop}
/-- A call of a function of the program, by its contract. -/
theorem wp_call_f {f : FuncId} {l : List Operand} {tys : Array TypeId} (ho : o.op = .call { callee := .value (.func f), args := l.toArray, argTypes := tys }) (vs : List Value) (hvs : l.map a.eval = vs)
    (he : ∀ w, (callFunc f vs.toArray).run P w = .ok (.enter f vs.toArray) w)
    (hc : Calls P f vs.toArray w (fun e w' => ∃ v, e = .returned v ∧ K (a.put o.dst v) w')) : Oper.wp P o a w K Q := by
  unfold Oper.wp
  have hm : l.toArray.map a.eval = vs.toArray := by rw [← hvs]; simp
  have hrun : (execOp a.eval o).run P w = .ok (.enter f vs.toArray) w := by
    simp only [execOp, ho, resolve, hm]
    simp [invoke, Act.eval, he, Deferred.ofValue]
  rw [hrun]
  refine hc.mono ?_
  rintro e w' ⟨v, rfl, h⟩
  exact h
end

end Go.Proofs.Ytidpleejgalljaa
