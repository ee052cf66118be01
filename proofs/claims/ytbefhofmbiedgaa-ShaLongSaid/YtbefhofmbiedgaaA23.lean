/- Tables of contracts. Over any program; no condition. -/
import Derived.Test.YtbefhofmbiedgaaA22
namespace Go.Proofs.Ytbefhofmbiedgaa
set_option linter.all false
open Go.RowKit

def phiL : List (FuncId × List Bool × Spec) → Phi
  | [], _ => none
  | (g, ms) :: r, f => if g = f then some ms else phiL r f
def fnInB (P : Program) (f : FuncId) : Bool :=
  match P.funcs[f]? with
  | some fn => !(fn.name == "runtime.NumGoroutine") && !fn.body.isNone
  | none => false
section
variable {P : Program}
theorem fnInB_ok {f : FuncId} (h : fnInB P f = true) : FnIn P f := by
  unfold fnInB at h
  split at h
  · rename_i fn hf
    simp only [Bool.and_eq_true, Bool.not_eq_true'] at h
    exact ⟨fn, hf, h.1, h.2⟩
  · cases h
theorem phi_nil : PhiOk P (phiL []) := fun _ _ _ h => by cases h
theorem phi_cons {f : FuncId} {m : List Bool} {sp : Spec} {l : List (FuncId × List Bool × Spec)} (h : FnOk P f sp) (hf : fnInB P f = true) (hl : PhiOk P (phiL l)) : PhiOk P (phiL ((f, m, sp) :: l)) := by
  intro g m' sp' hg
  simp only [phiL] at hg
  split at hg
  · rename_i e; subst e; injection hg with hg; injection hg with e1 e2; subst e1 e2
    exact ⟨h, fnInB_ok hf⟩
  · exact hl g m' sp' hg
end
end Go.Proofs.Ytbefhofmbiedgaa
