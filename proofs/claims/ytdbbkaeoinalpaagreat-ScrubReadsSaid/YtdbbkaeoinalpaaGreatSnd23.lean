/- Checks of functions. -/
import Derived.Test.YtdbbkaeoinalpaaGreatSnd22
import Derived.Test.YtdbbkaeoinalpaaGreatProg
import Derived.KernelRfl
set_option linter.unusedVariables false
namespace Go.Proofs.YtdbbkaeoinalpaaGreat
namespace AM
def planOf (l : List (Nat × Plan)) (i : Nat) : Option Plan :=
  match l with
  | [] => none
  | (j, p) :: r => match Nat.beq j i with
    | true => some p
    | false => planOf r i
theorem FnOK.of {P : Program} {k : Nat} {F : AM.Func} {plan : Nat → Option Plan} (fn : Go.Func) (hf : P.funcs[k]? = some fn) (hn : (fn.name == "runtime.NumGoroutine") = false) (hc : compFunc P plan fn = some F.erase) (ho : F.okF fn.ntmps = true) : FnOK P k F :=
  ⟨fn, plan, hf, by simpa using hn, hc, ho⟩
end AM
end Go.Proofs.YtdbbkaeoinalpaaGreat
