/- The laws' test 'awake' (concertinalaw22) is true: the kernel follows it. -/
import Derived.Test.YtdbbkaeoinalpaaGreatEv3
import Derived.KernelRfl
namespace Go.Proofs.YtdbbkaeoinalpaaGreat
namespace AM
/-- An empty heap. -/
def h0 : H := ⟨1, .leaf⟩
/-- 'true' was answered. -/
def isT (r : Res) (_ : H) : Bool := match r with
  | .ok (.bool b) => b
  | _ => false
/-- What is not walked where 'awake' is followed: slices.Sorted of a map's keys. -/
def ownB : OwnT := fun k => match Nat.beq k 156 with
  | true => some (sortedV 3 [215, 314])
  | false => match Nat.beq k 11 || Nat.beq k 13 with
    | true => some fun _ _ => none
    | false => none
set_option maxHeartbeats 4000000 in
theorem aw11 : kCallF (orcK ownB ovS 100000) 11 [] h0 isT = true := by kernel_rfl
end AM
end Go.Proofs.YtdbbkaeoinalpaaGreat
