/- Closed facts of the program, each by itself (the kernel's memory). -/
import Derived.Test.YtlelihddjacplaaGreatRows
import Derived.ProofKit
set_option linter.unusedVariables false
namespace Go.Proofs.YtlelihddjacplaaGreat
namespace Facts
theorem band {a b : Bool} (h1 : a = true) (h2 : b = true) : (a && b) = true := by rw [h1, h2]; rfl
theorem own : ownKnob Tryz.prog.godebug = none := by kernel_rfl
theorem laidOut : laidOutB Tryz.prog = true := by kernel_rfl
theorem mapsRowed_ : mapsRowed Tryz.prog = true := by kernel_rfl
theorem stops : (Tryz.prog.stops == []) = true := by kernel_rfl
theorem stopKnobs : (Tryz.prog.stopKnobs == []) = true := by kernel_rfl
theorem stopsHeard : Tryz.prog.stopsHeard = true := by kernel_rfl
theorem mayEnter : Tryz.prog.mayEnter = true := by kernel_rfl
end Facts
end Go.Proofs.YtlelihddjacplaaGreat
