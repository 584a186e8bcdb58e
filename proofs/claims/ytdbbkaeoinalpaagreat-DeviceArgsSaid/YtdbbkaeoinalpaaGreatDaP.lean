/- The law's test 'awake' at the program itself. -/
import Derived.Test.YtdbbkaeoinalpaaGreatDaM
import Derived.Test.YtdbbkaeoinalpaaGreatDaG
import Derived.Test.YtdbbkaeoinalpaaGreatDaNb
import Derived.Test.YtdbbkaeoinalpaaGreatDaO
set_option linter.unusedVariables false
namespace Go.Proofs.YtdbbkaeoinalpaaGreat
namespace AM
/-- Where 'awake' is followed. -/
abbrev baseAw : Aw := ⟨ownB⟩
theorem base_R (w : World) : R (fun _ => none) h0 w where
  pos := Nat.le_refl _
  zero := rfl
  dom := fun A bk h => by cases h
  lt := fun A o h => by rw [H.get, h0, Tr.get_leaf] at h; cases h
  obj := fun A o h => by rw [H.get, h0, Tr.get_leaf] at h; cases h
  inj := fun A B oA oB bA bB h => by rw [H.get, h0, Tr.get_leaf] at h; cases h
  blt := fun A bk h => by cases h
/-- A law's function has a body. -/
theorem has11 : ∃ fn, Tryz.prog.funcs[11]? = some fn ∧ fn.body.isSome = true ∧ fn.name ≠ "runtime.NumGoroutine" :=
  ⟨Tryz.f11, by kernel_rfl, by kernel_rfl, by
    have : (Tryz.f11.name == "runtime.NumGoroutine") = false := by kernel_rfl
    simpa using this⟩
theorem has13 : ∃ fn, Tryz.prog.funcs[13]? = some fn ∧ fn.body.isSome = true ∧ fn.name ≠ "runtime.NumGoroutine" :=
  ⟨Tryz.f13, by kernel_rfl, by kernel_rfl, by
    have : (Tryz.f13.name == "runtime.NumGoroutine") = false := by kernel_rfl
    simpa using this⟩
theorem base_prog (hS : OwnOK Tryz.prog 156 (sortedV 3 [215, 314])) : ProgOK Tryz.prog (@prog baseAw) where
  tables := tables
  fs := fun k F h => ftab_ok k F h
  meth := meth_ok
  own := fun k f h => by
    simp only [prog] at h
    split at h
    · replace h : ownB k = some f := h
      unfold ownB at h
      split at h
      · rename_i hk
        rw [nbeq] at hk
        have hk := of_decide_eq_true hk
        subst hk
        cases h
        exact hS
      · split at h
        · rename_i hk
          cases h
          simp only [nbeq, Bool.or_eq_true, decide_eq_true_eq] at hk
          rcases hk with rfl | rfl
          · exact ⟨has11, fun h => by cases h⟩
          · exact ⟨has13, fun h => by cases h⟩
        · cases h
    · cases h
end AM
end Go.Proofs.YtdbbkaeoinalpaaGreat
