/- The law's test 'awake' at the program itself. -/
import Derived.Test.YtdbbkaeoinalpaaGreatSnd23
import Derived.Test.YtdbbkaeoinalpaaGreatMeth
import Derived.Test.YtdbbkaeoinalpaaGreatEv4
import Derived.Test.YtdbbkaeoinalpaaGreatFnAll
import Derived.Test.YtdbbkaeoinalpaaGreatSorted
set_option linter.unusedVariables false
namespace Go.Proofs.YtdbbkaeoinalpaaGreat
namespace AM
/-- Where 'awake' is followed. -/
abbrev baseAw : Aw := ⟨ownB⟩
/-- 'awake' is true. -/
def awakeV (vs : List Value) (σ : H) : Option (Res × H) := match vs with
  | [] => some (.ok (.bool true), σ)
  | _ => none
/-- Where the laws are walked: their test has been made. -/
def ownL : OwnT := fun k => match Nat.beq k 11 with
  | true => some awakeV
  | false => none
abbrev lawAw : Aw := ⟨ownL⟩
theorem base_R (w : World) : R (fun _ => none) h0 w where
  pos := Nat.le_refl _
  zero := rfl
  dom := fun A bk h => by cases h
  lt := fun A o h => by rw [H.get, h0, Tr.get_leaf] at h; cases h
  obj := fun A o h => by rw [H.get, h0, Tr.get_leaf] at h; cases h
  inj := fun A B oA oB bA bB h => by rw [H.get, h0, Tr.get_leaf] at h; cases h
  blt := fun A bk h => by cases h
/-- A law's function has a body. -/
theorem has11 : ∃ fn, Tryz.prog.funcs[11]? = some fn ∧ fn.body.isSome = true ∧ fn.name ≠ "runtime.NumGoroutine" :=
  ⟨Tryz.f11, by kernel_rfl, by kernel_rfl, by
    have : (Tryz.f11.name == "runtime.NumGoroutine") = false := by kernel_rfl
    simpa using this⟩
theorem has13 : ∃ fn, Tryz.prog.funcs[13]? = some fn ∧ fn.body.isSome = true ∧ fn.name ≠ "runtime.NumGoroutine" :=
  ⟨Tryz.f13, by kernel_rfl, by kernel_rfl, by
    have : (Tryz.f13.name == "runtime.NumGoroutine") = false := by kernel_rfl
    simpa using this⟩
theorem base_prog (hS : OwnOK Tryz.prog 156 (sortedV 3 [215, 314])) : ProgOK Tryz.prog (@prog baseAw) where
  tables := tables
  fs := fun k F h => ftab_ok k F h
  meth := meth_ok
  own := fun k f h => by
    simp only [prog] at h
    split at h
    · replace h : ownB k = some f := h
      unfold ownB at h
      split at h
      · rename_i hk
        rw [nbeq] at hk
        have hk := of_decide_eq_true hk
        subst hk
        cases h
        exact hS
      · split at h
        · rename_i hk
          cases h
          simp only [nbeq, Bool.or_eq_true, decide_eq_true_eq] at hk
          rcases hk with rfl | rfl
          · exact ⟨has11, fun h => by cases h⟩
          · exact ⟨has13, fun h => by cases h⟩
        · cases h
    · cases h
/-- 'awake' answers true, and changes nothing that was there. -/
theorem awake_own (hS : OwnOK Tryz.prog 156 (sortedV 3 [215, 314])) : OwnOK Tryz.prog 11 awakeV := by
  refine ⟨has11, fun {args σ r σ'} h ι args' w hr hv => ?_⟩
  unfold awakeV at h
  split at h
  · cases h
    cases hv
    obtain ⟨n, r, σ2, h1, h2⟩ := @kCallF_of baseAw _ (@orcK_ok baseAw ownB ovS (fun k => rfl) (@ovS_ok baseAw) 100000) _ _ _ _ aw11
    refine ((callF_sound tables (orc_ok (base_prog hS) n) (fun k F h => ftab_ok k F h) (args' := []) h1).2 (base_R w) .nil).mono ?_
    rintro e w' ⟨ι', hx, hr', hret⟩
    have hk : ∀ b, b < w.heap.size → w'.heap[b]? = w.heap[b]? := fun b hb => hx.keep b hb fun A bk h => by cases h
    refine ⟨ι, ⟨Sub.refl _, hx.os, hx.tape, hx.output, hx.size, fun b hb _ => hk b hb, fun A bk h1 h2 => by rw [h1] at h2; cases h2⟩, hr.kept hx.size hk, ?_⟩
    unfold isT at h2
    split at h2
    · subst h2
      cases e <;> simp only [RetR] at hret ⊢
      cases hret
      exact .bool true
    · cases h2
  · cases h
theorem law_prog (hS : OwnOK Tryz.prog 156 (sortedV 3 [215, 314])) : ProgOK Tryz.prog (@prog lawAw) where
  tables := tables
  fs := fun k F h => ftab_ok k F h
  meth := meth_ok
  own := fun k f h => by
    simp only [prog] at h
    split at h
    · replace h : ownL k = some f := h
      unfold ownL at h
      split at h
      · rename_i hk
        rw [nbeq] at hk
        have hk := of_decide_eq_true hk
        subst hk
        cases h
        exact awake_own hS
      · cases h
    · cases h
end AM
end Go.Proofs.YtdbbkaeoinalpaaGreat
