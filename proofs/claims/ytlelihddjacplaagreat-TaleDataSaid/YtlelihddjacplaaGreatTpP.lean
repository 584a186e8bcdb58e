/- The law's test 'awake' at the program itself. -/
import Derived.Test.YtlelihddjacplaaGreatTpM
import Derived.Test.YtlelihddjacplaaGreatTpJ
import Derived.Test.YtlelihddjacplaaGreatTpH
import Derived.Test.YtlelihddjacplaaGreatTpNb
import Derived.Test.YtlelihddjacplaaGreatTpO
set_option linter.unusedVariables false
namespace Go.Proofs.YtlelihddjacplaaGreat
namespace AM
theorem base_R (w : World) : R (fun _ => none) h0 w where
  pos := Nat.le_refl _
  zero := rfl
  dom := fun A bk h => by cases h
  lt := fun A o h => by rw [H.get, h0, Tr.get_leaf] at h; cases h
  obj := fun A o h => by rw [H.get, h0, Tr.get_leaf] at h; cases h
  inj := fun A B oA oB bA bB h => by rw [H.get, h0, Tr.get_leaf] at h; cases h
  blt := fun A bk h => by cases h
/-- A law's function has a body. -/
theorem has24 : ∃ fn, Tryz.prog.funcs[4]? = some fn ∧ fn.body.isSome = true ∧ fn.name ≠ "runtime.NumGoroutine" :=
  ⟨Tryz.f4, by kernel_rfl, by kernel_rfl, by
    have : (Tryz.f4.name == "runtime.NumGoroutine") = false := by kernel_rfl
    simpa using this⟩
theorem base_prog (hS : OwnOK Tryz.prog 132 (sortedV 3 [193, 295])) : ProgOK Tryz.prog (@prog baseAw) where
  tables := tables
  fs := fun k F h => ftab_ok k F h
  meth := meth_ok
  own := fun k f h => by
    simp only [prog] at h
    split at h
    · replace h : ownB k = some f := h
      unfold ownB at h
      split at h
      · rename_i hk
        rw [nbeq] at hk
        have hk := of_decide_eq_true hk
        subst hk
        cases h
        exact hS
      · split at h
        · rename_i hk
          cases h
          simp only [nbeq, decide_eq_true_eq] at hk
          subst hk
          exact ⟨has24, fun h => by cases h⟩
        · cases h
    · cases h
noncomputable abbrev argsAw : Aw := ⟨ownA⟩
/-- 'awake' answers true, and changes nothing that was there. -/
theorem awake24_own : OwnOK Tryz.prog 4 awakeT := by
  refine ⟨has24, fun {args σ r σ'} h ι args' w hr hv => ?_⟩
  unfold awakeT at h
  split at h
  · cases h
    cases hv
    obtain ⟨n, σ2, h1⟩ := aw24
    refine ((callF_sound tables (orc_ok (base_prog sorted_own) n) (fun k F h => ftab_ok k F h) (args' := []) h1).2 (base_R w) .nil).mono ?_
    rintro e w' ⟨ι', hx, hr', hret⟩
    have hk : ∀ b, b < w.heap.size → w'.heap[b]? = w.heap[b]? := fun b hb => hx.keep b hb fun A bk h => by cases h
    refine ⟨ι, ⟨Sub.refl _, hx.os, hx.tape, hx.output, hx.size, fun b hb _ => hk b hb, fun A bk h1 h2 => by rw [h1] at h2; cases h2⟩, hr.kept hx.size hk, ?_⟩
    cases e <;> simp only [RetR] at hret ⊢
    cases hret
    exact .bool true
  · cases h
theorem args_prog : ProgOK Tryz.prog (@prog argsAw) where
  tables := tables
  fs := fun k F h => ftab_ok k F h
  meth := meth_ok
  own := fun k f h => by
    simp only [prog] at h
    split at h
    · replace h : ownA k = some f := h
      unfold ownA at h
      split at h
      · rename_i hk
        rw [nbeq] at hk
        have hk := of_decide_eq_true hk
        subst hk
        cases h
        exact sorted_own
      · split at h
        · rename_i hk
          rw [nbeq] at hk
          have hk := of_decide_eq_true hk
          subst hk
          cases h
          exact awake24_own
        · cases h
    · cases h
end AM
end Go.Proofs.YtlelihddjacplaaGreat
