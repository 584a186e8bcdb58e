/- Methods that are called through interfaces. -/
import Derived.Test.YtdbbkaeoinalpaaGreatTab
import Derived.Test.YtdbbkaeoinalpaaGreatIrTab
set_option linter.unusedVariables false
namespace Go.Proofs.YtdbbkaeoinalpaaGreat
namespace AM
theorem m_load (v : Value) (w : World) : (method (Tryz.prog.types.size + Made.depth) 118 v "Load").run Tryz.prog w = .ok (362, v) w := by kernel_rfl
theorem m_save (v : Value) (w : World) : (method (Tryz.prog.types.size + Made.depth) 118 v "Save").run Tryz.prog w = .ok (363, v) w := by kernel_rfl
theorem m_pop (v : Value) (w : World) : (method (Tryz.prog.types.size + Made.depth) 411 v "Pop").run Tryz.prog w = .ok (370, v) w := by kernel_rfl
theorem m_push (v : Value) (w : World) : (method (Tryz.prog.types.size + Made.depth) 411 v "Push").run Tryz.prog w = .ok (371, v) w := by kernel_rfl
theorem m_len (a : Addr) (w : World) : (method (Tryz.prog.types.size + Made.depth) 411 (.pointer (some a)) "Len").run Tryz.prog w = ((loadVar 413 a).bind fun x => pure ((322 : Nat), x)).run Tryz.prog w := by kernel_rfl
theorem m_less (a : Addr) (w : World) : (method (Tryz.prog.types.size + Made.depth) 411 (.pointer (some a)) "Less").run Tryz.prog w = ((loadVar 413 a).bind fun x => pure ((369 : Nat), x)).run Tryz.prog w := by kernel_rfl
theorem m_swap (a : Addr) (w : World) : (method (Tryz.prog.types.size + Made.depth) 411 (.pointer (some a)) "Swap").run Tryz.prog w = ((loadVar 413 a).bind fun x => pure ((372 : Nat), x)).run Tryz.prog w := by kernel_rfl
theorem t413 : szT Tryz.prog 413 = some 1 ∧ aggT Tryz.prog 413 = false ∧ (Tryz.prog.underlying 413).isSome = true := ⟨by kernel_rfl, by kernel_rfl, by kernel_rfl⟩
theorem load413 (a : Addr) (w : World) : (Instr.loadAt 413 (.pointer (some a))).run Tryz.prog w = (loadVar 413 a).run Tryz.prog w := by kernel_rfl
theorem meth_load {ι : Inj} {σ : H} {w : World} {v v' x : Value} {k : Nat} {s : String} (hm : ∀ a w, (method (Tryz.prog.types.size + Made.depth) 411 (.pointer (some a)) s).run Tryz.prog w = ((loadVar 413 a).bind fun x => pure (k, x)).run Tryz.prog w)
    (hr : R ι σ w) (hv : VR ι v v') (h : recv σ v (some (false, 1)) = some x) : ∃ x', (method (Tryz.prog.types.size + Made.depth) 411 v' s).run Tryz.prog w = .ok (k, x') w ∧ VR ι x x' := by
  simp only [recv, prim] at h
  split at h
  · rename_i y σ2 hp
    cases h
    obtain ⟨x', g1, g2, _⟩ := good_load (P := Tryz.prog) hr hp hv t413.1 t413.2.1 t413.2.2
    have hp2 : ∃ a, v' = .pointer (some a) := by
      cases hv <;> simp only [pLoad] at hp <;> first | exact ⟨_, rfl⟩ | cases hp
    obtain ⟨a, rfl⟩ := hp2
    refine ⟨x', ?_, g2⟩
    rw [load413] at g1
    rw [hm]
    exact (Sem.run_bind ..).trans (by rw [g1]; rfl)
  · cases h
theorem meth_ok : MethOK Tryz.prog mtab := by
  intro t name f how h ι σ w v v' x hr hv hx
  unfold mtab at h
  split at h
  · rename_i hc
    simp only [Bool.and_eq_true, beq_iff_eq] at hc
    obtain ⟨rfl, rfl⟩ := hc
    cases h; cases hx
    exact ⟨v', m_load v' w, hv⟩
  split at h
  · rename_i hc
    simp only [Bool.and_eq_true, beq_iff_eq] at hc
    obtain ⟨rfl, rfl⟩ := hc
    cases h; cases hx
    exact ⟨v', m_save v' w, hv⟩
  split at h
  · rename_i hc
    simp only [Bool.and_eq_true, beq_iff_eq] at hc
    obtain ⟨rfl, rfl⟩ := hc
    cases h
    exact meth_load m_len hr hv hx
  split at h
  · rename_i hc
    simp only [Bool.and_eq_true, beq_iff_eq] at hc
    obtain ⟨rfl, rfl⟩ := hc
    cases h
    exact meth_load m_less hr hv hx
  split at h
  · rename_i hc
    simp only [Bool.and_eq_true, beq_iff_eq] at hc
    obtain ⟨rfl, rfl⟩ := hc
    cases h; cases hx
    exact ⟨v', m_pop v' w, hv⟩
  split at h
  · rename_i hc
    simp only [Bool.and_eq_true, beq_iff_eq] at hc
    obtain ⟨rfl, rfl⟩ := hc
    cases h; cases hx
    exact ⟨v', m_push v' w, hv⟩
  split at h
  · rename_i hc
    simp only [Bool.and_eq_true, beq_iff_eq] at hc
    obtain ⟨rfl, rfl⟩ := hc
    cases h
    exact meth_load m_swap hr hv hx
  cases h
end AM
end Go.Proofs.YtdbbkaeoinalpaaGreat
