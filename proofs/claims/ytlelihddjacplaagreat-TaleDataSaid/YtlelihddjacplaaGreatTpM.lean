/- Parts: Snd23, Tab, Meth. -/
import Derived.Test.YtlelihddjacplaaGreatTpL
import Derived.Test.YtlelihddjacplaaGreatTpD
import Derived.Test.YtlelihddjacplaaGreatProg
import Derived.KernelRfl
set_option linter.unusedVariables false
namespace Go.Proofs.YtlelihddjacplaaGreat
namespace AM
def planOf (l : List (Nat × Plan)) (i : Nat) : Option Plan :=
  match l with
  | [] => none
  | (j, p) :: r => match Nat.beq j i with
    | true => some p
    | false => planOf r i
theorem FnOK.of {P : Program} {k : Nat} {F : AM.Func} {plan : Nat → Option Plan} (fn : Go.Func) (hf : P.funcs[k]? = some fn) (hn : (fn.name == "runtime.NumGoroutine") = false) (hc : compFunc P plan fn = some F.erase) (ho : F.okF fn.ntmps = true) : FnOK P k F :=
  ⟨fn, plan, hf, by simpa using hn, hc, ho⟩
end AM
end Go.Proofs.YtlelihddjacplaaGreat
namespace Go.Proofs.YtlelihddjacplaaGreat
namespace AM
def undB (P : Program) : Bool := (List.range P.types.size).all fun t => !(P.info? t).isSome || (P.underlying t).isSome
def strB (P : Program) : Bool := (List.range P.types.size).all fun t => match P.underlying t with
  | some (.struct fs) => fs.toList.all fun f => (szT P f.type).isSome
  | _ => true
/-- The functions of a name are this one alone. -/
def onlyB (P : Program) (s : String) (k : Nat) : Bool := (List.range P.funcs.size).all fun f => match P.funcs[f]? with
  | some fn => !(fn.name == s) || Nat.beq f k
  | none => true
theorem undB_ok : undB Tryz.prog = true := by kernel_rfl
theorem strB_ok : strB Tryz.prog = true := by kernel_rfl
theorem bits_only : onlyB Tryz.prog "math.Float64bits" 184 = true := by kernel_rfl
theorem from_only : onlyB Tryz.prog "math.Float64frombits" 166 = true := by kernel_rfl
theorem clone_only : onlyB Tryz.prog "maps.clone" 194 = true := by kernel_rfl
theorem only_of {P : Program} {s : String} {k f : Nat} {fn : Go.Func} (h : onlyB P s k = true) (hf : P.funcs[f]? = some fn) (hn : fn.name = s) : f = k := by
  unfold onlyB at h
  rw [List.all_eq_true] at h
  have hlt : f < P.funcs.size := by
    rcases Nat.lt_or_ge f P.funcs.size with h | h
    · exact h
    · rw [Array.getElem?_eq_none h] at hf; cases hf
  have := h f (List.mem_range.2 hlt)
  rw [hf] at this
  simpa [hn] using this
theorem bits_at (b : Nat) (w : World) : (callFunc 184 #[.float .f64 b]).run Tryz.prog w = .ok (.value (.int .u64 b)) w := by kernel_rfl
theorem from_at (n : Int) (w : World) : (callFunc 166 #[.int .u64 n]).run Tryz.prog w = .ok (.value (.float .f64 n.toNat)) w := by kernel_rfl
theorem clone_at (x : Value) (w : World) : (callFunc 194 #[x]).run Tryz.prog w = ((Extern.MapsClone.clone #[x]).run Tryz.prog w).andThen fun v w' => .ok (.value v) w' := by
  have h : (callFunc 194 #[x]).run Tryz.prog w = ((Extern.MapsClone.clone #[x]).bind fun v => pure (.value v)).run Tryz.prog w := by kernel_rfl
  rw [h]
  exact Sem.run_bind ..
theorem tables : Tables Tryz.prog where
  mixed := by kernel_rfl
  und := fun t hlt h => by
    have := List.all_eq_true.1 undB_ok t (List.mem_range.2 hlt)
    simpa [h] using this
  fields := fun t fs hlt hu i hi => by
    have := List.all_eq_true.1 strB_ok t (List.mem_range.2 hlt)
    simp only [hu] at this
    exact List.all_eq_true.1 this fs[i] (by simp)
  bits := fun f fn hf hb hn b w => by
    rw [only_of bits_only hf hn]; exact bits_at b w
  from_ := fun f fn hf hb hn n w => by
    rw [only_of from_only hf hn]; exact from_at n w
  clone := fun f fn hf hb hn x w => by
    rw [only_of clone_only hf hn]; exact clone_at x w
end AM
end Go.Proofs.YtlelihddjacplaaGreat
namespace Go.Proofs.YtlelihddjacplaaGreat
namespace AM
theorem m_load (v : Value) (w : World) : (method (Tryz.prog.types.size + Made.depth) 76 v "Load").run Tryz.prog w = .ok (344, v) w := by kernel_rfl
theorem m_save (v : Value) (w : World) : (method (Tryz.prog.types.size + Made.depth) 76 v "Save").run Tryz.prog w = .ok (345, v) w := by kernel_rfl
theorem m_pop (v : Value) (w : World) : (method (Tryz.prog.types.size + Made.depth) 393 v "Pop").run Tryz.prog w = .ok (352, v) w := by kernel_rfl
theorem m_push (v : Value) (w : World) : (method (Tryz.prog.types.size + Made.depth) 393 v "Push").run Tryz.prog w = .ok (353, v) w := by kernel_rfl
theorem m_len (a : Addr) (w : World) : (method (Tryz.prog.types.size + Made.depth) 393 (.pointer (some a)) "Len").run Tryz.prog w = ((loadVar 395 a).bind fun x => pure ((304 : Nat), x)).run Tryz.prog w := by kernel_rfl
theorem m_less (a : Addr) (w : World) : (method (Tryz.prog.types.size + Made.depth) 393 (.pointer (some a)) "Less").run Tryz.prog w = ((loadVar 395 a).bind fun x => pure ((351 : Nat), x)).run Tryz.prog w := by kernel_rfl
theorem m_swap (a : Addr) (w : World) : (method (Tryz.prog.types.size + Made.depth) 393 (.pointer (some a)) "Swap").run Tryz.prog w = ((loadVar 395 a).bind fun x => pure ((354 : Nat), x)).run Tryz.prog w := by kernel_rfl
theorem t413 : szT Tryz.prog 395 = some 1 ∧ aggT Tryz.prog 395 = false ∧ (Tryz.prog.underlying 395).isSome = true := ⟨by kernel_rfl, by kernel_rfl, by kernel_rfl⟩
theorem load413 (a : Addr) (w : World) : (Instr.loadAt 395 (.pointer (some a))).run Tryz.prog w = (loadVar 395 a).run Tryz.prog w := by kernel_rfl
theorem meth_load {ι : Inj} {σ : H} {w : World} {v v' x : Value} {k : Nat} {s : String} (hm : ∀ a w, (method (Tryz.prog.types.size + Made.depth) 393 (.pointer (some a)) s).run Tryz.prog w = ((loadVar 395 a).bind fun x => pure (k, x)).run Tryz.prog w)
    (hr : R ι σ w) (hv : VR ι v v') (h : recv σ v (some (false, 1)) = some x) : ∃ x', (method (Tryz.prog.types.size + Made.depth) 393 v' s).run Tryz.prog w = .ok (k, x') w ∧ VR ι x x' := by
  simp only [recv, prim] at h
  split at h
  · rename_i y σ2 hp
    cases h
    obtain ⟨x', g1, g2, _⟩ := good_load (P := Tryz.prog) hr hp hv t413.1 t413.2.1 t413.2.2
    have hp2 : ∃ a, v' = .pointer (some a) := by
      cases hv <;> simp only [pLoad] at hp <;> first | exact ⟨_, rfl⟩ | cases hp
    obtain ⟨a, rfl⟩ := hp2
    refine ⟨x', ?_, g2⟩
    rw [load413] at g1
    rw [hm]
    exact (Sem.run_bind ..).trans (by rw [g1]; rfl)
  · cases h
theorem meth_ok : MethOK Tryz.prog mtab := by
  intro t name f how h ι σ w v v' x hr hv hx
  unfold mtab at h
  split at h
  · rename_i hc
    simp only [Bool.and_eq_true, beq_iff_eq] at hc
    obtain ⟨rfl, rfl⟩ := hc
    cases h; cases hx
    exact ⟨v', m_load v' w, hv⟩
  split at h
  · rename_i hc
    simp only [Bool.and_eq_true, beq_iff_eq] at hc
    obtain ⟨rfl, rfl⟩ := hc
    cases h; cases hx
    exact ⟨v', m_save v' w, hv⟩
  split at h
  · rename_i hc
    simp only [Bool.and_eq_true, beq_iff_eq] at hc
    obtain ⟨rfl, rfl⟩ := hc
    cases h
    exact meth_load m_len hr hv hx
  split at h
  · rename_i hc
    simp only [Bool.and_eq_true, beq_iff_eq] at hc
    obtain ⟨rfl, rfl⟩ := hc
    cases h
    exact meth_load m_less hr hv hx
  split at h
  · rename_i hc
    simp only [Bool.and_eq_true, beq_iff_eq] at hc
    obtain ⟨rfl, rfl⟩ := hc
    cases h; cases hx
    exact ⟨v', m_pop v' w, hv⟩
  split at h
  · rename_i hc
    simp only [Bool.and_eq_true, beq_iff_eq] at hc
    obtain ⟨rfl, rfl⟩ := hc
    cases h; cases hx
    exact ⟨v', m_push v' w, hv⟩
  split at h
  · rename_i hc
    simp only [Bool.and_eq_true, beq_iff_eq] at hc
    obtain ⟨rfl, rfl⟩ := hc
    cases h
    exact meth_load m_swap hr hv hx
  cases h
end AM
end Go.Proofs.YtlelihddjacplaaGreat
