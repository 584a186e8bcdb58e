/- What the soundness of the abstract machine asks of the program's tables. -/
import Derived.Test.YtdbbkaeoinalpaaGreatSnd23
set_option linter.unusedVariables false
namespace Go.Proofs.YtdbbkaeoinalpaaGreat
namespace AM
def undB (P : Program) : Bool := (List.range P.types.size).all fun t => !(P.info? t).isSome || (P.underlying t).isSome
def strB (P : Program) : Bool := (List.range P.types.size).all fun t => match P.underlying t with
  | some (.struct fs) => fs.toList.all fun f => (szT P f.type).isSome
  | _ => true
/-- The functions of a name are this one alone. -/
def onlyB (P : Program) (s : String) (k : Nat) : Bool := (List.range P.funcs.size).all fun f => match P.funcs[f]? with
  | some fn => !(fn.name == s) || Nat.beq f k
  | none => true
theorem undB_ok : undB Tryz.prog = true := by kernel_rfl
theorem strB_ok : strB Tryz.prog = true := by kernel_rfl
theorem bits_only : onlyB Tryz.prog "math.Float64bits" 236 = true := by kernel_rfl
theorem from_only : onlyB Tryz.prog "math.Float64frombits" 186 = true := by kernel_rfl
theorem clone_only : onlyB Tryz.prog "maps.clone" 217 = true := by kernel_rfl
theorem only_of {P : Program} {s : String} {k f : Nat} {fn : Go.Func} (h : onlyB P s k = true) (hf : P.funcs[f]? = some fn) (hn : fn.name = s) : f = k := by
  unfold onlyB at h
  rw [List.all_eq_true] at h
  have hlt : f < P.funcs.size := by
    rcases Nat.lt_or_ge f P.funcs.size with h | h
    · exact h
    · rw [Array.getElem?_eq_none h] at hf; cases hf
  have := h f (List.mem_range.2 hlt)
  rw [hf] at this
  simpa [hn] using this
theorem bits_at (b : Nat) (w : World) : (callFunc 236 #[.float .f64 b]).run Tryz.prog w = .ok (.value (.int .u64 b)) w := by kernel_rfl
theorem from_at (n : Int) (w : World) : (callFunc 186 #[.int .u64 n]).run Tryz.prog w = .ok (.value (.float .f64 n.toNat)) w := by kernel_rfl
theorem clone_at (x : Value) (w : World) : (callFunc 217 #[x]).run Tryz.prog w = ((Extern.MapsClone.clone #[x]).run Tryz.prog w).andThen fun v w' => .ok (.value v) w' := by
  have h : (callFunc 217 #[x]).run Tryz.prog w = ((Extern.MapsClone.clone #[x]).bind fun v => pure (.value v)).run Tryz.prog w := by kernel_rfl
  rw [h]
  exact Sem.run_bind ..
theorem tables : Tables Tryz.prog where
  mixed := by kernel_rfl
  und := fun t hlt h => by
    have := List.all_eq_true.1 undB_ok t (List.mem_range.2 hlt)
    simpa [h] using this
  fields := fun t fs hlt hu i hi => by
    have := List.all_eq_true.1 strB_ok t (List.mem_range.2 hlt)
    simp only [hu] at this
    exact List.all_eq_true.1 this fs[i] (by simp)
  bits := fun f fn hf hb hn b w => by
    rw [only_of bits_only hf hn]; exact bits_at b w
  from_ := fun f fn hf hb hn n w => by
    rw [only_of from_only hf hn]; exact from_at n w
  clone := fun f fn hf hb hn x w => by
    rw [only_of clone_only hf hn]; exact clone_at x w
end AM
end Go.Proofs.YtdbbkaeoinalpaaGreat
