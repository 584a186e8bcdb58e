/- Parts: TdA2, TdA3. -/
import Derived.Test.YtlelihddjacplaaGreatTpG
set_option linter.unusedVariables false
namespace Go.Proofs.YtlelihddjacplaaGreat
namespace AM
noncomputable section
def end24 (x : Ex) (e : Env) (_ : H) : Bool := match x with
  | .ret => match e with
    | [(0, .bool true)] => true
    | _ => false
  | _ => false
set_option maxHeartbeats 4000000 in
theorem b24 (g : Nat → Option Obj) : kDen b5 o24 env24 (heapOf 2504 rel24 g) end24 = true := by kernel_rfl
end
end AM
end Go.Proofs.YtlelihddjacplaaGreat
namespace Go.Proofs.YtlelihddjacplaaGreat
namespace AM
/-- Where 'awake' is followed. -/
abbrev baseAw : Aw := ⟨ownB⟩
theorem aw24 : ∃ n σ', callF (orc (@prog baseAw) n) (@prog baseAw).fs 4 [] h0 = some (.ok (.bool true), σ') := by
  letI := baseAw
  have hW : ∀ k, Aw.own k = ownB k := fun k => rfl
  have hwp : Wp f4.body (params 0 []) h0 (fun x e σ => x = .ret ∧ e = [(0, .bool true)]) := by
    have h := a24
    refine wp_part hW ovN_ok (a := fstC b0) (b := b1) h fun e1 σ1 h1 => ?_
    refine wp_part hW ovN_ok (a := fstC b1) (b := b2) h1 fun e2 σ2 h2 => ?_
    refine wp_part hW ovN_ok (a := fstC b2) (b := b3) h2 fun e3 σ3 h3 => ?_
    refine wp_part hW ovN_ok (a := fstC b3) (b := b4) h3 fun e4 σ4 h4 => ?_
    refine wp_part hW ovN_ok (a := fstC b4) (b := b5) h4 fun e6 σ6 h6 => ?_
    simp only [at24, Bool.and_eq_true] at h6
    have he := eqE_of h6.1
    have hs := isHeap_of h6.2
    have hb := b24 σ6.get
    rw [← hs] at hb
    subst he
    refine (wp_k hW ovN_ok hb).mono ?_
    intro x e σ hx
    unfold end24 at hx
    split at hx
    case h_2 => cases hx
    split at hx
    case h_2 => cases hx
    exact ⟨rfl, rfl⟩
  obtain ⟨n, x, e, σ', h1, rfl, rfl⟩ := hwp
  refine ⟨n, σ', ?_⟩
  have hF : (@prog baseAw).fs 4 = some f4 := rfl
  have hres : results [(0, Value.bool true)] σ' f4.results = some (.ok (.bool true), σ') := rfl
  have hrcv : f4.rcv = none := rfl
  have hget : Env.get [(0, Value.bool true)] 1000000 = none := by simp [Env.get, nbeq]
  simp only [callF, hF, hrcv, h1, hget, hres]
  rfl
end AM
end Go.Proofs.YtlelihddjacplaaGreat
