/- Parts: ArgA2, ArgA. -/
import Derived.Test.YtdbbkaeoinalpaaGreatDaH
set_option linter.unusedVariables false
namespace Go.Proofs.YtdbbkaeoinalpaaGreat
namespace AM
noncomputable section
def end13 (x : Ex) (e : Env) (_ : H) : Bool := match x with
  | .ret => match e with
    | [(0, .bool true)] => true
    | _ => false
  | _ => false
set_option maxHeartbeats 4000000 in
theorem b13 (g : Nat → Option Obj) : kDen b6 o13 env13 (heapOf 2708 rel13 g) end13 = true := by kernel_rfl
end
end AM
end Go.Proofs.YtdbbkaeoinalpaaGreat
namespace Go.Proofs.YtdbbkaeoinalpaaGreat
namespace AM
abbrev base13 : Aw := ⟨ownB⟩
theorem aw13 : ∃ n σ', callF (orc (@prog base13) n) (@prog base13).fs 13 [] h0 = some (.ok (.bool true), σ') := by
  letI := base13
  have hW : ∀ k, Aw.own k = ownB k := fun k => rfl
  have hwp : Wp f13.body (params 0 []) h0 (fun x e σ => x = .ret ∧ e = [(0, .bool true)]) := by
    have h := a13
    refine wp_part hW ovN_ok (a := fstC b0) (b := b1) h fun e1 σ1 h1 => ?_
    refine wp_part hW ovN_ok (a := fstC b1) (b := b2) h1 fun e2 σ2 h2 => ?_
    refine wp_part hW ovN_ok (a := fstC b2) (b := b3) h2 fun e3 σ3 h3 => ?_
    refine wp_part hW ovN_ok (a := fstC b3) (b := b4) h3 fun e4 σ4 h4 => ?_
    refine wp_part hW ovN_ok (a := fstC b4) (b := b5) h4 fun e5 σ5 h5 => ?_
    refine wp_part hW ovN_ok (a := fstC b5) (b := b6) h5 fun e6 σ6 h6 => ?_
    simp only [at13, Bool.and_eq_true] at h6
    have he := eqE_of h6.1
    have hs := isHeap_of h6.2
    have hb := b13 σ6.get
    rw [← hs] at hb
    subst he
    refine (wp_k hW ovN_ok hb).mono ?_
    intro x e σ hx
    unfold end13 at hx
    split at hx
    case h_2 => cases hx
    split at hx
    case h_2 => cases hx
    exact ⟨rfl, rfl⟩
  obtain ⟨n, x, e, σ', h1, rfl, rfl⟩ := hwp
  refine ⟨n, σ', ?_⟩
  have hF : (@prog base13).fs 13 = some f13 := rfl
  have hres : results [(0, Value.bool true)] σ' f13.results = some (.ok (.bool true), σ') := rfl
  have hrcv : f13.rcv = none := rfl
  have hget : Env.get [(0, Value.bool true)] 1000000 = none := by simp [Env.get, nbeq]
  simp only [callF, hF, hrcv, h1, hget, hres]
  rfl
end AM
end Go.Proofs.YtdbbkaeoinalpaaGreat
