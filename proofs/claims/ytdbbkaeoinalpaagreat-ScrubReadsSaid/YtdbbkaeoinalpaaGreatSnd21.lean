/- Functions: results, what is deferred, calls. -/
import Derived.Test.YtdbbkaeoinalpaaGreatSnd20
set_option linter.unusedVariables false
namespace Go.Proofs.YtdbbkaeoinalpaaGreat
namespace AM
section
variable {P : Program} {O : Orc} {ι : Inj} {σ : H} {w : World}

/-! ### Results -/
def resSem (tmps : Array Value) : ResultVar → Sem Value
  | .tmp t => pure (tmps.getD t undef)
  | .cell a t => do loadVar t (← asAddr (tmps.getD a undef))
theorem results_eq (fn : Go.Func) (tmps : Array Value) : Go.results fn tmps = (do let vs ← fn.results.mapM (resSem tmps); pure (if h : vs.size = 1 then vs[0] else .tuple vs)) := by
  unfold Go.results
  congr 1
theorem result1 (T0 : Tables P) {rv : ResultVar} {r : RVar} {e : Env} {tmps : Array Value} {v : Value} (hc : compRes P rv = some r) (hok : r.ok = true) (he : EnvR ι e tmps) (hr : R ι σ w) (h : result e σ r = some v) :
    ∃ v', (resSem tmps rv).run P w = .ok v' w ∧ VR ι v v' := by
  cases rv with
  | tmp t =>
    simp only [compRes, Option.some.injEq] at hc
    subst hc
    simp only [result] at h
    simp only [RVar.ok, nblt, decide_eq_true_eq] at hok
    obtain ⟨v', h1, h2⟩ := he t v h hok
    exact ⟨v', by simp [resSem, Array.getD_eq_getD_getElem?, h1], h2⟩
  | cell a t =>
    simp only [compRes, Option.bind_eq_bind] at hc
    obtain ⟨n, hn, hc⟩ := Option.bind_eq_some_iff.1 hc
    simp only [Option.some.injEq] at hc
    subst hc
    simp only [result] at h
    simp only [RVar.ok, nblt, decide_eq_true_eq] at hok
    split at h
    case h_2 => cases h
    rename_i u hu
    simp only [recv] at h
    split at h
    case h_2 => cases h
    rename_i x σ2 hp
    simp only [Option.some.injEq] at h
    subst h
    obtain ⟨u', h1, h2⟩ := he a u hu hok
    obtain ⟨v', g1, g2, _⟩ := good_load (P := P) hr (show pLoad (aggT P t) n [u] σ = _ from hp) h2 hn rfl (T0.size hn)
    refine ⟨v', ?_, g2⟩
    have hs : tmps.getD a undef = u' := by simp [Array.getD_eq_getD_getElem?, h1]
    cases h2 <;> simp only [prim, pLoad] at hp <;> try (cases hp; done)
    simp only [resSem, hs, asAddr, Sem.run_bind, Sem.run_pure, Result.andThen_ok]
    simpa [Instr.loadAt, Instr.sureAddr] using g1
theorem resultsL (T0 : Tables P) {e : Env} {tmps : Array Value} (he : EnvR ι e tmps) (hr : R ι σ w) : ∀ {rvs : List ResultVar} {rs : List RVar} {vs : List Value}, rvs.mapM (compRes P) = some rs → rs.all RVar.ok = true → resultL e σ rs = some vs →
    ∃ vs', (rvs.mapM (resSem tmps)).run P w = .ok vs' w ∧ VRs ι vs vs'
  | [], rs, vs, hc, hok, h => by
    simp at hc
    subst hc
    simp only [resultL, Option.some.injEq] at h
    subst h
    exact ⟨[], by simp, .nil⟩
  | rv :: rvs, rs, vs, hc, hok, h => by
    obtain ⟨r, rs, h1, h2, rfl⟩ := mapM_cons_some hc
    simp only [List.all_cons, Bool.and_eq_true] at hok
    simp only [resultL] at h
    split at h
    · cases h
    rename_i v hv
    split at h
    · rename_i vs hvs
      simp only [Option.some.injEq] at h
      subst h
      obtain ⟨v', g1, g2⟩ := result1 T0 h1 hok.1 he hr hv
      obtain ⟨vs', g3, g4⟩ := resultsL T0 he hr h2 hok.2 hvs
      exact ⟨v' :: vs', by simp [g1, g3], .cons g2 g4⟩
    · cases h
theorem results_sound (T0 : Tables P) {fn : Go.Func} {rs : List RVar} {e : Env} {tmps : Array Value} {r : Res} {σ2 : H} (hc : fn.results.toList.mapM (compRes P) = some rs) (hok : rs.all RVar.ok = true) (he : EnvR ι e tmps) (hr : R ι σ w) (h : results e σ rs = some (r, σ2)) :
    σ2 = σ ∧ ∃ v v', r = .ok v ∧ (Go.results fn tmps).run P w = .ok v' w ∧ VR ι v v' := by
  have key : ∀ vs, resultL e σ rs = some vs → ∃ vs' : List Value, (Go.results fn tmps).run P w = .ok (if h : vs'.length = 1 then vs'[0] else .tuple ⟨vs'⟩) w ∧ VRs ι vs vs' := by
    intro vs hvs
    obtain ⟨vs', g1, g2⟩ := resultsL T0 he hr hc hok hvs
    refine ⟨vs', ?_, g2⟩
    rw [results_eq, Array.mapM_eq_mapM_toList]
    simp only [Sem.run_bind, Sem.run_map, g1, Result.andThen_ok, Sem.run_pure]
    congr 1
  unfold results at h
  split at h
  · rename_i v hv
    simp only [Option.some.injEq, Prod.mk.injEq] at h
    obtain ⟨rfl, rfl⟩ := h
    obtain ⟨vs', g1, g2⟩ := key _ hv
    obtain ⟨v', rfl, g3⟩ := g2.one
    exact ⟨rfl, v, v', rfl, by simpa using g1, g3⟩
  · rename_i vs hne hv
    simp only [Option.some.injEq, Prod.mk.injEq] at h
    obtain ⟨rfl, rfl⟩ := h
    obtain ⟨vs', g1, g2⟩ := key _ hv
    have hl : vs'.length ≠ 1 := by
      rw [g2.length]
      intro h1
      obtain ⟨v, rfl⟩ := List.length_eq_one_iff.1 h1
      exact hne v rfl
    rw [dif_neg hl] at g1
    exact ⟨rfl, _, _, rfl, g1, .tuple g2⟩
  · cases h

/-! ### Where a function begins -/
theorem okN_mono {n N : Nat} (h : n ≤ N) : ∀ (b : AM.Code), okN n b = true → okN N b = true
  | .skip, _ => rfl
  | .reg ops, hb => by
    simp only [okN, List.all_eq_true] at hb ⊢
    intro q hq
    have := hb q hq
    cases hd : q.dst with
    | none => rfl
    | some d =>
      rw [hd] at this
      simp only [dstN, nblt, decide_eq_true_eq] at this ⊢
      omega
  | .draw segs ds, hb => by
    simp only [okN, List.all_eq_true, Bool.and_eq_true, nblt, decide_eq_true_eq] at hb ⊢
    exact fun d hd => ⟨by have := (hb d hd).1; omega, (hb d hd).2⟩
  | .keep _, _ => rfl
  | .seq a b, hb => by
    simp only [okN, Bool.and_eq_true] at hb ⊢
    exact ⟨okN_mono h a hb.1, okN_mono h b hb.2⟩
  | .cond c a b, hb => by
    simp only [okN, Bool.and_eq_true] at hb ⊢
    exact ⟨⟨hb.1.1, okN_mono h a hb.1.2⟩, okN_mono h b hb.2⟩
  | .block _ b, hb => okN_mono h b hb
  | .loop _ b, hb => okN_mono h b hb
  | .exit _, _ => rfl
  | .ret, _ => rfl
theorem params_get : ∀ (vs : List Value) (k t : Nat), (params k vs).get t = if t < k then none else vs[t - k]?
  | [], k, t => by simp [params, Env.get]
  | v :: vs, k, t => by
    rw [params, Env.get_cons, params_get vs (k + 1) t]
    by_cases h1 : k = t
    · subst h1; simp
    · rw [if_neg h1]
      by_cases h2 : t < k
      · rw [if_pos h2, if_pos (by omega)]
      · rw [if_neg h2, if_neg (by omega), show t - k = (t - (k + 1)) + 1 by omega, List.getElem?_cons_succ]
def entry (n : Nat) (args' : List Value) : Act := { tmps := (⟨args'⟩ : Array Value) ++ Array.replicate (n - (⟨args'⟩ : Array Value).size) undef, defers := [] }
theorem entry_size (n : Nat) (args' : List Value) : (entry n args').tmps.size = args'.length + (n - args'.length) := by simp [entry]
theorem entry_get {n : Nat} {args' : List Value} {t : Nat} {v : Value} (h : args'[t]? = some v) : (entry n args').tmps[t]? = some v := by
  have hlt := (List.getElem?_eq_some_iff.1 h).1
  unfold entry
  rw [Array.getElem?_append_left (by simpa using hlt), List.getElem?_toArray]
  exact h
theorem entry_StR {n : Nat} {args args' : List Value} (hl : args.length ≤ 1000) (hv : VRs ι args args') : StR (entry n args').tmps.size ι (params 0 args) (entry n args') := by
  refine ⟨fun t v h hlt => ?_, ?_, rfl⟩
  · rw [params_get] at h
    simp only [Nat.not_lt_zero, if_false, Nat.sub_zero] at h
    obtain ⟨v', h1, h2⟩ := hv.get t v h
    exact ⟨v', entry_get h1, h2⟩
  · unfold DefR
    rw [params_get]
    simp only [Nat.not_lt_zero, if_false, Nat.sub_zero]
    rw [List.getElem?_eq_none (by omega)]
    rfl

structure FnOK (P : Program) (k : Nat) (F : AM.Func) : Prop where
  ex : ∃ fn plan, P.funcs[k]? = some fn ∧ fn.name ≠ "runtime.NumGoroutine" ∧ compFunc P plan fn = some F.erase ∧ F.okF fn.ntmps = true

theorem compFunc_some {plan : Nat → Option Plan} {fn : Go.Func} {F : AM.Func} (h : compFunc P plan fn = some F) : ∃ c, fn.body = some c ∧ fn.results.toList.mapM (compRes P) = some F.results ∧
    ((F.rcv = none ∧ compCode P plan c = some F.body) ∨ ∃ r ops os rest os' rest', recoverHead c = some (r, ops, os, rest) ∧ F.rcv = some r ∧ os.mapM (compOper P ops.toList) = some os' ∧ compCode P plan rest = some rest' ∧ F.body = .seq (.reg os') rest') := by
  unfold compFunc at h
  simp only [Option.bind_eq_bind, Option.pure_def] at h
  obtain ⟨c, h1, h⟩ := Option.bind_eq_some_iff.1 h
  obtain ⟨rs, h2, h⟩ := Option.bind_eq_some_iff.1 h
  refine ⟨c, h1, ?_⟩
  split at h
  · rename_i r ops os rest hr
    obtain ⟨os', h3, h⟩ := Option.bind_eq_some_iff.1 h
    obtain ⟨rest', h4, h⟩ := Option.bind_eq_some_iff.1 h
    simp only [Option.some.injEq] at h
    subst h
    exact ⟨h2, .inr ⟨r, ops, os, rest, os', rest', hr, rfl, h3, h4, rfl⟩⟩
  · obtain ⟨b, h3, h⟩ := Option.bind_eq_some_iff.1 h
    simp only [Option.some.injEq] at h
    subst h
    exact ⟨h2, .inl ⟨rfl, h3⟩⟩
theorem recoverHead_some {c : Go.Code} {r : Nat} {ops : Array Oper} {os : List Oper} {rest : Go.Code} (h : recoverHead c = some (r, ops, os, rest)) :
    ∃ id o c0, c = .seq (.region id ops false) rest ∧ ops.toList = o :: os ∧ o.dst = some r ∧ o.op = .call c0 ∧ c0.callee = .builtin .recover ∧ o.guard = none := by
  unfold recoverHead at h
  split at h
  · rename_i id ops2 rest2
    split at h
    · rename_i r2 args ats ty pos after os2 hl
      simp only [Option.some.injEq, Prod.mk.injEq] at h
      obtain ⟨rfl, rfl, rfl, rfl⟩ := h
      exact ⟨_, _, _, rfl, hl, rfl, rfl, rfl, rfl⟩
    · cases h
  · cases h
end
end AM
end Go.Proofs.YtdbbkaeoinalpaaGreat
