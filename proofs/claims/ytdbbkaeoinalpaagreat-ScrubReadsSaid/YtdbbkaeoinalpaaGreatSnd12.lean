/- Any one operation. -/
import Derived.Test.YtdbbkaeoinalpaaGreatSnd11
import Derived.Defers
import Derived.Recover
set_option linter.unusedVariables false
namespace Go.Proofs.YtdbbkaeoinalpaaGreat
namespace AM
section
variable {P : Program} {ι : Inj} {σ σ' : H} {w : World} {O : Orc}

/-- What a function's end answers to the machine's answer. -/
def RetR (ι : Inj) : Res → Ending → Prop
  | .ok v, .returned v' => VR ι v v'
  | .panic v, .panicked c => ∃ v', c = [{ v := v', recovered := false }] ∧ VR ι v v'
  | _, _ => False
def CallR (ι : Inj) (w : World) (r : Res) (σ' : H) : Ending → World → Prop := fun e w' => ∃ ι', Ext ι w ι' w' ∧ R ι' σ' w' ∧ RetR ι' r e

/-- What is asked of those who answer calls. -/
structure CallsOK (P : Program) (O : Orc) : Prop where
  call : ∀ {f : Nat} {args : List Value} {σ : H} {r : Res} {σ' : H}, O.call f args σ = some (r, σ') → (∃ fn, P.funcs[f]? = some fn ∧ fn.body.isSome = true ∧ fn.name ≠ "runtime.NumGoroutine") ∧
    ∀ {ι : Inj} {args' : List Value} {w : World}, R ι σ w → VRs ι args args' → Calls P f ⟨args'⟩ w (CallR ι w r σ')
  meth : ∀ {t : Nat} {name : String} {f : Nat} {how : Option (Bool × Nat)}, O.meth t name = some (f, how) → ∀ {ι : Inj} {σ : H} {w : World} {v v' x : Value}, R ι σ w → VR ι v v' → recv σ v how = some x →
    ∃ x', (method (P.types.size + Made.depth) t v' name).run P w = .ok (f, x') w ∧ VR ι x x'

theorem run_callFunc_enter {f : Nat} {fn : Go.Func} {args : Array Value} (hf : P.funcs[f]? = some fn) (hb : fn.body.isSome = true) (hn : fn.name ≠ "runtime.NumGoroutine") (w : World) : (callFunc f args).run P w = .ok (.enter f args) w := by
  have hb' : fn.body ≠ none := by intro h; rw [h] at hb; cases hb
  simp [callFunc, hf, hn, hb']

theorem toArr (l : List Value) : (⟨l⟩ : Array Value).toList = l := rfl

/-- Which operation a call, a panic or a deferral is of. -/
def kindB : Prim → Bool
  | .call | .invoke _ | .panic | .defer => true
  | _ => false
inductive Kinds (op : Go.Op) (p : Prim) (args : List Opd) : Prop
  | call (c : Call) (x : Operand) (d : Opd) (ds : List Opd) (h1 : op = .call c) (h2 : c.callee = .value x) (h3 : opdOf x = some d) (h4 : c.args.toList.mapM opdOf = some ds) (h5 : args = d :: ds) (h6 : p = .call)
  | invoke (c : Call) (x : Operand) (m : String) (d : Opd) (ds : List Opd) (h1 : op = .call c) (h2 : c.callee = .invoke x m) (h3 : opdOf x = some d) (h4 : c.args.toList.mapM opdOf = some ds) (h5 : args = d :: ds) (h6 : p = .invoke m)
  | panic (x : Operand) (d : Opd) (h1 : op = .panic x) (h2 : opdOf x = some d) (h3 : args = [d]) (h4 : p = .panic)
  | dfr (c : Call) (x : Operand) (d : Opd) (h1 : op = .defer c) (h2 : c.callee = .value x) (h3 : c.args = #[]) (h4 : opdOf x = some d) (h5 : args = [d]) (h6 : p = .defer)
theorem comp_kind {op : Go.Op} {p : Prim} {args : List Opd} (hc : compOp P op = some (p, args)) (hk : kindB p = true) : Kinds op p args := by
  cases op <;> simp only [compOp, reduceCtorEq, Option.bind_eq_bind, Option.pure_def] at hc
  case panic x =>
    obtain ⟨d, hd, h2⟩ := Option.bind_eq_some_iff.1 hc
    simp at h2
    obtain ⟨rfl, rfl⟩ := h2
    exact .panic x d rfl hd rfl rfl
  case «defer» c =>
    split at hc
    · rename_i x hx
      split at hc
      · rename_i hemp
        obtain ⟨d, hd, h2⟩ := Option.bind_eq_some_iff.1 hc
        simp at h2
        obtain ⟨rfl, rfl⟩ := h2
        exact .dfr c x d rfl hx (by simpa using hemp) hd rfl rfl
      · cases hc
    · cases hc
  case call c =>
    obtain ⟨ds, hds, h2⟩ := Option.bind_eq_some_iff.1 hc
    split at h2
    · have hno : kindB p = false := by
        revert h2
        unfold compBuiltin
        simp only [Option.bind_eq_bind]
        repeat' first | exact no_none | exact no_some rfl | (refine no_bind fun _ => ?_) | split
      rw [hno] at hk; cases hk
    · rename_i x m hb
      obtain ⟨d, hd, h4⟩ := Option.bind_eq_some_iff.1 h2
      simp at h4
      obtain ⟨rfl, rfl⟩ := h4
      exact .invoke c x m d ds rfl hb hd hds rfl rfl
    · rename_i f' hb
      split at h2
      · rename_i fn hfn
        split at h2
        · simp at h2
          obtain ⟨rfl, rfl⟩ := h2
          exact .call c (.func f') _ ds rfl hb rfl hds rfl rfl
        · have hno : kindB p = false := by
            revert h2
            unfold extern
            repeat' first | exact no_none | exact no_some rfl | (refine no_bind fun _ => ?_) | split
          rw [hno] at hk; cases hk
      · cases h2
    · rename_i x hx hb
      obtain ⟨d, hd, h4⟩ := Option.bind_eq_some_iff.1 h2
      simp at h4
      obtain ⟨rfl, rfl⟩ := h4
      exact .call c x d ds rfl hb hd hds rfl rfl
  case makeFunc f first cap =>
    cases f <;> simp only [compOp, reduceCtorEq, Option.bind_eq_bind, Option.pure_def] at hc
    have hno : kindB p = false := by
      revert hc
      repeat' first | exact no_none | exact no_some rfl | (refine no_bind fun _ => ?_) | split
    rw [hno] at hk; cases hk
  all_goals
    have hno : kindB p = false := by
      revert hc
      try unfold compAgg
      try unfold compNil
      try simp only [Option.bind_eq_bind]
      repeat' first | exact no_none | exact no_some rfl | (refine no_bind fun _ => ?_) | split
    rw [hno] at hk; cases hk

/-- One operation, whatever its kind but a deferral. -/
theorem op_wp (T : Tables P) (hO : CallsOK P O) {o : Oper} {p : Prim} {args : List Opd} {e : Env} {a : Act} {vs : List Value} {r : Res} (hc : compOp P o.op = some (p, args)) (hk : p.kind = .defer → False) (hlt : args.all opdLt = true)
    (he : EnvR ι e a.tmps) (hv : e.evs args = some vs) (hr : R ι σ w) (h : step O p vs σ = some (r, σ')) {K : Act → World → Prop} {Q : Exit → Act → World → Prop}
    (hK : ∀ v v' ι' w', r = .ok v → Ext ι w ι' w' → R ι' σ' w' → VR ι' v v' → K (a.put o.dst v') w')
    (hQ : ∀ v v' ι' w', r = .panic v → Ext ι w ι' w' → R ι' σ' w' → VR ι' v v' → Q (.panic [{ v := v', recovered := false }]) a w') : o.wp P a w K Q := by
  have enter : ∀ (k : Nat) (bs bs' : List Value), O.call k bs σ = some (r, σ') → VRs ι bs bs' → (execOp a.eval o).run P w = .ok (.enter k ⟨bs'⟩) w → o.wp P a w K Q := by
    intro k bs bs' hcall has hrun
    obtain ⟨_, hC⟩ := hO.call hcall
    unfold Oper.wp
    rw [hrun]
    simp only [Oper.upon]
    refine Calls.mono (hC hr has) ?_
    rintro en w' ⟨ι', hx, hR, hret⟩
    cases r with
    | ok v =>
      cases en <;> simp only [RetR] at hret
      exact hK _ _ _ _ rfl hx hR hret
    | panic v =>
      cases en <;> simp only [RetR] at hret
      obtain ⟨v', rfl, hvr⟩ := hret
      exact hQ _ _ _ _ rfl hx hR hvr
  cases hkind : p.kind <;> simp only [step, hkind] at h
  case call =>
    have hp : p = .call := by cases p <;> simp [Prim.kind] at hkind ⊢
    subst hp
    unfold sCall at h
    split at h
    case h_2 => cases h
    rename_i fv bs
    split at h
    case h_2 => cases h
    rename_i f as2 hcal
    obtain ⟨dst, op, ty, pos, after, guard⟩ := o
    simp only at hc
    -- which operation is it?
    have hcall : ∃ c x d ds, op = .call c ∧ c.callee = .value x ∧ opdOf x = some d ∧ c.args.toList.mapM opdOf = some ds ∧ args = d :: ds := by
      cases comp_kind hc rfl with
      | call c x d ds h1 h2 h3 h4 h5 h6 => exact ⟨c, x, d, ds, h1, h2, h3, h4, h5⟩
      | invoke c x m d ds h1 h2 h3 h4 h5 h6 => cases h6
      | panic x d h1 h2 h3 h4 => cases h4
      | dfr c x d h1 h2 h3 h4 h5 h6 => cases h6
    obtain ⟨c, x, d, ds, rfl, hx, hd, hds, rfl⟩ := hcall
    obtain ⟨u, us, hus, e1, e2⟩ := evs_cons hv
    cases hus
    simp only [List.all_cons, Bool.and_eq_true] at hlt
    have hfv := he.ev hd e1 (opdLt_t hlt.1)
    obtain ⟨l, hl1, hl2⟩ := call_args hds he e2 hlt.2
    cases fv <;> simp only [callee, reduceCtorEq] at hcal
    rename_i fn0 first cap
    cases fn0 <;> simp only [reduceCtorEq] at hcal
    rename_i k
    obtain ⟨first⟩ := first
    obtain ⟨cap⟩ := cap
    simp only [callee, Option.some.injEq, Prod.mk.injEq] at hcal
    obtain ⟨rfl, rfl⟩ := hcal
    generalize hev : a.eval x = fv' at hfv
    cases hfv with
    | func f h1 h2 =>
      rename_i us vs'
      obtain ⟨⟨fn, hf, hb, hn⟩, _⟩ := hO.call h
      refine enter _ _ (us ++ (l ++ vs')) h (h1.append (hl2.append h2)) ?_
      simp only [execOp, resolve, hx, hev, Deferred.ofValue, Sem.run_bind, Sem.run_pure, Result.andThen_ok, invoke]
      rw [hl1, run_callFunc_enter hf hb hn]
      simp
  case invoke name =>
    have hp : p = .invoke name := by cases p <;> simp [Prim.kind] at hkind ⊢; exact hkind
    subst hp
    unfold sInvoke at h
    split at h
    case h_2 => cases h
    rename_i t v bs
    split at h
    case h_1 => cases h
    rename_i f how hm
    split at h
    case h_1 => cases h
    rename_i x hrecv
    obtain ⟨dst, op, ty, pos, after, guard⟩ := o
    simp only at hc
    have hcall : ∃ c rc d ds, op = .call c ∧ c.callee = .invoke rc name ∧ opdOf rc = some d ∧ c.args.toList.mapM opdOf = some ds ∧ args = d :: ds := by
      cases comp_kind hc rfl with
      | call c x d ds h1 h2 h3 h4 h5 h6 => cases h6
      | invoke c x m d ds h1 h2 h3 h4 h5 h6 => cases h6; exact ⟨c, x, d, ds, h1, h2, h3, h4, h5⟩
      | panic x d h1 h2 h3 h4 => cases h4
      | dfr c x d h1 h2 h3 h4 h5 h6 => cases h6
    obtain ⟨c, rc, d, ds, rfl, hx, hd, hds, rfl⟩ := hcall
    obtain ⟨u, us, hus, e1, e2⟩ := evs_cons hv
    cases hus
    simp only [List.all_cons, Bool.and_eq_true] at hlt
    have hfv := he.ev hd e1 (opdLt_t hlt.1)
    obtain ⟨l, hl1, hl2⟩ := call_args hds he e2 hlt.2
    generalize hev : a.eval rc = fv' at hfv
    cases hfv with
    | iface _ hv0 =>
      rename_i v'
      obtain ⟨x', hmeth, hxx⟩ := hO.meth hm hr hv0 hrecv
      obtain ⟨⟨fn, hf, hb, hn⟩, _⟩ := hO.call h
      refine enter _ _ (x' :: l) h (.cons hxx hl2) ?_
      simp only [execOp, resolve, hx, hev, Sem.run_bind, Sem.run_pure, Result.andThen_ok, invoke]
      rw [hl1]
      simp [hmeth, run_callFunc_enter hf hb hn, callMethod]
  case panic =>
    have hp : p = .panic := by cases p <;> simp [Prim.kind] at hkind ⊢
    subst hp
    unfold sPanic at h
    split at h
    case h_2 => cases h
    rename_i t v
    cases h
    obtain ⟨dst, op, ty, pos, after, guard⟩ := o
    simp only at hc
    have hcall : ∃ x d, op = .panic x ∧ opdOf x = some d ∧ args = [d] := by
      cases comp_kind hc rfl with
      | call c x d ds h1 h2 h3 h4 h5 h6 => cases h6
      | invoke c x m d ds h1 h2 h3 h4 h5 h6 => cases h6
      | panic x d h1 h2 h3 h4 => exact ⟨x, d, h1, h2, h3⟩
      | dfr c x d h1 h2 h3 h4 h5 h6 => cases h6
    obtain ⟨x, d, rfl, hd, rfl⟩ := hcall
    obtain ⟨u, us, hus, e1, e2⟩ := evs_cons hv
    cases hus
    simp at hlt
    have hfv := he.ev hd e1 (opdLt_t hlt)
    generalize hev : a.eval x = fv' at hfv
    have hrun : (execOp a.eval ⟨dst, .panic x, ty, pos, after, guard⟩).run P w = .halt (.panic fv') w := by
      cases hfv
      simp [execOp, hev, Instr.panic]
    unfold Oper.wp
    rw [hrun]
    exact hQ _ _ _ _ rfl (Ext.refl _ _) hr hfv
  case «defer» =>
    exact (hk hkind).elim
  case other =>
    unfold sPrim at h
    split at h
    case h_2 => cases h
    rename_i v σ2 hp
    simp only [Option.some.injEq, Prod.mk.injEq] at h
    obtain ⟨rfl, rfl⟩ := h
    have one : ∀ v', (execOp a.eval o).run P w = .ok (.value v') w → VR ι v v' → R ι σ2 w → o.wp P a w K Q := by
      intro v' hrun hvr hR
      unfold Oper.wp
      rw [hrun]
      exact hK _ _ _ _ rfl (Ext.refl _ _) hR hvr
    by_cases hq : quietP p = true
    · by_cases hl : looks p = true
      · obtain ⟨⟨v', h1, h2⟩, rfl⟩ := read_sound T hc hl hlt he hv hr hp
        exact one v' h1 h2 hr
      · obtain ⟨⟨v', h1, h2⟩, rfl⟩ := quiet_sound T hc hq (by simpa using hl) hlt he hv hr hp
        exact one v' (h1 w) h2 hr
    · have heff : effP p = true := by
        unfold effP
        rw [hkind]
        simpa using hq
      obtain ⟨n, ι', w', v', h1, h2, h3, h4, h5⟩ := eff_sound T hc heff hlt he hv hr hp
      unfold Oper.wp
      rw [h1]
      rcases h2 with rfl | ⟨rfl, rfl⟩
      · exact hK _ _ _ _ rfl h5 h4 h3
      · exact hK _ _ _ _ rfl h5 h4 h3
end
end AM
end Go.Proofs.YtdbbkaeoinalpaaGreat
