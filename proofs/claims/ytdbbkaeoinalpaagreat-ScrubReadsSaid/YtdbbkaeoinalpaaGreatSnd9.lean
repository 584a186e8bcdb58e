/- One operation of a region. -/
import Derived.Test.YtdbbkaeoinalpaaGreatSnd8
set_option linter.unusedVariables false
namespace Go.Proofs.YtdbbkaeoinalpaaGreat
namespace AM
section
variable {P : Program} {ι : Inj} {σ σ' : H} {w : World}

/-- The slots that are known hold what is known of them. -/
def EnvR (ι : Inj) (e : Env) (tmps : Array Value) : Prop := ∀ t v, e.get t = some v → t < 1000000 → ∃ v', tmps[t]? = some v' ∧ VR ι v v'
theorem EnvR.mono {ι ι' : Inj} (hs : Sub ι ι') {e : Env} {tmps : Array Value} (h : EnvR ι e tmps) : EnvR ι' e tmps := fun t v hv hlt => let ⟨v', a, b⟩ := h t v hv hlt; ⟨v', a, b.mono hs⟩
theorem Env.get_cons (k : Nat) (v : Value) (e : Env) (i : Nat) : Env.get ((k, v) :: e) i = if k = i then some v else Env.get e i := by
  simp only [Env.get, nbeq]
  by_cases h : k = i <;> simp [h]
theorem Env.get_put (e : Env) (d : Option Nat) (v : Value) (i : Nat) : (Env.put e d v).get i = if d = some i then some v else e.get i := by
  cases d with
  | none => simp [Env.put]
  | some d => simp only [Env.put, Env.get_cons, Option.some.injEq]
theorem EnvR.put {e : Env} {a : Act} {d : Option Nat} {v v' : Value} (h : EnvR ι e a.tmps) (hd : ∀ k, d = some k → k < a.tmps.size) (hv : VR ι v v') : EnvR ι (Env.put e d v) (a.put d v').tmps := by
  intro t u hu hlt
  rw [Env.get_put] at hu
  cases d with
  | none => exact h t u (by simpa using hu) hlt
  | some k =>
    simp only [Act.put]
    split at hu
    · rename_i he
      cases he
      cases hu
      exact ⟨v', by rw [Array.getElem?_setIfInBounds_self_of_lt (hd _ rfl)], hv⟩
    · rename_i he
      obtain ⟨u', h1, h2⟩ := h t u hu hlt
      refine ⟨u', ?_, h2⟩
      rw [Array.getElem?_setIfInBounds_ne (by intro e2; exact he (by rw [e2]))]
      exact h1
theorem EnvR.ev {e : Env} {a : Act} {x : Operand} {d : Opd} {v : Value} (h : EnvR ι e a.tmps) (hx : opdOf x = some d) (hv : e.ev d = some v) (hlt : ∀ i, d = .t i → i < 1000000) : VR ι v (a.eval x) := by
  cases d with
  | c c =>
    simp only [Env.ev, Option.some.injEq] at hv
    subst hv
    exact opd_const hx a
  | t i =>
    cases x with
    | tmp t =>
      simp only [opdOf, Option.some.injEq, Opd.t.injEq] at hx
      subst hx
      obtain ⟨v', h1, h2⟩ := h t v hv (hlt t rfl)
      simpa [Act.eval, Array.getD_eq_getD_getElem?, h1] using h2
    | const c => simp only [opdOf] at hx; split at hx <;> simp at hx
    | global g => simp [opdOf] at hx
    | func f => simp [opdOf] at hx
theorem evs_cons {e : Env} {d : Opd} {ds : List Opd} {vs : List Value} (h : e.evs (d :: ds) = some vs) : ∃ v r, vs = v :: r ∧ e.ev d = some v ∧ e.evs ds = some r := by
  simp only [Env.evs] at h
  split at h
  · cases h
  · split at h
    · cases h; exact ⟨_, _, rfl, by assumption, by assumption⟩
    · cases h
theorem evs_append {e : Env} : ∀ {ds es : List Opd} {vs : List Value}, e.evs (ds ++ es) = some vs → ∃ a b, vs = a ++ b ∧ e.evs ds = some a ∧ e.evs es = some b
  | [], es, vs, h => ⟨[], vs, rfl, rfl, h⟩
  | d :: ds, es, vs, h => by
    obtain ⟨v, r, rfl, h1, h2⟩ := evs_cons h
    obtain ⟨a, b, rfl, h3, h4⟩ := evs_append h2
    exact ⟨v :: a, b, rfl, by simp [Env.evs, h1, h3], h4⟩
theorem evs_nil {e : Env} {vs : List Value} (h : e.evs [] = some vs) : vs = [] := by simpa [Env.evs] using h.symm
theorem opdLt_t {d : Opd} (h : opdLt d = true) : ∀ i, d = .t i → i < 1000000 := by
  rintro i rfl
  simpa [opdLt, nblt] using h
theorem EnvR.evs {e : Env} {a : Act} (h : EnvR ι e a.tmps) : ∀ {xs : List Operand} {ds : List Opd} {vs : List Value}, xs.mapM opdOf = some ds → e.evs ds = some vs → ds.all opdLt = true → VRs ι vs (xs.map a.eval)
  | [], ds, vs, hx, hv, hl => by
    simp at hx; subst hx
    rw [evs_nil hv]; exact .nil
  | x :: xs, ds, vs, hx, hv, hl => by
    rw [List.mapM_cons] at hx
    simp only [Option.bind_eq_bind] at hx
    obtain ⟨d, h1, h2⟩ := Option.bind_eq_some_iff.1 hx
    obtain ⟨ds', h3, h4⟩ := Option.bind_eq_some_iff.1 h2
    simp at h4; subst h4
    obtain ⟨v, r, rfl, h5, h6⟩ := evs_cons hv
    simp only [List.all_cons, Bool.and_eq_true] at hl
    exact .cons (h.ev h1 h5 (opdLt_t hl.1)) (h.evs h3 h6 hl.2)

theorem toList_optmap {α β : Type} (f : α → β) (o : Option α) : (o.map f).toList = o.toList.map f := by cases o <;> rfl
theorem VRs.two {a b : Value} {l : List Value} (h : VRs ι [a, b] l) : ∃ a' b', l = [a', b'] ∧ VR ι a a' ∧ VR ι b b' := by
  cases h with
  | cons h1 h2 => cases h2 with
    | cons h3 h4 => cases h4; exact ⟨_, _, rfl, h1, h3⟩
theorem VRs.one {a : Value} {l : List Value} (h : VRs ι [a] l) : ∃ a', l = [a'] ∧ VR ι a a' := by
  cases h with
  | cons h1 h2 => cases h2; exact ⟨_, rfl, h1⟩
/-- The arguments of a call. -/
theorem call_args {xs : Array Operand} {ds : List Opd} {e : Env} {a : Act} {vs : List Value} (hx : xs.toList.mapM opdOf = some ds) (he : EnvR ι e a.tmps) (hv : e.evs ds = some vs) (hl : ds.all opdLt = true) : ∃ l, xs.map a.eval = ⟨l⟩ ∧ VRs ι vs l :=
  ⟨xs.toList.map a.eval, Array.ext' (by simp), he.evs hx hv hl⟩
def constsOf (c : Call) : Array Bool := c.args.map fun | .const _ => true | _ => false
theorem exec_builtin {ρ : Operand → Value} {c : Call} {b : Builtin} {dst ty pos after guard} (h : c.callee = .builtin b) : execOp ρ ⟨dst, .call c, ty, pos, after, guard⟩ = builtin b c.argTypes ty (constsOf c) (c.args.map ρ) := by
  simp only [execOp, resolve, h]
  rfl
theorem exec_func {a : Act} {c : Call} {f : Nat} {dst ty pos after guard} (h : c.callee = .value (.func f)) : execOp a.eval ⟨dst, .call c, ty, pos, after, guard⟩ = callFunc f (c.args.map a.eval) := by
  simp only [execOp, resolve, h, Act.eval, Deferred.ofValue]
  show callFunc f ((#[] ++ c.args.map a.eval) ++ #[]) = _
  simp
/-- A quiet operation: it answers the same whatever the world. -/
def QuietOp (P : Program) (ι : Inj) (ρ : Operand → Value) (o : Oper) (v : Value) : Prop := ∃ v', (∀ w, (execOp ρ o).run P w = .ok (.value v') w) ∧ VR ι v v'
theorem QuietOp.of {ρ : Operand → Value} {o : Oper} {v : Value} {s : Sem Value} (h : GoodQ P ι s v) (he : execOp ρ o = (do pure (.value (← s)))) : QuietOp P ι ρ o v := by
  obtain ⟨v', h1, h2⟩ := h
  exact ⟨v', fun w => by rw [he, Sem.run_bind, h1]; rfl, h2⟩
theorem QuietOp.of_run {ρ : Operand → Value} {o : Oper} {v : Value} {s : Sem Value} (h : (∀ w, s.run P w = .ok v w) ∧ VR ι v v) (he : execOp ρ o = (do pure (.value (← s)))) : QuietOp P ι ρ o v :=
  .of ⟨v, h.1, h.2⟩ he

/-- Does an operation look at the heap? -/
def looks : Prim → Bool
  | .load .. | .toStr | .lookup .. | .lenM | .eqPtr _ => true
  | _ => false
theorem und_some {t : Nat} {d : TypeDesc} (h : P.underlying t = some d) : (P.underlying t).isSome = true := by rw [h]; rfl
theorem szT_und {t n : Nat} (h : szT P t = some n) : True := trivial

/-- What is asked of the program's tables. -/
structure Tables (P : Program) : Prop where
  mixed : P.follows .mixedOrders = true
  und : ∀ t : Nat, t < P.types.size → (P.info? t).isSome = true → (P.underlying t).isSome = true
  fields : ∀ (t : Nat) (fs : Array Field), t < P.types.size → P.underlying t = some (.struct fs) → ∀ i (hi : i < fs.size), (szT P fs[i].type).isSome = true
  bits : ∀ (f : Nat) (fn : Go.Func), P.funcs[f]? = some fn → fn.body = none → fn.name = "math.Float64bits" → ∀ (b : Nat) (w : World), (callFunc f #[.float .f64 b]).run P w = .ok (.value (.int .u64 b)) w
  from_ : ∀ (f : Nat) (fn : Go.Func), P.funcs[f]? = some fn → fn.body = none → fn.name = "math.Float64frombits" → ∀ (n : Int) (w : World), (callFunc f #[.int .u64 n]).run P w = .ok (.value (.float .f64 n.toNat)) w
  clone : ∀ (f : Nat) (fn : Go.Func), P.funcs[f]? = some fn → fn.body = none → fn.name = "maps.clone" → ∀ (x : Value) (w : World), (callFunc f #[x]).run P w = ((Extern.MapsClone.clone #[x]).run P w).andThen fun v w' => .ok (.value v) w'
theorem Tables.size (T : Tables P) {t n : Nat} (h : szT P t = some n) : (P.underlying t).isSome = true := T.und _ (szT_lt h) (by obtain ⟨i, hi, _⟩ := szT_some h; rw [hi]; rfl)

theorem arg1 {x : Operand} {q p : Prim} {args : List Opd} {e : Env} {a : Act} {vs : List Value} (hc : (opdOf x).bind (fun d => some (q, [d])) = some (p, args)) (he : EnvR ι e a.tmps) (hv : e.evs args = some vs) (hlt : args.all opdLt = true) :
    p = q ∧ ∃ v, vs = [v] ∧ VR ι v (a.eval x) := by
  obtain ⟨d, h1, h2⟩ := Option.bind_eq_some_iff.1 hc
  simp at h2; obtain ⟨rfl, rfl⟩ := h2
  obtain ⟨u, r, rfl, e1, e2⟩ := evs_cons hv
  have := evs_nil e2; subst this
  simp at hlt
  exact ⟨rfl, u, rfl, he.ev h1 e1 (opdLt_t hlt)⟩
theorem arg2 {x y : Operand} {q p : Prim} {args : List Opd} {e : Env} {a : Act} {vs : List Value} (hc : (opdOf x).bind (fun d => (opdOf y).bind fun d2 => some (q, [d, d2])) = some (p, args)) (he : EnvR ι e a.tmps) (hv : e.evs args = some vs) (hlt : args.all opdLt = true) :
    p = q ∧ ∃ v u, vs = [v, u] ∧ VR ι v (a.eval x) ∧ VR ι u (a.eval y) := by
  obtain ⟨d, h1, h2⟩ := Option.bind_eq_some_iff.1 hc
  obtain ⟨d2, h3, h4⟩ := Option.bind_eq_some_iff.1 h2
  simp at h4; obtain ⟨rfl, rfl⟩ := h4
  obtain ⟨u, r, rfl, e1, e2⟩ := evs_cons hv
  obtain ⟨u2, r2, rfl, e3, e4⟩ := evs_cons e2
  have := evs_nil e4; subst this
  simp at hlt
  exact ⟨rfl, u, u2, rfl, he.ev h1 e1 (opdLt_t hlt.1), he.ev h3 e3 (opdLt_t hlt.2)⟩
theorem arg3 {x y z : Operand} {q p : Prim} {args : List Opd} {e : Env} {a : Act} {vs : List Value} (hc : (opdOf x).bind (fun d => (opdOf y).bind fun d2 => (opdOf z).bind fun d3 => some (q, [d, d2, d3])) = some (p, args)) (he : EnvR ι e a.tmps) (hv : e.evs args = some vs) (hlt : args.all opdLt = true) :
    p = q ∧ ∃ v u t, vs = [v, u, t] ∧ VR ι v (a.eval x) ∧ VR ι u (a.eval y) ∧ VR ι t (a.eval z) := by
  obtain ⟨d, h1, h2⟩ := Option.bind_eq_some_iff.1 hc
  obtain ⟨d2, h3, h4⟩ := Option.bind_eq_some_iff.1 h2
  obtain ⟨d3, h5, h6⟩ := Option.bind_eq_some_iff.1 h4
  simp at h6; obtain ⟨rfl, rfl⟩ := h6
  obtain ⟨u, r, rfl, e1, e2⟩ := evs_cons hv
  obtain ⟨u2, r2, rfl, e3, e4⟩ := evs_cons e2
  obtain ⟨u3, r3, rfl, e5, e6⟩ := evs_cons e4
  have := evs_nil e6; subst this
  simp at hlt
  exact ⟨rfl, u, u2, u3, rfl, he.ev h1 e1 (opdLt_t hlt.1), he.ev h3 e3 (opdLt_t hlt.2.1), he.ev h5 e5 (opdLt_t hlt.2.2)⟩
theorem isC_of_nil {k : NK} {y : Operand} (h : nilOf k y = true) : ∃ c, y = .const c ∧ nilOf k (.const c) = true := by
  cases y <;> cases k <;> simp [nilOf] at h ⊢
  all_goals exact h
/-- '==' and '!=' behind the look that goes ahead. -/
theorem QuietOp.binop {op : BinOp} {t yt : Nat} {x y : Operand} {a : Act} {v : Value} {dst ty pos after guard} (h1 : ∀ w : World, (eqGuard op t x y (a.eval x) (a.eval y)).run P w = .ok () w) (h2 : ∀ w, (binOp op t (a.eval x) (a.eval y)).run P w = .ok v w) (h3 : VR ι v v) :
    QuietOp P ι a.eval ⟨dst, .binOp op t x y yt, ty, pos, after, guard⟩ v :=
  ⟨v, fun w => by simp only [execOp, Sem.run_bind, h1, h2, Result.andThen_ok, Sem.run_pure], h3⟩

theorem eqStr_shape {neg : Bool} {x y x' v : Value} (h : pEqStr neg [x, y] σ = some (v, σ')) (hx : VR ι x x') : (∀ c, x' ≠ .agg c) ∧ x' ≠ .nilIface := by
  cases hx <;> simp only [pEqStr] at h <;> try (cases h; done)
  exact ⟨by simp, by simp⟩
theorem eqBool_shape {neg : Bool} {x y x' v : Value} (h : pEqBool neg [x, y] σ = some (v, σ')) (hx : VR ι x x') : (∀ c, x' ≠ .agg c) ∧ x' ≠ .nilIface := by
  cases hx <;> simp only [pEqBool] at h <;> try (cases h; done)
  exact ⟨by simp, by simp⟩
theorem isC_nil {k : NK} {y : Operand} (h : nilOf k y = true) : isC y = true := by
  cases y <;> cases k <;> simp [nilOf] at h ⊢ <;> rfl
theorem quiet_nil {neg : Bool} {d : TypeDesc} {t yt : Nat} {x y : Operand} {p : Prim} {args : List Opd} {e : Env} {a : Act} {vs : List Value} {v : Value} {dst ty pos after guard} (ht : P.underlying t = some d) (hc : compNil P neg d x y = some (p, args)) (he : EnvR ι e a.tmps) (hv : e.evs args = some vs) (hlt : args.all opdLt = true)
    (hl : looks p = false) (h : prim p vs σ = some (v, σ')) (w : World) : QuietOp P ι a.eval ⟨dst, .binOp (eqOp neg) t x y yt, ty, pos, after, guard⟩ v ∧ σ' = σ := by
  unfold compNil at hc
  simp only [Option.bind_eq_bind] at hc
  obtain ⟨k, hk, h2⟩ := Option.bind_eq_some_iff.1 hc
  split at h2
  · rename_i hy hx0
    obtain ⟨c, rfl, hn⟩ := isC_of_nil hy
    obtain ⟨rfl, u, rfl, hx⟩ := arg1 h2 he hv hlt
    have := fun w => good_isNil (P := P) (w := w) (t := t) (show pIsNil k neg [u] σ = _ from h) hx ht hk hn
    exact ⟨.binop (fun w => eqGuard_other (this w).2.2.2.2.1 (fun _ _ => .inr rfl)) (fun w => (this w).1) (this w).2.2.1, (this w).2.2.2.1⟩
  · rename_i hy0 hx0
    obtain ⟨c, rfl, hn⟩ := isC_of_nil hx0
    obtain ⟨rfl, u, rfl, hx⟩ := arg1 h2 he hv hlt
    have := fun w => good_isNil (P := P) (w := w) (t := t) (show pIsNil k neg [u] σ = _ from h) hx ht hk hn
    exact ⟨.binop (fun w => eqGuard_other (this w).2.2.2.2.2 (fun _ _ => .inl rfl)) (fun w => (this w).2.1) (this w).2.2.1, (this w).2.2.2.1⟩
  · split at h2
    · split at h2
      · cases h2
      · obtain ⟨rfl, _⟩ := arg2 h2 he hv hlt
        cases hl
    · cases h2
theorem quiet_agg {neg : Bool} {t yt : Nat} {x y : Operand} {p : Prim} {args : List Opd} {e : Env} {a : Act} {vs : List Value} {v : Value} {dst ty pos after guard} (hc : compAgg P neg t x y = some (p, args)) (he : EnvR ι e a.tmps) (hv : e.evs args = some vs) (hlt : args.all opdLt = true)
    (h : prim p vs σ = some (v, σ')) (w : World) : QuietOp P ι a.eval ⟨dst, .binOp (eqOp neg) t x y yt, ty, pos, after, guard⟩ v ∧ σ' = σ := by
  unfold compAgg at hc
  split at hc
  · rename_i n hn
    obtain ⟨rfl, u1, u2, rfl, h1, h2⟩ := arg2 hc he hv hlt
    have := fun w => good_eqAgg (P := P) (w := w) (show pEqAgg false n neg [u1, u2] σ = _ from h) h1 h2 hn x y
    exact ⟨.binop (fun w => (this w).1) (fun w => (this w).2.1) (this w).2.2.1, (this w).2.2.2⟩
  · split at hc
    · rename_i n hn
      obtain ⟨rfl, u1, u2, rfl, h1, h2⟩ := arg2 hc he hv hlt
      have := fun w => good_eqAgg (P := P) (w := w) (show pEqAgg true n neg [u1, u2] σ = _ from h) h1 h2 hn x y
      exact ⟨.binop (fun w => (this w).1) (fun w => (this w).2.1) (this w).2.2.1, (this w).2.2.2⟩
    · cases hc

theorem quiet_builtin {b : Builtin} {cargs : Array Operand} {cts : Array Nat} {ds : List Opd} {p : Prim} {args : List Opd} {e : Env} {a : Act} {vs : List Value} {v : Value} {dst ty pos after guard} (hc : compBuiltin P b ds cts.toList = some (p, args)) (hx : cargs.toList.mapM opdOf = some ds) (he : EnvR ι e a.tmps) (hv : e.evs args = some vs) (hlt : args.all opdLt = true)
    (hq : quietP p = true) (hl : looks p = false) (h : prim p vs σ = some (v, σ')) (w : World) : QuietOp P ι a.eval ⟨dst, .call ⟨.builtin b, cargs, cts⟩, ty, pos, after, guard⟩ v ∧ σ' = σ := by
  unfold compBuiltin at hc
  split at hc
  · rename_i t hts
    have hts' : cts[0]? = some t := by rw [← Array.getElem?_toList, hts]; rfl
    split at hc
    · rename_i el ht
      simp at hc; obtain ⟨rfl, rfl⟩ := hc
      obtain ⟨l, hl1, hl2⟩ := call_args hx he hv hlt
      rcases vs with _ | ⟨u, _ | ⟨u2, r⟩⟩ <;> try (simp [prim, pLenS] at h; done)
      obtain ⟨u', rfl, hu⟩ := hl2.one
      have := fun w => good_lenS (P := P) (w := w) (ts := cts) (ty := ty) (show pLenS [u] σ = _ from h) hu ht hts'
      exact ⟨.of_run ⟨fun w => (this w).1, (this w).2.1⟩ (by rw [exec_builtin rfl, hl1]; rfl), (this w).2.2⟩
    · simp at hc; obtain ⟨rfl, rfl⟩ := hc; cases hl
    · rename_i n el ht
      simp at hc; obtain ⟨rfl, rfl⟩ := hc
      obtain ⟨l, hl1, hl2⟩ := call_args hx he hv hlt
      rcases vs with _ | ⟨u, _ | ⟨u2, r⟩⟩ <;> try (simp [prim, pLenC] at h; done)
      obtain ⟨u', rfl, hu⟩ := hl2.one
      have := fun w => good_lenC (P := P) (w := w) (ts := cts) (ty := ty) (show pLenC n [u] σ = _ from h) ht hts' hu
      exact ⟨.of_run ⟨fun w => (this w).1, (this w).2.1⟩ (by rw [exec_builtin rfl, hl1]; rfl), (this w).2.2⟩
    · cases hc
  · split at hc
    · simp at hc; obtain ⟨rfl, rfl⟩ := hc; cases hq
    · cases hc
  · split at hc
    · simp only [Option.bind_eq_bind] at hc
      obtain ⟨_, _, h2⟩ := Option.bind_eq_some_iff.1 hc
      obtain ⟨_, _, h4⟩ := Option.bind_eq_some_iff.1 h2
      obtain ⟨_, _, h6⟩ := Option.bind_eq_some_iff.1 h4
      simp at h6; obtain ⟨rfl, rfl⟩ := h6; cases hq
    · simp only [Option.bind_eq_bind] at hc
      obtain ⟨_, _, h2⟩ := Option.bind_eq_some_iff.1 hc
      obtain ⟨_, _, h4⟩ := Option.bind_eq_some_iff.1 h2
      obtain ⟨_, _, h6⟩ := Option.bind_eq_some_iff.1 h4
      simp at h6; obtain ⟨rfl, rfl⟩ := h6; cases hq
    · cases hc
  · split at hc
    · simp only [Option.bind_eq_bind] at hc
      obtain ⟨_, _, h2⟩ := Option.bind_eq_some_iff.1 hc
      simp at h2; obtain ⟨rfl, rfl⟩ := h2; cases hq
    · cases hc
  · split at hc
    · simp at hc; obtain ⟨rfl, rfl⟩ := hc
      obtain ⟨l, hl1, hl2⟩ := call_args hx he hv hlt
      rcases vs with _ | ⟨u, _ | ⟨u2, _ | ⟨u3, r⟩⟩⟩ <;> try (simp [prim, pMin] at h; done)
      obtain ⟨a', b', rfl, h1, h2⟩ := hl2.two
      have := fun w => good_min (P := P) (w := w) (ts := cts) (ty := ty) (show pMin [u, u2] σ = _ from h) h1 h2
      exact ⟨.of_run ⟨fun w => (this w).1, (this w).2.1⟩ (by rw [exec_builtin rfl, hl1]; rfl), (this w).2.2⟩
    · cases hc
  · split at hc
    · simp at hc; obtain ⟨rfl, rfl⟩ := hc
      obtain ⟨l, hl1, hl2⟩ := call_args hx he hv hlt
      rcases vs with _ | ⟨u, _ | ⟨u2, _ | ⟨u3, r⟩⟩⟩ <;> try (simp [prim, pMax] at h; done)
      obtain ⟨a', b', rfl, h1, h2⟩ := hl2.two
      have := fun w => good_max (P := P) (w := w) (ts := cts) (ty := ty) (show pMax [u, u2] σ = _ from h) h1 h2
      exact ⟨.of_run ⟨fun w => (this w).1, (this w).2.1⟩ (by rw [exec_builtin rfl, hl1]; rfl), (this w).2.2⟩
    · cases hc
  · split at hc
    · simp at hc; obtain ⟨rfl, rfl⟩ := hc; cases hq
    · simp only [Option.bind_eq_bind] at hc
      obtain ⟨_, _, h2⟩ := Option.bind_eq_some_iff.1 hc
      obtain ⟨_, _, h2⟩ := Option.bind_eq_some_iff.1 h2
      simp at h2; obtain ⟨rfl, rfl⟩ := h2; cases hq
    · cases hc
  · split at hc
    · simp only [Option.bind_eq_bind] at hc
      obtain ⟨_, _, h2⟩ := Option.bind_eq_some_iff.1 hc
      simp at h2; obtain ⟨rfl, rfl⟩ := h2; cases hq
    · cases hc
  · simp at hc; obtain ⟨rfl, rfl⟩ := hc; cases hq
  · cases hc

theorem quiet_sound (T : Tables P) {o : Oper} {p : Prim} {args : List Opd} {e : Env} {a : Act} {vs : List Value} {v : Value} (hc : compOp P o.op = some (p, args)) (hq : quietP p = true) (hl : looks p = false) (hlt : args.all opdLt = true)
    (he : EnvR ι e a.tmps) (hv : e.evs args = some vs) (hr : R ι σ w) (h : prim p vs σ = some (v, σ')) : QuietOp P ι a.eval o v ∧ σ' = σ := by
  obtain ⟨dst, op, ty, pos, after, guard⟩ := o
  simp only at hc
  cases op <;> simp only [compOp, reduceCtorEq, Option.bind_eq_bind, Option.pure_def] at hc
  case move x =>
    obtain ⟨rfl, u, rfl, hx⟩ := arg1 hc he hv hlt
    simp only [prim, pMove, Option.some.injEq, Prod.mk.injEq] at h
    obtain ⟨rfl, rfl⟩ := h
    exact ⟨⟨a.eval x, fun w => rfl, hx⟩, rfl⟩
  case assign x =>
    obtain ⟨rfl, u, rfl, hx⟩ := arg1 hc he hv hlt
    simp only [prim, pMove, Option.some.injEq, Prod.mk.injEq] at h
    obtain ⟨rfl, rfl⟩ := h
    exact ⟨⟨a.eval x, fun w => rfl, hx⟩, rfl⟩
  case pick c x y =>
    obtain ⟨rfl, u1, u2, u3, rfl, h1, h2, h3⟩ := arg3 hc he hv hlt
    obtain ⟨hg, hs⟩ := good_pick (P := P) hr h h1 h2 h3
    refine ⟨?_, hs⟩
    obtain ⟨v', h4, h5⟩ := hg
    refine ⟨v', fun w => ?_, h5⟩
    have := h4 w
    simp only [Sem.run_bind] at this
    simp only [execOp, Sem.run_bind]
    cases hb : (asBool (a.eval c)).run P w with
    | halt x w' => rw [hb] at this; cases this
    | ok b w' =>
      rw [hb] at this
      simp only [Result.andThen_ok, Sem.run_pure, Result.ok.injEq] at this ⊢
      rw [this.1, this.2]
      exact ⟨rfl, rfl⟩
  case alloc t =>
    obtain ⟨_, _, h2⟩ := Option.bind_eq_some_iff.1 hc
    obtain ⟨_, _, h4⟩ := Option.bind_eq_some_iff.1 h2
    simp at h4; obtain ⟨rfl, rfl⟩ := h4; cases hq
  case box t x =>
    obtain ⟨_, _, h2⟩ := Option.bind_eq_some_iff.1 hc
    obtain ⟨_, _, h4⟩ := Option.bind_eq_some_iff.1 h2
    simp at h4; obtain ⟨rfl, rfl⟩ := h4; cases hq
  case build t ps =>
    obtain ⟨z, hz, h2⟩ := Option.bind_eq_some_iff.1 hc
    obtain ⟨pl, hp, h4⟩ := Option.bind_eq_some_iff.1 h2
    obtain ⟨ds, hd, h6⟩ := Option.bind_eq_some_iff.1 h4
    simp at h6; obtain ⟨rfl, rfl⟩ := h6
    have hvs : VRs ι vs (ps.toList.map fun p => a.eval p.2) := by
      have := he.evs (xs := ps.toList.map (·.2)) (by rw [List.mapM_map]; exact hd) hv hlt
      simpa [Function.comp_def] using this
    have hparts : ps.map (fun (x : Nat × Operand) => (x.1, a.eval x.2)) = ((ps.toList.map (·.1)).zip (ps.toList.map fun p => a.eval p.2)).toArray := by
      apply Array.ext'
      simp [List.zip_map']
    have hplaces := hp
    unfold placesOf at hplaces
    split at hplaces
    · rename_i fs hu
      obtain ⟨hg, hs⟩ := good_buildStruct (P := P) hr h hvs hz hu hp (T.fields t fs (zeroT_lt hz) hu)
      exact ⟨.of hg (by simp only [execOp, ← hparts]), hs⟩
    · rename_i n el hu
      obtain ⟨s, hs0, _⟩ := Option.map_eq_some_iff.1 hplaces
      obtain ⟨hg, hs⟩ := good_buildArray (P := P) hr h hvs hz hu hs0 hp
      exact ⟨.of hg (by simp only [execOp, ← hparts]), hs⟩
    · cases hplaces
  case buildSlice t n ps =>
    split at hc
    · obtain ⟨_, _, h2⟩ := Option.bind_eq_some_iff.1 hc
      split at h2
      · cases h2
      · obtain ⟨_, _, h4⟩ := Option.bind_eq_some_iff.1 h2
        obtain ⟨_, _, h6⟩ := Option.bind_eq_some_iff.1 h4
        simp at h6; obtain ⟨rfl, rfl⟩ := h6; cases hq
    · cases hc
  case load t x =>
    obtain ⟨_, _, h2⟩ := Option.bind_eq_some_iff.1 hc
    obtain ⟨_, _, h4⟩ := Option.bind_eq_some_iff.1 h2
    simp at h4; obtain ⟨rfl, rfl⟩ := h4; cases hl
  case store t x y =>
    obtain ⟨_, _, h2⟩ := Option.bind_eq_some_iff.1 hc
    obtain ⟨_, _, h4⟩ := Option.bind_eq_some_iff.1 h2
    obtain ⟨_, _, h6⟩ := Option.bind_eq_some_iff.1 h4
    simp at h6; obtain ⟨rfl, rfl⟩ := h6; cases hq
  case nilCheck x =>
    obtain ⟨rfl, u, rfl, hx⟩ := arg1 hc he hv hlt
    have := fun w => good_nilCheck (P := P) (w := w) (ρ := a.eval) (y := x) (dst := dst) (ty := ty) (pos := pos) (after := after) (guard := guard) h hx rfl
    exact ⟨⟨a.eval x, fun w => (this w).1, (this w).2.1⟩, (this w).2.2⟩
  case unOp op t x =>
    obtain ⟨rfl, u, rfl, hx⟩ := arg1 hc he hv hlt
    have := fun w => good_un (P := P) (w := w) h hx
    exact ⟨.of_run ⟨fun w => (this w).1, (this w).2.1⟩ rfl, (this w).2.2⟩
  case makeInterface t x =>
    split at hc
    · cases hc
    · rename_i d hnd hd
      obtain ⟨rfl, u, rfl, hx⟩ := arg1 hc he hv hlt
      obtain ⟨hg, hs⟩ := good_iface (P := P) hr h hx hd (fun ms e => hnd ms e)
      exact ⟨.of hg rfl, hs⟩
    · cases hc
  case extract t i =>
    obtain ⟨rfl, u, rfl, hx⟩ := arg1 hc he hv hlt
    obtain ⟨hg, hs⟩ := good_extract (P := P) hr h hx
    exact ⟨.of hg rfl, hs⟩
  case sliceToArrayPointer d x =>
    split at hc
    · rename_i n el hd
      obtain ⟨rfl, u, rfl, hx⟩ := arg1 hc he hv hlt
      obtain ⟨hg, hs⟩ := good_arrPtr (P := P) hr h hx hd
      exact ⟨.of hg rfl, hs⟩
    · cases hc
  case panic x =>
    obtain ⟨rfl, u, rfl, hx⟩ := arg1 hc he hv hlt
    cases hq
  case binOp op t x y yt =>
    split at hc
    · -- struct ==
      exact quiet_agg (neg := false) hc he hv hlt h w
    · exact quiet_agg (neg := false) hc he hv hlt h w
    · exact quiet_agg (neg := true) hc he hv hlt h w
    · exact quiet_agg (neg := true) hc he hv hlt h w
    · obtain ⟨rfl, u1, u2, rfl, h1, h2⟩ := arg2 hc he hv hlt
      have := fun w => good_bin (P := P) (w := w) (t := t) h h1 h2
      exact ⟨.binop (fun w => eqGuard_other (this w).2.2.2.1 (fun e => absurd e (this w).2.2.2.2)) (fun w => (this w).1) (this w).2.1, (this w).2.2.1⟩
    · obtain ⟨rfl, u1, u2, rfl, h1, h2⟩ := arg2 hc he hv hlt
      have := fun w => good_bin (P := P) (w := w) (t := t) h h1 h2
      exact ⟨.binop (fun w => eqGuard_other (this w).2.2.2.1 (fun e => absurd e (this w).2.2.2.2)) (fun w => (this w).1) (this w).2.1, (this w).2.2.1⟩
    · obtain ⟨rfl, u1, u2, rfl, h1, h2⟩ := arg2 hc he hv hlt
      obtain ⟨g1, g2⟩ := eqStr_shape (show pEqStr false [u1, u2] σ = _ from h) h1
      have := fun w => good_eqStr (P := P) (w := w) (t := t) (show pEqStr false [u1, u2] σ = _ from h) h1 h2
      exact ⟨.binop (fun w => eqGuard_other g1 (fun e => absurd e g2)) (fun w => (this w).1) (this w).2.1, (this w).2.2⟩
    · obtain ⟨rfl, u1, u2, rfl, h1, h2⟩ := arg2 hc he hv hlt
      obtain ⟨g1, g2⟩ := eqStr_shape (show pEqStr true [u1, u2] σ = _ from h) h1
      have := fun w => good_eqStr (P := P) (w := w) (t := t) (show pEqStr true [u1, u2] σ = _ from h) h1 h2
      exact ⟨.binop (fun w => eqGuard_other g1 (fun e => absurd e g2)) (fun w => (this w).1) (this w).2.1, (this w).2.2⟩
    · rename_i ht
      obtain ⟨rfl, u1, u2, rfl, h1, h2⟩ := arg2 hc he hv hlt
      obtain ⟨g1, g2⟩ := eqBool_shape (show pEqBool false [u1, u2] σ = _ from h) h1
      have := fun w => good_eqBool (P := P) (w := w) (t := t) (show pEqBool false [u1, u2] σ = _ from h) h1 h2 ht
      exact ⟨.binop (fun w => eqGuard_other g1 (fun e => absurd e g2)) (fun w => (this w).1) (this w).2.1, (this w).2.2⟩
    · rename_i ht
      obtain ⟨rfl, u1, u2, rfl, h1, h2⟩ := arg2 hc he hv hlt
      obtain ⟨g1, g2⟩ := eqBool_shape (show pEqBool true [u1, u2] σ = _ from h) h1
      have := fun w => good_eqBool (P := P) (w := w) (t := t) (show pEqBool true [u1, u2] σ = _ from h) h1 h2 ht
      exact ⟨.binop (fun w => eqGuard_other g1 (fun e => absurd e g2)) (fun w => (this w).1) (this w).2.1, (this w).2.2⟩
    · rename_i ht
      exact quiet_nil (neg := false) ht hc he hv hlt hl h w
    · rename_i ht
      exact quiet_nil (neg := true) ht hc he hv hlt hl h w
    · cases hc
  case convert s d x =>
    split at hc
    · rename_i k0 k hs hd
      obtain ⟨rfl, u, rfl, hx⟩ := arg1 hc he hv hlt
      obtain ⟨hg, hs⟩ := good_toInt (P := P) hr h hx hs hd
      exact ⟨.of hg rfl, hs⟩
    · rename_i k0 k hs hd
      obtain ⟨rfl, u, rfl, hx⟩ := arg1 hc he hv hlt
      obtain ⟨hg, hs⟩ := good_toFloat (P := P) hr h hx hs hd
      exact ⟨.of hg rfl, hs⟩
    · split at hc
      · obtain ⟨rfl, u, rfl, hx⟩ := arg1 hc he hv hlt
        cases hl
      · cases hc
    · cases hc
  case makeFunc f first cap =>
    cases f <;> simp only [compOp, reduceCtorEq, Option.bind_eq_bind, Option.pure_def] at hc
    rename_i f
    obtain ⟨d1, h1, h2⟩ := Option.bind_eq_some_iff.1 hc
    obtain ⟨d2, h3, h4⟩ := Option.bind_eq_some_iff.1 h2
    simp at h4; obtain ⟨rfl, rfl⟩ := h4
    simp only [List.all_append, Bool.and_eq_true] at hlt
    obtain ⟨v1, v2, rfl, e1, e2⟩ := evs_append hv
    have g1 := he.evs h1 e1 hlt.1
    have g2 := he.evs h3 e2 hlt.2
    obtain ⟨hg, hs⟩ := good_func (P := P) (f := f) (n := first.size) (xs := first.toList.map a.eval) (ys := cap.toList.map a.eval) hr h (g1.append g2) (by simp)
    refine ⟨.of hg ?_, hs⟩
    simp only [execOp]
    rw [show (⟨first.toList.map a.eval⟩ : Array Value) = first.map a.eval from Array.ext' (by simp), show (⟨cap.toList.map a.eval⟩ : Array Value) = cap.map a.eval from Array.ext' (by simp)]
  case makeMap t r =>
    split at hc
    · simp at hc; obtain ⟨rfl, rfl⟩ := hc; cases hq
    · split at hc
      · simp at hc; obtain ⟨rfl, rfl⟩ := hc; cases hq
      · cases hc
    · cases hc
  case makeSlice t l c =>
    split at hc
    · obtain ⟨_, _, h2⟩ := Option.bind_eq_some_iff.1 hc
      obtain ⟨_, _, h4⟩ := Option.bind_eq_some_iff.1 h2
      obtain ⟨_, _, h6⟩ := Option.bind_eq_some_iff.1 h4
      obtain ⟨_, _, h8⟩ := Option.bind_eq_some_iff.1 h6
      obtain ⟨_, _, h10⟩ := Option.bind_eq_some_iff.1 h8
      simp at h10; obtain ⟨rfl, rfl⟩ := h10; cases hq
    · cases hc
  case fieldAddr s x i =>
    split at hc
    · rename_i fs hs
      obtain ⟨f, hf, h2⟩ := Option.bind_eq_some_iff.1 hc
      obtain ⟨n, hn, h4⟩ := Option.bind_eq_some_iff.1 h2
      split at h4
      · cases h4
      · rename_i h0
        obtain ⟨rfl, u, rfl, hx⟩ := arg1 h4 he hv hlt
        obtain ⟨hg, hs⟩ := good_fieldAddr (P := P) hr h hx hs hf ⟨n, hn, by simpa using h0⟩ rfl
        exact ⟨.of hg rfl, hs⟩
    · cases hc
  case field s x i =>
    split at hc
    · rename_i fs hs
      obtain ⟨f, hf, h2⟩ := Option.bind_eq_some_iff.1 hc
      obtain ⟨n, hn, h4⟩ := Option.bind_eq_some_iff.1 h2
      obtain ⟨rfl, u, rfl, hx⟩ := arg1 h4 he hv hlt
      obtain ⟨hg, hs⟩ := good_field (P := P) hr h hx hs hf rfl hn rfl (T.size hn)
      exact ⟨.of hg rfl, hs⟩
    · cases hc
  case indexAddr t x i =>
    split at hc
    · rename_i el ht
      obtain ⟨n, hn, h2⟩ := Option.bind_eq_some_iff.1 hc
      obtain ⟨rfl, u1, u2, rfl, h1, h2⟩ := arg2 h2 he hv hlt
      obtain ⟨hg, hs⟩ := good_idxAddr (P := P) hr h h1 h2 ht hn
      exact ⟨.of hg rfl, hs⟩
    · rename_i m el ht
      obtain ⟨n, hn, h2⟩ := Option.bind_eq_some_iff.1 hc
      obtain ⟨rfl, u1, u2, rfl, h1, h2⟩ := arg2 h2 he hv hlt
      obtain ⟨hg, hs⟩ := good_idxAddrA (P := P) hr h h1 h2 ht hn
      exact ⟨.of hg rfl, hs⟩
    · cases hc
  case index t x i =>
    split at hc
    · rename_i m el ht
      obtain ⟨n, hn, h2⟩ := Option.bind_eq_some_iff.1 hc
      obtain ⟨rfl, u1, u2, rfl, h1, h2⟩ := arg2 h2 he hv hlt
      obtain ⟨hg, hs⟩ := good_idx (P := P) hr h h1 h2 ht hn rfl (T.size hn)
      exact ⟨.of hg rfl, hs⟩
    · rename_i ht
      obtain ⟨rfl, u1, u2, rfl, h1, h2⟩ := arg2 hc he hv hlt
      obtain ⟨hg, hs⟩ := good_idxStr (P := P) hr h h1 h2 ht
      exact ⟨.of hg rfl, hs⟩
    · cases hc
  case lookup t x i ok =>
    split at hc
    · obtain ⟨_, _, h2⟩ := Option.bind_eq_some_iff.1 hc
      obtain ⟨_, _, h4⟩ := Option.bind_eq_some_iff.1 h2
      obtain ⟨rfl, u1, u2, rfl, h1, h2⟩ := arg2 h4 he hv hlt
      cases hl
    · cases hc
  case mapUpdate t m k x =>
    split at hc
    · obtain ⟨_, _, h2⟩ := Option.bind_eq_some_iff.1 hc
      obtain ⟨rfl, u1, u2, u3, rfl, h1, h2, h3⟩ := arg3 h2 he hv hlt
      cases hq
    · cases hc
  case typeAssert x xt t ok =>
    split at hc
    · cases hc
    · rename_i d hnd hd
      obtain ⟨z, hz, h2⟩ := Option.bind_eq_some_iff.1 hc
      obtain ⟨rfl, u, rfl, hx⟩ := arg1 h2 he hv hlt
      obtain ⟨hg, hs⟩ := good_assert (P := P) hr h hx hd (fun ms e => hnd ms e) hz
      exact ⟨.of hg rfl, hs⟩
    · cases hc
  case «defer» c =>
    split at hc
    · split at hc
      · obtain ⟨rfl, u, rfl, hx⟩ := arg1 hc he hv hlt
        cases hq
      · cases hc
    · cases hc
  case slice t x lo hi mx =>
    split at hc
    · rename_i el ht
      obtain ⟨n, hn, h2⟩ := Option.bind_eq_some_iff.1 hc
      obtain ⟨dx, hdx, h4⟩ := Option.bind_eq_some_iff.1 h2
      obtain ⟨d1, hd1, h6⟩ := Option.bind_eq_some_iff.1 h4
      obtain ⟨d2, hd2, h8⟩ := Option.bind_eq_some_iff.1 h6
      obtain ⟨d3, hd3, h10⟩ := Option.bind_eq_some_iff.1 h8
      simp at h10; obtain ⟨rfl, rfl⟩ := h10
      obtain ⟨u, r, rfl, e1, e2⟩ := evs_cons hv
      simp only [List.all_cons, List.all_append, Bool.and_eq_true] at hlt
      obtain ⟨v1, r1, rfl, e3, e4⟩ := evs_append e2
      obtain ⟨v2, v3, rfl, e5, e6⟩ := evs_append e4
      have hvs := (he.evs hd1 e3 hlt.2.1).append ((he.evs hd2 e5 hlt.2.2.1).append (he.evs hd3 e6 hlt.2.2.2))
      obtain ⟨hsz, h0⟩ := szP_some hn
      obtain ⟨hg, hs⟩ := good_slice (P := P) (xl := lo.map a.eval) (xh := hi.map a.eval) (xm := mx.map a.eval) (e := el) (esz := n) hr (by simpa [prim] using h) (he.ev hdx e1 (opdLt_t hlt.1)) (by simpa only [toList_optmap] using hvs) ht hsz h0
      exact ⟨.of hg rfl, hs⟩
    · cases hc
  case call c =>
    obtain ⟨args0, hargs, h2⟩ := Option.bind_eq_some_iff.1 hc
    obtain ⟨cal, cargs, cts⟩ := c
    split at h2
    · rename_i b hb
      subst hb
      exact quiet_builtin h2 hargs he hv hlt hq hl h w
    · rename_i r m hb
      subst hb
      obtain ⟨_, _, h4⟩ := Option.bind_eq_some_iff.1 h2
      simp at h4; obtain ⟨rfl, rfl⟩ := h4; cases hq
    · rename_i f hb
      subst hb
      split at h2
      · rename_i fn hf
        split at h2
        · simp at h2; obtain ⟨rfl, rfl⟩ := h2; cases hq
        · rename_i hb
          have hbn : fn.body = none := by simpa using hb
          unfold extern at h2
          split at h2
          · rename_i hname
            simp at h2; obtain ⟨rfl, rfl⟩ := h2
            obtain ⟨l, hl1, hl2⟩ := call_args hargs he hv hlt
            rcases vs with _ | ⟨u, _ | ⟨u2, r⟩⟩ <;> try (simp [prim, pF64bits] at h; done)
            obtain ⟨u', rfl, hu⟩ := hl2.one
            cases hu <;> simp only [prim, pF64bits] at h <;> try (cases h; done)
            rename_i k b
            cases k <;> simp only [] at h <;> try (cases h; done)
            simp only [Option.some.injEq, Prod.mk.injEq] at h
            obtain ⟨rfl, rfl⟩ := h
            exact ⟨⟨_, fun w => by rw [exec_func rfl, hl1]; exact T.bits f fn hf hbn (by simpa using hname) b w, .int _ _⟩, rfl⟩
          · split at h2
            · rename_i hname
              simp at h2; obtain ⟨rfl, rfl⟩ := h2
              obtain ⟨l, hl1, hl2⟩ := call_args hargs he hv hlt
              rcases vs with _ | ⟨u, _ | ⟨u2, r⟩⟩ <;> try (simp [prim, pF64from] at h; done)
              obtain ⟨u', rfl, hu⟩ := hl2.one
              cases hu <;> simp only [prim, pF64from] at h <;> try (cases h; done)
              rename_i k n
              cases k <;> simp only [] at h <;> try (cases h; done)
              simp only [Option.some.injEq, Prod.mk.injEq] at h
              obtain ⟨rfl, rfl⟩ := h
              exact ⟨⟨_, fun w => by rw [exec_func rfl, hl1]; exact T.from_ f fn hf hbn (by simpa using hname) n w, .float _ _⟩, rfl⟩
            · split at h2
              · simp at h2; obtain ⟨rfl, rfl⟩ := h2; cases hq
              · split at h2
                · simp at h2; obtain ⟨rfl, rfl⟩ := h2; cases hq
                · cases h2
      · cases h2
    · obtain ⟨_, _, h4⟩ := Option.bind_eq_some_iff.1 h2
      simp at h4; obtain ⟨rfl, rfl⟩ := h4; cases hq
end
end AM
end Go.Proofs.YtdbbkaeoinalpaaGreat
