/- One operation of a region: reads and effects. -/
import Derived.Test.YtdbbkaeoinalpaaGreatSnd9
set_option linter.unusedVariables false
namespace Go.Proofs.YtdbbkaeoinalpaaGreat
namespace AM
section
variable {P : Program} {ι : Inj} {σ σ' : H} {w : World}

/-- An operation that may look at the heap. -/
def ReadOp (P : Program) (ι : Inj) (ρ : Operand → Value) (o : Oper) (w : World) (v : Value) : Prop := ∃ v', (execOp ρ o).run P w = .ok (.value v') w ∧ VR ι v v'
theorem QuietOp.read {ρ : Operand → Value} {o : Oper} {v : Value} (h : QuietOp P ι ρ o v) (w : World) : ReadOp P ι ρ o w v := let ⟨v', a, b⟩ := h; ⟨v', a w, b⟩
theorem ReadOp.of {ρ : Operand → Value} {o : Oper} {v v' : Value} {s : Sem Value} (h : s.run P w = .ok v' w) (hv : VR ι v v') (he : execOp ρ o = (do pure (.value (← s)))) : ReadOp P ι ρ o w v :=
  ⟨v', by rw [he, Sem.run_bind, h]; rfl, hv⟩
theorem eqPtr_shape {neg : Bool} {x y x' v : Value} (h : pEqPtr neg [x, y] σ = some (v, σ')) (hx : VR ι x x') : (∀ c, x' ≠ .agg c) ∧ x' ≠ .nilIface := by
  cases hx <;> simp only [pEqPtr] at h <;> try (cases h; done)
  all_goals exact ⟨by simp, by simp⟩
theorem read_nil {neg : Bool} {d : TypeDesc} {t yt : Nat} {x y : Operand} {p : Prim} {args : List Opd} {e : Env} {a : Act} {vs : List Value} {v : Value} {dst ty pos after guard} (ht : P.underlying t = some d) (hc : compNil P neg d x y = some (p, args)) (he : EnvR ι e a.tmps) (hv : e.evs args = some vs) (hlt : args.all opdLt = true)
    (hl : looks p = true) (hr : R ι σ w) (h : prim p vs σ = some (v, σ')) : ReadOp P ι a.eval ⟨dst, .binOp (eqOp neg) t x y yt, ty, pos, after, guard⟩ w v ∧ σ' = σ := by
  unfold compNil at hc
  simp only [Option.bind_eq_bind] at hc
  obtain ⟨k, hk, h2⟩ := Option.bind_eq_some_iff.1 hc
  split at h2
  · obtain ⟨rfl, _⟩ := arg1 h2 he hv hlt
    cases hl
  · obtain ⟨rfl, _⟩ := arg1 h2 he hv hlt
    cases hl
  · split at h2
    · rename_i el
      split at h2
      · cases h2
      · rename_i hz
        obtain ⟨rfl, u1, u2, rfl, h1, h2⟩ := arg2 h2 he hv hlt
        have hz' : ∃ i, P.info? el = some i ∧ i.size ≠ 0 := by
          cases hs : szT P el with
          | none => rw [hs] at hz; simp at hz
          | some n =>
            obtain ⟨i, hi, hn⟩ := szT_some hs
            exact ⟨i, hi, by rw [hs] at hz; rw [hn]; simpa using hz⟩
        obtain ⟨i, hi, hi0⟩ := hz'
        obtain ⟨g1, g2⟩ := eqPtr_shape (show pEqPtr neg [u1, u2] σ = _ from h) h1
        obtain ⟨k1, k2, k3⟩ := good_eqPtr (P := P) (te := el) hr (show pEqPtr neg [u1, u2] σ = _ from h) h1 h2 ht hi hi0
        refine ⟨⟨v, ?_, k2⟩, k3⟩
        simp only [execOp, Sem.run_bind, eqGuard_other g1 (fun e => absurd e g2), Result.andThen_ok]
        have k1' : (binOp (eqOp neg) t (a.eval x) (a.eval y)).run P w = .ok v w := k1
        rw [k1']; rfl
    · cases h2

theorem no_bind {β : Type} {o : Option β} {f : β → Option (Prim × List Opd)} {p : Prim} {args : List Opd} {g : Prim → Bool} (h : ∀ d, f d = some (p, args) → g p = false) : o.bind f = some (p, args) → g p = false := by
  intro hb
  obtain ⟨d, _, h2⟩ := Option.bind_eq_some_iff.1 hb
  exact h d h2
theorem no_some {q p : Prim} {l args : List Opd} {g : Prim → Bool} (h : g q = false) : some (q, l) = some (p, args) → g p = false := by
  rintro hb
  cases hb
  exact h
theorem no_none {p : Prim} {args : List Opd} {g : Prim → Bool} : (none : Option (Prim × List Opd)) = some (p, args) → g p = false := by
  rintro hb
  cases hb

theorem read_sound (T : Tables P) {o : Oper} {p : Prim} {args : List Opd} {e : Env} {a : Act} {vs : List Value} {v : Value} (hc : compOp P o.op = some (p, args)) (hl : looks p = true) (hlt : args.all opdLt = true)
    (he : EnvR ι e a.tmps) (hv : e.evs args = some vs) (hr : R ι σ w) (h : prim p vs σ = some (v, σ')) : ReadOp P ι a.eval o w v ∧ σ' = σ := by
  obtain ⟨dst, op, ty, pos, after, guard⟩ := o
  simp only at hc
  cases op <;> simp only [compOp, reduceCtorEq, Option.bind_eq_bind, Option.pure_def] at hc
  case load t x =>
    obtain ⟨n, hn, h2⟩ := Option.bind_eq_some_iff.1 hc
    obtain ⟨rfl, u, rfl, hx⟩ := arg1 h2 he hv hlt
    obtain ⟨v', h1, h2, h3⟩ := good_load (P := P) hr (show pLoad (aggT P t) n [u] σ = _ from h) hx hn rfl (T.size hn)
    exact ⟨.of h1 h2 rfl, h3⟩
  case lookup t x i ok =>
    split at hc
    · rename_i kt el ht
      obtain ⟨ks, hk, h2⟩ := Option.bind_eq_some_iff.1 hc
      obtain ⟨z, hz, h4⟩ := Option.bind_eq_some_iff.1 h2
      obtain ⟨rfl, u1, u2, rfl, h1, h2⟩ := arg2 h4 he hv hlt
      obtain ⟨v', h5, h6, h7⟩ := good_lookup (P := P) hr (show pLookup ks z ok [u1, u2] σ = _ from h) h1 h2 ht hk hz
      exact ⟨.of h5 h6 rfl, h7⟩
    · cases hc
  case convert s d x =>
    split at hc
    · obtain ⟨rfl, _⟩ := arg1 hc he hv hlt; cases hl
    · obtain ⟨rfl, _⟩ := arg1 hc he hv hlt; cases hl
    · rename_i el hs hd
      split at hc
      · rename_i he8
        obtain ⟨rfl, u, rfl, hx⟩ := arg1 hc he hv hlt
        obtain ⟨h5, h6, h7⟩ := good_toStr (P := P) hr (show pToStr [u] σ = _ from h) hx hs he8 hd
        exact ⟨.of h5 h6 rfl, h7⟩
      · cases hc
    · cases hc
  case binOp op t x y yt =>
    split at hc
    case h_11 ht => exact read_nil (neg := false) ht hc he hv hlt hl hr h
    case h_12 ht => exact read_nil (neg := true) ht hc he hv hlt hl hr h
    all_goals
      have hno : looks p = false := by
        revert hc
        try unfold compAgg
        repeat' first | exact no_none | exact no_some rfl | (refine no_bind fun _ => ?_) | split
      rw [hno] at hl; cases hl
  case call c =>
    obtain ⟨args0, hargs, h2⟩ := Option.bind_eq_some_iff.1 hc
    obtain ⟨cal, cargs, cts⟩ := c
    split at h2
    · rename_i b hb
      subst hb
      unfold compBuiltin at h2
      split at h2
      · rename_i t hts
        have hts' : cts[0]? = some t := by rw [← Array.getElem?_toList, hts]; rfl
        split at h2
        · simp at h2; obtain ⟨rfl, rfl⟩ := h2; cases hl
        · rename_i kt el ht
          simp at h2; obtain ⟨rfl, rfl⟩ := h2
          obtain ⟨l, hl1, hl2⟩ := call_args hargs he hv hlt
          rcases vs with _ | ⟨u, _ | ⟨u2, r⟩⟩ <;> try (simp [prim, pLenM] at h; done)
          obtain ⟨u', rfl, hu⟩ := hl2.one
          obtain ⟨k1, k2, k3⟩ := good_lenM (P := P) (ts := cts) (ty := ty) hr (show pLenM [u] σ = _ from h) hu ht hts'
          exact ⟨.of k1 k2 (by rw [exec_builtin rfl, hl1]; rfl), k3⟩
        · simp at h2; obtain ⟨rfl, rfl⟩ := h2; cases hl
        · cases h2
      all_goals
        have hno : looks p = false := by
          revert h2
          repeat' first | exact no_none | exact no_some rfl | (refine no_bind fun _ => ?_) | split
        rw [hno] at hl; cases hl
    all_goals
      have hno : looks p = false := by
        revert h2
        try unfold extern
        repeat' first | exact no_none | exact no_some rfl | (refine no_bind fun _ => ?_) | split
      rw [hno] at hl; cases hl
  case makeFunc f first cap =>
    cases f <;> simp only [compOp, reduceCtorEq, Option.bind_eq_bind, Option.pure_def] at hc
    have hno : looks p = false := by
      revert hc
      repeat' first | exact no_none | exact no_some rfl | (refine no_bind fun _ => ?_) | split
    rw [hno] at hl; cases hl
  all_goals
    have hno : looks p = false := by
      revert hc
      repeat' first | exact no_none | exact no_some rfl | (refine no_bind fun _ => ?_) | split
    rw [hno] at hl; cases hl
end
end AM
end Go.Proofs.YtdbbkaeoinalpaaGreat
