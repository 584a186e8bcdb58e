/- Parts: Snd10, Snd11, Snd12, Snd13, Snd14, Snd15, Snd16, Snd17, Snd18, Snd19, Snd20, Snd21, Snd22. -/
import Derived.Test.YtlelihddjacplaaGreatTpK
import Derived.Defers
import Derived.Recover
set_option linter.unusedVariables false
namespace Go.Proofs.YtlelihddjacplaaGreat
namespace AM
section
variable {P : Program} {ι : Inj} {σ σ' : H} {w : World}

/-- An operation that may look at the heap. -/
def ReadOp (P : Program) (ι : Inj) (ρ : Operand → Value) (o : Oper) (w : World) (v : Value) : Prop := ∃ v', (execOp ρ o).run P w = .ok (.value v') w ∧ VR ι v v'
theorem QuietOp.read {ρ : Operand → Value} {o : Oper} {v : Value} (h : QuietOp P ι ρ o v) (w : World) : ReadOp P ι ρ o w v := let ⟨v', a, b⟩ := h; ⟨v', a w, b⟩
theorem ReadOp.of {ρ : Operand → Value} {o : Oper} {v v' : Value} {s : Sem Value} (h : s.run P w = .ok v' w) (hv : VR ι v v') (he : execOp ρ o = (do pure (.value (← s)))) : ReadOp P ι ρ o w v :=
  ⟨v', by rw [he, Sem.run_bind, h]; rfl, hv⟩
theorem eqPtr_shape {neg : Bool} {x y x' v : Value} (h : pEqPtr neg [x, y] σ = some (v, σ')) (hx : VR ι x x') : (∀ c, x' ≠ .agg c) ∧ x' ≠ .nilIface := by
  cases hx <;> simp only [pEqPtr] at h <;> try (cases h; done)
  all_goals exact ⟨by simp, by simp⟩
theorem read_nil {neg : Bool} {d : TypeDesc} {t yt : Nat} {x y : Operand} {p : Prim} {args : List Opd} {e : Env} {a : Act} {vs : List Value} {v : Value} {dst ty pos after guard} (ht : P.underlying t = some d) (hc : compNil P neg d x y = some (p, args)) (he : EnvR ι e a.tmps) (hv : e.evs args = some vs) (hlt : args.all opdLt = true)
    (hl : looks p = true) (hr : R ι σ w) (h : prim p vs σ = some (v, σ')) : ReadOp P ι a.eval ⟨dst, .binOp (eqOp neg) t x y yt, ty, pos, after, guard⟩ w v ∧ σ' = σ := by
  unfold compNil at hc
  simp only [Option.bind_eq_bind] at hc
  obtain ⟨k, hk, h2⟩ := Option.bind_eq_some_iff.1 hc
  split at h2
  · obtain ⟨rfl, _⟩ := arg1 h2 he hv hlt
    cases hl
  · obtain ⟨rfl, _⟩ := arg1 h2 he hv hlt
    cases hl
  · split at h2
    · rename_i el
      split at h2
      · cases h2
      · rename_i hz
        obtain ⟨rfl, u1, u2, rfl, h1, h2⟩ := arg2 h2 he hv hlt
        have hz' : ∃ i, P.info? el = some i ∧ i.size ≠ 0 := by
          cases hs : szT P el with
          | none => rw [hs] at hz; simp at hz
          | some n =>
            obtain ⟨i, hi, hn⟩ := szT_some hs
            exact ⟨i, hi, by rw [hs] at hz; rw [hn]; simpa using hz⟩
        obtain ⟨i, hi, hi0⟩ := hz'
        obtain ⟨g1, g2⟩ := eqPtr_shape (show pEqPtr neg [u1, u2] σ = _ from h) h1
        obtain ⟨k1, k2, k3⟩ := good_eqPtr (P := P) (te := el) hr (show pEqPtr neg [u1, u2] σ = _ from h) h1 h2 ht hi hi0
        refine ⟨⟨v, ?_, k2⟩, k3⟩
        simp only [execOp, Sem.run_bind, eqGuard_other g1 (fun e => absurd e g2), Result.andThen_ok]
        have k1' : (binOp (eqOp neg) t (a.eval x) (a.eval y)).run P w = .ok v w := k1
        rw [k1']; rfl
    · cases h2

theorem no_bind {β : Type} {o : Option β} {f : β → Option (Prim × List Opd)} {p : Prim} {args : List Opd} {g : Prim → Bool} (h : ∀ d, f d = some (p, args) → g p = false) : o.bind f = some (p, args) → g p = false := by
  intro hb
  obtain ⟨d, _, h2⟩ := Option.bind_eq_some_iff.1 hb
  exact h d h2
theorem no_some {q p : Prim} {l args : List Opd} {g : Prim → Bool} (h : g q = false) : some (q, l) = some (p, args) → g p = false := by
  rintro hb
  cases hb
  exact h
theorem no_none {p : Prim} {args : List Opd} {g : Prim → Bool} : (none : Option (Prim × List Opd)) = some (p, args) → g p = false := by
  rintro hb
  cases hb

theorem read_sound (T : Tables P) {o : Oper} {p : Prim} {args : List Opd} {e : Env} {a : Act} {vs : List Value} {v : Value} (hc : compOp P o.op = some (p, args)) (hl : looks p = true) (hlt : args.all opdLt = true)
    (he : EnvR ι e a.tmps) (hv : e.evs args = some vs) (hr : R ι σ w) (h : prim p vs σ = some (v, σ')) : ReadOp P ι a.eval o w v ∧ σ' = σ := by
  obtain ⟨dst, op, ty, pos, after, guard⟩ := o
  simp only at hc
  cases op <;> simp only [compOp, reduceCtorEq, Option.bind_eq_bind, Option.pure_def] at hc
  case load t x =>
    obtain ⟨n, hn, h2⟩ := Option.bind_eq_some_iff.1 hc
    obtain ⟨rfl, u, rfl, hx⟩ := arg1 h2 he hv hlt
    obtain ⟨v', h1, h2, h3⟩ := good_load (P := P) hr (show pLoad (aggT P t) n [u] σ = _ from h) hx hn rfl (T.size hn)
    exact ⟨.of h1 h2 rfl, h3⟩
  case lookup t x i ok =>
    split at hc
    · rename_i kt el ht
      obtain ⟨ks, hk, h2⟩ := Option.bind_eq_some_iff.1 hc
      obtain ⟨z, hz, h4⟩ := Option.bind_eq_some_iff.1 h2
      obtain ⟨rfl, u1, u2, rfl, h1, h2⟩ := arg2 h4 he hv hlt
      obtain ⟨v', h5, h6, h7⟩ := good_lookup (P := P) hr (show pLookup ks z ok [u1, u2] σ = _ from h) h1 h2 ht hk hz
      exact ⟨.of h5 h6 rfl, h7⟩
    · cases hc
  case convert s d x =>
    split at hc
    · obtain ⟨rfl, _⟩ := arg1 hc he hv hlt; cases hl
    · obtain ⟨rfl, _⟩ := arg1 hc he hv hlt; cases hl
    · rename_i el hs hd
      split at hc
      · rename_i he8
        obtain ⟨rfl, u, rfl, hx⟩ := arg1 hc he hv hlt
        obtain ⟨h5, h6, h7⟩ := good_toStr (P := P) hr (show pToStr [u] σ = _ from h) hx hs he8 hd
        exact ⟨.of h5 h6 rfl, h7⟩
      · cases hc
    · cases hc
  case binOp op t x y yt =>
    split at hc
    case h_11 ht => exact read_nil (neg := false) ht hc he hv hlt hl hr h
    case h_12 ht => exact read_nil (neg := true) ht hc he hv hlt hl hr h
    all_goals
      have hno : looks p = false := by
        revert hc
        try unfold compAgg
        repeat' first | exact no_none | exact no_some rfl | (refine no_bind fun _ => ?_) | split
      rw [hno] at hl; cases hl
  case call c =>
    obtain ⟨args0, hargs, h2⟩ := Option.bind_eq_some_iff.1 hc
    obtain ⟨cal, cargs, cts⟩ := c
    split at h2
    · rename_i b hb
      subst hb
      unfold compBuiltin at h2
      split at h2
      · rename_i t hts
        have hts' : cts[0]? = some t := by rw [← Array.getElem?_toList, hts]; rfl
        split at h2
        · simp at h2; obtain ⟨rfl, rfl⟩ := h2; cases hl
        · rename_i kt el ht
          simp at h2; obtain ⟨rfl, rfl⟩ := h2
          obtain ⟨l, hl1, hl2⟩ := call_args hargs he hv hlt
          rcases vs with _ | ⟨u, _ | ⟨u2, r⟩⟩ <;> try (simp [prim, pLenM] at h; done)
          obtain ⟨u', rfl, hu⟩ := hl2.one
          obtain ⟨k1, k2, k3⟩ := good_lenM (P := P) (ts := cts) (ty := ty) hr (show pLenM [u] σ = _ from h) hu ht hts'
          exact ⟨.of k1 k2 (by rw [exec_builtin rfl, hl1]; rfl), k3⟩
        · simp at h2; obtain ⟨rfl, rfl⟩ := h2; cases hl
        · cases h2
      all_goals
        have hno : looks p = false := by
          revert h2
          repeat' first | exact no_none | exact no_some rfl | (refine no_bind fun _ => ?_) | split
        rw [hno] at hl; cases hl
    all_goals
      have hno : looks p = false := by
        revert h2
        try unfold extern
        repeat' first | exact no_none | exact no_some rfl | (refine no_bind fun _ => ?_) | split
      rw [hno] at hl; cases hl
  case makeFunc f first cap =>
    cases f <;> simp only [compOp, reduceCtorEq, Option.bind_eq_bind, Option.pure_def] at hc
    have hno : looks p = false := by
      revert hc
      repeat' first | exact no_none | exact no_some rfl | (refine no_bind fun _ => ?_) | split
    rw [hno] at hl; cases hl
  all_goals
    have hno : looks p = false := by
      revert hc
      repeat' first | exact no_none | exact no_some rfl | (refine no_bind fun _ => ?_) | split
    rw [hno] at hl; cases hl
end
end AM
end Go.Proofs.YtlelihddjacplaaGreat
namespace Go.Proofs.YtlelihddjacplaaGreat
namespace AM
section
variable {P : Program} {ι : Inj} {σ σ' : H} {w : World}

/-- An operation that changes the heap. -/
def EffOp (P : Program) (ι : Inj) (σ' : H) (ρ : Operand → Value) (o : Oper) (w : World) (v : Value) : Prop :=
  ∃ n ι' w' v', (execOp ρ o).run P w = .ok n w' ∧ (n = .value v' ∨ (n = .skip ∧ v' = undef)) ∧ VR ι' v v' ∧ R ι' σ' w' ∧ Ext ι w ι' w'
theorem EffOp.of {ρ : Operand → Value} {o : Oper} {v : Value} {s : Sem Value} (h : Good P ι σ' s w v) (he : execOp ρ o = (do pure (.value (← s)))) : EffOp P ι σ' ρ o w v := by
  obtain ⟨ι', v', w', h1, h2, h3, h4⟩ := h
  exact ⟨.value v', ι', w', v', by rw [he, Sem.run_bind, h1]; rfl, .inl rfl, h2, h3, h4⟩
theorem EffOp.ofU {ρ : Operand → Value} {o : Oper} {v : Value} {s : Sem Unit} (hv : v = .tuple #[]) (h : GoodU P ι σ' s w) (he : execOp ρ o = (do s; pure .skip)) : EffOp P ι σ' ρ o w v := by
  obtain ⟨ι', w', h1, h3, h4⟩ := h
  subst hv
  exact ⟨.skip, ι', w', undef, by rw [he, Sem.run_bind, h1]; rfl, .inr ⟨rfl, rfl⟩, .tuple .nil, h3, h4⟩
theorem VRs.one' {a : Value} {l : List Value} (h : VRs ι [a] l) : ∃ a', l = [a'] ∧ VR ι a a' := h.one
def effP (p : Prim) : Bool := !quietP p && (match p.kind with
  | .other => true
  | _ => false)
theorem eff_builtin {b : Builtin} {cargs : Array Operand} {cts : Array Nat} {ds : List Opd} {p : Prim} {args : List Opd} {e : Env} {a : Act} {vs : List Value} {v : Value} {dst ty pos after guard} (hc : compBuiltin P b ds cts.toList = some (p, args)) (hx : cargs.toList.mapM opdOf = some ds) (he : EnvR ι e a.tmps) (hv : e.evs args = some vs) (hlt : args.all opdLt = true)
    (hq : effP p = true) (hr : R ι σ w) (h : prim p vs σ = some (v, σ')) : EffOp P ι σ' a.eval ⟨dst, .call ⟨.builtin b, cargs, cts⟩, ty, pos, after, guard⟩ w v := by
  unfold compBuiltin at hc
  split at hc
  · split at hc
    · simp at hc; obtain ⟨rfl, rfl⟩ := hc; cases hq
    · simp at hc; obtain ⟨rfl, rfl⟩ := hc; cases hq
    · simp at hc; obtain ⟨rfl, rfl⟩ := hc; cases hq
    · cases hc
  · rename_i t hts
    have hts' : cts[0]? = some t := by rw [← Array.getElem?_toList, hts]; rfl
    split at hc
    · rename_i el ht
      simp at hc; obtain ⟨rfl, rfl⟩ := hc
      obtain ⟨l, hl1, hl2⟩ := call_args hx he hv hlt
      rcases vs with _ | ⟨u, _ | ⟨u2, r⟩⟩ <;> try (simp [prim, pCap] at h; done)
      obtain ⟨u', rfl, hu⟩ := hl2.one
      obtain ⟨k1, k2, rfl⟩ := good_cap (P := P) (ts := cts) (ty := ty) hr (show pCap [u] σ = _ from h) hu ht hts'
      exact .of (.pure hr k1 k2) (by rw [exec_builtin rfl, hl1]; rfl)
    · cases hc
  · rename_i t t2 hts
    have hts' : cts = #[t, t2] := by rw [← Array.toArray_toList (xs := cts), hts]
    subst hts'
    split at hc
    · rename_i el e2 ht hu
      simp only [Option.bind_eq_bind] at hc
      obtain ⟨z, hz, h2⟩ := Option.bind_eq_some_iff.1 hc
      obtain ⟨n, hn, h4⟩ := Option.bind_eq_some_iff.1 h2
      obtain ⟨by_, hb, h6⟩ := Option.bind_eq_some_iff.1 h4
      simp at h6; obtain ⟨rfl, rfl⟩ := h6
      obtain ⟨l, hl1, hl2⟩ := call_args hx he hv hlt
      rcases vs with _ | ⟨u, _ | ⟨u2, _ | ⟨u3, r⟩⟩⟩ <;> try (simp [prim, pAppend] at h; done)
      obtain ⟨a', b', rfl, h1, h2⟩ := hl2.two
      exact .of (good_append (P := P) (ty := ty) hr (show pAppend el n by_ [u, u2] σ = _ from h) h1 h2 ht hu hn hb hz) (by rw [exec_builtin rfl, hl1]; rfl)
    · rename_i el k ht hu
      simp only [Option.bind_eq_bind] at hc
      obtain ⟨n, hn, h4⟩ := Option.bind_eq_some_iff.1 hc
      obtain ⟨by_, hb, h5⟩ := Option.bind_eq_some_iff.1 h4
      obtain ⟨z, hz, h6⟩ := Option.bind_eq_some_iff.1 h5
      simp at h6; obtain ⟨rfl, rfl⟩ := h6
      obtain ⟨l, hl1, hl2⟩ := call_args hx he hv hlt
      rcases vs with _ | ⟨u, _ | ⟨u2, _ | ⟨u3, r⟩⟩⟩ <;> try (simp [prim, pAppendZ] at h; done)
      obtain ⟨a', b', rfl, h1, h2⟩ := hl2.two
      exact .of (good_appendZ (P := P) (ty := ty) hr (show pAppendZ el n by_ z.cells.toList [u, u2] σ = _ from h) h1 h2 ht hu hn hb hz) (by rw [exec_builtin rfl, hl1]; rfl)
    · cases hc
  · rename_i t t2 hts
    have hts' : cts = #[t, t2] := by rw [← Array.toArray_toList (xs := cts), hts]
    subst hts'
    split at hc
    · rename_i el e2 ht hu
      simp only [Option.bind_eq_bind] at hc
      obtain ⟨n, hn, h2⟩ := Option.bind_eq_some_iff.1 hc
      simp at h2; obtain ⟨rfl, rfl⟩ := h2
      obtain ⟨l, hl1, hl2⟩ := call_args hx he hv hlt
      rcases vs with _ | ⟨u, _ | ⟨u2, _ | ⟨u3, r⟩⟩⟩ <;> try (simp [prim, pCopy] at h; done)
      obtain ⟨a', b', rfl, h1, h2⟩ := hl2.two
      exact .of (good_copy (P := P) (e2 := 0) (ty := ty) hr (show pCopy n [u, u2] σ = _ from h) h1 h2 ht hn) (by rw [exec_builtin rfl, hl1]; rfl)
    · cases hc
  · split at hc
    · simp at hc; obtain ⟨rfl, rfl⟩ := hc; cases hq
    · cases hc
  · split at hc
    · simp at hc; obtain ⟨rfl, rfl⟩ := hc; cases hq
    · cases hc
  · rename_i t hts
    have hts' : cts[0]? = some t := by rw [← Array.getElem?_toList, hts]; rfl
    split at hc
    · rename_i kt el ht
      simp at hc; obtain ⟨rfl, rfl⟩ := hc
      obtain ⟨l, hl1, hl2⟩ := call_args hx he hv hlt
      rcases vs with _ | ⟨u, _ | ⟨u2, r⟩⟩ <;> try (simp [prim, pClearM] at h; done)
      obtain ⟨u', rfl, hu⟩ := hl2.one
      exact .of (good_clearM (P := P) (ts := cts) (ty := ty) hr (show pClearM [u] σ = _ from h) hu ht hts') (by rw [exec_builtin rfl, hl1]; rfl)
    · rename_i el ht
      simp only [Option.bind_eq_bind] at hc
      obtain ⟨n, hn, h2⟩ := Option.bind_eq_some_iff.1 hc
      obtain ⟨z, hz, h2⟩ := Option.bind_eq_some_iff.1 h2
      simp at h2; obtain ⟨rfl, rfl⟩ := h2
      obtain ⟨l, hl1, hl2⟩ := call_args hx he hv hlt
      rcases vs with _ | ⟨u, _ | ⟨u2, r⟩⟩ <;> try (simp [prim, pClearS] at h; done)
      obtain ⟨u', rfl, hu⟩ := hl2.one
      obtain ⟨hsz, h0⟩ := szP_some hn
      exact .of (good_clearS (P := P) (ts := cts) (ty := ty) hr (show pClearS z.cells.toList [u] σ = _ from h) hu ht hz hsz h0 hts') (by rw [exec_builtin rfl, hl1]; rfl)
    · cases hc
  · rename_i t r hts
    have hts' : cts[0]? = some t := by rw [← Array.getElem?_toList, hts]; rfl
    split at hc
    · rename_i kt el ht
      simp only [Option.bind_eq_bind] at hc
      obtain ⟨ks, hk, h2⟩ := Option.bind_eq_some_iff.1 hc
      simp at h2; obtain ⟨rfl, rfl⟩ := h2
      obtain ⟨l, hl1, hl2⟩ := call_args hx he hv hlt
      rcases vs with _ | ⟨u, _ | ⟨u2, _ | ⟨u3, r⟩⟩⟩ <;> try (simp [prim, pDelete] at h; done)
      obtain ⟨a', b', rfl, h1, h2⟩ := hl2.two
      exact .of (good_delete (P := P) (ts := cts) (ty := ty) hr (show pDelete ks [u, u2] σ = _ from h) h1 h2 ht hk hts') (by rw [exec_builtin rfl, hl1]; rfl)
    · cases hc
  · simp at hc; obtain ⟨rfl, rfl⟩ := hc
    cases h
  · cases hc

theorem eff_sound (T : Tables P) {o : Oper} {p : Prim} {args : List Opd} {e : Env} {a : Act} {vs : List Value} {v : Value} (hc : compOp P o.op = some (p, args)) (hq : effP p = true) (hlt : args.all opdLt = true)
    (he : EnvR ι e a.tmps) (hv : e.evs args = some vs) (hr : R ι σ w) (h : prim p vs σ = some (v, σ')) : EffOp P ι σ' a.eval o w v := by
  obtain ⟨dst, op, ty, pos, after, guard⟩ := o
  simp only at hc
  cases op <;> simp only [compOp, reduceCtorEq, Option.bind_eq_bind, Option.pure_def] at hc
  case alloc t =>
    obtain ⟨n, hn, h2⟩ := Option.bind_eq_some_iff.1 hc
    obtain ⟨z, hz, h4⟩ := Option.bind_eq_some_iff.1 h2
    simp at h4; obtain ⟨rfl, rfl⟩ := h4
    have := evs_nil hv; subst this
    exact .of (good_new (P := P) hr (show pNew t n z.cells.toList [] σ = _ from h) hz) rfl
  case box t x =>
    obtain ⟨n, hn, h2⟩ := Option.bind_eq_some_iff.1 hc
    obtain ⟨rfl, u, rfl, hx⟩ := arg1 h2 he hv hlt
    exact .of (good_box (P := P) hr (show pBox t n [u] σ = _ from h) hx) rfl
  case buildSlice t n ps =>
    split at hc
    · rename_i el ht
      obtain ⟨s, hs, h2⟩ := Option.bind_eq_some_iff.1 hc
      split at h2
      · cases h2
      · rename_i hle
        obtain ⟨z, hz, h4⟩ := Option.bind_eq_some_iff.1 h2
        obtain ⟨ds, hd, h6⟩ := Option.bind_eq_some_iff.1 h4
        simp at h6; obtain ⟨rfl, rfl⟩ := h6
        have hvs : VRs ι vs (ps.toList.map fun p => a.eval p.2) := by
          have := he.evs (xs := ps.toList.map (·.2)) (by rw [List.mapM_map]; exact hd) hv hlt
          simpa [Function.comp_def] using this
        have hparts : ps.map (fun (x : Nat × Operand) => (x.1, a.eval x.2)) = ((ps.toList.map (·.1)).zip (ps.toList.map fun p => a.eval p.2)).toArray := by
          apply Array.ext'
          simp [List.zip_map']
        have := good_buildSlice (P := P) (t := t) (idx := ps.toList.map (·.1)) hr (by rw [List.map_map]; exact h) hvs hz ht hs (by omega)
        exact .of this (by simp only [execOp, ← hparts])
    · cases hc
  case store t x y =>
    obtain ⟨n, hn, h2⟩ := Option.bind_eq_some_iff.1 hc
    obtain ⟨rfl, u1, u2, rfl, h1, h2⟩ := arg2 h2 he hv hlt
    obtain ⟨hv0, hg⟩ := good_store (P := P) hr (show pStore n [u1, u2] σ = _ from h) h1 h2 hn
    exact .ofU hv0 hg rfl
  case mapUpdate t m k x =>
    split at hc
    · rename_i kt el ht
      obtain ⟨ks, hk, h2⟩ := Option.bind_eq_some_iff.1 hc
      obtain ⟨rfl, u1, u2, u3, rfl, h1, h2, h3⟩ := arg3 h2 he hv hlt
      obtain ⟨hv0, hg⟩ := good_mapSet (P := P) hr (show pMapSet ks [u1, u2, u3] σ = _ from h) h1 h2 h3 ht hk
      exact .ofU hv0 hg rfl
    · cases hc
  case makeMap t r =>
    split at hc
    · simp at hc; obtain ⟨rfl, rfl⟩ := hc
      have := evs_nil hv; subst this
      exact .of (good_newMap (P := P) (sem := Instr.makeMap t none) hr h rfl) rfl
    · rename_i k n
      split at hc
      · rename_i kt el ht
        simp at hc; obtain ⟨rfl, rfl⟩ := hc
        have := evs_nil hv; subst this
        refine .of (good_newMap (P := P) (sem := Instr.makeMap t (some (.int k n))) hr h ?_) rfl
        simp only [Instr.makeMap, Sem.run_bind, run_underlying ht, Result.andThen_ok, Sem.run_pure]
        rfl
      · cases hc
    · cases hc
  case makeSlice t l c =>
    split at hc
    · rename_i el ht
      obtain ⟨n, hn, h2⟩ := Option.bind_eq_some_iff.1 hc
      obtain ⟨by_, hb, h4⟩ := Option.bind_eq_some_iff.1 h2
      obtain ⟨z, hz, h6⟩ := Option.bind_eq_some_iff.1 h4
      obtain ⟨rfl, u1, u2, rfl, h1, h2⟩ := arg2 h6 he hv hlt
      exact .of (good_newSlice (P := P) hr (show pNewSlice el n by_ z.cells.toList [u1, u2] σ = _ from h) h1 h2 ht hn hb hz) rfl
    · cases hc
  case call c =>
    obtain ⟨args0, hargs, h2⟩ := Option.bind_eq_some_iff.1 hc
    obtain ⟨cal, cargs, cts⟩ := c
    split at h2
    · rename_i b hb
      subst hb
      exact eff_builtin h2 hargs he hv hlt hq hr h
    · obtain ⟨_, _, h4⟩ := Option.bind_eq_some_iff.1 h2
      simp at h4; obtain ⟨rfl, rfl⟩ := h4; cases hq
    · rename_i f hb
      subst hb
      split at h2
      · rename_i fn hf
        split at h2
        · simp at h2; obtain ⟨rfl, rfl⟩ := h2; cases hq
        · rename_i hb
          have hbn : fn.body = none := by simpa using hb
          unfold extern at h2
          split at h2
          · simp at h2; obtain ⟨rfl, rfl⟩ := h2; cases hq
          · split at h2
            · simp at h2; obtain ⟨rfl, rfl⟩ := h2; cases hq
            · split at h2
              · rename_i hname
                simp at h2; obtain ⟨rfl, rfl⟩ := h2
                obtain ⟨l, hl1, hl2⟩ := call_args hargs he hv hlt
                rcases vs with _ | ⟨u, _ | ⟨u2, r⟩⟩ <;> try (simp [prim, pMapsClone] at h; done)
                obtain ⟨u', rfl, hu⟩ := hl2.one
                obtain ⟨ι', v', w', g1, g2, g3, g4⟩ := good_mapsClone (P := P) hr (show pMapsClone [u] σ = _ from h) hu
                refine ⟨.value v', ι', w', v', ?_, .inl rfl, g2, g3, g4⟩
                rw [exec_func rfl, hl1, T.clone f fn hf hbn (by simpa using hname) u' w, g1]
                rfl
              · split at h2
                · simp at h2; obtain ⟨rfl, rfl⟩ := h2; first | (cases hq; done) | (simp [prim, pNone] at h; done)
                · cases h2
      · cases h2
    · obtain ⟨_, _, h4⟩ := Option.bind_eq_some_iff.1 h2
      simp at h4; obtain ⟨rfl, rfl⟩ := h4; cases hq
  case makeFunc f first cap =>
    cases f <;> simp only [compOp, reduceCtorEq, Option.bind_eq_bind, Option.pure_def] at hc
    have hno : effP p = false := by
      revert hc
      repeat' first | exact no_none | exact no_some rfl | (refine no_bind fun _ => ?_) | split
    rw [hno] at hq; cases hq
  all_goals
    have hno : effP p = false := by
      revert hc
      try unfold compAgg
      try unfold compNil
      repeat' first | exact no_none | exact no_some rfl | (refine no_bind fun _ => ?_) | split
    rw [hno] at hq; cases hq
end
end AM
end Go.Proofs.YtlelihddjacplaaGreat
namespace Go.Proofs.YtlelihddjacplaaGreat
namespace AM
section
variable {P : Program} {ι : Inj} {σ σ' : H} {w : World} {O : Orc}

/-- What a function's end answers to the machine's answer. -/
def RetR (ι : Inj) : Res → Ending → Prop
  | .ok v, .returned v' => VR ι v v'
  | .panic v, .panicked c => ∃ v', c = [{ v := v', recovered := false }] ∧ VR ι v v'
  | _, _ => False
def CallR (ι : Inj) (w : World) (r : Res) (σ' : H) : Ending → World → Prop := fun e w' => ∃ ι', Ext ι w ι' w' ∧ R ι' σ' w' ∧ RetR ι' r e

/-- What is asked of those who answer calls. -/
structure CallsOK (P : Program) (O : Orc) : Prop where
  call : ∀ {f : Nat} {args : List Value} {σ : H} {r : Res} {σ' : H}, O.call f args σ = some (r, σ') → (∃ fn, P.funcs[f]? = some fn ∧ fn.body.isSome = true ∧ fn.name ≠ "runtime.NumGoroutine") ∧
    ∀ {ι : Inj} {args' : List Value} {w : World}, R ι σ w → VRs ι args args' → Calls P f ⟨args'⟩ w (CallR ι w r σ')
  meth : ∀ {t : Nat} {name : String} {f : Nat} {how : Option (Bool × Nat)}, O.meth t name = some (f, how) → ∀ {ι : Inj} {σ : H} {w : World} {v v' x : Value}, R ι σ w → VR ι v v' → recv σ v how = some x →
    ∃ x', (method (P.types.size + Made.depth) t v' name).run P w = .ok (f, x') w ∧ VR ι x x'

theorem run_callFunc_enter {f : Nat} {fn : Go.Func} {args : Array Value} (hf : P.funcs[f]? = some fn) (hb : fn.body.isSome = true) (hn : fn.name ≠ "runtime.NumGoroutine") (w : World) : (callFunc f args).run P w = .ok (.enter f args) w := by
  have hb' : fn.body ≠ none := by intro h; rw [h] at hb; cases hb
  simp [callFunc, hf, hn, hb']

theorem toArr (l : List Value) : (⟨l⟩ : Array Value).toList = l := rfl

/-- Which operation a call, a panic or a deferral is of. -/
def kindB : Prim → Bool
  | .call | .invoke _ | .panic | .defer => true
  | _ => false
inductive Kinds (op : Go.Op) (p : Prim) (args : List Opd) : Prop
  | call (c : Call) (x : Operand) (d : Opd) (ds : List Opd) (h1 : op = .call c) (h2 : c.callee = .value x) (h3 : opdOf x = some d) (h4 : c.args.toList.mapM opdOf = some ds) (h5 : args = d :: ds) (h6 : p = .call)
  | invoke (c : Call) (x : Operand) (m : String) (d : Opd) (ds : List Opd) (h1 : op = .call c) (h2 : c.callee = .invoke x m) (h3 : opdOf x = some d) (h4 : c.args.toList.mapM opdOf = some ds) (h5 : args = d :: ds) (h6 : p = .invoke m)
  | panic (x : Operand) (d : Opd) (h1 : op = .panic x) (h2 : opdOf x = some d) (h3 : args = [d]) (h4 : p = .panic)
  | dfr (c : Call) (x : Operand) (d : Opd) (h1 : op = .defer c) (h2 : c.callee = .value x) (h3 : c.args = #[]) (h4 : opdOf x = some d) (h5 : args = [d]) (h6 : p = .defer)
theorem comp_kind {op : Go.Op} {p : Prim} {args : List Opd} (hc : compOp P op = some (p, args)) (hk : kindB p = true) : Kinds op p args := by
  cases op <;> simp only [compOp, reduceCtorEq, Option.bind_eq_bind, Option.pure_def] at hc
  case panic x =>
    obtain ⟨d, hd, h2⟩ := Option.bind_eq_some_iff.1 hc
    simp at h2
    obtain ⟨rfl, rfl⟩ := h2
    exact .panic x d rfl hd rfl rfl
  case «defer» c =>
    split at hc
    · rename_i x hx
      split at hc
      · rename_i hemp
        obtain ⟨d, hd, h2⟩ := Option.bind_eq_some_iff.1 hc
        simp at h2
        obtain ⟨rfl, rfl⟩ := h2
        exact .dfr c x d rfl hx (by simpa using hemp) hd rfl rfl
      · cases hc
    · cases hc
  case call c =>
    obtain ⟨ds, hds, h2⟩ := Option.bind_eq_some_iff.1 hc
    split at h2
    · have hno : kindB p = false := by
        revert h2
        unfold compBuiltin
        simp only [Option.bind_eq_bind]
        repeat' first | exact no_none | exact no_some rfl | (refine no_bind fun _ => ?_) | split
      rw [hno] at hk; cases hk
    · rename_i x m hb
      obtain ⟨d, hd, h4⟩ := Option.bind_eq_some_iff.1 h2
      simp at h4
      obtain ⟨rfl, rfl⟩ := h4
      exact .invoke c x m d ds rfl hb hd hds rfl rfl
    · rename_i f' hb
      split at h2
      · rename_i fn hfn
        split at h2
        · simp at h2
          obtain ⟨rfl, rfl⟩ := h2
          exact .call c (.func f') _ ds rfl hb rfl hds rfl rfl
        · have hno : kindB p = false := by
            revert h2
            unfold extern
            repeat' first | exact no_none | exact no_some rfl | (refine no_bind fun _ => ?_) | split
          rw [hno] at hk; cases hk
      · cases h2
    · rename_i x hx hb
      obtain ⟨d, hd, h4⟩ := Option.bind_eq_some_iff.1 h2
      simp at h4
      obtain ⟨rfl, rfl⟩ := h4
      exact .call c x d ds rfl hb hd hds rfl rfl
  case makeFunc f first cap =>
    cases f <;> simp only [compOp, reduceCtorEq, Option.bind_eq_bind, Option.pure_def] at hc
    have hno : kindB p = false := by
      revert hc
      repeat' first | exact no_none | exact no_some rfl | (refine no_bind fun _ => ?_) | split
    rw [hno] at hk; cases hk
  all_goals
    have hno : kindB p = false := by
      revert hc
      try unfold compAgg
      try unfold compNil
      try simp only [Option.bind_eq_bind]
      repeat' first | exact no_none | exact no_some rfl | (refine no_bind fun _ => ?_) | split
    rw [hno] at hk; cases hk

/-- One operation, whatever its kind but a deferral. -/
theorem op_wp (T : Tables P) (hO : CallsOK P O) {o : Oper} {p : Prim} {args : List Opd} {e : Env} {a : Act} {vs : List Value} {r : Res} (hc : compOp P o.op = some (p, args)) (hk : p.kind = .defer → False) (hlt : args.all opdLt = true)
    (he : EnvR ι e a.tmps) (hv : e.evs args = some vs) (hr : R ι σ w) (h : step O p vs σ = some (r, σ')) {K : Act → World → Prop} {Q : Exit → Act → World → Prop}
    (hK : ∀ v v' ι' w', r = .ok v → Ext ι w ι' w' → R ι' σ' w' → VR ι' v v' → K (a.put o.dst v') w')
    (hQ : ∀ v v' ι' w', r = .panic v → Ext ι w ι' w' → R ι' σ' w' → VR ι' v v' → Q (.panic [{ v := v', recovered := false }]) a w') : o.wp P a w K Q := by
  have enter : ∀ (k : Nat) (bs bs' : List Value), O.call k bs σ = some (r, σ') → VRs ι bs bs' → (execOp a.eval o).run P w = .ok (.enter k ⟨bs'⟩) w → o.wp P a w K Q := by
    intro k bs bs' hcall has hrun
    obtain ⟨_, hC⟩ := hO.call hcall
    unfold Oper.wp
    rw [hrun]
    simp only [Oper.upon]
    refine Calls.mono (hC hr has) ?_
    rintro en w' ⟨ι', hx, hR, hret⟩
    cases r with
    | ok v =>
      cases en <;> simp only [RetR] at hret
      exact hK _ _ _ _ rfl hx hR hret
    | panic v =>
      cases en <;> simp only [RetR] at hret
      obtain ⟨v', rfl, hvr⟩ := hret
      exact hQ _ _ _ _ rfl hx hR hvr
  cases hkind : p.kind <;> simp only [step, hkind] at h
  case call =>
    have hp : p = .call := by cases p <;> simp [Prim.kind] at hkind ⊢
    subst hp
    unfold sCall at h
    split at h
    case h_2 => cases h
    rename_i fv bs
    split at h
    case h_2 => cases h
    rename_i f as2 hcal
    obtain ⟨dst, op, ty, pos, after, guard⟩ := o
    simp only at hc
    -- which operation is it?
    have hcall : ∃ c x d ds, op = .call c ∧ c.callee = .value x ∧ opdOf x = some d ∧ c.args.toList.mapM opdOf = some ds ∧ args = d :: ds := by
      cases comp_kind hc rfl with
      | call c x d ds h1 h2 h3 h4 h5 h6 => exact ⟨c, x, d, ds, h1, h2, h3, h4, h5⟩
      | invoke c x m d ds h1 h2 h3 h4 h5 h6 => cases h6
      | panic x d h1 h2 h3 h4 => cases h4
      | dfr c x d h1 h2 h3 h4 h5 h6 => cases h6
    obtain ⟨c, x, d, ds, rfl, hx, hd, hds, rfl⟩ := hcall
    obtain ⟨u, us, hus, e1, e2⟩ := evs_cons hv
    cases hus
    simp only [List.all_cons, Bool.and_eq_true] at hlt
    have hfv := he.ev hd e1 (opdLt_t hlt.1)
    obtain ⟨l, hl1, hl2⟩ := call_args hds he e2 hlt.2
    cases fv <;> simp only [callee, reduceCtorEq] at hcal
    rename_i fn0 first cap
    cases fn0 <;> simp only [reduceCtorEq] at hcal
    rename_i k
    obtain ⟨first⟩ := first
    obtain ⟨cap⟩ := cap
    simp only [callee, Option.some.injEq, Prod.mk.injEq] at hcal
    obtain ⟨rfl, rfl⟩ := hcal
    generalize hev : a.eval x = fv' at hfv
    cases hfv with
    | func f h1 h2 =>
      rename_i us vs'
      obtain ⟨⟨fn, hf, hb, hn⟩, _⟩ := hO.call h
      refine enter _ _ (us ++ (l ++ vs')) h (h1.append (hl2.append h2)) ?_
      simp only [execOp, resolve, hx, hev, Deferred.ofValue, Sem.run_bind, Sem.run_pure, Result.andThen_ok, invoke]
      rw [hl1, run_callFunc_enter hf hb hn]
      simp
  case invoke name =>
    have hp : p = .invoke name := by cases p <;> simp [Prim.kind] at hkind ⊢; exact hkind
    subst hp
    unfold sInvoke at h
    split at h
    case h_2 => cases h
    rename_i t v bs
    split at h
    case h_1 => cases h
    rename_i f how hm
    split at h
    case h_1 => cases h
    rename_i x hrecv
    obtain ⟨dst, op, ty, pos, after, guard⟩ := o
    simp only at hc
    have hcall : ∃ c rc d ds, op = .call c ∧ c.callee = .invoke rc name ∧ opdOf rc = some d ∧ c.args.toList.mapM opdOf = some ds ∧ args = d :: ds := by
      cases comp_kind hc rfl with
      | call c x d ds h1 h2 h3 h4 h5 h6 => cases h6
      | invoke c x m d ds h1 h2 h3 h4 h5 h6 => cases h6; exact ⟨c, x, d, ds, h1, h2, h3, h4, h5⟩
      | panic x d h1 h2 h3 h4 => cases h4
      | dfr c x d h1 h2 h3 h4 h5 h6 => cases h6
    obtain ⟨c, rc, d, ds, rfl, hx, hd, hds, rfl⟩ := hcall
    obtain ⟨u, us, hus, e1, e2⟩ := evs_cons hv
    cases hus
    simp only [List.all_cons, Bool.and_eq_true] at hlt
    have hfv := he.ev hd e1 (opdLt_t hlt.1)
    obtain ⟨l, hl1, hl2⟩ := call_args hds he e2 hlt.2
    generalize hev : a.eval rc = fv' at hfv
    cases hfv with
    | iface _ hv0 =>
      rename_i v'
      obtain ⟨x', hmeth, hxx⟩ := hO.meth hm hr hv0 hrecv
      obtain ⟨⟨fn, hf, hb, hn⟩, _⟩ := hO.call h
      refine enter _ _ (x' :: l) h (.cons hxx hl2) ?_
      simp only [execOp, resolve, hx, hev, Sem.run_bind, Sem.run_pure, Result.andThen_ok, invoke]
      rw [hl1]
      simp [hmeth, run_callFunc_enter hf hb hn, callMethod]
  case panic =>
    have hp : p = .panic := by cases p <;> simp [Prim.kind] at hkind ⊢
    subst hp
    unfold sPanic at h
    split at h
    case h_2 => cases h
    rename_i t v
    cases h
    obtain ⟨dst, op, ty, pos, after, guard⟩ := o
    simp only at hc
    have hcall : ∃ x d, op = .panic x ∧ opdOf x = some d ∧ args = [d] := by
      cases comp_kind hc rfl with
      | call c x d ds h1 h2 h3 h4 h5 h6 => cases h6
      | invoke c x m d ds h1 h2 h3 h4 h5 h6 => cases h6
      | panic x d h1 h2 h3 h4 => exact ⟨x, d, h1, h2, h3⟩
      | dfr c x d h1 h2 h3 h4 h5 h6 => cases h6
    obtain ⟨x, d, rfl, hd, rfl⟩ := hcall
    obtain ⟨u, us, hus, e1, e2⟩ := evs_cons hv
    cases hus
    simp at hlt
    have hfv := he.ev hd e1 (opdLt_t hlt)
    generalize hev : a.eval x = fv' at hfv
    have hrun : (execOp a.eval ⟨dst, .panic x, ty, pos, after, guard⟩).run P w = .halt (.panic fv') w := by
      cases hfv
      simp [execOp, hev, Instr.panic]
    unfold Oper.wp
    rw [hrun]
    exact hQ _ _ _ _ rfl (Ext.refl _ _) hr hfv
  case «defer» =>
    exact (hk hkind).elim
  case other =>
    unfold sPrim at h
    split at h
    case h_2 => cases h
    rename_i v σ2 hp
    simp only [Option.some.injEq, Prod.mk.injEq] at h
    obtain ⟨rfl, rfl⟩ := h
    have one : ∀ v', (execOp a.eval o).run P w = .ok (.value v') w → VR ι v v' → R ι σ2 w → o.wp P a w K Q := by
      intro v' hrun hvr hR
      unfold Oper.wp
      rw [hrun]
      exact hK _ _ _ _ rfl (Ext.refl _ _) hR hvr
    by_cases hq : quietP p = true
    · by_cases hl : looks p = true
      · obtain ⟨⟨v', h1, h2⟩, rfl⟩ := read_sound T hc hl hlt he hv hr hp
        exact one v' h1 h2 hr
      · obtain ⟨⟨v', h1, h2⟩, rfl⟩ := quiet_sound T hc hq (by simpa using hl) hlt he hv hr hp
        exact one v' (h1 w) h2 hr
    · have heff : effP p = true := by
        unfold effP
        rw [hkind]
        simpa using hq
      obtain ⟨n, ι', w', v', h1, h2, h3, h4, h5⟩ := eff_sound T hc heff hlt he hv hr hp
      unfold Oper.wp
      rw [h1]
      rcases h2 with rfl | ⟨rfl, rfl⟩
      · exact hK _ _ _ _ rfl h5 h4 h3
      · exact hK _ _ _ _ rfl h5 h4 h3
end
end AM
end Go.Proofs.YtlelihddjacplaaGreat
namespace Go.Proofs.YtlelihddjacplaaGreat
namespace AM
section
variable {P : Program} {ι : Inj} {σ σ' : H} {w : World} {O : Orc}

/-- What is deferred. -/
def DefR (ι : Inj) (e : Env) (ds : List Deferred) : Prop :=
  match e.get 1000000 with
  | none => ds = []
  | some f => ∃ k cap cap', f = .func (.func k) ⟨[]⟩ ⟨cap⟩ ∧ ds = [{ target := .fn (.func k) ⟨cap'⟩, args := #[] }] ∧ VRs ι cap cap'
structure StR (N : Nat) (ι : Inj) (e : Env) (a : Act) : Prop where
  env : EnvR ι e a.tmps
  dfr : DefR ι e a.defers
  size : a.tmps.size = N
def ExR (ι : Inj) : Ex → Exit → Prop
  | .normal, .normal => True
  | .exit i, .exit j => i = j
  | .ret, .ret => True
  | .panic v, .panic c => ∃ v', c = [{ v := v', recovered := false }] ∧ VR ι v v'
  | _, _ => False
def Post (ι : Inj) (w : World) (N : Nat) (res : Ex × Env × H) : Exit → Act → World → Prop := fun ex a' w' => ∃ ι', Ext ι w ι' w' ∧ R ι' res.2.2 w' ∧ ExR ι' res.1 ex ∧ StR N ι' res.2.1 a'
theorem Post.trans {ι ι1 : Inj} {w w1 : World} {N : Nat} {res : Ex × Env × H} {ex : Exit} {a' : Act} {w' : World} (h : Ext ι w ι1 w1) (hp : Post ι1 w1 N res ex a' w') : Post ι w N res ex a' w' := by
  obtain ⟨ι', h1, h2⟩ := hp
  exact ⟨ι', h.trans h1, h2⟩

theorem DefR.mono {ι ι' : Inj} (hs : Sub ι ι') {e : Env} {ds : List Deferred} (h : DefR ι e ds) : DefR ι' e ds := by
  unfold DefR at *
  split at h
  · exact h
  · obtain ⟨k, cap, cap', h1, h2, h3⟩ := h
    exact ⟨k, cap, cap', h1, h2, h3.mono hs⟩
theorem DefR.of_get {ι : Inj} {e e' : Env} {ds : List Deferred} (h : DefR ι e ds) (he : e'.get 1000000 = e.get 1000000) : DefR ι e' ds := by
  unfold DefR at *
  rw [he]; exact h
theorem Act.put_dfr (a : Act) (d : Option Nat) (v : Value) : (a.put d v).defers = a.defers := by cases d <;> rfl
theorem Act.put_size (a : Act) (d : Option Nat) (v : Value) : (a.put d v).tmps.size = a.tmps.size := by cases d <;> simp [Act.put]
theorem dstLt_iff {d : Option Nat} (h : dstLt d = true) : ∀ k, d = some k → k < 1000000 := by
  rintro k rfl
  simpa [dstLt, nblt] using h
theorem StR.put {N : Nat} {e : Env} {a : Act} {d : Option Nat} {v v' : Value} (h : StR N ι e a) (hd : ∀ k, d = some k → k < N) (hl : dstLt d = true) (hv : VR ι v v') : StR N ι (e.put d v) (a.put d v') := by
  refine ⟨h.env.put (fun k hk => by rw [h.size]; exact hd k hk) hv, ?_, by rw [Act.put_size]; exact h.size⟩
  rw [Act.put_dfr]
  refine h.dfr.of_get ?_
  rw [Env.get_put, if_neg]
  rintro rfl
  have := dstLt_iff hl _ rfl
  omega
theorem StR.mono {N : Nat} {ι ι' : Inj} (hs : Sub ι ι') {e : Env} {a : Act} (h : StR N ι e a) : StR N ι' e a := ⟨h.env.mono hs, h.dfr.mono hs, h.size⟩
theorem undef_VR : VR ι (.tuple #[]) undef := .tuple .nil

/-! ### What the compiler says of an operation -/
theorem dstN_iff {N : Nat} {d : Option Nat} (h : dstN N d = true) : ∀ k, d = some k → k < N := by
  rintro k rfl
  simpa [dstN, nblt] using h
theorem compOper_some {ops : List Oper} {o : Oper} {q : Op} (h : compOper P ops o = some q) : compOp P o.op = some (q.p, q.args) ∧ q.args.all opdLt = true ∧ dstLt o.dst = true ∧ q.dst = o.dst ∧
    ((o.guard = none ∧ q.guard = none) ∨ ∃ j b d, o.guard = some (j, b) ∧ q.guard = some (d, b) ∧ (ops[j]?).bind (·.dst) = some d ∧ d < 1000000) := by
  unfold compOper at h
  simp only [Option.bind_eq_bind, Option.pure_def] at h
  obtain ⟨⟨p, args⟩, h1, h2⟩ := Option.bind_eq_some_iff.1 h
  simp only at h2
  split at h2
  · cases h2
  · rename_i hc
    simp only [Bool.not_eq_true, Bool.not_eq_false', Bool.and_eq_true] at hc
    split at h2
    · rename_i hg
      simp only [Option.bind_some, Option.some.injEq] at h2
      subst h2
      exact ⟨h1, hc.1, hc.2, rfl, .inl ⟨hg, rfl⟩⟩
    · rename_i j b hg
      obtain ⟨d, h5, h6⟩ := Option.bind_eq_some_iff.1 h2
      split at h6
      · rename_i hlt
        simp only [Option.bind_some, Option.some.injEq] at h6
        subst h6
        exact ⟨h1, hc.1, hc.2, rfl, .inr ⟨j, b, d, hg, rfl, h5, by simpa [dstLt, nblt] using hlt⟩⟩
      · cases h6
theorem wanted_eq {ops : List Oper} {o : Oper} {q : Op} {e : Env} {a : Act} {b : Bool} (h : compOper P ops o = some q) (he : EnvR ι e a.tmps) (hw : wantedV e q.guard = some b) : Region.wanted o (yielded ops.toArray a.tmps) = b := by
  obtain ⟨_, _, _, _, hg⟩ := compOper_some h
  rcases hg with ⟨h1, h2⟩ | ⟨j, want, d, h1, h2, h3, h4⟩
  · rw [h2] at hw
    simp only [wantedV, Option.some.injEq] at hw
    subst hw
    simp [Region.wanted, h1]
  · rw [h2] at hw
    simp only [wantedV] at hw
    have hy : yielded ops.toArray a.tmps j = match a.tmps[d]? with
        | some (.bool b) => some b
        | _ => none := by
      unfold yielded
      rw [List.getElem?_toArray, h3]
      rfl
    simp only [Region.wanted, h1, hy]
    cases hv : e.get d with
    | none => rw [hv] at hw; cases hw
    | some v =>
      obtain ⟨v', g1, g2⟩ := he d v hv h4
      rw [hv] at hw
      rw [g1]
      cases g2 <;> simp only [Option.some.injEq] at hw <;> subst hw
      case bool b0 => cases b0 <;> cases want <;> rfl
      all_goals rfl

/-! ### Operations one behind another -/
def wpL (P : Program) (ops : Array Oper) (Q : Exit → Act → World → Prop) : List Nat → Act → World → Prop
  | [], a, w => Q .normal a w
  | i :: rest, a, w => ∃ o, ops[i]? = some o ∧ ((Region.wanted o (yielded ops a.tmps) = true ∧ o.wp P a w (wpL P ops Q rest) Q) ∨ (Region.wanted o (yielded ops a.tmps) = false ∧ wpL P ops Q rest (a.put o.dst undef) w))
theorem wpL_ops {ops : Array Oper} {Q : Exit → Act → World → Prop} : ∀ (l : List Nat) (a : Act) (w : World), wpL P ops Q l a w → wpOps P ops Q l a w
  | [], _, _, h => h
  | i :: rest, a, w, h => by
    obtain ⟨o, ho, h⟩ := h
    simp only [wpOps, ho]
    rcases h with ⟨hw, h⟩ | ⟨hw, h⟩
    · rw [if_pos hw]
      exact .inl (Oper.wp_mono (fun a w h => wpL_ops rest a w h) h)
    · rw [if_neg (by simp [hw])]
      exact wpL_ops rest _ _ h
theorem wpL_opsS {ops : Array Oper} {Q : Exit → Act → List Frame → World → Prop} {cs : List Frame} : ∀ (l : List Nat) (a : Act) (w : World), wpL P ops (fun e a w => Q e a cs w) l a w → wpOpsS P ops Q l a cs w
  | [], _, _, h => h
  | i :: rest, a, w, h => by
    obtain ⟨o, ho, h⟩ := h
    simp only [wpOpsS, ho]
    rcases h with ⟨hw, h⟩ | ⟨hw, h⟩
    · rw [if_pos hw]
      have h2 : o.wp P a w (fun a' w' => wpOpsS P ops Q rest a' cs w') (fun e a' w' => Q e a' cs w') := Oper.wp_mono (fun a w h => wpL_opsS rest a w h) h
      unfold Oper.wp at h2
      split
      · rename_i w' hr
        rw [hr] at h2
        exact h2.elim
      · exact h2
    · rw [if_neg (by simp [hw])]
      exact wpL_opsS rest _ _ h

theorem addDefer_some {e e' : Env} {f : Value} (h : addDefer e f = some e') : ∃ k cap, f = .func (.func k) ⟨[]⟩ ⟨cap⟩ ∧ e.get 1000000 = none ∧ e' = (1000000, f) :: e := by
  unfold addDefer at h
  split at h
  · rename_i k cap
    split at h
    · rename_i hn
      simp only [Option.some.injEq] at h
      exact ⟨k, cap.toList, rfl, hn, h.symm⟩
    · cases h
  · cases h

theorem kind_defer {p : Prim} (h : p.kind = .defer) : p = .defer := by cases p <;> simp [Prim.kind] at h ⊢
/-- A deferral. -/
theorem defer_wp {o : Oper} {p : Prim} {args : List Opd} {e e' : Env} {a : Act} {vs : List Value} {N : Nat} (hc : compOp P o.op = some (p, args)) (hk : p.kind = .defer) (hlt : args.all opdLt = true)
    (hs : StR N ι e a) (hv : e.evs args = some vs) (h : deferV e vs = some e') (hd : ∀ k, o.dst = some k → k < N) (hl : dstLt o.dst = true) {K : Act → World → Prop} {Q : Exit → Act → World → Prop}
    (hK : ∀ a', StR N ι (e'.put o.dst (.tuple #[])) a' → K a' w) : o.wp P a w K Q := by
  have hp := kind_defer hk
  subst hp
  unfold deferV at h
  split at h
  case h_2 => cases h
  rename_i f
  obtain ⟨k, cap, rfl, hn, rfl⟩ := addDefer_some h
  obtain ⟨dst, op, ty, pos, after, guard⟩ := o
  simp only at hc hd hl
  have hcall : ∃ c x d, op = .defer c ∧ c.callee = .value x ∧ c.args = #[] ∧ opdOf x = some d ∧ args = [d] := by
    cases comp_kind hc rfl with
    | call c x d ds h1 h2 h3 h4 h5 h6 => cases h6
    | invoke c x m d ds h1 h2 h3 h4 h5 h6 => cases h6
    | panic x d h1 h2 h3 h4 => cases h4
    | dfr c x d h1 h2 h3 h4 h5 h6 => exact ⟨c, x, d, h1, h2, h3, h4, h5⟩
  obtain ⟨c, x, d, rfl, hx, hargs, hdx, rfl⟩ := hcall
  obtain ⟨u, us, hus, e1, e2⟩ := evs_cons hv
  cases hus
  simp at hlt
  have hfv := hs.env.ev hdx e1 (opdLt_t hlt)
  generalize hev : a.eval x = fv' at hfv
  cases hfv with
  | func f h1 h2 =>
    rename_i us vs'
    cases h1
    have hrun : (execOp a.eval ⟨dst, .defer c, ty, pos, after, guard⟩).run P w = .ok (.defer { target := .fn (.func k) ⟨vs'⟩, args := #[] }) w := by
      simp [execOp, resolve, hx, hev, Deferred.ofValue, hargs]
    unfold Oper.wp
    rw [hrun]
    simp only [Oper.upon]
    refine hK _ ?_
    have hdf : a.defers = [] := by
      have := hs.dfr
      unfold DefR at this
      rw [hn] at this
      exact this
    have h0 : StR N ι ((1000000, .func (.func k) ⟨[]⟩ ⟨cap⟩) :: e) { a with defers := { target := .fn (.func k) ⟨vs'⟩, args := #[] } :: a.defers } := by
      refine ⟨fun t v ht hlt => ?_, ?_, hs.size⟩
      · rw [Env.get_cons, if_neg (by omega)] at ht
        exact hs.env t v ht hlt
      · unfold DefR
        rw [Env.get_cons, if_pos rfl]
        exact ⟨k, cap, vs', rfl, by rw [hdf], h2⟩
    exact h0.put hd hl undef_VR

theorem regs_cons {O : Orc} {q : Op} {os : List Op} {e : Env} {res : Ex × Env × H} (h : runOps O (q :: os) e σ = some res) :
    (wantedV e q.guard = some false ∧ runOps O os (e.put q.dst (.tuple #[])) σ = some res) ∨
    (wantedV e q.guard = some true ∧ ∃ vs, e.evs q.args = some vs ∧ (
      (q.p.kind = .defer ∧ ∃ e', deferV e vs = some e' ∧ runOps O os (e'.put q.dst (.tuple #[])) σ = some res) ∨
      ((q.p.kind = .defer → False) ∧ ∃ r σ1, step O q.p vs σ = some (r, σ1) ∧ ((∃ v, r = .ok v ∧ runOps O os (e.put q.dst v) σ1 = some res) ∨ (∃ v, r = .panic v ∧ res = (.panic v, e, σ1)))))) := by
  simp only [runOps] at h
  split at h
  · cases h
  · rename_i hw
    exact .inl ⟨hw, h⟩
  · rename_i hw
    refine .inr ⟨hw, ?_⟩
    split at h
    · cases h
    · rename_i vs hv
      refine ⟨vs, hv, ?_⟩
      split at h
      · rename_i hk
        split at h
        · rename_i e' he'
          exact .inl ⟨hk, e', he', h⟩
        · cases h
      · rename_i hk
        refine .inr ⟨fun h => hk h, ?_⟩
        split at h
        · cases h
        · rename_i r σ1 hstep
          refine ⟨r, σ1, hstep, ?_⟩
          split at h
          · exact .inl ⟨_, rfl, h⟩
          · simp only [Option.some.injEq] at h
            exact .inr ⟨_, rfl, h.symm⟩

/-- One operation of a region in the text's order, or an effect. -/
theorem op1_wp (T : Tables P) (hO : CallsOK P O) {all : List Oper} {o : Oper} {q : Op} {os : List Op} {e : Env} {a : Act} {N : Nat} {res : Ex × Env × H} (hc : compOper P all o = some q) (hd : dstN N q.dst = true) (hs : StR N ι e a) (hr : R ι σ w)
    (h : runOps O (q :: os) e σ = some res) {K : Act → World → Prop} {Q : Exit → Act → World → Prop}
    (hK : ∀ ι' e1 σ1 a' w', Ext ι w ι' w' → R ι' σ1 w' → StR N ι' e1 a' → runOps O os e1 σ1 = some res → K a' w')
    (hQ : ∀ v v' ι' w', res.1 = .panic v → res.2.1 = e → Ext ι w ι' w' → R ι' res.2.2 w' → VR ι' v v' → Q (.panic [{ v := v', recovered := false }]) a w') :
    (Region.wanted o (yielded all.toArray a.tmps) = true ∧ o.wp P a w K Q) ∨ (Region.wanted o (yielded all.toArray a.tmps) = false ∧ K (a.put o.dst undef) w) := by
  obtain ⟨h1, h2, h3, h4, h5⟩ := compOper_some hc
  have hdN := dstN_iff hd
  rw [h4] at hdN
  rcases regs_cons h with ⟨hw, h⟩ | ⟨hw, vs, hv, ⟨hk, e', he', h⟩ | ⟨hk, r, σ1, hstep, hrest⟩⟩
  · refine .inr ⟨wanted_eq hc hs.env hw, ?_⟩
    refine hK ι _ σ _ w (Ext.refl _ _) hr (hs.put hdN h3 undef_VR) (by rw [← h4]; exact h)
  · refine .inl ⟨wanted_eq hc hs.env hw, defer_wp h1 hk h2 hs hv he' hdN h3 fun a' ha' => ?_⟩
    exact hK ι _ σ _ w (Ext.refl _ _) hr ha' (by rw [← h4]; exact h)
  · refine .inl ⟨wanted_eq hc hs.env hw, op_wp T hO h1 hk h2 hs.env hv hr hstep (fun v v' ι' w' hv1 hx hR hvr => ?_) (fun v v' ι' w' hv1 hx hR hvr => ?_)⟩
    · subst hv1
      rcases hrest with ⟨v2, hv2, h⟩ | ⟨v2, hv2, _⟩
      · cases hv2
        exact hK ι' _ σ1 _ w' hx hR ((hs.mono hx.sub).put hdN h3 hvr) (by rw [← h4]; exact h)
      · cases hv2
    · subst hv1
      rcases hrest with ⟨v2, hv2, _⟩ | ⟨v2, hv2, rfl⟩
      · cases hv2
      · cases hv2
        exact hQ v v' ι' w' rfl rfl hx hR hvr

theorem mapM_cons_some {α β : Type} {f : α → Option β} {x : α} {l : List α} {ys : List β} (h : (x :: l).mapM f = some ys) : ∃ y r, f x = some y ∧ l.mapM f = some r ∧ ys = y :: r := by
  rw [List.mapM_cons] at h
  simp only [Option.bind_eq_bind] at h
  obtain ⟨y, h1, h2⟩ := Option.bind_eq_some_iff.1 h
  obtain ⟨r, h3, h4⟩ := Option.bind_eq_some_iff.1 h2
  simp at h4
  exact ⟨y, r, h1, h3, h4.symm⟩

theorem regs_wp (T : Tables P) (hO : CallsOK P O) {all : List Oper} {N : Nat} {res : Ex × Env × H} {Q : Exit → Act → World → Prop} : ∀ (l : List Oper) (k : Nat) (os : List Op) (e : Env) (a : Act) (σ : H) (w : World) (ι : Inj), all.drop k = l → l.mapM (compOper P all) = some os →
    (os.all fun q => dstN N q.dst) = true → StR N ι e a → R ι σ w → runOps O os e σ = some res → (∀ ex a' w', Post ι w N res ex a' w' → Q ex a' w') → wpL P all.toArray Q (List.range' k l.length) a w
  | [], k, os, e, a, σ, w, ι, hl, hm, hd, hs, hr, h, hQ => by
    simp at hm
    subst hm
    simp only [runOps, Option.some.injEq] at h
    subst h
    exact hQ _ _ _ ⟨ι, Ext.refl _ _, hr, trivial, hs⟩
  | o :: l, k, os, e, a, σ, w, ι, hl, hm, hd, hs, hr, h, hQ => by
    obtain ⟨q, os, h1, h2, rfl⟩ := mapM_cons_some hm
    simp only [List.all_cons, Bool.and_eq_true] at hd
    rw [List.length_cons, List.range'_succ]
    refine ⟨o, ?_, op1_wp T hO h1 hd.1 hs hr h (fun ι' e1 σ1 a' w' hx hR hs' hrun => ?_) (fun v v' ι' w' hv he hx hR hvr => ?_)⟩
    · rw [List.getElem?_toArray]
      have := congrArg (·[0]?) hl
      simpa using this
    · refine regs_wp T hO l (k + 1) os e1 a' σ1 w' ι' ?_ h2 hd.2 hs' hR hrun (fun ex a2 w2 hp => hQ ex a2 w2 (hp.trans hx))
      rw [← List.drop_drop, hl]; rfl
    · refine hQ _ _ _ ⟨ι', hx, hR, ?_, ?_⟩
      · rw [hv]; exact ⟨v', rfl, hvr⟩
      · rw [he]; exact hs.mono hx.sub
end
end AM
end Go.Proofs.YtlelihddjacplaaGreat
namespace Go.Proofs.YtlelihddjacplaaGreat
namespace AM
section
variable {P : Program} {l : List Oper} {Q : Exit → Act → World → Prop}

abbrev Con := List (Nat × (World → Prop))
def past (ops : Array Oper) (j : Nat) (T : Con) : Con := T.filter fun p => !waits ops p.1 j
theorem past_sub {ops : Array Oper} {j : Nat} {T : Con} {p : Nat × (World → Prop)} (h : p ∈ past ops j T) : p ∈ T := (List.mem_filter.1 h).1
theorem past_not {ops : Array Oper} {j : Nat} {T : Con} {p : Nat × (World → Prop)} (h : p ∈ past ops j T) : waits ops p.1 j = false := by simpa using (List.mem_filter.1 h).2

/-- Whatever order is picked; what was read, and may be read still, is so behind each operation. -/
def wpAnyT (P : Program) (ops : Array Oper) (Q : Exit → Act → World → Prop) : Nat → Con → Array Bool → Act → World → Prop
  | 0, _, listed, a, w => Region.ready .any ops listed = [] ∧ Q .normal a w
  | fuel + 1, T, listed, a, w => (Region.ready .any ops listed = [] → Q .normal a w) ∧
    ∀ j ∈ Region.ready .any ops listed, wpOp P ops Q j (fun a' w' => (∀ p ∈ past ops j T, p.2 w') ∧ wpAnyT P ops Q fuel (past ops j T) (listed.setIfInBounds j true) a' w') a w

theorem wpAny_of_T : ∀ (fuel : Nat) (T : Con) (listed : Array Bool) (a : Act) (w : World), wpAnyT P l.toArray Q fuel T listed a w → wpAny P .any l.toArray Q fuel listed a w
  | 0, _, _, _, _, h => h
  | fuel + 1, T, _, _, _, h => ⟨h.1, fun i hi => wpOp_mono (fun a' w' h' => wpAny_of_T fuel _ _ a' w' h'.2) (h.2 i hi)⟩
theorem wpAnyT_sub : ∀ (fuel : Nat) {T T' : Con} {listed : Array Bool} {a : Act} {w : World}, (∀ p ∈ T', p ∈ T) → wpAnyT P l.toArray Q fuel T listed a w → wpAnyT P l.toArray Q fuel T' listed a w
  | 0, _, _, _, _, _, _, h => h
  | fuel + 1, T, T', _, _, _, hs, h => ⟨h.1, fun i hi => wpOp_mono (fun a' w' h' => by
      have hp : ∀ p ∈ past l.toArray i T', p ∈ past l.toArray i T := fun p hp => List.mem_filter.2 ⟨hs p (past_sub hp), by simpa using past_not hp⟩
      exact ⟨fun p h => h'.1 p (hp p h), wpAnyT_sub fuel hp h'.2⟩) (h.2 i hi)⟩
theorem wpAnyT_done {listed : Array Bool} {a : Act} {w : World} (hr : Region.ready .any l.toArray listed = []) (h : Q .normal a w) : ∀ (fuel : Nat) (T : Con), wpAnyT P l.toArray Q fuel T listed a w
  | 0, _ => ⟨hr, h⟩
  | _ + 1, _ => ⟨fun _ => h, by rw [hr]; simp⟩

theorem waits_anc {i k : Nat} (h : waits l.toArray i k = true) : Anc .any l.toArray i k :=
  ancs_sound (md := .any) (ops := l.toArray) i l.toArray.toList [] (fun j => by simp) (fun k hk => by simp at hk) k h
theorem waits_ready {listed : Array Bool} {i k : Nat} (inv : DownC .any l.toArray listed) (hk : k ∈ Region.ready .any l.toArray listed) (hi : listed.getD i true = false) : waits l.toArray i k = false := by
  cases h : waits l.toArray i k with
  | false => rfl
  | true =>
    obtain ⟨_, o, ho, hall⟩ := mem_ready.1 hk
    have := waits_anc h listed o inv ho hall
    rw [getD_t hi] at this; cases this
theorem waits_listed {listed : Array Bool} {i k : Nat} (inv : DownC .any l.toArray listed) (hk : listed.getD k false = true) (hi : listed.getD i true = false) : waits l.toArray i k = false := by
  cases h : waits l.toArray i k with
  | false => rfl
  | true =>
    have hlt : k < l.toArray.size := by
      rcases Nat.lt_or_ge k listed.size with h' | h'
      · rw [inv.1] at h'; exact h'
      · simp [Array.getElem?_eq_none h'] at hk
    have := waits_anc h listed _ inv (Array.getElem?_eq_getElem hlt) (inv.2 k _ (Array.getElem?_eq_getElem hlt) hk)
    rw [getD_t hi] at this; cases this

theorem wpAnyT_first {i : Nat} {oi : Oper} {v : Value} {S : World → Prop} (hi : l.toArray[i]? = some oi) (hsel : ∀ (j : Nat) (o : Oper) cs b, l.toArray[j]? = some o → o.op ≠ .select cs b)
    (hQ : ∀ c a w, Q (.panic c) (a.put oi.dst v) w → Q (.panic c) a w) :
    ∀ (fuel : Nat) (T : Con) (listed : Array Bool) (a : Act) (w : World), DownC .any l.toArray listed →
      (∀ j oj, l.toArray[j]? = some oj → j ≠ i → listed.getD j true = false → (∀ e ∈ oj.after, Region.binds .any e = true → e.on ≠ i) → oi.apart l.toArray oj = true) →
      i ∈ Region.ready .any l.toArray listed → YieldsIf P l.toArray S oi v a → S w → (∀ p ∈ T, p.2 w) →
      wpAnyT P l.toArray Q fuel ((i, S) :: T) (listed.setIfInBounds i true) (a.put oi.dst v) w → wpAnyT P l.toArray Q (fuel + 1) T listed a w := by
  intro fuel
  induction fuel with
  | zero =>
    intro T listed a w _ _ hr hy hS hT H
    refine ⟨fun h => (by rw [h] at hr; cases hr), fun j hj => ?_⟩
    by_cases hji : j = i
    · subst hji; exact hy.wpOp hi hS ⟨fun p hp => hT p (past_sub hp), H⟩
    · have := ready_mono hj hji
      rw [H.1] at this
      cases this
  | succ fuel ih =>
    intro T listed a w inv hfree hr hy hS hT H
    refine ⟨fun h => (by rw [h] at hr; cases hr), fun j hj => ?_⟩
    by_cases hji : j = i
    · subst hji; exact hy.wpOp hi hS ⟨fun p hp => hT p (past_sub hp), wpAnyT_sub _ (fun p hp => List.mem_cons_of_mem _ (past_sub hp)) H⟩
    · have h1 := H.2 j (ready_mono hj hji)
      obtain ⟨hjun, oj, hoj, hall⟩ := mem_ready.1 hj
      have hun := (mem_ready.1 hr).1
      have hw0 := waits_ready inv hj hun
      have hpast : past l.toArray j ((i, S) :: T) = (i, S) :: past l.toArray j T := by simp [past, hw0]
      rw [hpast] at h1
      have hnot : ∀ e ∈ oj.after, Region.binds .any e = true → e.on ≠ i := fun e he hb heq => by
        have h1 := hall e he hb
        rw [heq, getD_t hun] at h1; cases h1
      have h2 := wpOp_putIf hoj (hfree j oj hoj hji hjun hnot) (fun cs b => hsel i oi cs b hi) (fun cs b => hsel j oj cs b hoj) hQ hy h1
      have hfree' : ∀ k ok, l.toArray[k]? = some ok → k ≠ i → (listed.setIfInBounds j true).getD k true = false →
          (∀ e ∈ ok.after, Region.binds .any e = true → e.on ≠ i) → oi.apart l.toArray ok = true := fun k ok hk hki hun hno => by
        refine hfree k ok hk hki ?_ hno
        by_cases hjk : j = k
        · subst hjk; exact hjun
        · rw [getD_set_ne true hjk] at hun; exact hun
      refine wpOp_mono (fun a' w' h3 => ⟨fun p hp => h3.2.1 p (List.mem_cons_of_mem _ hp), ih (past l.toArray j T) (listed.setIfInBounds j true) a' w' (inv.set hj) hfree' (ready_mono hr (Ne.symm hji)) h3.1 (h3.2.1 _ List.mem_cons_self) (fun p hp => h3.2.1 p (List.mem_cons_of_mem _ hp)) ?_⟩) h2
      rw [Array.setIfInBounds_comm _ _ hji]
      exact h3.2.2

/-! ### Answers that can be told from one another -/
theorem sameC_eq {ι ι' : Inj} {v v' u u' : Value} (h1 : VR ι v v') (h2 : VR ι' u u') (hs : Sub ι ι') (hr : rigidC v = true) (he : sameC v u = true) : u' = v' := by
  have pt : ∀ {A o A' o' : Nat} {bk bk' : Bk}, ι A = some bk → ι' A' = some bk' → (⟨A, o, none⟩ : Addr) = ⟨A', o', none⟩ → bk' = bk ∧ o' = o := by
    intro A o A' o' bk bk' h h' e
    cases e
    have := hs _ _ h
    rw [h'] at this
    exact ⟨Option.some.inj this, rfl⟩
  cases h1 with
  | bool b => cases h2 <;> simp_all [sameC]
  | int k n => cases h2 <;> simp_all [sameC]
  | float k b => cases h2 <;> simp_all [sameC]
  | string s =>
    cases h2 <;> simp only [sameC, Bool.false_eq_true] at he
    rename_i s2
    have e : s = s2 := by
      rw [beq_iff_eq] at he
      cases s with
      | mk s => cases s2 with
        | mk s2 => exact congrArg ByteArray.mk (Array.ext' he)
    rw [e]
  | nilp => cases h2 <;> simp_all [sameC]
  | ptr h =>
    cases h2 <;> simp only [sameC, Bool.false_eq_true, decide_eq_true_eq, reduceCtorEq, Option.some.injEq] at he
    rename_i h'
    obtain ⟨rfl, rfl⟩ := pt h h' he
    rfl
  | nils n c => cases h2 <;> simp_all [sameC]
  | slice h0 h =>
    cases h2 <;> simp only [sameC, Bool.false_eq_true, decide_eq_true_eq, reduceCtorEq, Option.some.injEq, Bool.and_eq_true, beq_iff_eq] at he
    · simp at he
    · rename_i h'
      obtain ⟨⟨e, rfl⟩, rfl⟩ := he
      obtain ⟨rfl, rfl⟩ := pt h h' e
      rfl
    · exfalso
      have := he.1.1
      cases this
      exact h0 rfl
  | void o a c h => simp [rigidC] at hr
  | nilm => cases h2 <;> simp_all [sameC]
  | map h =>
    cases h2 <;> simp only [sameC, Bool.false_eq_true, beq_iff_eq, reduceCtorEq, Option.some.injEq] at he
    rename_i h'
    subst he
    have := hs _ _ h
    rw [h'] at this
    cases this; rfl
  | nilf => cases h2 <;> simp_all [sameC]
  | func f h1 h2 =>
    exfalso
    unfold rigidC at hr
    split at hr <;> simp_all
  | iface t h =>
    cases h2 <;> simp only [sameC, Bool.false_eq_true] at he
    rename_i h'
    simp only [Bool.and_eq_true, beq_iff_eq] at he
    obtain ⟨rfl, he⟩ := he
    cases h <;> simp only [rigidC, Bool.false_eq_true] at hr
    · cases h' <;> simp_all
    · cases h' <;> simp_all
    · cases h' <;> simp_all
    · rename_i h
      cases h' <;> simp only [Bool.false_eq_true, decide_eq_true_eq, reduceCtorEq, Option.some.injEq] at he
      rename_i h'
      obtain ⟨rfl, rfl⟩ := pt h h' he
      rfl
    · cases h' <;> simp_all
    · rename_i h
      cases h' <;> simp only [Bool.false_eq_true, beq_iff_eq, reduceCtorEq, Option.some.injEq] at he
      rename_i h'
      subst he
      have := hs _ _ h
      rw [h'] at this
      cases this; rfl
  | nili => cases h2 <;> simp_all [sameC]
  | agg h => simp [rigidC] at hr
  | tuple h => simp [rigidC] at hr
theorem sameL_eq {ι ι' : Inj} (hs : Sub ι ι') : ∀ {x x' y y' : List Value}, VRs ι x x' → VRs ι' y y' → x.all rigidC = true → sameL x y = true → y' = x'
  | _, _, _, _, .nil, .nil, _, _ => rfl
  | _, _, _, _, .cons h1 h2, .cons h3 h4, hr, he => by
    simp only [List.all_cons, Bool.and_eq_true, sameL] at hr he
    rw [sameC_eq h1 h3 hs hr.1 he.1, sameL_eq hs h2 h4 hr.2 he.2]
theorem same_eq {ι ι' : Inj} {v v' u u' : Value} (h1 : VR ι v v') (h2 : VR ι' u u') (hs : Sub ι ι') (hr : rigid v = true) (he : same v u = true) : u' = v' := by
  cases h1 with
  | agg h =>
    cases h2 <;> simp only [same, sameC, Bool.false_eq_true] at he
    rename_i h'
    rw [sameL_eq hs h h' hr he]
  | tuple h =>
    cases h2 <;> simp only [same, sameC, Bool.false_eq_true] at he
    rename_i h'
    rw [sameL_eq hs h h' hr he]
  | bool b => exact sameC_eq (.bool b) h2 hs hr he
  | int k n => exact sameC_eq (.int k n) h2 hs hr he
  | float k b => exact sameC_eq (.float k b) h2 hs hr he
  | string s => exact sameC_eq (.string s) h2 hs hr he
  | nilp => exact sameC_eq .nilp h2 hs hr he
  | ptr h => exact sameC_eq (.ptr h) h2 hs hr he
  | nils n c => exact sameC_eq (.nils n c) h2 hs hr he
  | slice h0 h => exact sameC_eq (.slice h0 h) h2 hs hr he
  | void o a c h => exact sameC_eq (.void o a c h) h2 hs hr he
  | nilm => exact sameC_eq .nilm h2 hs hr he
  | map h => exact sameC_eq (.map h) h2 hs hr he
  | nilf => exact sameC_eq .nilf h2 hs hr he
  | func f h1 h3 => exact sameC_eq (.func f h1 h3) h2 hs hr he
  | iface t h => exact sameC_eq (.iface t h) h2 hs hr he
  | nili => exact sameC_eq .nili h2 hs hr he

/-! ### Reads that may come later -/
def ReadOK (P : Program) (l : List Oper) (ι : Inj) (p : Nat × (World → Prop)) (r : AM.Read) : Prop :=
  ∃ (o : Oper) (q : List Opd) (e : Env) (a : Act) (v' : Value), l[p.1]? = some o ∧ compOp P o.op = some (r.p, q) ∧ q.all opdLt = true ∧ EnvR ι e a.tmps ∧ e.evs q = some r.vs ∧ looks r.p = true ∧ VR ι r.v v' ∧ (∀ w, (execOp a.eval o).run P w = .ok (.value v') w → p.2 w)
theorem ReadOK.mono {ι ι' : Inj} (hs : Sub ι ι') {p : Nat × (World → Prop)} {r : AM.Read} (h : ReadOK P l ι p r) : ReadOK P l ι' p r := by
  obtain ⟨o, q, e, a, v', h1, h2, h3, h4, h5, h6, h7, h8⟩ := h
  exact ⟨o, q, e, a, v', h1, h2, h3, h4.mono hs, h5, h6, h7.mono hs, h8⟩
theorem still_mem {σ : H} : ∀ {rs : List AM.Read}, still σ rs = true → ∀ r ∈ rs, ∃ v σ2, prim r.p r.vs σ = some (v, σ2) ∧ rigid r.v = true ∧ same r.v v = true
  | [], _, r, hr => by cases hr
  | r0 :: rs, h, r, hr => by
    simp only [still] at h
    split at h
    · rename_i v σ2 hp
      simp only [Bool.and_eq_true] at h
      cases hr with
      | head => exact ⟨v, σ2, hp, h.1.1, h.1.2⟩
      | tail _ hr => exact still_mem h.2 r hr
    · cases h
theorem looks_eq (p : Prim) : readsHeap p = looks p := by cases p <;> rfl
theorem ReadOK.still {ι ι' : Inj} {σ : H} {w : World} (T : Tables P) (hs : Sub ι ι') (hR : R ι' σ w) {p : Nat × (World → Prop)} {r : AM.Read} (h : ReadOK P l ι p r) {rs : List AM.Read} (hst : still σ rs = true) (hm : r ∈ rs) : p.2 w := by
  obtain ⟨o, q, e, a, v', h1, h2, h3, h4, h5, h6, h7, h8⟩ := h
  obtain ⟨v, σ2, g1, g2, g3⟩ := still_mem hst r hm
  obtain ⟨⟨u', k1, k2⟩, _⟩ := read_sound T h2 h6 h3 (h4.mono hs) h5 hR g1
  refine h8 w ?_
  rw [k1, same_eq h7 k2 hs g2 g3]
theorem keepR_mem {ks : List Nat} : ∀ {rs : List AM.Read} {r : AM.Read}, r ∈ rs → r.d ∈ ks → r ∈ keepR ks rs
  | [], r, h, _ => by cases h
  | r0 :: rs, r, h, hk => by
    simp only [keepR]
    cases h with
    | head =>
      have : ks.contains r0.d = true := by simpa using hk
      rw [this]; exact List.mem_cons_self
    | tail _ h =>
      have := keepR_mem h hk
      split
      · exact List.mem_cons_of_mem _ this
      · exact this
end
end AM
end Go.Proofs.YtlelihddjacplaaGreat
namespace Go.Proofs.YtlelihddjacplaaGreat
namespace AM
section
variable {P : Program} {l : List Oper} {ι : Inj} {σ : H} {w : World}

def MK (mk : Nat → Value) (len esz : Nat) : Prop := (mk = fun A => .pointer (some ⟨A, 0, none⟩)) ∨ ∃ n, n * esz = len ∧ mk = fun A => .slice (some ⟨A, 0, none⟩) n n
theorem MK.vr {mk : Nat → Value} {len esz : Nat} (h : MK mk len esz) {ι : Inj} {A b : Nat} (hA : A ≠ 0) (hi : ι A = some ⟨b, 0, len, esz, 0, false⟩) : VR ι (mk A) (mk b) := by
  rcases h with rfl | ⟨n, hn, rfl⟩
  · simpa using VR.ptr (o := 0) hi
  · have := VR.slice (o := 0) (n := n) (c := n) hA hi
    simpa [capOf] using this
theorem fillL_len : ∀ (pl : List (Nat × Nat)) (vs cells c : List Value), fillL cells pl vs = some c → c.length = cells.length
  | [], [], cells, c, h => by simp only [fillL, Option.some.injEq] at h; rw [h]
  | [], _ :: _, cells, c, h => by simp [fillL] at h
  | _ :: _, [], cells, c, h => by simp [fillL] at h
  | (off, size) :: ps, v :: vs, cells, c, h => by
    simp only [fillL] at h
    split at h
    · cases h
    · split at h
      · rename_i c1 hc
        rw [fillL_len ps vs c1 c h]
        obtain ⟨h1, rfl⟩ := lput_some hc
        simp; omega
      · cases h

theorem mobile_some {i : Nat} (h : mobile l.toArray i = true) : ∃ o, l[i]? = some o ∧ o.guard = none ∧ (∃ d, o.dst = some d) ∧ ((∃ t, o.op = .alloc t) ∨ (∃ t x, o.op = .box t x) ∨ ∃ t n ps, o.op = .buildSlice t n ps) := by
  unfold mobile at h
  rw [List.getElem?_toArray] at h
  split at h
  · rename_i o ho
    simp only [Bool.and_eq_true] at h
    refine ⟨o, ho, by simpa using h.1.1, Option.isSome_iff_exists.1 h.1.2, ?_⟩
    have h2 := h.2
    split at h2
    · rename_i t he; exact .inl ⟨t, he⟩
    · rename_i t x he; exact .inr (.inl ⟨t, x, he⟩)
    · rename_i t n ps he; exact .inr (.inr ⟨t, n, ps, he⟩)
    · cases h2
  · cases h

theorem mob_run {o : Oper} {p : Prim} {args : List Opd} {e : Env} {a : Act} {vs : List Value} {v : Value} {σx : H} (hop : (∃ t, o.op = .alloc t) ∨ (∃ t x, o.op = .box t x) ∨ ∃ t n ps, o.op = .buildSlice t n ps)
    (hc : compOp P o.op = some (p, args)) (hlt : args.all opdLt = true) (he : EnvR ι e a.tmps) (hv : e.evs args = some vs) (h : prim p vs σ = some (v, σx)) :
    p.kind = .other ∧ ∃ (c c' : List Value) (te elem esz : Nat) (mk : Nat → Value), (∀ σ : H, prim p vs σ = some (mk σ.next, σ.push (.cells c elem esz .exact))) ∧ MK mk c.length esz ∧
      (∀ w, (execOp a.eval o).run P w = .ok (.value (mk w.heap.size)) (w.alloc (.cells ⟨c'⟩ te))) ∧ VRs ι c c' := by
  obtain ⟨dst, op, ty, pos, after, guard⟩ := o
  simp only at hc hop
  rcases hop with ⟨t, rfl⟩ | ⟨t, x, rfl⟩ | ⟨t, n, ps, rfl⟩ <;> simp only [compOp, Option.bind_eq_bind, Option.pure_def] at hc
  · obtain ⟨n, hn, h2⟩ := Option.bind_eq_some_iff.1 hc
    obtain ⟨z, hz, h4⟩ := Option.bind_eq_some_iff.1 h2
    simp at h4; obtain ⟨rfl, rfl⟩ := h4
    have := evs_nil hv; subst this
    refine ⟨rfl, z.cells.toList, z.cells.toList, t, t, n, fun A => .pointer (some ⟨A, 0, none⟩), fun σ => rfl, .inl rfl, fun w => ?_, zeroVRs hz⟩
    simp [execOp, Instr.alloc, run_zeroValue' hz, newVar, newRow]
  · obtain ⟨n, hn, h2⟩ := Option.bind_eq_some_iff.1 hc
    obtain ⟨rfl, u, rfl, hx⟩ := arg1 h2 he hv hlt
    simp only [prim, pBox] at h
    split at h
    case h_2 => cases h
    rename_i hchk
    refine ⟨rfl, cellsOf u, cellsOf (a.eval x), t, t, n, fun A => .pointer (some ⟨A, 0, none⟩), fun σ => ?_, .inl rfl, fun w => ?_, hx.cells⟩
    · simp only [prim, pBox, hchk]
    · simp [execOp, Instr.box, newVar, newRow, ← cellsOf_eq]
  · split at hc
    case h_2 => cases hc
    rename_i el ht
    obtain ⟨s, hs, h2⟩ := Option.bind_eq_some_iff.1 hc
    split at h2
    · cases h2
    · rename_i hle
      obtain ⟨z, hz, h4⟩ := Option.bind_eq_some_iff.1 h2
      obtain ⟨ds, hd, h6⟩ := Option.bind_eq_some_iff.1 h4
      simp at h6; obtain ⟨rfl, rfl⟩ := h6
      have hvs : VRs ι vs (ps.toList.map fun p => a.eval p.2) := by
        have := he.evs (xs := ps.toList.map (·.2)) (by rw [List.mapM_map]; exact hd) hv hlt
        simpa [Function.comp_def] using this
      have hparts : ps.map (fun (x : Nat × Operand) => (x.1, a.eval x.2)) = ((ps.toList.map (·.1)).zip (ps.toList.map fun p => a.eval p.2)).toArray := by
        apply Array.ext'
        simp [List.zip_map']
      simp only [prim, pBuildSlice] at h
      split at h
      case h_2 => cases h
      rename_i c hcf
      split at h
      case h_2 => cases h
      rename_i hok
      obtain ⟨c', h3, h4⟩ := fill_ok (ι := ι) (place := fun i => some (i * s, s)) (ps.toList.map fun p => (p.1 * s, s)) (ps.toList.map (·.1)) vs _ _ (lrep z.cells.toList n) c (by simp [List.map_map, Function.comp_def]) hcf (lrepVR (zeroVRs hz) n) hvs
      have hzl := zeroT_size hz hs
      refine ⟨rfl, c, c', el, el, s, fun A => .slice (some ⟨A, 0, none⟩) n n, fun σ => ?_, .inr ⟨n, ?_, rfl⟩, fun w => ?_, h4⟩
      · simp only [prim, pBuildSlice, hcf, hok]
      · rw [fillL_len _ _ _ _ hcf, lrep_len, cellsOf_eq, hzl]
      · have := buildSlice_run (P := P) hz ht hs (by omega) h3 w
        simp only [execOp, hparts, Sem.run_bind, this, Result.andThen_ok, Sem.run_pure]

/-! ### Environments with slots left out -/
theorem dropD_get (ds : List Nat) : ∀ (e : Env) (t : Nat), (dropD ds e).get t = if t ∈ ds then none else e.get t
  | [], t => by simp [dropD, Env.get]
  | (k, v) :: r, t => by
    have ih := dropD_get ds r t
    simp only [dropD]
    split
    · rename_i hk
      have hk' : k ∈ ds := by simpa using hk
      rw [ih, Env.get_cons]
      by_cases h : t ∈ ds
      · rw [if_pos h, if_pos h]
      · rw [if_neg h, if_neg h, if_neg (fun (he : k = t) => h (he ▸ hk'))]
    · rename_i hk
      have hk' : k ∉ ds := by simpa using hk
      rw [Env.get_cons, Env.get_cons, ih]
      by_cases h : k = t
      · subst h; rw [if_pos rfl, if_neg hk', if_pos rfl]
      · rw [if_neg h, if_neg h]
def tmpsOf (args : List Opd) : List Nat := args.filterMap fun | .t i => some i | .c _ => none
theorem evs_congr {e e' : Env} : ∀ {args : List Opd}, (∀ t ∈ tmpsOf args, e'.get t = e.get t) → e'.evs args = e.evs args
  | [], _ => rfl
  | .c v :: r, h => by
    simp only [Env.evs, Env.ev]
    rw [evs_congr (args := r) (fun t ht => h t (by simpa [tmpsOf] using ht))]
  | .t i :: r, h => by
    simp only [Env.evs, Env.ev]
    rw [h i (by simp [tmpsOf]), evs_congr (args := r) (fun t ht => h t (by simp [tmpsOf] at ht ⊢; exact .inr ht))]
theorem slots_args {q : Op} {t : Nat} (h : t ∈ tmpsOf q.args) : t ∈ slots q := List.mem_append_left _ h
theorem slots_guard {q : Op} {g : Nat × Bool} (h : q.guard = some g) : g.1 ∈ slots q := by
  refine List.mem_append_right _ ?_
  rw [h]; simp
theorem wantedV_congr {e e' : Env} {q : Op} (h : ∀ t ∈ slots q, e'.get t = e.get t) : wantedV e' q.guard = wantedV e q.guard := by
  cases hg : q.guard with
  | none => rfl
  | some g =>
    obtain ⟨j, b⟩ := g
    simp only [wantedV, h j (slots_guard hg)]
theorem apartQ_spec {qj qk : Op} (h : apartQ qj qk = true) : ∃ d, qj.dst = some d ∧ d ∉ slots qk ∧ qk.dst ≠ some d ∧ ∀ d', qk.dst = some d' → d' ∉ slots qj := by
  unfold apartQ at h
  split at h
  · cases h
  · rename_i d hd
    simp only [Bool.and_eq_true, Bool.not_eq_true', List.contains_eq_mem, decide_eq_false_iff_not] at h
    refine ⟨d, hd, h.1, ?_, ?_⟩
    · intro hk
      rw [hk] at h
      simp at h
    · intro d' hk
      rw [hk] at h
      simp at h
      exact h.2.2
end
end AM
end Go.Proofs.YtlelihddjacplaaGreat
namespace Go.Proofs.YtlelihddjacplaaGreat
namespace AM
section
variable {P : Program} {l : List Oper} {N : Nat} {dsts : List Nat} {e0 : Env} {ι0 : Inj} {w0 : World}

/-- j was made early, in block b. -/
structure Adv (P : Program) (l : List Oper) (w0 : World) (ι : Inj) (e : Env) (a : Act) (w : World) (j b : Nat) (q : Op) (d : Nat) (vs c c' : List Value) (te elem esz : Nat) (mk : Nat → Value) : Prop where
  op : one P l j = some q
  guard : q.guard = none
  dst : q.dst = some d
  kind : q.p.kind = .other
  args : e.evs q.args = some vs
  prim : ∀ σ : H, prim q.p vs σ = some (mk σ.next, σ.push (.cells c elem esz .exact))
  mkc : MK mk c.length esz
  slot : a.tmps[d]? = some (mk b)
  heap : w.heap[b]? = some (.cells ⟨c'⟩ te (0, 0))
  cells : VRs ι c c'
  free : ∀ A bk, ι A = some bk → bk.blk ≠ b
  new : w0.heap.size ≤ b
def AdvE (P : Program) (l : List Oper) (w0 : World) (ι : Inj) (e : Env) (a : Act) (w : World) (jb : Nat × Nat) : Prop :=
  ∃ q d vs c c' te elem esz mk, Adv P l w0 ι e a w jb.1 jb.2 q d vs c c' te elem esz mk
def mds (P : Program) (l : List Oper) (M : List (Nat × Nat)) : List Nat := M.filterMap fun jb => (one P l jb.1).bind (·.dst)
theorem mem_mds {M : List (Nat × Nat)} {t : Nat} : t ∈ mds P l M ↔ ∃ jb ∈ M, ∃ q, one P l jb.1 = some q ∧ q.dst = some t := by
  unfold mds
  rw [List.mem_filterMap]
  constructor
  · rintro ⟨jb, h1, h2⟩
    obtain ⟨q, h3, h4⟩ := Option.bind_eq_some_iff.1 h2
    exact ⟨jb, h1, q, h3, h4⟩
  · rintro ⟨jb, h1, q, h3, h4⟩
    exact ⟨jb, h1, by rw [h3]; exact h4⟩

structure Inv (P : Program) (l : List Oper) (N : Nat) (dsts : List Nat) (e0 : Env) (ι0 : Inj) (w0 : World) (items : List (Bool × Nat)) (listed : Array Bool) (T : Con) (rsI : List (Nat × Nat)) (rs : List AM.Read) (M : List (Nat × Nat)) (e : Env) (σ : H) (ι : Inj) (a : Act) (w : World) : Prop where
  r : R ι σ w
  x : Ext ι0 w0 ι w
  env : ∀ t v, e.get t = some v → t < 1000000 → t ∉ mds P l M → ∃ v', a.tmps[t]? = some v' ∧ VR ι v v'
  env0 : EnvR ι (dropD dsts e0) a.tmps
  dfr : DefR ι e a.defers
  dfr0 : DefR ι e0 a.defers
  size : a.tmps.size = N
  down : DownC .any l.toArray listed
  cover : ∀ p ∈ T, (∀ w, p.2 w) ∨ ∃ r ∈ rs, (p.1, r.d) ∈ rsI ∧ ReadOK P l ι p r
  now : ∀ p ∈ T, p.2 w
  late : ∀ p ∈ T, ∀ jb ∈ M, waits l.toArray p.1 jb.1 = false
  adv : ∀ jb ∈ M, AdvE P l w0 ι e a w jb
  early : ∀ jb ∈ M, okEarly P l items jb.1 = true
  inM : ∀ jb ∈ M, (false, jb.1) ∈ items ∧ listed.getD jb.1 false = true
  known : ∀ j, (false, j) ∈ items → listed.getD j false = true → ∃ b, (j, b) ∈ M
  uniq : ∀ x ∈ M, ∀ y ∈ M, x.1 = y.1 ∨ x.2 = y.2 → x = y

/-- What is told of each operation's slot. -/
structure Slots (P : Program) (l : List Oper) (N : Nat) (dsts : List Nat) : Prop where
  dst : ∀ k q, one P l k = some q → ∀ d, q.dst = some d → d ∈ dsts
  lt : ∀ d ∈ dsts, d < N ∧ d < 1000000

theorem befores_head {b : Bool} {k j : Nat} {items : List (Bool × Nat)} (h : b = true ∨ k ≠ j) : befores j ((b, k) :: items) = k :: befores j items := by
  simp only [befores]
  have : (!b && Nat.beq k j) = false := by
    rcases h with rfl | h
    · rfl
    · rw [nbeq, decide_eq_false h, Bool.and_false]
  rw [this]
theorem okEarly_head {b : Bool} {k j : Nat} {items : List (Bool × Nat)} (h : b = true ∨ k ≠ j) (he : okEarly P l ((b, k) :: items) j = true) {qj qk : Op} (hj : one P l j = some qj) (hk : one P l k = some qk) : apartQ qj qk = true := by
  unfold okEarly at he
  rw [befores_head h] at he
  simp only [List.all_cons, Bool.and_eq_true, hj, hk] at he
  exact he.1.1
theorem okEarly_tail {b : Bool} {k j : Nat} {items : List (Bool × Nat)} (h : b = true ∨ k ≠ j) (he : okEarly P l ((b, k) :: items) j = true) : okEarly P l items j = true := by
  unfold okEarly at *
  rw [befores_head h] at he
  simp only [List.all_cons, Bool.and_eq_true] at he ⊢
  exact ⟨he.1.2, he.2.2⟩
theorem okEarly_fresh {j k : Nat} {items : List (Bool × Nat)} (he : okEarly P l items j = true) (hk : (false, k) ∈ items) (hne : k ≠ j) {qj qk : Op} (hj : one P l j = some qj) (hq : one P l k = some qk) {d : Nat} (hd : qk.dst = some d) : d ∉ slots qj ∧ qj.dst ≠ some d := by
  unfold okEarly at he
  simp only [Bool.and_eq_true] at he
  have h := List.all_eq_true.1 he.2 _ hk
  simp only [Bool.false_or, hj, hq, Bool.or_eq_true, nbeq, decide_eq_true_eq] at h
  rcases h with h | h
  · exact absurd h hne
  · unfold freshQ at h
    rw [hd] at h
    simp only [Bool.and_eq_true, Bool.not_eq_true', List.contains_eq_mem, decide_eq_false_iff_not] at h
    refine ⟨h.1, fun e => ?_⟩
    rw [e] at h
    simp [nbeq] at h

variable {items : List (Bool × Nat)} {listed : Array Bool} {T : Con} {rsI : List (Nat × Nat)} {rs : List AM.Read} {M : List (Nat × Nat)} {e : Env} {σ : H} {ι : Inj} {a : Act} {w : World}

/-- The operation at the head is none that was made early. -/
theorem Inv.apart {b : Bool} {k : Nat} (h : Inv P l N dsts e0 ι0 w0 ((b, k) :: items) listed T rsI rs M e σ ι a w) (hk : b = true ∨ listed.getD k false = false) {q : Op} (hq : one P l k = some q) : ∀ jb ∈ M, (b = true ∨ k ≠ jb.1) ∧ ∀ qj, one P l jb.1 = some qj → apartQ qj q = true := by
  intro jb hjb
  have hne : b = true ∨ k ≠ jb.1 := by
    rcases hk with h1 | h1
    · exact .inl h1
    · refine .inr fun e => ?_
      have := (h.inM jb hjb).2
      rw [← e, h1] at this; cases this
  exact ⟨hne, fun qj hj => okEarly_head hne (h.early jb hjb) hj hq⟩
theorem Inv.slots {b : Bool} {k : Nat} (h : Inv P l N dsts e0 ι0 w0 ((b, k) :: items) listed T rsI rs M e σ ι a w) (hk : b = true ∨ listed.getD k false = false) {q : Op} (hq : one P l k = some q) : ∀ t ∈ AM.slots q, t ∉ mds P l M := by
  intro t ht hm
  obtain ⟨jb, hjb, qj, hj, hd⟩ := mem_mds.1 hm
  obtain ⟨_, hap⟩ := h.apart hk hq jb hjb
  obtain ⟨d, h1, h2, _⟩ := apartQ_spec (hap qj hj)
  rw [hd] at h1
  cases h1
  exact h2 ht
theorem Inv.envR (h : Inv P l N dsts e0 ι0 w0 items listed T rsI rs M e σ ι a w) : EnvR ι (dropD (mds P l M) e) a.tmps := by
  intro t v hv hlt
  rw [dropD_get] at hv
  split at hv
  · cases hv
  · rename_i hm
    exact h.env t v hv hlt hm
theorem Inv.evs {b : Bool} {k : Nat} (h : Inv P l N dsts e0 ι0 w0 ((b, k) :: items) listed T rsI rs M e σ ι a w) (hk : b = true ∨ listed.getD k false = false) {q : Op} (hq : one P l k = some q) :
    (dropD (mds P l M) e).evs q.args = e.evs q.args ∧ wantedV (dropD (mds P l M) e) q.guard = wantedV e q.guard := by
  have hs := h.slots hk hq
  exact ⟨evs_congr fun t ht => by rw [dropD_get, if_neg (hs t (slots_args ht))], wantedV_congr fun t ht => by rw [dropD_get, if_neg (hs t ht)]⟩

theorem keep_free {ι' : Inj} {w' : World} (hx : Ext ι w ι' w') {b : Nat} (hb : b < w.heap.size) (hf : ∀ A bk, ι A = some bk → bk.blk ≠ b) : w'.heap[b]? = w.heap[b]? ∧ ∀ A bk, ι' A = some bk → bk.blk ≠ b := by
  refine ⟨hx.keep b hb fun A bk hA _ => hf A bk hA, fun A bk hA e => ?_⟩
  cases h0 : ι A with
  | some bk0 =>
    have := hx.sub _ _ h0
    rw [hA] at this
    cases this
    exact hf A bk h0 e
  | none =>
    obtain ⟨_, h1 | ⟨B, bB, h1, h2, h3⟩⟩ := hx.new A bk h0 hA
    · omega
    · exact hf B bB h1 (h3.trans e)

theorem put_tmps_ne {a : Act} {d : Option Nat} {v : Value} {t : Nat} (h : d ≠ some t) : (a.put d v).tmps[t]? = a.tmps[t]? := by
  cases d with
  | none => rfl
  | some d =>
    have : d ≠ t := fun e => h (by rw [e])
    simp [Act.put, Array.getElem?_setIfInBounds_ne this]

theorem getD_set_ne' {listed : Array Bool} {i j : Nat} (h : i ≠ j) : (listed.setIfInBounds i true).getD j false = listed.getD j false := getD_set_ne false h

/-- Behind the operation at the head. -/
theorem Inv.step {b : Bool} {k : Nat} (h : Inv P l N dsts e0 ι0 w0 ((b, k) :: items) listed T rsI rs M e σ ι a w) (hS : Slots P l N dsts) (honce : ∀ y ∈ items, y.2 ≠ k) (hk : b = true ∨ listed.getD k false = false) {q : Op} (hq : one P l k = some q)
    {v v' : Value} {ι' : Inj} {w' : World} {σ' : H} (hx : Ext ι w ι' w') (hR : R ι' σ' w') (hv : VR ι' v v') {T' : Con} {rsI' : List (Nat × Nat)} {rs' : List AM.Read} (hdown : DownC .any l.toArray (listed.setIfInBounds k true))
    (hcover : ∀ p ∈ T', (∀ w, p.2 w) ∨ ∃ r ∈ rs', (p.1, r.d) ∈ rsI' ∧ ReadOK P l ι' p r) (hnow : ∀ p ∈ T', p.2 w') (hlate : ∀ p ∈ T', ∀ jb ∈ M, waits l.toArray p.1 jb.1 = false) :
    Inv P l N dsts e0 ι0 w0 items (listed.setIfInBounds k true) T' rsI' rs' M (e.put q.dst v) σ' ι' (a.put q.dst v') w' := by
  have hap := h.apart hk hq
  have hdl : dstLt q.dst = true := by
    cases hd : q.dst with
    | none => rfl
    | some d =>
      have := (hS.lt d (hS.dst k q hq d hd)).2
      simpa [dstLt, nblt] using this
  have h6 : (e.put q.dst v).get 1000000 = e.get 1000000 := by
    rw [Env.get_put, if_neg]
    intro hd
    have := dstLt_iff hdl _ hd
    omega
  have hkne : ∀ y ∈ items, k ≠ y.2 := fun y hy e => honce y hy e.symm
  have hMk : ∀ jb ∈ M, k ≠ jb.1 := fun jb hjb => by
    rcases (hap jb hjb).1 with hb | hne
    · subst hb
      have := (h.inM jb hjb).1
      cases this with
      | tail _ hm => exact hkne _ hm
    · exact hne
  refine ⟨hR, h.x.trans hx, fun t u hu hlt hm => ?_, fun t u hu hlt => ?_, ?_, ?_, ?_, hdown, hcover, hnow, hlate, fun jb hjb => ?_, fun jb hjb => okEarly_tail (hap jb hjb).1 (h.early jb hjb), fun jb hjb => ?_, fun j hj hl => ?_, h.uniq⟩
  · rw [Env.get_put] at hu
    split at hu
    · rename_i hd
      cases hu
      refine ⟨v', ?_, hv⟩
      rw [hd]
      have : t < a.tmps.size := by rw [h.size]; exact (hS.lt t (hS.dst k q hq t hd)).1
      simp [Act.put, this]
    · rename_i hd
      obtain ⟨u', h1, h2⟩ := h.env t u hu hlt hm
      exact ⟨u', by rw [put_tmps_ne hd]; exact h1, h2.mono hx.sub⟩
  · obtain ⟨u', h1, h2⟩ := h.env0 t u hu hlt
    refine ⟨u', ?_, h2.mono hx.sub⟩
    rw [put_tmps_ne]
    · exact h1
    · intro hd
      rw [dropD_get, if_pos (hS.dst k q hq t hd)] at hu
      cases hu
  · rw [Act.put_dfr]; exact (h.dfr.of_get h6).mono hx.sub
  · rw [Act.put_dfr]; exact h.dfr0.mono hx.sub
  · rw [Act.put_size]; exact h.size
  · obtain ⟨qj, d, vs, c, c', te, elem, esz, mk, hA⟩ := h.adv jb hjb
    obtain ⟨d2, g1, g2, g3, g4⟩ := apartQ_spec ((hap jb hjb).2 qj hA.op)
    rw [hA.dst] at g1; cases g1
    have hb : jb.2 < w.heap.size := (Array.getElem?_eq_some_iff.1 hA.heap).1
    obtain ⟨k1, k2⟩ := keep_free hx hb hA.free
    refine ⟨qj, d, vs, c, c', te, elem, esz, mk, hA.op, hA.guard, hA.dst, hA.kind, ?_, hA.prim, hA.mkc, ?_, k1.trans hA.heap, hA.cells.mono hx.sub, k2, hA.new⟩
    · rw [← hA.args]
      refine evs_congr fun t ht => ?_
      rw [Env.get_put, if_neg]
      intro hd
      exact g4 t hd (slots_args ht)
    · rw [put_tmps_ne g3]; exact hA.slot
  · obtain ⟨h1, h2⟩ := h.inM jb hjb
    refine ⟨?_, getD_set_true h2⟩
    cases h1 with
    | head => exact absurd rfl (hMk jb hjb)
    | tail _ hm => exact hm
  · rw [getD_set_ne' (hkne _ hj)] at hl
    exact h.known j (List.mem_cons_of_mem _ hj) hl
end
end AM
end Go.Proofs.YtlelihddjacplaaGreat
namespace Go.Proofs.YtlelihddjacplaaGreat
namespace AM
section
variable {P : Program} {l : List Oper} {N : Nat} {dsts : List Nat} {e0 : Env} {ι0 : Inj} {w0 : World} {O : Orc}

/-! ### Counting -/
def cnt (items : List (Bool × Nat)) (listed : Array Bool) : Nat := (items.filter fun x => !listed.getD x.2 false).length
theorem set_true_of {listed : Array Bool} {j k : Nat} (h : (listed.setIfInBounds j true).getD k false = false) : listed.getD k false = false := by
  cases h2 : listed.getD k false with
  | false => rfl
  | true => rw [getD_set_true h2] at h; cases h
theorem cnt_le (j : Nat) (listed : Array Bool) : ∀ (items : List (Bool × Nat)), cnt items (listed.setIfInBounds j true) ≤ cnt items listed
  | [] => Nat.le_refl _
  | x :: items => by
    have ih := cnt_le j listed items
    unfold cnt at *
    rw [List.filter_cons, List.filter_cons]
    cases h1 : (listed.setIfInBounds j true).getD x.2 false with
    | false =>
      rw [set_true_of h1]
      simpa using ih
    | true =>
      simp only [Bool.not_true, Bool.false_eq_true, if_false]
      split
      · rw [List.length_cons]; omega
      · exact ih
theorem getD_set_self {listed : Array Bool} {j : Nat} (h : j < listed.size) : (listed.setIfInBounds j true).getD j false = true := by
  simp [h]
theorem cnt_lt {b : Bool} {j : Nat} {listed : Array Bool} (hj : listed.getD j false = false) (hs : j < listed.size) : ∀ {items : List (Bool × Nat)}, (b, j) ∈ items → cnt items (listed.setIfInBounds j true) + 1 ≤ cnt items listed
  | [], h => by cases h
  | x :: items, h => by
    have hle := cnt_le j listed items
    by_cases hx : x.2 = j
    · unfold cnt at *
      rw [List.filter_cons, List.filter_cons, hx, getD_set_self hs, hj]
      simpa using hle
    · have hm : (b, j) ∈ items := by
        cases h with
        | head => exact absurd rfl hx
        | tail _ h => exact h
      have ih := cnt_lt hj hs hm
      unfold cnt at *
      rw [List.filter_cons, List.filter_cons, getD_set_ne' (fun e => hx e.symm)]
      split
      · rw [List.length_cons, List.length_cons]; omega
      · exact ih
theorem cnt_skip {x : Bool × Nat} {items : List (Bool × Nat)} {listed : Array Bool} (h : listed.getD x.2 false = true) : cnt (x :: items) listed = cnt items listed := by
  unfold cnt
  rw [List.filter_cons, h]
  simp

/-! ### The plan and the segments -/
def hitems (q : List Nat) (eo : Option Nat) (r : Plan) : List (Bool × Nat) := q.map (true, ·) ++ (eo.toList.map (false, ·) ++ Plan.items r)
def SegRel (P : Program) (l : List Oper) (q : List Nat) (eo : Option Nat) (r : Plan) (s : Seg) (ss : List Seg) (rsI : List (Nat × Nat)) : Prop :=
  q.mapM (one P l) = some s.q ∧ (s.q.all fun o => quietP o.p && (!readsHeap o.p || o.dst.isSome)) = true ∧
  ((eo = none ∧ s.e = none ∧ ∃ rsF, (∀ x ∈ reads (q.zip s.q) ++ rsI, x ∈ rsF) ∧ compSegs P l r rsF = some ss) ∨
  (∃ i o rsF, eo = some i ∧ s.e = some o ∧ one P l i = some o ∧ isDefer o.p = false ∧ (∀ x ∈ reads (q.zip s.q) ++ rsI, waits l.toArray x.1 i = false → x ∈ rsF) ∧ s.chk = rsF.map (·.2) ∧
    (mobs P l i (Plan.items r)).mapM (one P l) = some s.mob ∧ compSegs P l r rsF = some ss))
theorem segs_head {q : List Nat} {eo : Option Nat} {r : Plan} {rsI : List (Nat × Nat)} {segs : List Seg} (h : compSegs P l ((q, eo) :: r) rsI = some segs) : ∃ s ss, segs = s :: ss ∧ SegRel P l q eo r s ss rsI := by
  simp only [compSegs, Option.bind_eq_bind, Option.pure_def] at h
  obtain ⟨qs, hq, h⟩ := Option.bind_eq_some_iff.1 h
  split at h
  · cases h
  rename_i hall
  simp only [Bool.not_eq_true, Bool.not_eq_false'] at hall
  cases eo with
  | none =>
    simp only at h
    obtain ⟨ss, hs, h⟩ := Option.bind_eq_some_iff.1 h
    simp only [Option.some.injEq] at h
    exact ⟨_, ss, h.symm, hq, hall, .inl ⟨rfl, rfl, _, fun x hx => hx, hs⟩⟩
  | some i =>
    simp only at h
    obtain ⟨o, ho, h⟩ := Option.bind_eq_some_iff.1 h
    split at h
    · cases h
    rename_i hd
    obtain ⟨mob, hm, h⟩ := Option.bind_eq_some_iff.1 h
    obtain ⟨ss, hs, h⟩ := Option.bind_eq_some_iff.1 h
    simp only [Option.some.injEq] at h
    exact ⟨_, ss, h.symm, hq, hall, .inr ⟨i, o, _, rfl, rfl, ho, by simpa using hd, fun x hx hw => List.mem_filter.2 ⟨hx, by simp [hw]⟩, rfl, hm, hs⟩⟩
theorem segs_next {r : Plan} {rsI : List (Nat × Nat)} {ss : List Seg} (h : compSegs P l r rsI = some ss) : ∃ q eo r' s ss', hitems q eo r' = Plan.items r ∧ SegRel P l q eo r' s ss' rsI ∧ (r ≠ [] → r'.length < r.length) ∧ (r = [] → q = [] ∧ eo = none ∧ r' = []) ∧
    ∀ (O : Orc) e0 dsts rs e σ, runSegs O e0 dsts (s :: ss') rs e σ = runSegs O e0 dsts ss rs e σ := by
  cases r with
  | nil =>
    simp only [compSegs, Option.some.injEq] at h
    subst h
    refine ⟨[], none, [], ⟨[], none, [], []⟩, [], rfl, ⟨rfl, rfl, .inl ⟨rfl, rfl, rsI, fun x hx => hx, rfl⟩⟩, fun h => absurd rfl h, fun _ => ⟨rfl, rfl, rfl⟩, fun O e0 dsts rs e σ => ?_⟩
    simp only [runSegs, runQ]
  | cons x r =>
    obtain ⟨q, eo⟩ := x
    obtain ⟨s, ss', rfl, hS⟩ := segs_head h
    exact ⟨q, eo, r, s, ss', rfl, hS, fun _ => by simp, fun h => (by cases h), fun O e0 dsts rs e σ => rfl⟩

theorem runSegs_q {q0 : Op} {qs : List Op} {eo : Option Op} {chk : List Nat} {mob : List Op} {ss : List Seg} {rs : List AM.Read} {e : Env} {σ : H} {res : Ex × Env × H} (h : runSegs O e0 dsts (⟨q0 :: qs, eo, chk, mob⟩ :: ss) rs e σ = some res) :
    (wantedV e q0.guard = some false ∧ runSegs O e0 dsts (⟨qs, eo, chk, mob⟩ :: ss) rs (e.put q0.dst (.tuple #[])) σ = some res) ∨
    (wantedV e q0.guard = some true ∧ ∃ vs v σx, e.evs q0.args = some vs ∧ quietP q0.p = true ∧ prim q0.p vs σ = some (v, σx) ∧
      ((readsHeap q0.p = true ∧ runSegs O e0 dsts (⟨qs, eo, chk, mob⟩ :: ss) (⟨q0.dst.getD 0, q0.p, vs, v⟩ :: rs) (e.put q0.dst v) σ = some res) ∨
       (readsHeap q0.p = false ∧ runSegs O e0 dsts (⟨qs, eo, chk, mob⟩ :: ss) rs (e.put q0.dst v) σ = some res))) := by
  simp only [runSegs, runQ] at h ⊢
  cases hw : wantedV e q0.guard with
  | none => rw [hw] at h; simp at h
  | some b =>
    rw [hw] at h
    cases b with
    | false => exact .inl ⟨rfl, h⟩
    | true =>
      refine .inr ⟨rfl, ?_⟩
      simp only at h
      cases hv : e.evs q0.args with
      | none => rw [hv] at h; simp at h
      | some vs =>
        rw [hv] at h
        simp only at h
        cases hq : quietP q0.p with
        | false => rw [hq] at h; simp at h
        | true =>
          rw [hq] at h
          simp only at h
          cases hp : prim q0.p vs σ with
          | none => rw [hp] at h; simp at h
          | some x =>
            obtain ⟨v, σx⟩ := x
            rw [hp] at h
            simp only at h
            refine ⟨vs, v, σx, rfl, rfl, hp, ?_⟩
            cases hr : readsHeap q0.p with
            | true => rw [hr] at h; exact .inl ⟨rfl, h⟩
            | false => rw [hr] at h; exact .inr ⟨rfl, h⟩
theorem runSegs_none {chk : List Nat} {mob : List Op} {ss : List Seg} {rs : List AM.Read} {e : Env} {σ : H} {res : Ex × Env × H} (h : runSegs O e0 dsts (⟨[], none, chk, mob⟩ :: ss) rs e σ = some res) : runSegs O e0 dsts ss rs e σ = some res := by
  simpa only [runSegs, runQ] using h
theorem runSegs_e {o : Op} {chk : List Nat} {mob : List Op} {ss : List Seg} {rs : List AM.Read} {e : Env} {σ : H} {res : Ex × Env × H} (h : runSegs O e0 dsts (⟨[], some o, chk, mob⟩ :: ss) rs e σ = some res) :
    mobOk e σ rs mob = true ∧ ∃ x e' σ', runOps O [o] e σ = some (x, e', σ') ∧ ((x = .normal ∧ still σ' (keepR chk rs) = true ∧ runSegs O e0 dsts ss (keepR chk rs) e' σ' = some res) ∨ (∃ v, x = .panic v ∧ res = (.panic v, dropD dsts e0, σ'))) := by
  simp only [runSegs, runQ] at h
  split at h
  · cases h
  rename_i hm
  refine ⟨hm, ?_⟩
  split at h
  · cases h
  rename_i x e' σ' hr
  refine ⟨x, e', σ', hr, ?_⟩
  split at h
  · split at h
    · rename_i hs
      exact .inl ⟨rfl, hs, h⟩
    · cases h
  · rename_i v
    simp only [Option.some.injEq] at h
    exact .inr ⟨v, rfl, h.symm⟩
  · cases h
theorem makes_mem {e : Env} {σ : H} : ∀ {ms : List Op}, makes e σ ms = true → ∀ o ∈ ms, ∃ vs v σx, e.evs o.args = some vs ∧ prim o.p vs σ = some (v, σx)
  | [], _, o, ho => by cases ho
  | m :: ms, h, o, ho => by
    simp only [makes] at h
    split at h
    · cases h
    rename_i vs hv
    split at h
    · cases h
    rename_i x hp
    cases ho with
    | head => exact ⟨vs, x.1, x.2, hv, hp⟩
    | tail _ ho => exact makes_mem h o ho
theorem mapM_mem {α β : Type} {f : α → Option β} : ∀ {xs : List α} {ys : List β}, xs.mapM f = some ys → ∀ x ∈ xs, ∃ y ∈ ys, f x = some y
  | [], _, _, x, hx => by cases hx
  | z :: xs, ys, h, x, hx => by
    obtain ⟨y, r, h1, h2, rfl⟩ := mapM_cons_some h
    cases hx with
    | head => exact ⟨y, List.mem_cons_self, h1⟩
    | tail _ hx =>
      obtain ⟨u, hu, h3⟩ := mapM_mem h2 x hx
      exact ⟨u, List.mem_cons_of_mem _ hu, h3⟩

theorem one_some {i : Nat} {q : Op} (h : one P l i = some q) : ∃ o, l[i]? = some o ∧ compOper P l o = some q := by
  unfold one at h
  obtain ⟨o, h1, h2⟩ := Option.bind_eq_some_iff.1 h
  exact ⟨o, h1, h2⟩
theorem R.late {ι : Inj} {σ : H} {w : World} (h : R ι σ w) {b te elem esz : Nat} {c c' : List Value} (hb : w.heap[b]? = some (.cells ⟨c'⟩ te (0, 0))) (hc : VRs ι c c') (hf : ∀ A bk, ι A = some bk → bk.blk ≠ b) :
    R (ι.set σ.next ⟨b, 0, c.length, esz, 0, false⟩) (σ.push (.cells c elem esz .exact)) w := by
  have hs : Sub ι (ι.set σ.next ⟨b, 0, c.length, esz, 0, false⟩) := Inj.set_sub h.fresh
  refine h.bind _ _ rfl (Array.getElem?_eq_some_iff.1 hb).1 ⟨⟨c'⟩, (0, 0), te, hb, rfl, rfl, rfl, fun _ => rfl, fun _ => rfl, ?_, fun i v hv => ?_, fun _ => rfl⟩ (fun A oA bA _ _ hA => hf A bA hA)
  · show 0 + c.length + 0 * esz ≤ (⟨c'⟩ : Array Value).size
    have : c'.length = c.length := hc.length
    show _ ≤ c'.length
    omega
  · obtain ⟨v', h1, h2⟩ := hc.get i v hv
    refine ⟨v', ?_, h2.mono hs⟩
    rw [List.getElem?_toArray, Nat.zero_add]
    exact h1
theorem Ext.late {ι0 ι : Inj} {w0 w : World} (h : Ext ι0 w0 ι w) {A : Nat} {bk : Bk} (hA : ι A = none) (hro : bk.ro = false) (hb : w0.heap.size ≤ bk.blk) : Ext ι0 w0 (ι.set A bk) w := by
  refine ⟨h.sub.trans (Inj.set_sub hA), h.os, h.tape, h.output, h.size, h.keep, fun B b h0 h1 => ?_⟩
  unfold Inj.set at h1
  split at h1
  · cases h1
    exact ⟨hro, .inl hb⟩
  · exact h.new B b h0 h1
end
end AM
end Go.Proofs.YtlelihddjacplaaGreat
namespace Go.Proofs.YtlelihddjacplaaGreat
namespace AM
section
variable {P : Program} {l : List Oper} {N : Nat} {dsts : List Nat} {e0 : Env} {ι0 : Inj} {w0 : World} {O : Orc} {res : Ex × Env × H}

def Claim (P : Program) (l : List Oper) (N : Nat) (dsts : List Nat) (e0 : Env) (ι0 : Inj) (w0 : World) (O : Orc) (res : Ex × Env × H) (f n : Nat) : Prop :=
  ∀ (r : Plan) (q : List Nat) (eo : Option Nat) (s : Seg) (ss : List Seg) (rsI : List (Nat × Nat)) (listed : Array Bool) (T : Con) (rs : List AM.Read) (M : List (Nat × Nat)) (e : Env) (σ : H) (ι : Inj) (a : Act) (w : World) (fuel : Nat),
    r.length ≤ n → SegRel P l q eo r s ss rsI → planB P l f (hitems q eo r) listed = true → onceB (hitems q eo r) = true → cnt (hitems q eo r) listed ≤ fuel →
    Inv P l N dsts e0 ι0 w0 (hitems q eo r) listed T rsI rs M e σ ι a w → runSegs O e0 dsts (s :: ss) rs e σ = some res → wpAnyT P l.toArray (Post ι0 w0 N res) fuel T listed a w

theorem once_cons {x : Bool × Nat} {items : List (Bool × Nat)} (h : onceB (x :: items) = true) : (∀ y ∈ items, y.2 ≠ x.2) ∧ onceB items = true := by
  simp only [onceB, Bool.and_eq_true, Bool.not_eq_true', List.any_eq_false] at h
  exact ⟨fun y hy e => h.1 y hy (by rw [nbeq, decide_eq_true e]), h.2⟩
theorem Inv.more {items : List (Bool × Nat)} {listed : Array Bool} {T : Con} {rsI rsF : List (Nat × Nat)} {rs : List AM.Read} {M : List (Nat × Nat)} {e : Env} {σ : H} {ι : Inj} {a : Act} {w : World} (h : Inv P l N dsts e0 ι0 w0 items listed T rsI rs M e σ ι a w) (hs : ∀ x ∈ rsI, x ∈ rsF) :
    Inv P l N dsts e0 ι0 w0 items listed T rsF rs M e σ ι a w :=
  ⟨h.r, h.x, h.env, h.env0, h.dfr, h.dfr0, h.size, h.down, fun p hp => (h.cover p hp).imp id fun ⟨r, h1, h2, h3⟩ => ⟨r, h1, hs _ h2, h3⟩, h.now, h.late, h.adv, h.early, h.inM, h.known, h.uniq⟩
def extra (i : Nat) (q : Op) : List (Nat × Nat) := match readsHeap q.p with
  | true => q.dst.toList.map (i, ·)
  | false => []
theorem reads_cons (i : Nat) (q : Op) (z : List (Nat × Op)) : reads ((i, q) :: z) = extra i q ++ reads z := by
  unfold reads extra
  rw [List.filterMap_cons]
  cases readsHeap q.p with
  | false => rfl
  | true => cases q.dst <;> rfl
theorem getD_f {listed : Array Bool} {i : Nat} (h : i < listed.size) (h2 : listed.getD i false = false) : listed.getD i true = false := by
  simp [h] at h2 ⊢; exact h2

theorem claim_step (T0 : Tables P) (hO : CallsOK P O) (hS : Slots P l N dsts) (hsel : Region.noSelect l.toArray = true)
    (hclose : ∀ (d : Option Nat) v c a w, (∀ k, d = some k → k ∈ dsts) → Post ι0 w0 N res (.panic c) (a.put d v) w → Post ι0 w0 N res (.panic c) a w)
    (f n : Nat) (hf : ∀ f' < f, ∀ n, Claim P l N dsts e0 ι0 w0 O res f' n) (hn : ∀ n' < n, Claim P l N dsts e0 ι0 w0 O res f n') : Claim P l N dsts e0 ι0 w0 O res f n := by
  intro r q eo s ss rsI listed T rs M e σ ι a w fuel hrn hseg hB honce hcnt h hrun
  have hsz : listed.size = l.toArray.size := h.down.1
  have hselS := Region.noSelect_spec hsel
  cases q with
  | cons i q =>
    -- what is quiet
    have hit : hitems (i :: q) eo r = (true, i) :: hitems q eo r := rfl
    rw [hit] at hB honce hcnt h
    cases f with
    | zero => simp [planB] at hB
    | succ f =>
      simp only [planB, Bool.and_eq_true] at hB
      obtain ⟨⟨hr, hfree⟩, hB⟩ := hB
      have hr' : i ∈ Region.ready .any l.toArray listed := by simpa using hr
      obtain ⟨hun, oi, hoi, _⟩ := mem_ready.1 hr'
      have hilt : i < listed.size := by rw [hsz]; exact (Array.getElem?_eq_some_iff.1 hoi).1
      obtain ⟨ho1, ho2⟩ := once_cons honce
      obtain ⟨sq, se, schk, smob⟩ := s
      obtain ⟨hq, hall, hrest⟩ := hseg
      obtain ⟨q0, qs, hq0, hqs, hsq⟩ := mapM_cons_some hq
      simp only at hsq hall hrest
      subst hsq
      simp only [List.all_cons, Bool.and_eq_true] at hall
      obtain ⟨o', ho', hc⟩ := one_some hq0
      have : o' = oi := by
        rw [List.getElem?_toArray] at hoi
        exact Option.some.inj (ho'.symm.trans hoi)
      subst this
      obtain ⟨hcp, hlt, hdl, hdst, hg⟩ := compOper_some hc
      have henv := h.envR
      obtain ⟨hev, hwv⟩ := h.evs (.inl rfl) hq0
      have hfu := cnt_lt (b := true) (getD_t hun) hilt (items := (true, i) :: hitems q eo r) List.mem_cons_self
      rw [cnt_skip (getD_set_self hilt)] at hfu
      dsimp only at hfu
      obtain ⟨fuel, rfl⟩ : ∃ k, fuel = k + 1 := ⟨fuel - 1, by omega⟩
      have hdd : ∀ k, o'.dst = some k → k ∈ dsts := fun k hk => hS.dst i q0 hq0 k (by rw [hdst]; exact hk)
      have hseg' : ∀ rsI', (∀ x ∈ extra i q0 ++ rsI, x ∈ rsI') → (∀ x ∈ rsI', x ∈ extra i q0 ++ rsI) → SegRel P l q eo r ⟨qs, se, schk, smob⟩ ss rsI' := by
        intro rsI' _ hsub
        have hin : ∀ x ∈ reads (q.zip qs) ++ rsI', x ∈ reads ((i :: q).zip (q0 :: qs)) ++ rsI := by
          intro x hx
          rw [List.zip_cons_cons, reads_cons]
          rcases List.mem_append.1 hx with hx | hx
          · exact List.mem_append_left _ (List.mem_append_right _ hx)
          · rcases List.mem_append.1 (hsub x hx) with hx | hx
            · exact List.mem_append_left _ (List.mem_append_left _ hx)
            · exact List.mem_append_right _ hx
        refine ⟨hqs, hall.2, ?_⟩
        rcases hrest with ⟨h1, h2, rsF, h3, h4⟩ | ⟨k, o, rsF, h1, h2, h3, h4, h5, h6⟩
        · exact .inl ⟨h1, h2, rsF, fun x hx => h3 x (hin x hx), h4⟩
        · exact .inr ⟨k, o, rsF, h1, h2, h3, h4, fun x hx => h5 x (hin x hx), h6⟩
      have hlate : ∀ jb ∈ M, waits l.toArray i jb.1 = false := fun jb hjb => waits_listed h.down (h.inM jb hjb).2 hun
      -- taken first
      have take : ∀ (S : World → Prop) (v v' : Value) (rs' : List AM.Read), YieldsIf P l.toArray S o' v' a → S w → VR ι v v' → (∀ r ∈ rs, r ∈ rs') →
          ((∀ w, S w) ∨ ∃ r ∈ rs', (i, r.d) ∈ extra i q0 ++ rsI ∧ ReadOK P l ι (i, S) r) → runSegs O e0 dsts (⟨qs, se, schk, smob⟩ :: ss) rs' (e.put q0.dst v) σ = some res → wpAnyT P l.toArray (Post ι0 w0 N res) (fuel + 1) T listed a w := by
        intro S v v' rs' hy hSw hvr hrs hcov hrun'
        refine wpAnyT_first hoi hselS (fun c a w => hclose _ _ c a w hdd) fuel T listed a w h.down (Region.free_spec hoi hfree) hr' hy hSw h.now ?_
        rw [← hdst]
        refine hf f (Nat.lt_succ_self f) r.length r q eo ⟨qs, se, schk, smob⟩ ss (extra i q0 ++ rsI) (listed.setIfInBounds i true) ((i, S) :: T) rs' M (e.put q0.dst v) σ ι (a.put q0.dst v') w fuel (Nat.le_refl _)
          (hseg' _ (fun x hx => hx) (fun x hx => hx)) hB ho2 (by omega) ?_ hrun'
        refine h.step hS ho1 (.inl rfl) hq0 (Ext.refl _ _) h.r hvr (h.down.set hr') ?_ ?_ ?_
        · intro p hp
          cases hp with
          | head => exact hcov
          | tail _ hp => exact (h.cover p hp).imp id fun ⟨r, h1, h2, h3⟩ => ⟨r, hrs r h1, List.mem_append_right _ h2, h3⟩
        · intro p hp
          cases hp with
          | head => exact hSw
          | tail _ hp => exact h.now p hp
        · intro p hp
          cases hp with
          | head => exact hlate
          | tail _ hp => exact h.late p hp
      rcases runSegs_q hrun with ⟨hw, hrun'⟩ | ⟨hw, vs, v, σx, hv, hqp, hp, hrun'⟩
      · exact take (fun _ => True) _ undef rs (.inr ⟨wanted_eq hc henv (hwv.trans hw), rfl⟩) trivial undef_VR (fun _ h => h) (.inl fun _ => trivial) hrun'
      · have hwant := wanted_eq hc henv (hwv.trans hw)
        have hv' := hev.trans hv
        cases hl : looks q0.p with
        | true =>
          obtain ⟨⟨v', h1, h2⟩, rfl⟩ := read_sound T0 hcp hl hlt henv hv' h.r hp
          rcases hrun' with ⟨hrh, hrun'⟩ | ⟨hrh, _⟩
          · refine take (fun w => (execOp a.eval o').run P w = .ok (.value v') w) v v' _ (.inl ⟨hwant, fun w hw => hw⟩) h1 h2 (fun r hr => List.mem_cons_of_mem _ hr) (.inr ⟨_, List.mem_cons_self, ?_, ?_⟩) hrun'
            · have hds := hall.1.2
              rw [hrh] at hds
              simp only [Bool.not_true, Bool.false_or] at hds
              obtain ⟨d, hd⟩ := Option.isSome_iff_exists.1 hds
              refine List.mem_append_left _ ?_
              unfold extra
              rw [hrh, hd]
              simp
            · exact ⟨o', q0.args, _, a, v', ho', hcp, hlt, henv, hv', hl, h2, fun w hw => hw⟩
          · rw [looks_eq, hl] at hrh; cases hrh
        | false =>
          obtain ⟨⟨v', h1, h2⟩, rfl⟩ := quiet_sound T0 hcp hqp hl hlt henv hv' h.r hp
          rcases hrun' with ⟨hrh, _⟩ | ⟨hrh, hrun'⟩
          · rw [looks_eq, hl] at hrh; cases hrh
          · exact take (fun _ => True) v v' rs (.inl ⟨hwant, fun w _ => h1 w⟩) trivial h2 (fun _ h => h) (.inl fun _ => trivial) hrun'
  | nil =>
    cases eo with
    | none =>
      have hit : hitems [] none r = Plan.items r := rfl
      obtain ⟨sq, se, schk, smob⟩ := s
      obtain ⟨hq, _, hrest⟩ := hseg
      simp at hq
      subst hq
      rcases hrest with ⟨_, hse, rsF, h3, h4⟩ | ⟨k, o, rsF, h1, _⟩
      case inr => cases h1
      simp only at hse
      subst hse
      have hrun := runSegs_none hrun
      cases r with
      | nil =>
        simp only [compSegs, Option.some.injEq] at h4
        subst h4
        have hit : hitems [] none [] = [] := rfl
        rw [hit] at hB h
        simp only [runSegs, Option.some.injEq] at hrun
        subst hrun
        have hr0 : Region.ready .any l.toArray listed = [] := by
          cases f <;> simpa [planB] using hB
        have hM : M = [] := by
          cases M with
          | nil => rfl
          | cons x M =>
            have := (h.inM x List.mem_cons_self).1
            cases this
        subst hM
        refine wpAnyT_done hr0 ⟨ι, h.x, h.r, trivial, ⟨fun t v hv hlt => h.env t v hv hlt (by simp [mds]), h.dfr, h.size⟩⟩ fuel T
      | cons x r =>
        obtain ⟨q, eo, r', s', ss', e1, e2, e3, _, e5⟩ := segs_next h4
        have hlt := e3 (by simp)
        rw [hit, ← e1] at hB honce hcnt h
        refine hn r'.length (by omega) r' q eo s' ss' rsF listed T rs M e σ ι a w fuel (Nat.le_refl _) e2 hB honce hcnt (h.more fun x hx => h3 x (List.mem_append_right _ hx)) (by rw [e5]; exact hrun)
    | some i =>
      have hit : hitems [] (some i) r = (false, i) :: Plan.items r := rfl
      rw [hit] at hB honce hcnt h
      have hseg0 := hseg
      obtain ⟨sq, se, schk, smob⟩ := s
      obtain ⟨hq, _, hrest⟩ := hseg
      simp at hq
      subst hq
      rcases hrest with ⟨h1, _⟩ | ⟨k, o, rsF, h1, hse, ho, hdef, h5, hchk, hmob, h6⟩
      · cases h1
      cases h1
      simp only at hse hchk hmob
      subst hse
      obtain ⟨hmobOk, x, e1, σ1, hops, hcase⟩ := runSegs_e hrun
      obtain ⟨ho1, ho2⟩ := once_cons honce
      have h5' : ∀ x ∈ rsI, waits l.toArray x.1 i = false → x ∈ rsF := fun x hx => h5 x (List.mem_append_right _ hx)
      have hkeep : ∀ p ∈ T, waits l.toArray p.1 i = false → (∀ w, p.2 w) ∨ ∃ r ∈ keepR schk rs, (p.1, r.d) ∈ rsF ∧ ReadOK P l ι p r := by
        intro p hp hw
        refine (h.cover p hp).imp id fun ⟨r, g1, g2, g3⟩ => ?_
        have := h5' _ g2 hw
        refine ⟨r, keepR_mem g1 ?_, this, g3⟩
        rw [hchk]
        exact List.mem_map.2 ⟨_, this, rfl⟩
      obtain ⟨q2, eo2, r2, s2, ss2, e1', e2', _, _, e5'⟩ := segs_next h6
      cases f with
      | zero => simp [planB] at hB
      | succ f =>
        simp only [planB] at hB
        by_cases hl : listed.getD i false = true
        · -- made early
          rw [if_pos hl] at hB
          obtain ⟨b, hb⟩ := h.known i List.mem_cons_self hl
          obtain ⟨qj, d, vs, c, c', te, elem, esz, mk, hA⟩ := h.adv (i, b) hb
          have hqo : qj = o := Option.some.inj (hA.op.symm.trans ho)
          subst hqo
          have hres : x = .normal ∧ e1 = e.put qj.dst (mk σ.next) ∧ σ1 = σ.push (.cells c elem esz .exact) := by
            rcases regs_cons hops with ⟨hw, _⟩ | ⟨hw, vs2, hv2, ⟨hk, _⟩ | ⟨hk, rr, σ2, hstep, hrest⟩⟩
            · rw [hA.guard] at hw; cases hw
            · rw [hA.kind] at hk; cases hk
            · have := hA.args.symm.trans hv2
              cases this
              simp only [step, hA.kind, sPrim, hA.prim, Option.some.injEq, Prod.mk.injEq] at hstep
              obtain ⟨rfl, rfl⟩ := hstep
              rcases hrest with ⟨v, hv, hrun2⟩ | ⟨v, hv, _⟩
              · cases hv
                simp only [runOps, Option.some.injEq, Prod.mk.injEq] at hrun2
                exact ⟨hrun2.1.symm, hrun2.2.1.symm, hrun2.2.2.symm⟩
              · cases hv
          obtain ⟨rfl, rfl, rfl⟩ := hres
          rcases hcase with ⟨_, hst, hrun2⟩ | ⟨v, hv, _⟩
          case inr => cases hv
          have hM1 : ∀ jb ∈ M.filter (fun y => y.1 != i), jb ∈ M ∧ jb.1 ≠ i := fun jb hjb => by
            obtain ⟨g1, g2⟩ := List.mem_filter.1 hjb
            exact ⟨g1, by simpa using g2⟩
          have hApos : σ.next ≠ 0 := by have := h.r.pos; omega
          have hset := Inj.set_same ι σ.next ⟨b, 0, c.length, esz, 0, false⟩
          have hsub : Sub ι (ι.set σ.next ⟨b, 0, c.length, esz, 0, false⟩) := Inj.set_sub h.r.fresh
          have hdd := hS.dst i qj ho d hA.dst
          have hInv : Inv P l N dsts e0 ι0 w0 (Plan.items r) listed T rsF (keepR schk rs) (M.filter fun y => y.1 != i) (e.put qj.dst (mk σ.next)) (σ.push (.cells c elem esz .exact)) (ι.set σ.next ⟨b, 0, c.length, esz, 0, false⟩) a w := by
            refine ⟨h.r.late hA.heap hA.cells hA.free, h.x.late h.r.fresh rfl hA.new, fun t v hv hlt hm => ?_, h.env0.mono hsub, ?_, h.dfr0.mono hsub, h.size, h.down, fun p hp => ?_, h.now, fun p hp jb hjb => h.late p hp jb (hM1 jb hjb).1, fun jb hjb => ?_, fun jb hjb => ?_, fun jb hjb => ?_, fun j hj hjl => ?_, fun x hx y hy => h.uniq x (hM1 x hx).1 y (hM1 y hy).1⟩
            · rw [Env.get_put, hA.dst] at hv
              split at hv
              · rename_i hd
                cases hd
                cases hv
                exact ⟨mk b, hA.slot, hA.mkc.vr hApos hset⟩
              · rename_i hd
                obtain ⟨v', g1, g2⟩ := h.env t v hv hlt (fun hm2 => by
                  obtain ⟨jb, k1, q3, k2, k3⟩ := mem_mds.1 hm2
                  refine hm (mem_mds.2 ⟨jb, List.mem_filter.2 ⟨k1, ?_⟩, q3, k2, k3⟩)
                  simp only [bne_iff_ne, ne_eq]
                  intro hji
                  rw [hji, ho] at k2
                  cases k2
                  rw [hA.dst] at k3
                  exact hd k3)
                exact ⟨v', g1, g2.mono hsub⟩
            · refine (h.dfr.of_get ?_).mono hsub
              rw [Env.get_put, hA.dst, if_neg]
              intro hd
              cases hd
              have := (hS.lt _ hdd).2
              omega
            · exact (hkeep p hp (h.late p hp (i, b) hb)).imp id fun ⟨r, g1, g2, g3⟩ => ⟨r, g1, g2, g3.mono hsub⟩
            · obtain ⟨hjM, hji⟩ := hM1 jb hjb
              obtain ⟨q3, d3, vs3, c3, c3', te3, el3, es3, mk3, hA3⟩ := h.adv jb hjM
              have hne : jb.2 ≠ b := fun e => hji (by have := h.uniq jb hjM (i, b) hb (.inr e); rw [this])
              obtain ⟨_, g1, g2, g3, g4⟩ := apartQ_spec (okEarly_head (b := false) (.inr (Ne.symm hji)) (h.early jb hjM) hA3.op ho)
              refine ⟨q3, d3, vs3, c3, c3', te3, el3, es3, mk3, hA3.op, hA3.guard, hA3.dst, hA3.kind, ?_, hA3.prim, hA3.mkc, hA3.slot, hA3.heap, hA3.cells.mono hsub, fun A bk hAb => ?_, hA3.new⟩
              · rw [← hA3.args]
                refine evs_congr fun t ht => ?_
                rw [Env.get_put, if_neg]
                intro hd
                exact g4 t hd (slots_args ht)
              · unfold Inj.set at hAb
                split at hAb
                · cases hAb; exact Ne.symm hne
                · exact hA3.free A bk hAb
            · obtain ⟨hjM, hji⟩ := hM1 jb hjb
              exact okEarly_tail (.inr (Ne.symm hji)) (h.early jb hjM)
            · obtain ⟨hjM, hji⟩ := hM1 jb hjb
              obtain ⟨g1, g2⟩ := h.inM jb hjM
              refine ⟨?_, g2⟩
              cases g1 with
              | head => exact absurd rfl hji
              | tail _ g => exact g
            · obtain ⟨b2, hb2⟩ := h.known j (List.mem_cons_of_mem _ hj) hjl
              exact ⟨b2, List.mem_filter.2 ⟨hb2, by simpa using ho1 _ hj⟩⟩
          rw [cnt_skip hl] at hcnt
          rw [← e1'] at hB ho2 hcnt hInv
          exact hf f (Nat.lt_succ_self f) r2.length r2 q2 eo2 s2 ss2 rsF listed T (keepR schk rs) _ _ _ _ a w fuel (Nat.le_refl _) e2' hB ho2 hcnt hInv (by rw [e5']; exact hrun2)
        · -- it is its turn, or something is made early
          rw [if_neg hl] at hB
          simp only [Bool.and_eq_true] at hB
          obtain ⟨hr, hall⟩ := hB
          have hr' : i ∈ Region.ready .any l.toArray listed := by simpa using hr
          have hl' : listed.getD i false = false := by simpa using hl
          obtain ⟨hun, oi, hoi, _⟩ := mem_ready.1 hr'
          have hilt : i < listed.size := by rw [hsz]; exact (Array.getElem?_eq_some_iff.1 hoi).1
          have hfu := cnt_lt (b := false) hl' hilt (items := (false, i) :: Plan.items r) List.mem_cons_self
          rw [cnt_skip (getD_set_self hilt)] at hfu
          dsimp only at hfu
          obtain ⟨fuel, rfl⟩ : ∃ k, fuel = k + 1 := ⟨fuel - 1, by omega⟩
          refine ⟨fun h0 => (by rw [h0] at hr'; cases hr'), fun j hj => ?_⟩
          have hallj := List.all_eq_true.1 hall j hj
          by_cases hji : j = i
          · -- the effect
            subst hji
            simp only [beq_self_eq_true, if_true] at hallj
            obtain ⟨o', ho', hc⟩ := one_some ho
            have : o' = oi := by
              rw [List.getElem?_toArray] at hoi
              exact Option.some.inj (ho'.symm.trans hoi)
            subst this
            obtain ⟨hcp, hlt, hdl, hdst, hg⟩ := compOper_some hc
            have henv := h.envR
            obtain ⟨hev, hwv⟩ := h.evs (.inr hl') ho
            have after : ∀ (v v' : Value) (ι' : Inj) (w' : World) (σ' : H), Ext ι w ι' w' → R ι' σ' w' → VR ι' v v' → still σ' (keepR schk rs) = true → runSegs O e0 dsts ss (keepR schk rs) (e.put o.dst v) σ' = some res →
                (∀ p ∈ past l.toArray j T, p.2 w') ∧ wpAnyT P l.toArray (Post ι0 w0 N res) fuel (past l.toArray j T) (listed.setIfInBounds j true) (a.put o'.dst v') w' := by
              intro v v' ι' w' σ' hx hR hvr hst hrun2
              have hnow : ∀ p ∈ past l.toArray j T, p.2 w' := fun p hp => by
                rcases hkeep p (past_sub hp) (past_not hp) with g | ⟨r, g1, g2, g3⟩
                · exact g w'
                · exact g3.still T0 hx.sub hR hst g1
              refine ⟨hnow, ?_⟩
              have hInv := h.step hS ho1 (.inr hl') ho hx hR hvr (T' := past l.toArray j T) (rsI' := rsF) (rs' := keepR schk rs) (h.down.set hr')
                (fun p hp => (hkeep p (past_sub hp) (past_not hp)).imp id fun ⟨r, g1, g2, g3⟩ => ⟨r, g1, g2, g3.mono hx.sub⟩) hnow (fun p hp => h.late p (past_sub hp))
              have hcnt2 : cnt (Plan.items r) (listed.setIfInBounds j true) ≤ fuel := by omega
              rw [← e1'] at hallj ho2 hcnt2 hInv
              rw [← hdst]
              exact hf f (Nat.lt_succ_self f) r2.length r2 q2 eo2 s2 ss2 rsF _ _ (keepR schk rs) M _ σ' ι' _ w' fuel (Nat.le_refl _) e2' hallj ho2 hcnt2 hInv (by rw [e5']; exact hrun2)
            unfold wpOp
            rw [hoi]
            simp only
            rcases regs_cons hops with ⟨hw, hrun2⟩ | ⟨hw, vs, hv, ⟨hk, _⟩ | ⟨hk, rr, σ2, hstep, hrest⟩⟩
            · rw [if_neg (by rw [wanted_eq hc henv (hwv.trans hw)]; simp)]
              simp only [runOps, Option.some.injEq, Prod.mk.injEq] at hrun2
              obtain ⟨rfl, rfl, rfl⟩ := hrun2
              rcases hcase with ⟨_, hst, hrun3⟩ | ⟨v, hv, _⟩
              · exact after _ _ ι w _ (Ext.refl _ _) h.r undef_VR hst hrun3
              · cases hv
            · unfold isDefer at hdef
              rw [hk] at hdef; cases hdef
            · rw [if_pos (wanted_eq hc henv (hwv.trans hw))]
              refine .inl (op_wp T0 hO hcp hk hlt henv (hev.trans hv) h.r hstep (fun v v' ι' w' hv1 hx hR hvr => ?_) (fun v v' ι' w' hv1 hx hR hvr => ?_))
              · subst hv1
                rcases hrest with ⟨v2, hv2, hrun2⟩ | ⟨v2, hv2, _⟩
                · cases hv2
                  simp only [runOps, Option.some.injEq, Prod.mk.injEq] at hrun2
                  obtain ⟨rfl, rfl, rfl⟩ := hrun2
                  rcases hcase with ⟨_, hst, hrun3⟩ | ⟨v, hv, _⟩
                  · exact after _ _ ι' w' _ hx hR hvr hst hrun3
                  · cases hv
                · cases hv2
              · subst hv1
                rcases hrest with ⟨v2, hv2, _⟩ | ⟨v2, hv2, hrun2⟩
                · cases hv2
                · cases hv2
                  simp only [Prod.mk.injEq] at hrun2
                  obtain ⟨rfl, rfl, rfl⟩ := hrun2
                  rcases hcase with ⟨hv, _⟩ | ⟨v2, hv, rfl⟩
                  · cases hv
                  · cases hv
                    refine ⟨ι', h.x.trans hx, hR, ⟨v', rfl, hvr⟩, ⟨h.env0.mono hx.sub, ?_, h.size⟩⟩
                    refine (h.dfr0.of_get ?_).mono hx.sub
                    rw [dropD_get, if_neg]
                    intro hd
                    have := (hS.lt _ hd).2
                    omega
          · -- memory made early
            have hje : (j == i) = false := by simpa using hji
            simp only [hje, Bool.false_eq_true, if_false, Bool.and_eq_true] at hallj
            obtain ⟨⟨⟨hmb, hcon⟩, hoke⟩, hB⟩ := hallj
            have hcon' : (false, j) ∈ Plan.items r := by simpa using hcon
            obtain ⟨oj, hoj, hgd, ⟨d, hd⟩, hop⟩ := mobile_some hmb
            obtain ⟨hjun, _, _, _⟩ := mem_ready.1 hj
            have hw0 := waits_ready h.down hj hun |> fun _ => waits_ready (i := i) h.down hj hun
            have hjm : j ∈ mobs P l i (Plan.items r) := List.mem_map.2 ⟨(false, j), List.mem_filter.2 ⟨hcon', by simp [hmb, hw0, hoke]⟩, rfl⟩
            obtain ⟨qj, hqm, hqj⟩ := mapM_mem hmob j hjm
            obtain ⟨oj', hoj', hc⟩ := one_some hqj
            have : oj' = oj := Option.some.inj (hoj'.symm.trans hoj)
            subst this
            obtain ⟨hcp, hlt, hdl, hdst, hg⟩ := compOper_some hc
            have hgq : qj.guard = none := by
              rcases hg with ⟨_, g⟩ | ⟨_, _, _, g, _⟩
              · exact g
              · rw [hgd] at g; cases g
            have hmo : still σ rs = true ∧ makes e σ smob = true := by
              cases smob with
              | nil => cases hqm
              | cons m ms => simpa [mobOk] using hmobOk
            obtain ⟨vs, v, σx, hv, hp⟩ := makes_mem hmo.2 qj hqm
            have hjl : listed.getD j false = false := getD_t hjun
            have hMj : ∀ jb ∈ M, jb.1 ≠ j := fun jb hjb e => by
              have := (h.inM jb hjb).2
              rw [e, hjl] at this; cases this
            have hev : (dropD (mds P l M) e).evs qj.args = e.evs qj.args := evs_congr fun t ht => by
              rw [dropD_get, if_neg]
              intro hm
              obtain ⟨jb, k1, q3, k2, k3⟩ := mem_mds.1 hm
              exact (okEarly_fresh hoke (h.inM jb k1).1 (hMj jb k1) hqj k2 k3).1 (slots_args ht)
            obtain ⟨hkind, c, c', te, elem, esz, mk, hprim, hmk, hrunj, hcells⟩ := mob_run (P := P) (o := oj') hop hcp hlt h.envR (hev.trans hv) hp
            unfold wpOp
            rw [List.getElem?_toArray, hoj]
            simp only
            have hwant : Region.wanted oj' (yielded l.toArray a.tmps) = true := by simp [Region.wanted, hgd]
            rw [if_pos hwant]
            refine .inl ?_
            unfold Oper.wp
            rw [hrunj w]
            simp only [Oper.upon]
            have hR1 := h.r.garbage (.cells ⟨c'⟩ te)
            have hnow : ∀ p ∈ past l.toArray j T, p.2 (w.alloc (.cells ⟨c'⟩ te)) := fun p hp => by
              rcases h.cover p (past_sub hp) with g | ⟨r, g1, g2, g3⟩
              · exact g _
              · exact g3.still T0 (Sub.refl _) hR1 hmo.1 g1
            refine ⟨hnow, ?_⟩
            have hjlt : j < listed.size := by
              rcases Nat.lt_or_ge j listed.size with h' | h'
              · exact h'
              · simp [Array.getElem?_eq_none h'] at hjun
            have hfu2 := cnt_lt (b := false) hjl hjlt (items := (false, i) :: Plan.items r) (List.mem_cons_of_mem _ hcon')
            have hdd := hS.dst j qj hqj d (by rw [hdst]; exact hd)
            have hdN := hS.lt d hdd
            have hds : d < a.tmps.size := by rw [h.size]; exact hdN.1
            have hxa := Ext.alloc ι w (.cells ⟨c'⟩ te)
            have hInv : Inv P l N dsts e0 ι0 w0 ((false, i) :: Plan.items r) (listed.setIfInBounds j true) (past l.toArray j T) rsI rs ((j, w.heap.size) :: M) e σ ι (a.put oj'.dst (mk w.heap.size)) (w.alloc (.cells ⟨c'⟩ te)) := by
              refine ⟨hR1, h.x.trans hxa, fun t v hv hlt hm => ?_, fun t u hu hlt => ?_, ?_, ?_, ?_, h.down.set hj, fun p hp => h.cover p (past_sub hp), hnow, fun p hp jb hjb => ?_, fun jb hjb => ?_, fun jb hjb => ?_, fun jb hjb => ?_, fun j2 hj2 hl2 => ?_, fun x hx y hy hxy => ?_⟩
              · obtain ⟨v', g1, g2⟩ := h.env t v hv hlt (fun hm2 => hm (by
                  obtain ⟨jb, k1, k2⟩ := mem_mds.1 hm2
                  exact mem_mds.2 ⟨jb, List.mem_cons_of_mem _ k1, k2⟩))
                refine ⟨v', ?_, g2⟩
                rw [put_tmps_ne]
                · exact g1
                · intro he
                  exact hm (mem_mds.2 ⟨_, List.mem_cons_self, qj, hqj, by rw [hdst]; exact he⟩)
              · obtain ⟨u', g1, g2⟩ := h.env0 t u hu hlt
                refine ⟨u', ?_, g2⟩
                rw [put_tmps_ne]
                · exact g1
                · intro he
                  rw [hd] at he
                  cases he
                  rw [dropD_get, if_pos hdd] at hu
                  cases hu
              · rw [Act.put_dfr]; exact h.dfr
              · rw [Act.put_dfr]; exact h.dfr0
              · rw [Act.put_size]; exact h.size
              · cases hjb with
                | head => exact past_not hp
                | tail _ hjb => exact h.late p (past_sub hp) jb hjb
              · cases hjb with
                | head =>
                  refine ⟨qj, d, vs, c, c', te, elem, esz, mk, hqj, hgq, by rw [hdst]; exact hd, hkind, hv, hprim, hmk, ?_, heap_alloc_new _ _, hcells, fun A bk hA => ?_, h.x.size⟩
                  · rw [hd]; simp [Act.put, hds]
                  · have := h.r.blt A bk hA
                    show bk.blk ≠ w.heap.size
                    omega
                | tail _ hjb =>
                  obtain ⟨q3, d3, vs3, c3, c3', te3, el3, es3, mk3, hA3⟩ := h.adv jb hjb
                  have hb : jb.2 < w.heap.size := (Array.getElem?_eq_some_iff.1 hA3.heap).1
                  obtain ⟨k1, k2⟩ := keep_free hxa hb hA3.free
                  refine ⟨q3, d3, vs3, c3, c3', te3, el3, es3, mk3, hA3.op, hA3.guard, hA3.dst, hA3.kind, hA3.args, hA3.prim, hA3.mkc, ?_, k1.trans hA3.heap, hA3.cells, k2, hA3.new⟩
                  rw [put_tmps_ne]
                  · exact hA3.slot
                  · rw [← hdst]
                    exact (okEarly_fresh hoke (h.inM jb hjb).1 (hMj jb hjb) hqj hA3.op hA3.dst).2
              · cases hjb with
                | head => exact hoke
                | tail _ hjb => exact h.early jb hjb
              · cases hjb with
                | head => exact ⟨List.mem_cons_of_mem _ hcon', getD_set_self hjlt⟩
                | tail _ hjb => exact ⟨(h.inM jb hjb).1, getD_set_true (h.inM jb hjb).2⟩
              · by_cases hj2j : j = j2
                · subst hj2j; exact ⟨_, List.mem_cons_self⟩
                · rw [getD_set_ne' hj2j] at hl2
                  obtain ⟨b, hb⟩ := h.known j2 hj2 hl2
                  exact ⟨b, List.mem_cons_of_mem _ hb⟩
              · have hlt : ∀ y ∈ M, y.2 < w.heap.size := fun y hy => by
                  obtain ⟨_, _, _, _, _, _, _, _, _, hA3⟩ := h.adv y hy
                  exact (Array.getElem?_eq_some_iff.1 hA3.heap).1
                cases hx with
                | head =>
                  cases hy with
                  | head => rfl
                  | tail _ hy =>
                    rcases hxy with e | e
                    · exact absurd e.symm (hMj y hy)
                    · have := hlt y hy
                      have e2 : w.heap.size = y.2 := e
                      omega
                | tail _ hx =>
                  cases hy with
                  | head =>
                    rcases hxy with e | e
                    · exact absurd e (hMj x hx)
                    · have := hlt x hx
                      have e2 : x.2 = w.heap.size := e
                      omega
                  | tail _ hy => exact h.uniq x hx y hy hxy
            exact hf f (Nat.lt_succ_self f) r.length r [] (some i) ⟨[], some o, schk, smob⟩ ss rsI _ _ rs _ e σ ι _ _ fuel (Nat.le_refl _) hseg0 hB honce (by rw [hit]; omega) hInv hrun
end
end AM
end Go.Proofs.YtlelihddjacplaaGreat
namespace Go.Proofs.YtlelihddjacplaaGreat
namespace AM
section
variable {P : Program} {O : Orc}

theorem claim_all {l : List Oper} {N : Nat} {dsts : List Nat} {e0 : Env} {ι0 : Inj} {w0 : World} {res : Ex × Env × H} (T0 : Tables P) (hO : CallsOK P O) (hS : Slots P l N dsts) (hsel : Region.noSelect l.toArray = true)
    (hclose : ∀ (d : Option Nat) v c a w, (∀ k, d = some k → k ∈ dsts) → Post ι0 w0 N res (.panic c) (a.put d v) w → Post ι0 w0 N res (.panic c) a w) (f n : Nat) : Claim P l N dsts e0 ι0 w0 O res f n := by
  induction f using Nat.strongRecOn generalizing n with
  | _ f ihf =>
    induction n using Nat.strongRecOn with
    | _ n ihn => exact claim_step T0 hO hS hsel hclose f n (fun f' h n => ihf f' h n) ihn
theorem runQ_len {qs : List Op} {rs : List AM.Read} {e : Env} {σ : H} : True := trivial
theorem runSegs_panic {e0 : Env} {dsts : List Nat} {res : Ex × Env × H} : ∀ (ss : List Seg) (rs : List AM.Read) (e : Env) (σ : H), runSegs O e0 dsts ss rs e σ = some res → ∀ v, res.1 = .panic v → res.2.1 = dropD dsts e0
  | [], rs, e, σ, h, v, hv => by
    simp only [runSegs, Option.some.injEq] at h
    subst h; cases hv
  | s :: ss, rs, e, σ, h, v, hv => by
    simp only [runSegs] at h
    split at h
    · cases h
    · split at h
      · exact runSegs_panic ss _ _ _ h v hv
      · split at h
        · cases h
        · split at h
          · cases h
          · split at h
            · split at h
              · exact runSegs_panic ss _ _ _ h v hv
              · cases h
            · simp only [Option.some.injEq] at h
              subst h; rfl
            · cases h

theorem Post.of_ext {ι ι1 : Inj} {w w1 : World} {N : Nat} {res : Ex × Env × H} (h : Ext ι w ι1 w1) {c : Go.Code} {a : Act} {wx : World} (hp : c.wp P (Post ι1 w1 N res) a wx) : c.wp P (Post ι w N res) a wx := wp_mono hp fun _ _ _ h2 => h2.trans h

theorem draw_wp (T0 : Tables P) (hO : CallsOK P O) {id : Nat} {l : List Oper} {pl : Plan} {b : AM.Code} {N : Nat} (hc : compReg P l true (some pl) = some b) (hok : okN N b = true) {e : Env} {a : Act} {σ : H} {w : World} {ι : Inj} {res : Ex × Env × H}
    (hs : StR N ι e a) (hr : R ι σ w) (h : denote O b e σ = some res) : (Go.Code.region id l.toArray true).wp P (Post ι w N res) a w := by
  simp only [compReg] at hc
  split at hc
  case isFalse => cases hc
  rename_i hchk
  simp only [Bool.and_eq_true, nble, decide_eq_true_eq] at hchk
  obtain ⟨⟨⟨hB, honce⟩, hlen⟩, hsel⟩ := hchk
  simp only [Option.bind_eq_bind] at hc
  obtain ⟨segs, hsegs, hc⟩ := Option.bind_eq_some_iff.1 hc
  simp only [Option.some.injEq] at hc
  subst hc
  simp only [denote] at h
  simp only [okN, List.all_eq_true, Bool.and_eq_true, nblt, decide_eq_true_eq] at hok
  have hS : Slots P l N (l.filterMap (·.dst)) := by
    refine ⟨fun k q hq d hd => ?_, hok⟩
    obtain ⟨o, ho, hco⟩ := one_some hq
    obtain ⟨_, _, _, hdst, _⟩ := compOper_some hco
    exact List.mem_filterMap.2 ⟨o, List.mem_of_getElem? ho, by rw [← hdst]; exact hd⟩
  obtain ⟨q, eo, r', s, ss', e1, e2, _, _, e5⟩ := segs_next hsegs
  have hrun : runSegs O e (l.filterMap (·.dst)) (s :: ss') [] e σ = some res := by rw [e5]; exact h
  have hclose : ∀ (d : Option Nat) v c a w2, (∀ k, d = some k → k ∈ l.filterMap (·.dst)) → Post ι w.drew N res (.panic c) (a.put d v) w2 → Post ι w.drew N res (.panic c) a w2 := by
    rintro d v c a w2 hd ⟨ι', h1, h2, h3, h4⟩
    refine ⟨ι', h1, h2, h3, ?_⟩
    have he : res.2.1 = dropD (l.filterMap (·.dst)) e := by
      cases hx : res.1 with
      | panic v => exact runSegs_panic _ _ _ _ h v hx
      | _ => rw [hx] at h3; exact h3.elim
    refine ⟨fun t u hu hlt => ?_, by have := h4.dfr; rwa [Act.put_dfr] at this, by have := h4.size; rwa [Act.put_size] at this⟩
    obtain ⟨u', g1, g2⟩ := h4.env t u hu hlt
    refine ⟨u', ?_, g2⟩
    rw [put_tmps_ne] at g1
    · exact g1
    · intro hdt
      rw [he, dropD_get, if_pos (hd t hdt)] at hu
      cases hu
  have hr1 : R ι σ w.drew := hr.same rfl
  have hl0 : ∀ j : Nat, (Array.replicate l.length false).getD j false = false := fun j => by
    rcases Nat.lt_or_ge j l.length with h | h
    · simp [h]
    · simp [h]
  have hInv : Inv P l N (l.filterMap (·.dst)) e ι w.drew pl.items (Array.replicate l.length false) [] [] [] [] e σ ι a w.drew := by
    refine ⟨hr1, Ext.refl _ _, fun t v hv hlt _ => hs.env t v hv hlt, fun t v hv hlt => ?_, hs.dfr, hs.dfr, hs.size, ⟨by simp, fun j oj _ hl => ?_⟩, fun p hp => (by cases hp), fun p hp => (by cases hp), fun p hp => (by cases hp), fun p hp => (by cases hp), fun p hp => (by cases hp), fun p hp => (by cases hp), fun j _ hl => ?_, fun p hp => (by cases hp)⟩
    · rw [dropD_get] at hv
      split at hv
      · cases hv
      · exact hs.env t v hv hlt
    · rw [hl0] at hl; cases hl
    · rw [hl0] at hl; cases hl
  have hcnt : cnt pl.items (Array.replicate l.length false) ≤ l.length := Nat.le_trans (List.length_filter_le _ _) hlen
  rw [← e1] at hB honce hInv hcnt
  have := claim_all T0 hO hS hsel hclose (2 * l.length) r'.length r' q eo s ss' [] (Array.replicate l.length false) [] [] [] e σ ι a w.drew l.length (Nat.le_refl _) e2 hB honce hcnt hInv hrun
  refine Post.of_ext (Ext.same (ι := ι) (w := w) (w' := w.drew) rfl rfl rfl rfl) (wp_region_any T0.mixed ?_)
  have h2 := wpAny_of_T _ _ _ _ _ this
  simpa using h2

/-! ### Loops -/
def LoopSt (P : Program) (c : Go.Code) (Q : Exit → Act → World → Prop) (a : Act) (w : World) : Prop :=
  ∀ (b : Frame) (k : List Item) (cs : List Frame), ∃ e a' w', Q e a' w' ∧ Arrives P (lone (b.at a (.code c :: .inLoop c :: k)) cs w) b k cs e a' w'
theorem LoopSt.wp {c : Go.Code} {Q : Exit → Act → World → Prop} {a : Act} {w : World} (h : LoopSt P c Q a w) : (Go.Code.loop c).wp P Q a w := fun b k cs =>
  let ⟨e, a', w', hq, harr⟩ := h b k cs
  ⟨e, a', w', hq, .of_steps (.one step_loop) harr⟩
theorem LoopSt.unroll {c : Go.Code} {Q : Exit → Act → World → Prop} {a : Act} {w : World} (h : c.wp P (Exit.then (LoopSt P c Q) Q) a w) : LoopSt P c Q a w := by
  intro b k cs
  obtain ⟨e, a₁, w₁, hq, harr⟩ := h b (.inLoop c :: k) cs
  cases e with
  | normal =>
    obtain ⟨e₂, a₂, w₂, hq₂, harr₂⟩ := hq b k cs
    exact ⟨e₂, a₂, w₂, hq₂, .of_steps (Steps.trans harr (.one step_inLoop)) harr₂⟩
  | exit id => exact ⟨_, a₁, w₁, hq, .pass (x := .inLoop c) rfl (fun _ _ => .inl (by simp)) harr⟩
  | goto l => exact ⟨_, a₁, w₁, hq, .pass (x := .inLoop c) rfl (fun _ _ => .inl (by simp)) harr⟩
  | ret => exact ⟨_, a₁, w₁, hq, .pass (x := .inLoop c) rfl (fun _ _ => .inl (by simp)) harr⟩
  | panic ch => exact ⟨_, a₁, w₁, hq, .pass (x := .inLoop c) rfl (fun _ _ => .inl (by simp)) harr⟩
  | outgrown => exact ⟨_, a₁, w₁, hq, .pass (x := .inLoop c) rfl (fun _ _ => .inl (by simp)) harr⟩
theorem LoopSt.mono {c : Go.Code} {Q Q' : Exit → Act → World → Prop} {a : Act} {w : World} (h : LoopSt P c Q a w) (hq : ∀ e a w, Q e a w → Q' e a w) : LoopSt P c Q' a w := fun b k cs =>
  let ⟨e, a', w', q, harr⟩ := h b k cs
  ⟨e, a', w', hq _ _ _ q, harr⟩

structure OrcOK (P : Program) (O : Orc) : Prop extends CallsOK P O where
  loop : ∀ {plan : Nat → Option Plan} {N : Nat} {ks : List Nat} {b : AM.Code} {c : Go.Code} {e : Env} {σ : H} {res : Ex × Env × H}, compCode P plan c = some (erase b) → okN N b = true → O.loop ks b e σ = some res →
    ∀ {ι : Inj} {w : World} {a : Act}, StR N ι e a → R ι σ w → LoopSt P c (Post ι w N res) a w

theorem sub_get {e : Env} : ∀ {ks : List Nat} {t : Nat} {v : Value}, (e.sub ks).get t = some v → e.get t = some v
  | [], t, v, h => by
    simp only [Env.sub] at h
    split at h
    · rename_i u hu
      rw [Env.get_cons] at h
      split at h
      · rename_i ht; subst ht; cases h; exact hu
      · simp [Env.get] at h
    · simp [Env.get] at h
  | k :: ks, t, v, h => by
    simp only [Env.sub] at h
    split at h
    · rename_i u hu
      rw [Env.get_cons] at h
      split at h
      · rename_i ht; subst ht; cases h; exact hu
      · exact sub_get h
    · exact sub_get h
theorem sub_dfr {e : Env} : ∀ (ks : List Nat), (e.sub ks).get 1000000 = e.get 1000000
  | [] => by
    simp only [Env.sub]
    split
    · rename_i u hu
      rw [Env.get_cons, if_pos rfl, hu]
    · rename_i hu
      rw [hu]; rfl
  | k :: ks => by
    simp only [Env.sub]
    split
    · rename_i u hu
      rw [Env.get_cons]
      split
      · rename_i ht; subst ht; exact hu.symm
      · exact sub_dfr ks
    · exact sub_dfr ks
theorem StR.sub {N : Nat} {ι : Inj} {e : Env} {a : Act} (h : StR N ι e a) (ks : List Nat) : StR N ι (e.sub ks) a :=
  ⟨fun t v hv hlt => h.env t v (sub_get hv) hlt, h.dfr.of_get (sub_dfr ks), h.size⟩
end
end AM
end Go.Proofs.YtlelihddjacplaaGreat
namespace Go.Proofs.YtlelihddjacplaaGreat
namespace AM
section
variable {P : Program} {O : Orc} {plan : Nat → Option Plan} {N : Nat}

theorem erase_seq {a b : AM.Code} (ha : ∀ ks, a ≠ .keep ks) (hb : ∀ ks, b ≠ .keep ks) : erase (.seq a b) = .seq (erase a) (erase b) := by
  cases a <;> cases b <;> first | rfl | exact absurd rfl (ha _) | exact absurd rfl (hb _)
theorem erase_keep_left (ks : List Nat) (b : AM.Code) : erase (.seq (.keep ks) b) = erase b := by cases b <;> rfl
theorem erase_keep_right (ks : List Nat) (a : AM.Code) (ha : ∀ ks, a ≠ .keep ks) : erase (.seq a (.keep ks)) = erase a := by
  cases a <;> first | rfl | exact absurd rfl (ha _)

/-- What the compiler makes of code. -/
inductive Comp (P : Program) (plan : Nat → Option Plan) : Go.Code → AM.Code → Prop
  | skip : Comp P plan .skip .skip
  | reg (id : Nat) (l : List Oper) (os : List Op) (h : l.mapM (compOper P l) = some os) : Comp P plan (.region id l.toArray false) (.reg os)
  | draw (id : Nat) (l : List Oper) (pl : Plan) (b : AM.Code) (segs : List Seg) (ds : List Nat) (hb : b = .draw segs ds) (h : compReg P l true (some pl) = some b) : Comp P plan (.region id l.toArray true) b
  | seq (x y : Go.Code) (a b : AM.Code) (h1 : compCode P plan x = some a) (h2 : compCode P plan y = some b) : Comp P plan (.seq x y) (.seq a b)
  | cond (c : Operand) (d : Opd) (x y : Go.Code) (a b : AM.Code) (h : opdOf c = some d) (h1 : compCode P plan x = some a) (h2 : compCode P plan y = some b) : Comp P plan (.cond c x y) (.cond d a b)
  | block (id : Nat) (x : Go.Code) (a : AM.Code) (h : compCode P plan x = some a) : Comp P plan (.block id x) (.block id a)
  | loop (x : Go.Code) (a : AM.Code) (h : compCode P plan x = some a) : Comp P plan (.loop x) (.loop [] a)
  | exit (id : Nat) : Comp P plan (.exit id) (.exit id)
  | ret : Comp P plan .ret .ret
theorem comp_of {c : Go.Code} {b : AM.Code} (h : compCode P plan c = some b) : Comp P plan c b := by
  cases c <;> simp only [compCode, reduceCtorEq, Option.some.injEq, Option.bind_eq_bind, Option.pure_def] at h
  case skip => subst h; exact .skip
  case region id ops draw =>
    cases draw with
    | false =>
      simp only [compReg, Option.bind_eq_bind] at h
      obtain ⟨os, h1, h2⟩ := Option.bind_eq_some_iff.1 h
      simp only [Option.some.injEq] at h2
      subst h2
      have := Comp.reg (P := P) (plan := plan) id ops.toList os h1
      simpa using this
    | true =>
      cases hp : plan id with
      | none => rw [hp] at h; simp [compReg] at h
      | some pl =>
        rw [hp] at h
        have hb : ∃ segs ds, b = .draw segs ds := by
          simp only [compReg] at h
          split at h
          · simp only [Option.bind_eq_bind] at h
            obtain ⟨segs, _, h2⟩ := Option.bind_eq_some_iff.1 h
            simp only [Option.some.injEq] at h2
            exact ⟨_, _, h2.symm⟩
          · cases h
        obtain ⟨segs, ds, hb⟩ := hb
        have := Comp.draw (P := P) (plan := plan) id ops.toList pl b segs ds hb h
        simpa using this
  case seq x y =>
    obtain ⟨a, h1, h2⟩ := Option.bind_eq_some_iff.1 h
    obtain ⟨b, h3, h4⟩ := Option.bind_eq_some_iff.1 h2
    simp only [Option.some.injEq] at h4
    subst h4
    exact .seq x y a b h1 h3
  case cond c x y =>
    obtain ⟨d, h0, h⟩ := Option.bind_eq_some_iff.1 h
    obtain ⟨a, h1, h2⟩ := Option.bind_eq_some_iff.1 h
    obtain ⟨b, h3, h4⟩ := Option.bind_eq_some_iff.1 h2
    simp only [Option.some.injEq] at h4
    subst h4
    exact .cond c d x y a b h0 h1 h3
  case block id x =>
    obtain ⟨a, h1, h2⟩ := Option.bind_eq_some_iff.1 h
    simp only [Option.some.injEq] at h2
    subst h2
    exact .block id x a h1
  case loop x =>
    obtain ⟨a, h1, h2⟩ := Option.bind_eq_some_iff.1 h
    simp only [Option.some.injEq] at h2
    subst h2
    exact .loop x a h1
  case exit id => subst h; exact .exit id
  case ret => subst h; exact .ret

theorem code_wp (T0 : Tables P) (hO : OrcOK P O) : ∀ (b : AM.Code) (c : Go.Code) (e : Env) (a : Act) (σ : H) (w : World) (ι : Inj) (res : Ex × Env × H), compCode P plan c = some (erase b) → okN N b = true → StR N ι e a → R ι σ w → denote O b e σ = some res → c.wp P (Post ι w N res) a w := by
  intro b
  induction b with
  | skip =>
    intro c e a σ w ι res hc hok hs hr h
    have := comp_of hc
    generalize hb : erase .skip = b at this
    cases this <;> simp only [erase, reduceCtorEq] at hb
    · simp only [denote, Option.some.injEq] at h
      subst h
      exact wp_skip ⟨ι, Ext.refl _ _, hr, trivial, hs⟩
    · rename_i hb2 h2; subst hb2; cases hb
  | reg ops =>
    intro c e a σ w ι res hc hok hs hr h
    have := comp_of hc
    generalize hb : erase (.reg ops) = b at this
    cases this <;> simp only [erase, reduceCtorEq] at hb
    · rename_i id l os hm
      cases hb
      simp only [denote] at h
      simp only [okN] at hok
      refine wp_region (wpL_ops _ _ _ ?_)
      have := regs_wp T0 hO.toCallsOK (N := N) (res := res) (Q := Post ι w N res) l 0 _ e a σ w ι (by simp) hm hok hs hr h (fun _ _ _ h => h)
      rw [List.range_eq_range']
      simpa using this
    · rename_i hb2 h2; subst hb2; cases hb
  | draw segs dsts =>
    intro c e a σ w ι res hc hok hs hr h
    have := comp_of hc
    generalize hb : erase (.draw segs dsts) = b at this
    cases this <;> simp only [erase, reduceCtorEq] at hb
    rename_i id l pl segs2 ds2 hb2 h2
    subst hb
    exact draw_wp T0 hO.toCallsOK h2 hok hs hr h
  | keep ks =>
    intro c e a σ w ι res hc hok hs hr h
    have := comp_of hc
    generalize hb : erase (.keep ks) = b at this
    cases this <;> simp only [erase, reduceCtorEq] at hb
    rename_i hb2 h2; subst hb2; cases hb
  | seq x y ihx ihy =>
    intro c e a σ w ι res hc hok hs hr h
    simp only [okN, Bool.and_eq_true] at hok
    by_cases hx : ∃ ks, x = .keep ks
    · obtain ⟨ks, rfl⟩ := hx
      rw [erase_keep_left] at hc
      simp only [denote] at h
      exact ihy c (e.sub ks) a σ w ι res hc hok.2 (hs.sub ks) hr h
    · have hx' : ∀ ks, x ≠ .keep ks := fun ks hk => hx ⟨ks, hk⟩
      by_cases hy : ∃ ks, y = .keep ks
      · obtain ⟨ks, rfl⟩ := hy
        rw [erase_keep_right _ _ hx'] at hc
        simp only [denote] at h
        split at h
        · cases h
        · rename_i ex e' σ' hd
          have h1 := ihx c e a σ w ι _ hc hok.1 hs hr hd
          refine wp_mono h1 ?_
          rintro ex2 a2 w2 ⟨ι', g1, g2, g3, g4⟩
          refine ⟨ι', g1, ?_⟩
          cases ex <;> simp only [Option.some.injEq] at h <;> subst h
          · exact ⟨g2, g3, g4.sub ks⟩
          · exact ⟨g2, g3, g4⟩
          · exact ⟨g2, g3, g4⟩
          · exact ⟨g2, g3, g4⟩
      · have hy' : ∀ ks, y ≠ .keep ks := fun ks hk => hy ⟨ks, hk⟩
        rw [erase_seq hx' hy'] at hc
        have hcomp := comp_of hc
        generalize hb : Code.seq (erase x) (erase y) = b at hcomp
        cases hcomp with
        | skip => cases hb
        | reg => cases hb
        | draw id l pl b segs ds hb2 h2 => subst hb2; cases hb
        | cond => cases hb
        | block => cases hb
        | loop => cases hb
        | exit => cases hb
        | ret => cases hb
        | seq u v b1 b2 h1 h2 =>
          cases hb
          simp only [denote] at h
          split at h
          · cases h
          · rename_i ex e' σ' hd
            refine wp_seq (wp_mono (ihx _ e a σ w ι _ h1 hok.1 hs hr hd) ?_)
            rintro ex2 a2 w2 ⟨ι', g1, g2, g3, g4⟩
            cases ex with
            | normal =>
              cases ex2 <;> simp only [ExR] at g3
              exact Post.of_ext g1 (ihy _ e' a2 σ' w2 ι' res h2 hok.2 g4 g2 h)
            | exit id =>
              simp only [Option.some.injEq] at h
              subst h
              cases ex2 <;> simp only [ExR] at g3
              exact ⟨ι', g1, g2, g3, g4⟩
            | ret =>
              simp only [Option.some.injEq] at h
              subst h
              cases ex2 <;> simp only [ExR] at g3
              exact ⟨ι', g1, g2, trivial, g4⟩
            | panic v =>
              simp only [Option.some.injEq] at h
              subst h
              cases ex2 <;> simp only [ExR] at g3
              exact ⟨ι', g1, g2, g3, g4⟩
  | cond d x y ihx ihy =>
    intro c e a σ w ι res hc hok hs hr h
    simp only [okN, Bool.and_eq_true] at hok
    have hcomp := comp_of hc
    generalize hb : erase (.cond d x y) = b at hcomp
    simp only [erase] at hb
    cases hcomp with
    | skip => cases hb
    | reg => cases hb
    | draw id l pl b segs ds hb2 h2 => subst hb2; cases hb
    | seq => cases hb
    | block => cases hb
    | loop => cases hb
    | exit => cases hb
    | ret => cases hb
    | cond c0 d0 u v b1 b2 h0 h1 h2 =>
      cases hb
      simp only [denote] at h
      split at h
      case h_2 => cases h
      rename_i t hev
      have hvr := hs.env.ev h0 hev (opdLt_t hok.1.1)
      generalize hct : a.eval c0 = v0 at hvr
      cases hvr
      cases t with
      | true => exact wp_cond_true hct (ihx u e a σ w ι res h1 hok.1.2 hs hr h)
      | false => exact wp_cond_false hct (ihy v e a σ w ι res h2 hok.2 hs hr h)
  | block id x ih =>
    intro c e a σ w ι res hc hok hs hr h
    simp only [okN] at hok
    have := comp_of hc
    generalize hb : erase (.block id x) = b at this
    cases this <;> simp only [erase, reduceCtorEq] at hb
    · rename_i hb2 h2; subst hb2; cases hb
    · rename_i id2 u b1 h1
      cases hb
      simp only [denote] at h
      split at h
      · cases h
      · rename_i ex e' σ' hd
        refine wp_block (wp_mono (ih u e a σ w ι _ h1 hok hs hr hd) ?_)
        rintro ex2 a2 w2 ⟨ι', g1, g2, g3, g4⟩
        cases ex with
        | normal =>
          simp only [Option.some.injEq] at h
          subst h
          cases ex2 <;> simp only [ExR] at g3
          exact ⟨ι', g1, g2, trivial, g4⟩
        | exit i =>
          cases ex2 <;> simp only [ExR] at g3
          subst g3
          simp only [Exit.inBlock]
          simp only [nbeq] at h
          by_cases hi : i = id
          · rw [if_pos hi]
            rw [decide_eq_true hi] at h
            simp only [Option.some.injEq] at h
            subst h
            exact ⟨ι', g1, g2, trivial, g4⟩
          · rw [if_neg hi]
            rw [decide_eq_false hi] at h
            simp only [Option.some.injEq] at h
            subst h
            exact ⟨ι', g1, g2, rfl, g4⟩
        | ret =>
          simp only [Option.some.injEq] at h
          subst h
          cases ex2 <;> simp only [ExR] at g3
          exact ⟨ι', g1, g2, trivial, g4⟩
        | panic v =>
          simp only [Option.some.injEq] at h
          subst h
          cases ex2 <;> simp only [ExR] at g3
          exact ⟨ι', g1, g2, g3, g4⟩
  | loop ks x ih =>
    intro c e a σ w ι res hc hok hs hr h
    simp only [okN] at hok
    have := comp_of hc
    generalize hb : erase (.loop ks x) = b at this
    cases this <;> simp only [erase, reduceCtorEq] at hb
    · rename_i hb2 h2; subst hb2; cases hb
    · rename_i u b1 h1
      cases hb
      simp only [denote] at h
      exact (hO.loop h1 hok h (hs.sub ks) hr).wp
  | exit id =>
    intro c e a σ w ι res hc hok hs hr h
    have := comp_of hc
    generalize hb : erase (.exit id) = b at this
    cases this <;> simp only [erase, reduceCtorEq] at hb
    · rename_i hb2 h2; subst hb2; cases hb
    · cases hb
      simp only [denote, Option.some.injEq] at h
      subst h
      exact wp_exit ⟨ι, Ext.refl _ _, hr, rfl, hs⟩
  | ret =>
    intro c e a σ w ι res hc hok hs hr h
    have := comp_of hc
    generalize hb : erase .ret = b at this
    cases this <;> simp only [erase, reduceCtorEq] at hb
    · rename_i hb2 h2; subst hb2; cases hb
    · simp only [denote, Option.some.injEq] at h
      subst h
      exact wp_ret ⟨ι, Ext.refl _ _, hr, trivial, hs⟩
end
end AM
end Go.Proofs.YtlelihddjacplaaGreat
namespace Go.Proofs.YtlelihddjacplaaGreat
namespace AM
section
variable {P : Program} {O : Orc} {ι : Inj} {σ : H} {w : World}

/-! ### Results -/
def resSem (tmps : Array Value) : ResultVar → Sem Value
  | .tmp t => pure (tmps.getD t undef)
  | .cell a t => do loadVar t (← asAddr (tmps.getD a undef))
theorem results_eq (fn : Go.Func) (tmps : Array Value) : Go.results fn tmps = (do let vs ← fn.results.mapM (resSem tmps); pure (if h : vs.size = 1 then vs[0] else .tuple vs)) := by
  unfold Go.results
  congr 1
theorem result1 (T0 : Tables P) {rv : ResultVar} {r : RVar} {e : Env} {tmps : Array Value} {v : Value} (hc : compRes P rv = some r) (hok : r.ok = true) (he : EnvR ι e tmps) (hr : R ι σ w) (h : result e σ r = some v) :
    ∃ v', (resSem tmps rv).run P w = .ok v' w ∧ VR ι v v' := by
  cases rv with
  | tmp t =>
    simp only [compRes, Option.some.injEq] at hc
    subst hc
    simp only [result] at h
    simp only [RVar.ok, nblt, decide_eq_true_eq] at hok
    obtain ⟨v', h1, h2⟩ := he t v h hok
    exact ⟨v', by simp [resSem, Array.getD_eq_getD_getElem?, h1], h2⟩
  | cell a t =>
    simp only [compRes, Option.bind_eq_bind] at hc
    obtain ⟨n, hn, hc⟩ := Option.bind_eq_some_iff.1 hc
    simp only [Option.some.injEq] at hc
    subst hc
    simp only [result] at h
    simp only [RVar.ok, nblt, decide_eq_true_eq] at hok
    split at h
    case h_2 => cases h
    rename_i u hu
    simp only [recv] at h
    split at h
    case h_2 => cases h
    rename_i x σ2 hp
    simp only [Option.some.injEq] at h
    subst h
    obtain ⟨u', h1, h2⟩ := he a u hu hok
    obtain ⟨v', g1, g2, _⟩ := good_load (P := P) hr (show pLoad (aggT P t) n [u] σ = _ from hp) h2 hn rfl (T0.size hn)
    refine ⟨v', ?_, g2⟩
    have hs : tmps.getD a undef = u' := by simp [Array.getD_eq_getD_getElem?, h1]
    cases h2 <;> simp only [prim, pLoad] at hp <;> try (cases hp; done)
    simp only [resSem, hs, asAddr, Sem.run_bind, Sem.run_pure, Result.andThen_ok]
    simpa [Instr.loadAt, Instr.sureAddr] using g1
theorem resultsL (T0 : Tables P) {e : Env} {tmps : Array Value} (he : EnvR ι e tmps) (hr : R ι σ w) : ∀ {rvs : List ResultVar} {rs : List RVar} {vs : List Value}, rvs.mapM (compRes P) = some rs → rs.all RVar.ok = true → resultL e σ rs = some vs →
    ∃ vs', (rvs.mapM (resSem tmps)).run P w = .ok vs' w ∧ VRs ι vs vs'
  | [], rs, vs, hc, hok, h => by
    simp at hc
    subst hc
    simp only [resultL, Option.some.injEq] at h
    subst h
    exact ⟨[], by simp, .nil⟩
  | rv :: rvs, rs, vs, hc, hok, h => by
    obtain ⟨r, rs, h1, h2, rfl⟩ := mapM_cons_some hc
    simp only [List.all_cons, Bool.and_eq_true] at hok
    simp only [resultL] at h
    split at h
    · cases h
    rename_i v hv
    split at h
    · rename_i vs hvs
      simp only [Option.some.injEq] at h
      subst h
      obtain ⟨v', g1, g2⟩ := result1 T0 h1 hok.1 he hr hv
      obtain ⟨vs', g3, g4⟩ := resultsL T0 he hr h2 hok.2 hvs
      exact ⟨v' :: vs', by simp [g1, g3], .cons g2 g4⟩
    · cases h
theorem results_sound (T0 : Tables P) {fn : Go.Func} {rs : List RVar} {e : Env} {tmps : Array Value} {r : Res} {σ2 : H} (hc : fn.results.toList.mapM (compRes P) = some rs) (hok : rs.all RVar.ok = true) (he : EnvR ι e tmps) (hr : R ι σ w) (h : results e σ rs = some (r, σ2)) :
    σ2 = σ ∧ ∃ v v', r = .ok v ∧ (Go.results fn tmps).run P w = .ok v' w ∧ VR ι v v' := by
  have key : ∀ vs, resultL e σ rs = some vs → ∃ vs' : List Value, (Go.results fn tmps).run P w = .ok (if h : vs'.length = 1 then vs'[0] else .tuple ⟨vs'⟩) w ∧ VRs ι vs vs' := by
    intro vs hvs
    obtain ⟨vs', g1, g2⟩ := resultsL T0 he hr hc hok hvs
    refine ⟨vs', ?_, g2⟩
    rw [results_eq, Array.mapM_eq_mapM_toList]
    simp only [Sem.run_bind, Sem.run_map, g1, Result.andThen_ok, Sem.run_pure]
    congr 1
  unfold results at h
  split at h
  · rename_i v hv
    simp only [Option.some.injEq, Prod.mk.injEq] at h
    obtain ⟨rfl, rfl⟩ := h
    obtain ⟨vs', g1, g2⟩ := key _ hv
    obtain ⟨v', rfl, g3⟩ := g2.one
    exact ⟨rfl, v, v', rfl, by simpa using g1, g3⟩
  · rename_i vs hne hv
    simp only [Option.some.injEq, Prod.mk.injEq] at h
    obtain ⟨rfl, rfl⟩ := h
    obtain ⟨vs', g1, g2⟩ := key _ hv
    have hl : vs'.length ≠ 1 := by
      rw [g2.length]
      intro h1
      obtain ⟨v, rfl⟩ := List.length_eq_one_iff.1 h1
      exact hne v rfl
    rw [dif_neg hl] at g1
    exact ⟨rfl, _, _, rfl, g1, .tuple g2⟩
  · cases h

/-! ### Where a function begins -/
theorem okN_mono {n N : Nat} (h : n ≤ N) : ∀ (b : AM.Code), okN n b = true → okN N b = true
  | .skip, _ => rfl
  | .reg ops, hb => by
    simp only [okN, List.all_eq_true] at hb ⊢
    intro q hq
    have := hb q hq
    cases hd : q.dst with
    | none => rfl
    | some d =>
      rw [hd] at this
      simp only [dstN, nblt, decide_eq_true_eq] at this ⊢
      omega
  | .draw segs ds, hb => by
    simp only [okN, List.all_eq_true, Bool.and_eq_true, nblt, decide_eq_true_eq] at hb ⊢
    exact fun d hd => ⟨by have := (hb d hd).1; omega, (hb d hd).2⟩
  | .keep _, _ => rfl
  | .seq a b, hb => by
    simp only [okN, Bool.and_eq_true] at hb ⊢
    exact ⟨okN_mono h a hb.1, okN_mono h b hb.2⟩
  | .cond c a b, hb => by
    simp only [okN, Bool.and_eq_true] at hb ⊢
    exact ⟨⟨hb.1.1, okN_mono h a hb.1.2⟩, okN_mono h b hb.2⟩
  | .block _ b, hb => okN_mono h b hb
  | .loop _ b, hb => okN_mono h b hb
  | .exit _, _ => rfl
  | .ret, _ => rfl
theorem params_get : ∀ (vs : List Value) (k t : Nat), (params k vs).get t = if t < k then none else vs[t - k]?
  | [], k, t => by simp [params, Env.get]
  | v :: vs, k, t => by
    rw [params, Env.get_cons, params_get vs (k + 1) t]
    by_cases h1 : k = t
    · subst h1; simp
    · rw [if_neg h1]
      by_cases h2 : t < k
      · rw [if_pos h2, if_pos (by omega)]
      · rw [if_neg h2, if_neg (by omega), show t - k = (t - (k + 1)) + 1 by omega, List.getElem?_cons_succ]
def entry (n : Nat) (args' : List Value) : Act := { tmps := (⟨args'⟩ : Array Value) ++ Array.replicate (n - (⟨args'⟩ : Array Value).size) undef, defers := [] }
theorem entry_size (n : Nat) (args' : List Value) : (entry n args').tmps.size = args'.length + (n - args'.length) := by simp [entry]
theorem entry_get {n : Nat} {args' : List Value} {t : Nat} {v : Value} (h : args'[t]? = some v) : (entry n args').tmps[t]? = some v := by
  have hlt := (List.getElem?_eq_some_iff.1 h).1
  unfold entry
  rw [Array.getElem?_append_left (by simpa using hlt), List.getElem?_toArray]
  exact h
theorem entry_StR {n : Nat} {args args' : List Value} (hl : args.length ≤ 1000) (hv : VRs ι args args') : StR (entry n args').tmps.size ι (params 0 args) (entry n args') := by
  refine ⟨fun t v h hlt => ?_, ?_, rfl⟩
  · rw [params_get] at h
    simp only [Nat.not_lt_zero, if_false, Nat.sub_zero] at h
    obtain ⟨v', h1, h2⟩ := hv.get t v h
    exact ⟨v', entry_get h1, h2⟩
  · unfold DefR
    rw [params_get]
    simp only [Nat.not_lt_zero, if_false, Nat.sub_zero]
    rw [List.getElem?_eq_none (by omega)]
    rfl

structure FnOK (P : Program) (k : Nat) (F : AM.Func) : Prop where
  ex : ∃ fn plan, P.funcs[k]? = some fn ∧ fn.name ≠ "runtime.NumGoroutine" ∧ compFunc P plan fn = some F.erase ∧ F.okF fn.ntmps = true

theorem compFunc_some {plan : Nat → Option Plan} {fn : Go.Func} {F : AM.Func} (h : compFunc P plan fn = some F) : ∃ c, fn.body = some c ∧ fn.results.toList.mapM (compRes P) = some F.results ∧
    ((F.rcv = none ∧ compCode P plan c = some F.body) ∨ ∃ r ops os rest os' rest', recoverHead c = some (r, ops, os, rest) ∧ F.rcv = some r ∧ os.mapM (compOper P ops.toList) = some os' ∧ compCode P plan rest = some rest' ∧ F.body = .seq (.reg os') rest') := by
  unfold compFunc at h
  simp only [Option.bind_eq_bind, Option.pure_def] at h
  obtain ⟨c, h1, h⟩ := Option.bind_eq_some_iff.1 h
  obtain ⟨rs, h2, h⟩ := Option.bind_eq_some_iff.1 h
  refine ⟨c, h1, ?_⟩
  split at h
  · rename_i r ops os rest hr
    obtain ⟨os', h3, h⟩ := Option.bind_eq_some_iff.1 h
    obtain ⟨rest', h4, h⟩ := Option.bind_eq_some_iff.1 h
    simp only [Option.some.injEq] at h
    subst h
    exact ⟨h2, .inr ⟨r, ops, os, rest, os', rest', hr, rfl, h3, h4, rfl⟩⟩
  · obtain ⟨b, h3, h⟩ := Option.bind_eq_some_iff.1 h
    simp only [Option.some.injEq] at h
    subst h
    exact ⟨h2, .inl ⟨rfl, h3⟩⟩
theorem recoverHead_some {c : Go.Code} {r : Nat} {ops : Array Oper} {os : List Oper} {rest : Go.Code} (h : recoverHead c = some (r, ops, os, rest)) :
    ∃ id o c0, c = .seq (.region id ops false) rest ∧ ops.toList = o :: os ∧ o.dst = some r ∧ o.op = .call c0 ∧ c0.callee = .builtin .recover ∧ o.guard = none := by
  unfold recoverHead at h
  split at h
  · rename_i id ops2 rest2
    split at h
    · rename_i r2 args ats ty pos after os2 hl
      simp only [Option.some.injEq, Prod.mk.injEq] at h
      obtain ⟨rfl, rfl, rfl, rfl⟩ := h
      exact ⟨_, _, _, rfl, hl, rfl, rfl, rfl, rfl⟩
    · cases h
  · cases h
end
end AM
end Go.Proofs.YtlelihddjacplaaGreat
namespace Go.Proofs.YtlelihddjacplaaGreat
namespace AM
section
variable {P : Program} {O : Orc} {ι : Inj} {σ : H} {w : World} {plan : Nat → Option Plan} {N : Nat}

/-- The rest of a region whose first operation is done. -/
theorem head_regs (T0 : Tables P) (hO : OrcOK P O) {all : List Oper} {o : Oper} {os : List Oper} {os' : List Op} (hall : all = o :: os) (hm : os.mapM (compOper P all) = some os') :
    ∀ (b : AM.Code) (e : Env) (a : Act) (σ : H) (w : World) (ι : Inj) (res : Ex × Env × H) (Q : Exit → Act → World → Prop), erase b = .reg os' → okN N b = true → StR N ι e a → R ι σ w → denote O b e σ = some res →
      (∀ ex a' w', Post ι w N res ex a' w' → Q ex a' w') → wpL P all.toArray Q (List.range' 1 os.length) a w := by
  intro b
  induction b with
  | reg ops =>
    intro e a σ w ι res Q hb hok hs hr h hQ
    simp only [erase, Code.reg.injEq] at hb
    subst hb
    simp only [denote] at h
    simp only [okN] at hok
    exact regs_wp T0 hO.toCallsOK os 1 _ e a σ w ι (by rw [hall]; rfl) hm hok hs hr h hQ
  | seq x y ihx ihy =>
    intro e a σ w ι res Q hb hok hs hr h hQ
    simp only [okN, Bool.and_eq_true] at hok
    by_cases hx : ∃ ks, x = .keep ks
    · obtain ⟨ks, rfl⟩ := hx
      rw [erase_keep_left] at hb
      simp only [denote] at h
      exact ihy (e.sub ks) a σ w ι res Q hb hok.2 (hs.sub ks) hr h hQ
    · have hx' : ∀ ks, x ≠ .keep ks := fun ks hk => hx ⟨ks, hk⟩
      by_cases hy : ∃ ks, y = .keep ks
      · obtain ⟨ks, rfl⟩ := hy
        rw [erase_keep_right _ _ hx'] at hb
        simp only [denote] at h
        split at h
        · cases h
        · rename_i ex e' σ' hd
          refine ihx e a σ w ι _ Q hb hok.1 hs hr hd ?_
          rintro ex2 a2 w2 ⟨ι', g1, g2, g3, g4⟩
          refine hQ _ _ _ ⟨ι', g1, ?_⟩
          cases ex <;> simp only [Option.some.injEq] at h <;> subst h
          · exact ⟨g2, g3, g4.sub ks⟩
          · exact ⟨g2, g3, g4⟩
          · exact ⟨g2, g3, g4⟩
          · exact ⟨g2, g3, g4⟩
      · rw [erase_seq hx' (fun ks hk => hy ⟨ks, hk⟩)] at hb
        cases hb
  | skip => intro _ _ _ _ _ _ _ hb; cases hb
  | draw segs ds => intro _ _ _ _ _ _ _ hb; cases hb
  | keep ks => intro _ _ _ _ _ _ _ hb; cases hb
  | cond c x y => intro _ _ _ _ _ _ _ hb; simp only [erase] at hb; cases hb
  | block id x => intro _ _ _ _ _ _ _ hb; simp only [erase] at hb; cases hb
  | loop ks x => intro _ _ _ _ _ _ _ hb; simp only [erase] at hb; cases hb
  | exit id => intro _ _ _ _ _ _ _ hb; cases hb
  | ret => intro _ _ _ _ _ _ _ hb; cases hb

/-- A deferred function's code. -/
theorem head_code (T0 : Tables P) (hO : OrcOK P O) {all : List Oper} {o : Oper} {os : List Oper} {os' : List Op} {rest : Go.Code} {rest' : AM.Code} {id : Nat} {c0 : Call} {r : Nat} (hall : all = o :: os) (hm : os.mapM (compOper P all) = some os') (hrest : compCode P plan rest = some rest')
    (hd : o.dst = some r) (hop : o.op = .call c0) (hcal : c0.callee = .builtin .recover) (hg : o.guard = none) {cs cs1 : List Frame} {pv : Value} (hrec : (recoverD cs = some (pv, cs1)) ∨ (recoverD cs = none ∧ pv = .nilIface ∧ cs1 = cs)) :
    ∀ (b : AM.Code) (e : Env) (a : Act) (σ : H) (w : World) (ι : Inj) (res : Ex × Env × H), erase b = .seq (.reg os') rest' → okN N b = true → StR N ι e (a.put (some r) pv) → R ι σ w → denote O b e σ = some res →
      (Go.Code.seq (.region id all.toArray false) rest).wpS P (fun ex a' cs' w' => cs' = cs1 ∧ Post ι w N res ex a' w') a cs w := by
  intro b
  induction b with
  | seq x y ihx ihy =>
    intro e a σ w ι res hb hok hs hr h
    simp only [okN, Bool.and_eq_true] at hok
    by_cases hx : ∃ ks, x = .keep ks
    · obtain ⟨ks, rfl⟩ := hx
      rw [erase_keep_left] at hb
      simp only [denote] at h
      exact ihy (e.sub ks) a σ w ι res hb hok.2 (hs.sub ks) hr h
    · have hx' : ∀ ks, x ≠ .keep ks := fun ks hk => hx ⟨ks, hk⟩
      by_cases hy : ∃ ks, y = .keep ks
      · obtain ⟨ks, rfl⟩ := hy
        rw [erase_keep_right _ _ hx'] at hb
        simp only [denote] at h
        split at h
        · cases h
        · rename_i ex e' σ' hdn
          have h1 := ihx e a σ w ι _ hb hok.1 hs hr hdn
          intro bf k hk1 hk2
          obtain ⟨ex2, a2, cs2, w2, ⟨hcs, ι', g1, g2, g3, g4⟩, harr⟩ := h1 bf k hk1 hk2
          refine ⟨ex2, a2, cs2, w2, ⟨hcs, ι', g1, ?_⟩, harr⟩
          cases ex <;> simp only [Option.some.injEq] at h <;> subst h
          · exact ⟨g2, g3, g4.sub ks⟩
          · exact ⟨g2, g3, g4⟩
          · exact ⟨g2, g3, g4⟩
          · exact ⟨g2, g3, g4⟩
      · rw [erase_seq hx' (fun ks hk => hy ⟨ks, hk⟩)] at hb
        injection hb with hb1 hb2
        simp only [denote] at h
        split at h
        · cases h
        rename_i ex e' σ' hdn
        refine wpS_seq (wpS_region ?_)
        have hrun : ∀ w, (execOp a.eval o).run P w = .ok .recover w := by
          intro w
          obtain ⟨dst, op, ty, pos, after, guard⟩ := o
          simp only at hop
          subst hop
          rw [exec_builtin hcal]
          rfl
        have hz : (List.range all.toArray.size) = 0 :: List.range' 1 os.length := by
          rw [hall, List.range_eq_range']
          simp [List.range'_succ]
        rw [hz]
        have h0 : all.toArray[0]? = some o := by rw [hall]; rfl
        have hwant : Region.wanted o (yielded all.toArray a.tmps) = true := by simp [Region.wanted, hg]
        simp only [wpOpsS, h0, hwant, if_true, hrun w]
        have hgoal : wpOpsS P all.toArray (Exit.thenS (rest.wpS P fun ex a' cs' w' => cs' = cs1 ∧ Post ι w N res ex a' w') fun ex a' cs' w' => cs' = cs1 ∧ Post ι w N res ex a' w') (List.range' 1 os.length) (a.put (some r) pv) cs1 w := by
          refine wpL_opsS _ _ _ (head_regs T0 hO hall hm x e _ σ w ι _ _ hb1 hok.1 hs hr hdn ?_)
          rintro ex2 a2 w2 ⟨ι', g1, g2, g3, g4⟩
          cases ex with
          | normal =>
            cases ex2 <;> simp only [ExR] at g3
            refine wpS_of_wp (wp_mono (code_wp T0 hO y rest e' a2 σ' w2 ι' res (by rw [hrest, hb2]) hok.2 g4 g2 h) ?_)
            exact fun ex3 a3 w3 h3 => ⟨rfl, h3.trans g1⟩
          | exit i =>
            simp only [Option.some.injEq] at h
            subst h
            cases ex2 <;> simp only [ExR] at g3
            exact ⟨rfl, ι', g1, g2, g3, g4⟩
          | ret =>
            simp only [Option.some.injEq] at h
            subst h
            cases ex2 <;> simp only [ExR] at g3
            exact ⟨rfl, ι', g1, g2, trivial, g4⟩
          | panic v =>
            simp only [Option.some.injEq] at h
            subst h
            cases ex2 <;> simp only [ExR] at g3
            exact ⟨rfl, ι', g1, g2, g3, g4⟩
        rcases hrec with hrec | ⟨hrec, rfl, rfl⟩
        · simp only [hrec, hd]; exact hgoal
        · simp only [hrec, hd]; exact hgoal
  | reg ops => intro _ _ _ _ _ _ hb; simp only [erase] at hb; cases hb
  | skip => intro _ _ _ _ _ _ hb; cases hb
  | draw segs ds => intro _ _ _ _ _ _ hb; cases hb
  | keep ks => intro _ _ _ _ _ _ hb; cases hb
  | cond c x y => intro _ _ _ _ _ _ hb; simp only [erase] at hb; cases hb
  | block id x => intro _ _ _ _ _ _ hb; simp only [erase] at hb; cases hb
  | loop ks x => intro _ _ _ _ _ _ hb; simp only [erase] at hb; cases hb
  | exit id => intro _ _ _ _ _ _ hb; cases hb
  | ret => intro _ _ _ _ _ _ hb; cases hb

/-- In what way a caller leaves when what it deferred is called. -/
def LeaveR (ι : Inj) : Option Value → FrameMode → Prop
  | none, u => u = .returning
  | some v, u => ∃ v', u = .panicking [{ v := v', recovered := false }] ∧ VR ι v v'

theorem deferred_sound (T0 : Tables P) (hO : OrcOK P O) {fs : Nat → Option AM.Func} (hfs : ∀ k F, fs k = some F → FnOK P k F) {k : Nat} {cap cap' : List Value} {p : Option Value} {t : Bool} {σ2 : H} {u : FrameMode}
    (h : deferred O fs (.func (.func k) ⟨[]⟩ ⟨cap⟩) p σ = some (t, σ2)) (hr : R ι σ w) (hc : VRs ι cap cap') (hu : LeaveR ι p u) :
    (∃ fn, P.funcs[k]? = some fn ∧ fn.body.isSome = true ∧ fn.name ≠ "runtime.NumGoroutine") ∧
      CallsD P k ⟨cap'⟩ u w (fun en u' w2 => ∃ ι' rv, en = .returned rv ∧ settle u' = .returning ∧ Ext ι w ι' w2 ∧ R ι' σ2 w2) := by
  unfold deferred at h
  simp only at h
  split at h
  case h_2 => cases h
  rename_i b r hF
  split at h
  case h_1 => cases h
  rename_i hlen
  simp only [nble, decide_eq_true_eq] at hlen
  split at h
  case h_2 => cases h
  rename_i x e' σ' hdn
  split at h
  case h_1 => cases h
  rename_i hnd
  obtain ⟨fn, plan, hfn, hname, hcomp, hok⟩ := (hfs _ _ hF).ex
  obtain ⟨c, hbody, hres, hcase⟩ := compFunc_some hcomp
  refine ⟨⟨fn, hfn, by rw [hbody]; rfl, hname⟩, ?_⟩
  simp only [Func.erase] at hcase hres
  rcases hcase with ⟨h0, _⟩ | ⟨r', ops, os, rest, os', rest', hrh, hrr, hm, hrest, hb⟩
  · cases h0
  cases hrr
  obtain ⟨id, o, c0, rfl, hops, hd, hop, hcal, hg⟩ := recoverHead_some hrh
  simp only [Func.okF, Bool.and_eq_true] at hok
  obtain ⟨⟨⟨hokb, hokr⟩, hokd⟩, hokl⟩ := hok
  have hsz : fn.ntmps ≤ (entry fn.ntmps cap').tmps.size := by rw [entry_size]; omega
  have hokb' := okN_mono hsz b hokb
  have hst0 := entry_StR (n := fn.ntmps) hlen hc
  refine callsD_of_wpS hfn hbody fun c₀ cs hc0 => ?_
  -- what is recovered
  have hrec : ∃ pv u', ((recoverD (c₀ :: cs) = some (pv, { c₀ with mode := u' } :: cs)) ∨ (recoverD (c₀ :: cs) = none ∧ pv = .nilIface ∧ ({ c₀ with mode := u' } :: cs : List Frame) = c₀ :: cs)) ∧ VR ι (p.getD .nilIface) pv ∧ settle u' = .returning := by
    cases p with
    | none =>
      simp only [LeaveR] at hu
      subst hu
      refine ⟨.nilIface, .returning, .inr ⟨?_, rfl, ?_⟩, .nili, rfl⟩
      · simp [recoverD, hc0]
      · rw [← hc0]
    | some v =>
      obtain ⟨v', rfl, hv⟩ := hu
      refine ⟨v', .panicking [{ v := v', recovered := true }], .inl ?_, hv, rfl⟩
      simp [recoverD, hc0]
  obtain ⟨pv, u', hrec, hpv, hset⟩ := hrec
  have hrN : ∀ j, some r = some j → j < (entry fn.ntmps cap').tmps.size := by
    intro j hj
    have := dstN_iff hokd j hj
    omega
  have hst : StR (entry fn.ntmps cap').tmps.size ι ((r, p.getD .nilIface) :: params 0 cap) ((entry fn.ntmps cap').put (some r) pv) := by
    have := hst0.put (d := some r) hrN hokl hpv
    exact this
  have hwp := head_code (id := id) (plan := plan) (cs := c₀ :: cs) T0 hO hops hm hrest hd hop hcal hg hrec b _ (entry fn.ntmps cap') σ w ι _ hb hokb' hst hr hdn
  have harr : (⟨ops.toList⟩ : Array Oper) = ops := rfl
  intro bf kk hk1 hk2
  obtain ⟨ex, a1, cs1, w1, ⟨rfl, ι', g1, g2, g3, g4⟩, harr2⟩ := hwp bf kk hk1 hk2
  refine ⟨ex, a1, _, w1, ?_, harr2⟩
  have hdf : a1.defers = [] := by
    have := g4.dfr
    unfold DefR at this
    simp only at this
    rw [hnd] at this
    exact this
  have hres0 : fn.results.toList = [] := by
    cases hl : fn.results.toList with
    | nil => rfl
    | cons y ys =>
      rw [hl] at hres
      obtain ⟨_, _, _, _, hcon⟩ := mapM_cons_some hres
      cases hcon
  have hrun : (Go.results fn a1.tmps).run P w1 = .ok (.tuple #[]) w1 := by
    have : fn.results = #[] := Array.ext' hres0
    simp [Go.results, this]
  cases x with
  | normal =>
    simp only [Option.some.injEq, Prod.mk.injEq] at h
    obtain ⟨rfl, rfl⟩ := h
    cases ex <;> simp only [ExR] at g3
    exact ⟨hdf, u', rfl, _, hrun, ι', _, rfl, hset, g1, g2⟩
  | ret =>
    simp only [Option.some.injEq, Prod.mk.injEq] at h
    obtain ⟨rfl, rfl⟩ := h
    cases ex <;> simp only [ExR] at g3
    exact ⟨hdf, u', rfl, _, hrun, ι', _, rfl, hset, g1, g2⟩
  | exit i => cases h
  | panic v => cases h

theorem callF_sound (T0 : Tables P) (hO : OrcOK P O) {fs : Nat → Option AM.Func} (hfs : ∀ k F, fs k = some F → FnOK P k F) {k : Nat} {args args' : List Value} {r : Res} {σ' : H}
    (h : callF O fs k args σ = some (r, σ')) : (∃ fn, P.funcs[k]? = some fn ∧ fn.body.isSome = true ∧ fn.name ≠ "runtime.NumGoroutine") ∧
    ∀ {ι : Inj} {args' : List Value} {w : World}, R ι σ w → VRs ι args args' → Calls P k ⟨args'⟩ w (CallR ι w r σ') := by
  unfold callF at h
  split at h
  · cases h
  rename_i F hF
  split at h
  · cases h
  rename_i hrcv
  split at h
  · cases h
  rename_i hlen
  simp only [nble, decide_eq_true_eq] at hlen
  split at h
  · cases h
  rename_i x e σ1 hdn
  obtain ⟨fn, plan, hfn, hname, hcomp, hok⟩ := (hfs _ _ hF).ex
  obtain ⟨c, hbody, hres, hcase⟩ := compFunc_some hcomp
  refine ⟨⟨fn, hfn, by rw [hbody]; rfl, hname⟩, ?_⟩
  intro ι args' w hr hv
  simp only [Func.erase] at hcase hres
  rcases hcase with ⟨_, hcode⟩ | ⟨r', _, _, _, _, _, _, h0, _⟩
  case inr => rw [hrcv] at h0; cases h0
  simp only [Func.okF, Bool.and_eq_true] at hok
  obtain ⟨⟨⟨hokb, hokr⟩, _⟩, _⟩ := hok
  have hsz : fn.ntmps ≤ (entry fn.ntmps args').tmps.size := by rw [entry_size]; omega
  have hwp := code_wp T0 hO F.body c (params 0 args) (entry fn.ntmps args') σ w ι _ hcode (okN_mono hsz _ hokb) (entry_StR hlen hv) hr hdn
  refine calls_of_wp_defers hfn hbody (wp_mono hwp ?_)
  rintro ex a1 w1 ⟨ι', g1, g2, g3, g4⟩
  -- how it is left
  have leave : ∀ (p : Option Value) (u : FrameMode), LeaveR ι' p u → (match e.get 1000000 with
        | none => match p with
          | none => results e σ1 F.results
          | some v => some (.panic v, σ1)
        | some d => match p with
          | none => match deferred O fs d none σ1 with
            | some (_, σ2) => results e σ2 F.results
            | none => none
          | some v => match deferred O fs d (some v) σ1 with
            | some (true, σ2) => results e σ2 F.results
            | _ => none) = some (r, σ') → Leaves P fn a1.tmps (CallR ι w r σ') a1.defers u w1 := by
    intro p u hu hh
    have hdf := g4.dfr
    unfold DefR at hdf
    simp only at hdf
    split at hh
    · rename_i hnd
      rw [hnd] at hdf
      simp only at hdf
      rw [hdf]
      cases p with
      | none =>
        simp only [LeaveR] at hu
        subst hu
        obtain ⟨rfl, v, v', rfl, hrun, hvr⟩ := results_sound T0 hres hokr g4.env g2 hh
        exact ⟨v', hrun, ι', g1, g2, hvr⟩
      | some v =>
        obtain ⟨v', rfl, hvr⟩ := hu
        simp only [Option.some.injEq, Prod.mk.injEq] at hh
        obtain ⟨rfl, rfl⟩ := hh
        exact ⟨ι', g1, g2, v', rfl, hvr⟩
    · rename_i d hd
      rw [hd] at hdf
      obtain ⟨kd, cap, cap', rfl, hds, hcap⟩ := hdf
      rw [hds]
      have hdd : ∃ t σ2, deferred O fs (.func (.func kd) ⟨[]⟩ ⟨cap⟩) p σ1 = some (t, σ2) ∧ results e σ2 F.results = some (r, σ') := by
        cases p with
        | none =>
          simp only at hh
          split at hh
          · exact ⟨_, _, by assumption, hh⟩
          · cases hh
        | some v =>
          simp only at hh
          split at hh
          · exact ⟨_, _, by assumption, hh⟩
          · cases hh
      obtain ⟨t, σ2, hdef, hh2⟩ := hdd
      obtain ⟨⟨fn2, hf2, hb2, hn2⟩, hcd⟩ := deferred_sound T0 hO hfs hdef g2 hcap hu
      refine leaves_cons (f := kd) (args := ⟨cap'⟩) ?_ ?_ (hcd.mono ?_)
      · intro hur
        cases p with
        | none => rw [hu] at hur; cases hur
        | some v => obtain ⟨v', hu2, _⟩ := hu; rw [hu2] at hur; cases hur
      · have : (#[] ++ (⟨cap'⟩ : Array Value)) = ⟨cap'⟩ := by simp
        simp only [invoke, this]
        exact run_callFunc_enter hf2 hb2 hn2 w1
      · rintro en u' w2 ⟨ι2, rv, rfl, hset, k1, k2⟩
        show Leaves P fn a1.tmps (CallR ι w r σ') [] (settle u') w2
        rw [hset]
        obtain ⟨rfl, v, v', rfl, hrun, hvr⟩ := results_sound T0 hres hokr (g4.env.mono k1.sub) k2 hh2
        exact ⟨v', hrun, ι2, g1.trans k1, k2, hvr⟩
  cases x with
  | normal =>
    cases ex <;> simp only [ExR] at g3
    refine leave none .returning rfl ?_
    rw [← h]
    cases e.get 1000000 <;> rfl
  | ret =>
    cases ex <;> simp only [ExR] at g3
    refine leave none .returning rfl ?_
    rw [← h]
    cases e.get 1000000 <;> rfl
  | panic v =>
    cases ex <;> simp only [ExR] at g3
    obtain ⟨v', rfl, hvr⟩ := g3
    refine leave (some v) _ ⟨v', rfl, hvr⟩ ?_
    rw [← h]
    cases e.get 1000000 <;> rfl
  | exit i =>
    exfalso
    simp only at h
    split at h <;> cases h

/-! ### The whole machine -/
/-- A contract of a function's own. -/
def OwnOK (P : Program) (k : Nat) (f : List Value → H → Option (Res × H)) : Prop :=
  (∃ fn, P.funcs[k]? = some fn ∧ fn.body.isSome = true ∧ fn.name ≠ "runtime.NumGoroutine") ∧ ∀ {args : List Value} {σ : H} {r : Res} {σ' : H}, f args σ = some (r, σ') → ∀ {ι : Inj} {args' : List Value} {w : World}, R ι σ w → VRs ι args args' → Calls P k ⟨args'⟩ w (CallR ι w r σ')
def MethOK (P : Program) (m : Nat → String → Option (Nat × Option (Bool × Nat))) : Prop :=
  ∀ {t : Nat} {name : String} {f : Nat} {how : Option (Bool × Nat)}, m t name = some (f, how) → ∀ {ι : Inj} {σ : H} {w : World} {v v' x : Value}, R ι σ w → VR ι v v' → recv σ v how = some x →
    ∃ x', (method (P.types.size + Made.depth) t v' name).run P w = .ok (f, x') w ∧ VR ι x x'
structure ProgOK (P : Program) (Pr : AM.Prog) : Prop where
  tables : Tables P
  fs : ∀ k F, Pr.fs k = some F → FnOK P k F
  own : ∀ k f, Pr.own k = some f → OwnOK P k f
  meth : MethOK P Pr.meth

theorem orc_ok {Pr : AM.Prog} (hP : ProgOK P Pr) : ∀ n, OrcOK P (orc Pr n)
  | 0 => { call := fun h => by simp [orc] at h, meth := hP.meth, loop := fun _ _ h => by simp [orc] at h }
  | n + 1 => by
    have ih := orc_ok hP n
    refine { call := fun {f args σ r σ'} h => ?_, meth := hP.meth, loop := fun {plan N ks b c e σ res} hc hok h {ι w a} hs hr => ?_ }
    · simp only [orc, answer] at h
      split at h
      · rename_i g hg
        obtain ⟨h1, h2⟩ := hP.own f g hg
        exact ⟨h1, fun hr hv => h2 h hr hv⟩
      · exact callF_sound hP.tables ih hP.fs (args' := []) h
    · simp only [orc, again] at h
      split at h
      · cases h
      rename_i x e' σ' hdn
      refine LoopSt.unroll (wp_mono (code_wp hP.tables ih b c e a σ w ι _ hc hok hs hr hdn) ?_)
      rintro ex a1 w1 ⟨ι', g1, g2, g3, g4⟩
      cases x with
      | normal =>
        cases ex <;> simp only [ExR] at g3
        exact (ih.loop hc hok h (g4.sub ks) g2).mono fun _ _ _ hp => hp.trans g1
      | exit i =>
        simp only [Option.some.injEq] at h
        subst h
        cases ex <;> simp only [ExR] at g3
        exact ⟨ι', g1, g2, g3, g4⟩
      | ret =>
        simp only [Option.some.injEq] at h
        subst h
        cases ex <;> simp only [ExR] at g3
        exact ⟨ι', g1, g2, trivial, g4⟩
      | panic v =>
        simp only [Option.some.injEq] at h
        subst h
        cases ex <;> simp only [ExR] at g3
        exact ⟨ι', g1, g2, g3, g4⟩

/-- What the machine answers is what the program does. -/
theorem calls_of_orc {Pr : AM.Prog} (hP : ProgOK P Pr) {n f : Nat} {args args' : List Value} {r : Res} {σ' : H} (h : (orc Pr n).call f args σ = some (r, σ')) (hr : R ι σ w) (hv : VRs ι args args') : Calls P f ⟨args'⟩ w (CallR ι w r σ') :=
  ((orc_ok hP n).call h).2 hr hv
end
end AM
end Go.Proofs.YtlelihddjacplaaGreat
