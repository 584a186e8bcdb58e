/- One operation of a region: effects. -/
import Derived.Test.YtdbbkaeoinalpaaGreatSnd10
set_option linter.unusedVariables false
namespace Go.Proofs.YtdbbkaeoinalpaaGreat
namespace AM
section
variable {P : Program} {ι : Inj} {σ σ' : H} {w : World}

/-- An operation that changes the heap. -/
def EffOp (P : Program) (ι : Inj) (σ' : H) (ρ : Operand → Value) (o : Oper) (w : World) (v : Value) : Prop :=
  ∃ n ι' w' v', (execOp ρ o).run P w = .ok n w' ∧ (n = .value v' ∨ (n = .skip ∧ v' = undef)) ∧ VR ι' v v' ∧ R ι' σ' w' ∧ Ext ι w ι' w'
theorem EffOp.of {ρ : Operand → Value} {o : Oper} {v : Value} {s : Sem Value} (h : Good P ι σ' s w v) (he : execOp ρ o = (do pure (.value (← s)))) : EffOp P ι σ' ρ o w v := by
  obtain ⟨ι', v', w', h1, h2, h3, h4⟩ := h
  exact ⟨.value v', ι', w', v', by rw [he, Sem.run_bind, h1]; rfl, .inl rfl, h2, h3, h4⟩
theorem EffOp.ofU {ρ : Operand → Value} {o : Oper} {v : Value} {s : Sem Unit} (hv : v = .tuple #[]) (h : GoodU P ι σ' s w) (he : execOp ρ o = (do s; pure .skip)) : EffOp P ι σ' ρ o w v := by
  obtain ⟨ι', w', h1, h3, h4⟩ := h
  subst hv
  exact ⟨.skip, ι', w', undef, by rw [he, Sem.run_bind, h1]; rfl, .inr ⟨rfl, rfl⟩, .tuple .nil, h3, h4⟩
theorem VRs.one' {a : Value} {l : List Value} (h : VRs ι [a] l) : ∃ a', l = [a'] ∧ VR ι a a' := h.one
def effP (p : Prim) : Bool := !quietP p && (match p.kind with
  | .other => true
  | _ => false)
theorem eff_builtin {b : Builtin} {cargs : Array Operand} {cts : Array Nat} {ds : List Opd} {p : Prim} {args : List Opd} {e : Env} {a : Act} {vs : List Value} {v : Value} {dst ty pos after guard} (hc : compBuiltin P b ds cts.toList = some (p, args)) (hx : cargs.toList.mapM opdOf = some ds) (he : EnvR ι e a.tmps) (hv : e.evs args = some vs) (hlt : args.all opdLt = true)
    (hq : effP p = true) (hr : R ι σ w) (h : prim p vs σ = some (v, σ')) : EffOp P ι σ' a.eval ⟨dst, .call ⟨.builtin b, cargs, cts⟩, ty, pos, after, guard⟩ w v := by
  unfold compBuiltin at hc
  split at hc
  · split at hc
    · simp at hc; obtain ⟨rfl, rfl⟩ := hc; cases hq
    · simp at hc; obtain ⟨rfl, rfl⟩ := hc; cases hq
    · simp at hc; obtain ⟨rfl, rfl⟩ := hc; cases hq
    · cases hc
  · rename_i t hts
    have hts' : cts[0]? = some t := by rw [← Array.getElem?_toList, hts]; rfl
    split at hc
    · rename_i el ht
      simp at hc; obtain ⟨rfl, rfl⟩ := hc
      obtain ⟨l, hl1, hl2⟩ := call_args hx he hv hlt
      rcases vs with _ | ⟨u, _ | ⟨u2, r⟩⟩ <;> try (simp [prim, pCap] at h; done)
      obtain ⟨u', rfl, hu⟩ := hl2.one
      obtain ⟨k1, k2, rfl⟩ := good_cap (P := P) (ts := cts) (ty := ty) hr (show pCap [u] σ = _ from h) hu ht hts'
      exact .of (.pure hr k1 k2) (by rw [exec_builtin rfl, hl1]; rfl)
    · cases hc
  · rename_i t t2 hts
    have hts' : cts = #[t, t2] := by rw [← Array.toArray_toList (xs := cts), hts]
    subst hts'
    split at hc
    · rename_i el e2 ht hu
      simp only [Option.bind_eq_bind] at hc
      obtain ⟨z, hz, h2⟩ := Option.bind_eq_some_iff.1 hc
      obtain ⟨n, hn, h4⟩ := Option.bind_eq_some_iff.1 h2
      obtain ⟨by_, hb, h6⟩ := Option.bind_eq_some_iff.1 h4
      simp at h6; obtain ⟨rfl, rfl⟩ := h6
      obtain ⟨l, hl1, hl2⟩ := call_args hx he hv hlt
      rcases vs with _ | ⟨u, _ | ⟨u2, _ | ⟨u3, r⟩⟩⟩ <;> try (simp [prim, pAppend] at h; done)
      obtain ⟨a', b', rfl, h1, h2⟩ := hl2.two
      exact .of (good_append (P := P) (ty := ty) hr (show pAppend el n by_ [u, u2] σ = _ from h) h1 h2 ht hu hn hb hz) (by rw [exec_builtin rfl, hl1]; rfl)
    · rename_i el k ht hu
      simp only [Option.bind_eq_bind] at hc
      obtain ⟨n, hn, h4⟩ := Option.bind_eq_some_iff.1 hc
      obtain ⟨by_, hb, h5⟩ := Option.bind_eq_some_iff.1 h4
      obtain ⟨z, hz, h6⟩ := Option.bind_eq_some_iff.1 h5
      simp at h6; obtain ⟨rfl, rfl⟩ := h6
      obtain ⟨l, hl1, hl2⟩ := call_args hx he hv hlt
      rcases vs with _ | ⟨u, _ | ⟨u2, _ | ⟨u3, r⟩⟩⟩ <;> try (simp [prim, pAppendZ] at h; done)
      obtain ⟨a', b', rfl, h1, h2⟩ := hl2.two
      exact .of (good_appendZ (P := P) (ty := ty) hr (show pAppendZ el n by_ z.cells.toList [u, u2] σ = _ from h) h1 h2 ht hu hn hb hz) (by rw [exec_builtin rfl, hl1]; rfl)
    · cases hc
  · rename_i t t2 hts
    have hts' : cts = #[t, t2] := by rw [← Array.toArray_toList (xs := cts), hts]
    subst hts'
    split at hc
    · rename_i el e2 ht hu
      simp only [Option.bind_eq_bind] at hc
      obtain ⟨n, hn, h2⟩ := Option.bind_eq_some_iff.1 hc
      simp at h2; obtain ⟨rfl, rfl⟩ := h2
      obtain ⟨l, hl1, hl2⟩ := call_args hx he hv hlt
      rcases vs with _ | ⟨u, _ | ⟨u2, _ | ⟨u3, r⟩⟩⟩ <;> try (simp [prim, pCopy] at h; done)
      obtain ⟨a', b', rfl, h1, h2⟩ := hl2.two
      exact .of (good_copy (P := P) (e2 := 0) (ty := ty) hr (show pCopy n [u, u2] σ = _ from h) h1 h2 ht hn) (by rw [exec_builtin rfl, hl1]; rfl)
    · cases hc
  · split at hc
    · simp at hc; obtain ⟨rfl, rfl⟩ := hc; cases hq
    · cases hc
  · split at hc
    · simp at hc; obtain ⟨rfl, rfl⟩ := hc; cases hq
    · cases hc
  · rename_i t hts
    have hts' : cts[0]? = some t := by rw [← Array.getElem?_toList, hts]; rfl
    split at hc
    · rename_i kt el ht
      simp at hc; obtain ⟨rfl, rfl⟩ := hc
      obtain ⟨l, hl1, hl2⟩ := call_args hx he hv hlt
      rcases vs with _ | ⟨u, _ | ⟨u2, r⟩⟩ <;> try (simp [prim, pClearM] at h; done)
      obtain ⟨u', rfl, hu⟩ := hl2.one
      exact .of (good_clearM (P := P) (ts := cts) (ty := ty) hr (show pClearM [u] σ = _ from h) hu ht hts') (by rw [exec_builtin rfl, hl1]; rfl)
    · rename_i el ht
      simp only [Option.bind_eq_bind] at hc
      obtain ⟨n, hn, h2⟩ := Option.bind_eq_some_iff.1 hc
      obtain ⟨z, hz, h2⟩ := Option.bind_eq_some_iff.1 h2
      simp at h2; obtain ⟨rfl, rfl⟩ := h2
      obtain ⟨l, hl1, hl2⟩ := call_args hx he hv hlt
      rcases vs with _ | ⟨u, _ | ⟨u2, r⟩⟩ <;> try (simp [prim, pClearS] at h; done)
      obtain ⟨u', rfl, hu⟩ := hl2.one
      obtain ⟨hsz, h0⟩ := szP_some hn
      exact .of (good_clearS (P := P) (ts := cts) (ty := ty) hr (show pClearS z.cells.toList [u] σ = _ from h) hu ht hz hsz h0 hts') (by rw [exec_builtin rfl, hl1]; rfl)
    · cases hc
  · rename_i t r hts
    have hts' : cts[0]? = some t := by rw [← Array.getElem?_toList, hts]; rfl
    split at hc
    · rename_i kt el ht
      simp only [Option.bind_eq_bind] at hc
      obtain ⟨ks, hk, h2⟩ := Option.bind_eq_some_iff.1 hc
      simp at h2; obtain ⟨rfl, rfl⟩ := h2
      obtain ⟨l, hl1, hl2⟩ := call_args hx he hv hlt
      rcases vs with _ | ⟨u, _ | ⟨u2, _ | ⟨u3, r⟩⟩⟩ <;> try (simp [prim, pDelete] at h; done)
      obtain ⟨a', b', rfl, h1, h2⟩ := hl2.two
      exact .of (good_delete (P := P) (ts := cts) (ty := ty) hr (show pDelete ks [u, u2] σ = _ from h) h1 h2 ht hk hts') (by rw [exec_builtin rfl, hl1]; rfl)
    · cases hc
  · simp at hc; obtain ⟨rfl, rfl⟩ := hc
    cases h
  · cases hc

theorem eff_sound (T : Tables P) {o : Oper} {p : Prim} {args : List Opd} {e : Env} {a : Act} {vs : List Value} {v : Value} (hc : compOp P o.op = some (p, args)) (hq : effP p = true) (hlt : args.all opdLt = true)
    (he : EnvR ι e a.tmps) (hv : e.evs args = some vs) (hr : R ι σ w) (h : prim p vs σ = some (v, σ')) : EffOp P ι σ' a.eval o w v := by
  obtain ⟨dst, op, ty, pos, after, guard⟩ := o
  simp only at hc
  cases op <;> simp only [compOp, reduceCtorEq, Option.bind_eq_bind, Option.pure_def] at hc
  case alloc t =>
    obtain ⟨n, hn, h2⟩ := Option.bind_eq_some_iff.1 hc
    obtain ⟨z, hz, h4⟩ := Option.bind_eq_some_iff.1 h2
    simp at h4; obtain ⟨rfl, rfl⟩ := h4
    have := evs_nil hv; subst this
    exact .of (good_new (P := P) hr (show pNew t n z.cells.toList [] σ = _ from h) hz) rfl
  case box t x =>
    obtain ⟨n, hn, h2⟩ := Option.bind_eq_some_iff.1 hc
    obtain ⟨rfl, u, rfl, hx⟩ := arg1 h2 he hv hlt
    exact .of (good_box (P := P) hr (show pBox t n [u] σ = _ from h) hx) rfl
  case buildSlice t n ps =>
    split at hc
    · rename_i el ht
      obtain ⟨s, hs, h2⟩ := Option.bind_eq_some_iff.1 hc
      split at h2
      · cases h2
      · rename_i hle
        obtain ⟨z, hz, h4⟩ := Option.bind_eq_some_iff.1 h2
        obtain ⟨ds, hd, h6⟩ := Option.bind_eq_some_iff.1 h4
        simp at h6; obtain ⟨rfl, rfl⟩ := h6
        have hvs : VRs ι vs (ps.toList.map fun p => a.eval p.2) := by
          have := he.evs (xs := ps.toList.map (·.2)) (by rw [List.mapM_map]; exact hd) hv hlt
          simpa [Function.comp_def] using this
        have hparts : ps.map (fun (x : Nat × Operand) => (x.1, a.eval x.2)) = ((ps.toList.map (·.1)).zip (ps.toList.map fun p => a.eval p.2)).toArray := by
          apply Array.ext'
          simp [List.zip_map']
        have := good_buildSlice (P := P) (t := t) (idx := ps.toList.map (·.1)) hr (by rw [List.map_map]; exact h) hvs hz ht hs (by omega)
        exact .of this (by simp only [execOp, ← hparts])
    · cases hc
  case store t x y =>
    obtain ⟨n, hn, h2⟩ := Option.bind_eq_some_iff.1 hc
    obtain ⟨rfl, u1, u2, rfl, h1, h2⟩ := arg2 h2 he hv hlt
    obtain ⟨hv0, hg⟩ := good_store (P := P) hr (show pStore n [u1, u2] σ = _ from h) h1 h2 hn
    exact .ofU hv0 hg rfl
  case mapUpdate t m k x =>
    split at hc
    · rename_i kt el ht
      obtain ⟨ks, hk, h2⟩ := Option.bind_eq_some_iff.1 hc
      obtain ⟨rfl, u1, u2, u3, rfl, h1, h2, h3⟩ := arg3 h2 he hv hlt
      obtain ⟨hv0, hg⟩ := good_mapSet (P := P) hr (show pMapSet ks [u1, u2, u3] σ = _ from h) h1 h2 h3 ht hk
      exact .ofU hv0 hg rfl
    · cases hc
  case makeMap t r =>
    split at hc
    · simp at hc; obtain ⟨rfl, rfl⟩ := hc
      have := evs_nil hv; subst this
      exact .of (good_newMap (P := P) (sem := Instr.makeMap t none) hr h rfl) rfl
    · rename_i k n
      split at hc
      · rename_i kt el ht
        simp at hc; obtain ⟨rfl, rfl⟩ := hc
        have := evs_nil hv; subst this
        refine .of (good_newMap (P := P) (sem := Instr.makeMap t (some (.int k n))) hr h ?_) rfl
        simp only [Instr.makeMap, Sem.run_bind, run_underlying ht, Result.andThen_ok, Sem.run_pure]
        rfl
      · cases hc
    · cases hc
  case makeSlice t l c =>
    split at hc
    · rename_i el ht
      obtain ⟨n, hn, h2⟩ := Option.bind_eq_some_iff.1 hc
      obtain ⟨by_, hb, h4⟩ := Option.bind_eq_some_iff.1 h2
      obtain ⟨z, hz, h6⟩ := Option.bind_eq_some_iff.1 h4
      obtain ⟨rfl, u1, u2, rfl, h1, h2⟩ := arg2 h6 he hv hlt
      exact .of (good_newSlice (P := P) hr (show pNewSlice el n by_ z.cells.toList [u1, u2] σ = _ from h) h1 h2 ht hn hb hz) rfl
    · cases hc
  case call c =>
    obtain ⟨args0, hargs, h2⟩ := Option.bind_eq_some_iff.1 hc
    obtain ⟨cal, cargs, cts⟩ := c
    split at h2
    · rename_i b hb
      subst hb
      exact eff_builtin h2 hargs he hv hlt hq hr h
    · obtain ⟨_, _, h4⟩ := Option.bind_eq_some_iff.1 h2
      simp at h4; obtain ⟨rfl, rfl⟩ := h4; cases hq
    · rename_i f hb
      subst hb
      split at h2
      · rename_i fn hf
        split at h2
        · simp at h2; obtain ⟨rfl, rfl⟩ := h2; cases hq
        · rename_i hb
          have hbn : fn.body = none := by simpa using hb
          unfold extern at h2
          split at h2
          · simp at h2; obtain ⟨rfl, rfl⟩ := h2; cases hq
          · split at h2
            · simp at h2; obtain ⟨rfl, rfl⟩ := h2; cases hq
            · split at h2
              · rename_i hname
                simp at h2; obtain ⟨rfl, rfl⟩ := h2
                obtain ⟨l, hl1, hl2⟩ := call_args hargs he hv hlt
                rcases vs with _ | ⟨u, _ | ⟨u2, r⟩⟩ <;> try (simp [prim, pMapsClone] at h; done)
                obtain ⟨u', rfl, hu⟩ := hl2.one
                obtain ⟨ι', v', w', g1, g2, g3, g4⟩ := good_mapsClone (P := P) hr (show pMapsClone [u] σ = _ from h) hu
                refine ⟨.value v', ι', w', v', ?_, .inl rfl, g2, g3, g4⟩
                rw [exec_func rfl, hl1, T.clone f fn hf hbn (by simpa using hname) u' w, g1]
                rfl
              · split at h2
                · simp at h2; obtain ⟨rfl, rfl⟩ := h2; first | (cases hq; done) | (simp [prim, pNone] at h; done)
                · cases h2
      · cases h2
    · obtain ⟨_, _, h4⟩ := Option.bind_eq_some_iff.1 h2
      simp at h4; obtain ⟨rfl, rfl⟩ := h4; cases hq
  case makeFunc f first cap =>
    cases f <;> simp only [compOp, reduceCtorEq, Option.bind_eq_bind, Option.pure_def] at hc
    have hno : effP p = false := by
      revert hc
      repeat' first | exact no_none | exact no_some rfl | (refine no_bind fun _ => ?_) | split
    rw [hno] at hq; cases hq
  all_goals
    have hno : effP p = false := by
      revert hc
      try unfold compAgg
      try unfold compNil
      repeat' first | exact no_none | exact no_some rfl | (refine no_bind fun _ => ?_) | split
    rw [hno] at hq; cases hq
end
end AM
end Go.Proofs.YtdbbkaeoinalpaaGreat
