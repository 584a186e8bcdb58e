/- Calls. -/
import Derived.Test.YtdbbkaeoinalpaaGreatSnd21
set_option linter.unusedVariables false
namespace Go.Proofs.YtdbbkaeoinalpaaGreat
namespace AM
section
variable {P : Program} {O : Orc} {ι : Inj} {σ : H} {w : World} {plan : Nat → Option Plan} {N : Nat}

/-- The rest of a region whose first operation is done. -/
theorem head_regs (T0 : Tables P) (hO : OrcOK P O) {all : List Oper} {o : Oper} {os : List Oper} {os' : List Op} (hall : all = o :: os) (hm : os.mapM (compOper P all) = some os') :
    ∀ (b : AM.Code) (e : Env) (a : Act) (σ : H) (w : World) (ι : Inj) (res : Ex × Env × H) (Q : Exit → Act → World → Prop), erase b = .reg os' → okN N b = true → StR N ι e a → R ι σ w → denote O b e σ = some res →
      (∀ ex a' w', Post ι w N res ex a' w' → Q ex a' w') → wpL P all.toArray Q (List.range' 1 os.length) a w := by
  intro b
  induction b with
  | reg ops =>
    intro e a σ w ι res Q hb hok hs hr h hQ
    simp only [erase, Code.reg.injEq] at hb
    subst hb
    simp only [denote] at h
    simp only [okN] at hok
    exact regs_wp T0 hO.toCallsOK os 1 _ e a σ w ι (by rw [hall]; rfl) hm hok hs hr h hQ
  | seq x y ihx ihy =>
    intro e a σ w ι res Q hb hok hs hr h hQ
    simp only [okN, Bool.and_eq_true] at hok
    by_cases hx : ∃ ks, x = .keep ks
    · obtain ⟨ks, rfl⟩ := hx
      rw [erase_keep_left] at hb
      simp only [denote] at h
      exact ihy (e.sub ks) a σ w ι res Q hb hok.2 (hs.sub ks) hr h hQ
    · have hx' : ∀ ks, x ≠ .keep ks := fun ks hk => hx ⟨ks, hk⟩
      by_cases hy : ∃ ks, y = .keep ks
      · obtain ⟨ks, rfl⟩ := hy
        rw [erase_keep_right _ _ hx'] at hb
        simp only [denote] at h
        split at h
        · cases h
        · rename_i ex e' σ' hd
          refine ihx e a σ w ι _ Q hb hok.1 hs hr hd ?_
          rintro ex2 a2 w2 ⟨ι', g1, g2, g3, g4⟩
          refine hQ _ _ _ ⟨ι', g1, ?_⟩
          cases ex <;> simp only [Option.some.injEq] at h <;> subst h
          · exact ⟨g2, g3, g4.sub ks⟩
          · exact ⟨g2, g3, g4⟩
          · exact ⟨g2, g3, g4⟩
          · exact ⟨g2, g3, g4⟩
      · rw [erase_seq hx' (fun ks hk => hy ⟨ks, hk⟩)] at hb
        cases hb
  | skip => intro _ _ _ _ _ _ _ hb; cases hb
  | draw segs ds => intro _ _ _ _ _ _ _ hb; cases hb
  | keep ks => intro _ _ _ _ _ _ _ hb; cases hb
  | cond c x y => intro _ _ _ _ _ _ _ hb; simp only [erase] at hb; cases hb
  | block id x => intro _ _ _ _ _ _ _ hb; simp only [erase] at hb; cases hb
  | loop ks x => intro _ _ _ _ _ _ _ hb; simp only [erase] at hb; cases hb
  | exit id => intro _ _ _ _ _ _ _ hb; cases hb
  | ret => intro _ _ _ _ _ _ _ hb; cases hb

/-- A deferred function's code. -/
theorem head_code (T0 : Tables P) (hO : OrcOK P O) {all : List Oper} {o : Oper} {os : List Oper} {os' : List Op} {rest : Go.Code} {rest' : AM.Code} {id : Nat} {c0 : Call} {r : Nat} (hall : all = o :: os) (hm : os.mapM (compOper P all) = some os') (hrest : compCode P plan rest = some rest')
    (hd : o.dst = some r) (hop : o.op = .call c0) (hcal : c0.callee = .builtin .recover) (hg : o.guard = none) {cs cs1 : List Frame} {pv : Value} (hrec : (recoverD cs = some (pv, cs1)) ∨ (recoverD cs = none ∧ pv = .nilIface ∧ cs1 = cs)) :
    ∀ (b : AM.Code) (e : Env) (a : Act) (σ : H) (w : World) (ι : Inj) (res : Ex × Env × H), erase b = .seq (.reg os') rest' → okN N b = true → StR N ι e (a.put (some r) pv) → R ι σ w → denote O b e σ = some res →
      (Go.Code.seq (.region id all.toArray false) rest).wpS P (fun ex a' cs' w' => cs' = cs1 ∧ Post ι w N res ex a' w') a cs w := by
  intro b
  induction b with
  | seq x y ihx ihy =>
    intro e a σ w ι res hb hok hs hr h
    simp only [okN, Bool.and_eq_true] at hok
    by_cases hx : ∃ ks, x = .keep ks
    · obtain ⟨ks, rfl⟩ := hx
      rw [erase_keep_left] at hb
      simp only [denote] at h
      exact ihy (e.sub ks) a σ w ι res hb hok.2 (hs.sub ks) hr h
    · have hx' : ∀ ks, x ≠ .keep ks := fun ks hk => hx ⟨ks, hk⟩
      by_cases hy : ∃ ks, y = .keep ks
      · obtain ⟨ks, rfl⟩ := hy
        rw [erase_keep_right _ _ hx'] at hb
        simp only [denote] at h
        split at h
        · cases h
        · rename_i ex e' σ' hdn
          have h1 := ihx e a σ w ι _ hb hok.1 hs hr hdn
          intro bf k hk1 hk2
          obtain ⟨ex2, a2, cs2, w2, ⟨hcs, ι', g1, g2, g3, g4⟩, harr⟩ := h1 bf k hk1 hk2
          refine ⟨ex2, a2, cs2, w2, ⟨hcs, ι', g1, ?_⟩, harr⟩
          cases ex <;> simp only [Option.some.injEq] at h <;> subst h
          · exact ⟨g2, g3, g4.sub ks⟩
          · exact ⟨g2, g3, g4⟩
          · exact ⟨g2, g3, g4⟩
          · exact ⟨g2, g3, g4⟩
      · rw [erase_seq hx' (fun ks hk => hy ⟨ks, hk⟩)] at hb
        injection hb with hb1 hb2
        simp only [denote] at h
        split at h
        · cases h
        rename_i ex e' σ' hdn
        refine wpS_seq (wpS_region ?_)
        have hrun : ∀ w, (execOp a.eval o).run P w = .ok .recover w := by
          intro w
          obtain ⟨dst, op, ty, pos, after, guard⟩ := o
          simp only at hop
          subst hop
          rw [exec_builtin hcal]
          rfl
        have hz : (List.range all.toArray.size) = 0 :: List.range' 1 os.length := by
          rw [hall, List.range_eq_range']
          simp [List.range'_succ]
        rw [hz]
        have h0 : all.toArray[0]? = some o := by rw [hall]; rfl
        have hwant : Region.wanted o (yielded all.toArray a.tmps) = true := by simp [Region.wanted, hg]
        simp only [wpOpsS, h0, hwant, if_true, hrun w]
        have hgoal : wpOpsS P all.toArray (Exit.thenS (rest.wpS P fun ex a' cs' w' => cs' = cs1 ∧ Post ι w N res ex a' w') fun ex a' cs' w' => cs' = cs1 ∧ Post ι w N res ex a' w') (List.range' 1 os.length) (a.put (some r) pv) cs1 w := by
          refine wpL_opsS _ _ _ (head_regs T0 hO hall hm x e _ σ w ι _ _ hb1 hok.1 hs hr hdn ?_)
          rintro ex2 a2 w2 ⟨ι', g1, g2, g3, g4⟩
          cases ex with
          | normal =>
            cases ex2 <;> simp only [ExR] at g3
            refine wpS_of_wp (wp_mono (code_wp T0 hO y rest e' a2 σ' w2 ι' res (by rw [hrest, hb2]) hok.2 g4 g2 h) ?_)
            exact fun ex3 a3 w3 h3 => ⟨rfl, h3.trans g1⟩
          | exit i =>
            simp only [Option.some.injEq] at h
            subst h
            cases ex2 <;> simp only [ExR] at g3
            exact ⟨rfl, ι', g1, g2, g3, g4⟩
          | ret =>
            simp only [Option.some.injEq] at h
            subst h
            cases ex2 <;> simp only [ExR] at g3
            exact ⟨rfl, ι', g1, g2, trivial, g4⟩
          | panic v =>
            simp only [Option.some.injEq] at h
            subst h
            cases ex2 <;> simp only [ExR] at g3
            exact ⟨rfl, ι', g1, g2, g3, g4⟩
        rcases hrec with hrec | ⟨hrec, rfl, rfl⟩
        · simp only [hrec, hd]; exact hgoal
        · simp only [hrec, hd]; exact hgoal
  | reg ops => intro _ _ _ _ _ _ hb; simp only [erase] at hb; cases hb
  | skip => intro _ _ _ _ _ _ hb; cases hb
  | draw segs ds => intro _ _ _ _ _ _ hb; cases hb
  | keep ks => intro _ _ _ _ _ _ hb; cases hb
  | cond c x y => intro _ _ _ _ _ _ hb; simp only [erase] at hb; cases hb
  | block id x => intro _ _ _ _ _ _ hb; simp only [erase] at hb; cases hb
  | loop ks x => intro _ _ _ _ _ _ hb; simp only [erase] at hb; cases hb
  | exit id => intro _ _ _ _ _ _ hb; cases hb
  | ret => intro _ _ _ _ _ _ hb; cases hb

/-- In what way a caller leaves when what it deferred is called. -/
def LeaveR (ι : Inj) : Option Value → FrameMode → Prop
  | none, u => u = .returning
  | some v, u => ∃ v', u = .panicking [{ v := v', recovered := false }] ∧ VR ι v v'

theorem deferred_sound (T0 : Tables P) (hO : OrcOK P O) {fs : Nat → Option AM.Func} (hfs : ∀ k F, fs k = some F → FnOK P k F) {k : Nat} {cap cap' : List Value} {p : Option Value} {t : Bool} {σ2 : H} {u : FrameMode}
    (h : deferred O fs (.func (.func k) ⟨[]⟩ ⟨cap⟩) p σ = some (t, σ2)) (hr : R ι σ w) (hc : VRs ι cap cap') (hu : LeaveR ι p u) :
    (∃ fn, P.funcs[k]? = some fn ∧ fn.body.isSome = true ∧ fn.name ≠ "runtime.NumGoroutine") ∧
      CallsD P k ⟨cap'⟩ u w (fun en u' w2 => ∃ ι' rv, en = .returned rv ∧ settle u' = .returning ∧ Ext ι w ι' w2 ∧ R ι' σ2 w2) := by
  unfold deferred at h
  simp only at h
  split at h
  case h_2 => cases h
  rename_i b r hF
  split at h
  case h_1 => cases h
  rename_i hlen
  simp only [nble, decide_eq_true_eq] at hlen
  split at h
  case h_2 => cases h
  rename_i x e' σ' hdn
  split at h
  case h_1 => cases h
  rename_i hnd
  obtain ⟨fn, plan, hfn, hname, hcomp, hok⟩ := (hfs _ _ hF).ex
  obtain ⟨c, hbody, hres, hcase⟩ := compFunc_some hcomp
  refine ⟨⟨fn, hfn, by rw [hbody]; rfl, hname⟩, ?_⟩
  simp only [Func.erase] at hcase hres
  rcases hcase with ⟨h0, _⟩ | ⟨r', ops, os, rest, os', rest', hrh, hrr, hm, hrest, hb⟩
  · cases h0
  cases hrr
  obtain ⟨id, o, c0, rfl, hops, hd, hop, hcal, hg⟩ := recoverHead_some hrh
  simp only [Func.okF, Bool.and_eq_true] at hok
  obtain ⟨⟨⟨hokb, hokr⟩, hokd⟩, hokl⟩ := hok
  have hsz : fn.ntmps ≤ (entry fn.ntmps cap').tmps.size := by rw [entry_size]; omega
  have hokb' := okN_mono hsz b hokb
  have hst0 := entry_StR (n := fn.ntmps) hlen hc
  refine callsD_of_wpS hfn hbody fun c₀ cs hc0 => ?_
  -- what is recovered
  have hrec : ∃ pv u', ((recoverD (c₀ :: cs) = some (pv, { c₀ with mode := u' } :: cs)) ∨ (recoverD (c₀ :: cs) = none ∧ pv = .nilIface ∧ ({ c₀ with mode := u' } :: cs : List Frame) = c₀ :: cs)) ∧ VR ι (p.getD .nilIface) pv ∧ settle u' = .returning := by
    cases p with
    | none =>
      simp only [LeaveR] at hu
      subst hu
      refine ⟨.nilIface, .returning, .inr ⟨?_, rfl, ?_⟩, .nili, rfl⟩
      · simp [recoverD, hc0]
      · rw [← hc0]
    | some v =>
      obtain ⟨v', rfl, hv⟩ := hu
      refine ⟨v', .panicking [{ v := v', recovered := true }], .inl ?_, hv, rfl⟩
      simp [recoverD, hc0]
  obtain ⟨pv, u', hrec, hpv, hset⟩ := hrec
  have hrN : ∀ j, some r = some j → j < (entry fn.ntmps cap').tmps.size := by
    intro j hj
    have := dstN_iff hokd j hj
    omega
  have hst : StR (entry fn.ntmps cap').tmps.size ι ((r, p.getD .nilIface) :: params 0 cap) ((entry fn.ntmps cap').put (some r) pv) := by
    have := hst0.put (d := some r) hrN hokl hpv
    exact this
  have hwp := head_code (id := id) (plan := plan) (cs := c₀ :: cs) T0 hO hops hm hrest hd hop hcal hg hrec b _ (entry fn.ntmps cap') σ w ι _ hb hokb' hst hr hdn
  have harr : (⟨ops.toList⟩ : Array Oper) = ops := rfl
  intro bf kk hk1 hk2
  obtain ⟨ex, a1, cs1, w1, ⟨rfl, ι', g1, g2, g3, g4⟩, harr2⟩ := hwp bf kk hk1 hk2
  refine ⟨ex, a1, _, w1, ?_, harr2⟩
  have hdf : a1.defers = [] := by
    have := g4.dfr
    unfold DefR at this
    simp only at this
    rw [hnd] at this
    exact this
  have hres0 : fn.results.toList = [] := by
    cases hl : fn.results.toList with
    | nil => rfl
    | cons y ys =>
      rw [hl] at hres
      obtain ⟨_, _, _, _, hcon⟩ := mapM_cons_some hres
      cases hcon
  have hrun : (Go.results fn a1.tmps).run P w1 = .ok (.tuple #[]) w1 := by
    have : fn.results = #[] := Array.ext' hres0
    simp [Go.results, this]
  cases x with
  | normal =>
    simp only [Option.some.injEq, Prod.mk.injEq] at h
    obtain ⟨rfl, rfl⟩ := h
    cases ex <;> simp only [ExR] at g3
    exact ⟨hdf, u', rfl, _, hrun, ι', _, rfl, hset, g1, g2⟩
  | ret =>
    simp only [Option.some.injEq, Prod.mk.injEq] at h
    obtain ⟨rfl, rfl⟩ := h
    cases ex <;> simp only [ExR] at g3
    exact ⟨hdf, u', rfl, _, hrun, ι', _, rfl, hset, g1, g2⟩
  | exit i => cases h
  | panic v => cases h

theorem callF_sound (T0 : Tables P) (hO : OrcOK P O) {fs : Nat → Option AM.Func} (hfs : ∀ k F, fs k = some F → FnOK P k F) {k : Nat} {args args' : List Value} {r : Res} {σ' : H}
    (h : callF O fs k args σ = some (r, σ')) : (∃ fn, P.funcs[k]? = some fn ∧ fn.body.isSome = true ∧ fn.name ≠ "runtime.NumGoroutine") ∧
    ∀ {ι : Inj} {args' : List Value} {w : World}, R ι σ w → VRs ι args args' → Calls P k ⟨args'⟩ w (CallR ι w r σ') := by
  unfold callF at h
  split at h
  · cases h
  rename_i F hF
  split at h
  · cases h
  rename_i hrcv
  split at h
  · cases h
  rename_i hlen
  simp only [nble, decide_eq_true_eq] at hlen
  split at h
  · cases h
  rename_i x e σ1 hdn
  obtain ⟨fn, plan, hfn, hname, hcomp, hok⟩ := (hfs _ _ hF).ex
  obtain ⟨c, hbody, hres, hcase⟩ := compFunc_some hcomp
  refine ⟨⟨fn, hfn, by rw [hbody]; rfl, hname⟩, ?_⟩
  intro ι args' w hr hv
  simp only [Func.erase] at hcase hres
  rcases hcase with ⟨_, hcode⟩ | ⟨r', _, _, _, _, _, _, h0, _⟩
  case inr => rw [hrcv] at h0; cases h0
  simp only [Func.okF, Bool.and_eq_true] at hok
  obtain ⟨⟨⟨hokb, hokr⟩, _⟩, _⟩ := hok
  have hsz : fn.ntmps ≤ (entry fn.ntmps args').tmps.size := by rw [entry_size]; omega
  have hwp := code_wp T0 hO F.body c (params 0 args) (entry fn.ntmps args') σ w ι _ hcode (okN_mono hsz _ hokb) (entry_StR hlen hv) hr hdn
  refine calls_of_wp_defers hfn hbody (wp_mono hwp ?_)
  rintro ex a1 w1 ⟨ι', g1, g2, g3, g4⟩
  -- how it is left
  have leave : ∀ (p : Option Value) (u : FrameMode), LeaveR ι' p u → (match e.get 1000000 with
        | none => match p with
          | none => results e σ1 F.results
          | some v => some (.panic v, σ1)
        | some d => match p with
          | none => match deferred O fs d none σ1 with
            | some (_, σ2) => results e σ2 F.results
            | none => none
          | some v => match deferred O fs d (some v) σ1 with
            | some (true, σ2) => results e σ2 F.results
            | _ => none) = some (r, σ') → Leaves P fn a1.tmps (CallR ι w r σ') a1.defers u w1 := by
    intro p u hu hh
    have hdf := g4.dfr
    unfold DefR at hdf
    simp only at hdf
    split at hh
    · rename_i hnd
      rw [hnd] at hdf
      simp only at hdf
      rw [hdf]
      cases p with
      | none =>
        simp only [LeaveR] at hu
        subst hu
        obtain ⟨rfl, v, v', rfl, hrun, hvr⟩ := results_sound T0 hres hokr g4.env g2 hh
        exact ⟨v', hrun, ι', g1, g2, hvr⟩
      | some v =>
        obtain ⟨v', rfl, hvr⟩ := hu
        simp only [Option.some.injEq, Prod.mk.injEq] at hh
        obtain ⟨rfl, rfl⟩ := hh
        exact ⟨ι', g1, g2, v', rfl, hvr⟩
    · rename_i d hd
      rw [hd] at hdf
      obtain ⟨kd, cap, cap', rfl, hds, hcap⟩ := hdf
      rw [hds]
      have hdd : ∃ t σ2, deferred O fs (.func (.func kd) ⟨[]⟩ ⟨cap⟩) p σ1 = some (t, σ2) ∧ results e σ2 F.results = some (r, σ') := by
        cases p with
        | none =>
          simp only at hh
          split at hh
          · exact ⟨_, _, by assumption, hh⟩
          · cases hh
        | some v =>
          simp only at hh
          split at hh
          · exact ⟨_, _, by assumption, hh⟩
          · cases hh
      obtain ⟨t, σ2, hdef, hh2⟩ := hdd
      obtain ⟨⟨fn2, hf2, hb2, hn2⟩, hcd⟩ := deferred_sound T0 hO hfs hdef g2 hcap hu
      refine leaves_cons (f := kd) (args := ⟨cap'⟩) ?_ ?_ (hcd.mono ?_)
      · intro hur
        cases p with
        | none => rw [hu] at hur; cases hur
        | some v => obtain ⟨v', hu2, _⟩ := hu; rw [hu2] at hur; cases hur
      · have : (#[] ++ (⟨cap'⟩ : Array Value)) = ⟨cap'⟩ := by simp
        simp only [invoke, this]
        exact run_callFunc_enter hf2 hb2 hn2 w1
      · rintro en u' w2 ⟨ι2, rv, rfl, hset, k1, k2⟩
        show Leaves P fn a1.tmps (CallR ι w r σ') [] (settle u') w2
        rw [hset]
        obtain ⟨rfl, v, v', rfl, hrun, hvr⟩ := results_sound T0 hres hokr (g4.env.mono k1.sub) k2 hh2
        exact ⟨v', hrun, ι2, g1.trans k1, k2, hvr⟩
  cases x with
  | normal =>
    cases ex <;> simp only [ExR] at g3
    refine leave none .returning rfl ?_
    rw [← h]
    cases e.get 1000000 <;> rfl
  | ret =>
    cases ex <;> simp only [ExR] at g3
    refine leave none .returning rfl ?_
    rw [← h]
    cases e.get 1000000 <;> rfl
  | panic v =>
    cases ex <;> simp only [ExR] at g3
    obtain ⟨v', rfl, hvr⟩ := g3
    refine leave (some v) _ ⟨v', rfl, hvr⟩ ?_
    rw [← h]
    cases e.get 1000000 <;> rfl
  | exit i =>
    exfalso
    simp only at h
    split at h <;> cases h

/-! ### The whole machine -/
/-- A contract of a function's own. -/
def OwnOK (P : Program) (k : Nat) (f : List Value → H → Option (Res × H)) : Prop :=
  (∃ fn, P.funcs[k]? = some fn ∧ fn.body.isSome = true ∧ fn.name ≠ "runtime.NumGoroutine") ∧ ∀ {args : List Value} {σ : H} {r : Res} {σ' : H}, f args σ = some (r, σ') → ∀ {ι : Inj} {args' : List Value} {w : World}, R ι σ w → VRs ι args args' → Calls P k ⟨args'⟩ w (CallR ι w r σ')
def MethOK (P : Program) (m : Nat → String → Option (Nat × Option (Bool × Nat))) : Prop :=
  ∀ {t : Nat} {name : String} {f : Nat} {how : Option (Bool × Nat)}, m t name = some (f, how) → ∀ {ι : Inj} {σ : H} {w : World} {v v' x : Value}, R ι σ w → VR ι v v' → recv σ v how = some x →
    ∃ x', (method (P.types.size + Made.depth) t v' name).run P w = .ok (f, x') w ∧ VR ι x x'
structure ProgOK (P : Program) (Pr : AM.Prog) : Prop where
  tables : Tables P
  fs : ∀ k F, Pr.fs k = some F → FnOK P k F
  own : ∀ k f, Pr.own k = some f → OwnOK P k f
  meth : MethOK P Pr.meth

theorem orc_ok {Pr : AM.Prog} (hP : ProgOK P Pr) : ∀ n, OrcOK P (orc Pr n)
  | 0 => { call := fun h => by simp [orc] at h, meth := hP.meth, loop := fun _ _ h => by simp [orc] at h }
  | n + 1 => by
    have ih := orc_ok hP n
    refine { call := fun {f args σ r σ'} h => ?_, meth := hP.meth, loop := fun {plan N ks b c e σ res} hc hok h {ι w a} hs hr => ?_ }
    · simp only [orc, answer] at h
      split at h
      · rename_i g hg
        obtain ⟨h1, h2⟩ := hP.own f g hg
        exact ⟨h1, fun hr hv => h2 h hr hv⟩
      · exact callF_sound hP.tables ih hP.fs (args' := []) h
    · simp only [orc, again] at h
      split at h
      · cases h
      rename_i x e' σ' hdn
      refine LoopSt.unroll (wp_mono (code_wp hP.tables ih b c e a σ w ι _ hc hok hs hr hdn) ?_)
      rintro ex a1 w1 ⟨ι', g1, g2, g3, g4⟩
      cases x with
      | normal =>
        cases ex <;> simp only [ExR] at g3
        exact (ih.loop hc hok h (g4.sub ks) g2).mono fun _ _ _ hp => hp.trans g1
      | exit i =>
        simp only [Option.some.injEq] at h
        subst h
        cases ex <;> simp only [ExR] at g3
        exact ⟨ι', g1, g2, g3, g4⟩
      | ret =>
        simp only [Option.some.injEq] at h
        subst h
        cases ex <;> simp only [ExR] at g3
        exact ⟨ι', g1, g2, trivial, g4⟩
      | panic v =>
        simp only [Option.some.injEq] at h
        subst h
        cases ex <;> simp only [ExR] at g3
        exact ⟨ι', g1, g2, g3, g4⟩

/-- What the machine answers is what the program does. -/
theorem calls_of_orc {Pr : AM.Prog} (hP : ProgOK P Pr) {n f : Nat} {args args' : List Value} {r : Res} {σ' : H} (h : (orc Pr n).call f args σ = some (r, σ')) (hr : R ι σ w) (hv : VRs ι args args') : Calls P f ⟨args'⟩ w (CallR ι w r σ') :=
  ((orc_ok hP n).call h).2 hr hv
end
end AM
end Go.Proofs.YtdbbkaeoinalpaaGreat
