/- Regions in the text's order. -/
import Derived.Test.YtdbbkaeoinalpaaGreatSnd12
set_option linter.unusedVariables false
namespace Go.Proofs.YtdbbkaeoinalpaaGreat
namespace AM
section
variable {P : Program} {ι : Inj} {σ σ' : H} {w : World} {O : Orc}

/-- What is deferred. -/
def DefR (ι : Inj) (e : Env) (ds : List Deferred) : Prop :=
  match e.get 1000000 with
  | none => ds = []
  | some f => ∃ k cap cap', f = .func (.func k) ⟨[]⟩ ⟨cap⟩ ∧ ds = [{ target := .fn (.func k) ⟨cap'⟩, args := #[] }] ∧ VRs ι cap cap'
structure StR (N : Nat) (ι : Inj) (e : Env) (a : Act) : Prop where
  env : EnvR ι e a.tmps
  dfr : DefR ι e a.defers
  size : a.tmps.size = N
def ExR (ι : Inj) : Ex → Exit → Prop
  | .normal, .normal => True
  | .exit i, .exit j => i = j
  | .ret, .ret => True
  | .panic v, .panic c => ∃ v', c = [{ v := v', recovered := false }] ∧ VR ι v v'
  | _, _ => False
def Post (ι : Inj) (w : World) (N : Nat) (res : Ex × Env × H) : Exit → Act → World → Prop := fun ex a' w' => ∃ ι', Ext ι w ι' w' ∧ R ι' res.2.2 w' ∧ ExR ι' res.1 ex ∧ StR N ι' res.2.1 a'
theorem Post.trans {ι ι1 : Inj} {w w1 : World} {N : Nat} {res : Ex × Env × H} {ex : Exit} {a' : Act} {w' : World} (h : Ext ι w ι1 w1) (hp : Post ι1 w1 N res ex a' w') : Post ι w N res ex a' w' := by
  obtain ⟨ι', h1, h2⟩ := hp
  exact ⟨ι', h.trans h1, h2⟩

theorem DefR.mono {ι ι' : Inj} (hs : Sub ι ι') {e : Env} {ds : List Deferred} (h : DefR ι e ds) : DefR ι' e ds := by
  unfold DefR at *
  split at h
  · exact h
  · obtain ⟨k, cap, cap', h1, h2, h3⟩ := h
    exact ⟨k, cap, cap', h1, h2, h3.mono hs⟩
theorem DefR.of_get {ι : Inj} {e e' : Env} {ds : List Deferred} (h : DefR ι e ds) (he : e'.get 1000000 = e.get 1000000) : DefR ι e' ds := by
  unfold DefR at *
  rw [he]; exact h
theorem Act.put_dfr (a : Act) (d : Option Nat) (v : Value) : (a.put d v).defers = a.defers := by cases d <;> rfl
theorem Act.put_size (a : Act) (d : Option Nat) (v : Value) : (a.put d v).tmps.size = a.tmps.size := by cases d <;> simp [Act.put]
theorem dstLt_iff {d : Option Nat} (h : dstLt d = true) : ∀ k, d = some k → k < 1000000 := by
  rintro k rfl
  simpa [dstLt, nblt] using h
theorem StR.put {N : Nat} {e : Env} {a : Act} {d : Option Nat} {v v' : Value} (h : StR N ι e a) (hd : ∀ k, d = some k → k < N) (hl : dstLt d = true) (hv : VR ι v v') : StR N ι (e.put d v) (a.put d v') := by
  refine ⟨h.env.put (fun k hk => by rw [h.size]; exact hd k hk) hv, ?_, by rw [Act.put_size]; exact h.size⟩
  rw [Act.put_dfr]
  refine h.dfr.of_get ?_
  rw [Env.get_put, if_neg]
  rintro rfl
  have := dstLt_iff hl _ rfl
  omega
theorem StR.mono {N : Nat} {ι ι' : Inj} (hs : Sub ι ι') {e : Env} {a : Act} (h : StR N ι e a) : StR N ι' e a := ⟨h.env.mono hs, h.dfr.mono hs, h.size⟩
theorem undef_VR : VR ι (.tuple #[]) undef := .tuple .nil

/-! ### What the compiler says of an operation -/
theorem dstN_iff {N : Nat} {d : Option Nat} (h : dstN N d = true) : ∀ k, d = some k → k < N := by
  rintro k rfl
  simpa [dstN, nblt] using h
theorem compOper_some {ops : List Oper} {o : Oper} {q : Op} (h : compOper P ops o = some q) : compOp P o.op = some (q.p, q.args) ∧ q.args.all opdLt = true ∧ dstLt o.dst = true ∧ q.dst = o.dst ∧
    ((o.guard = none ∧ q.guard = none) ∨ ∃ j b d, o.guard = some (j, b) ∧ q.guard = some (d, b) ∧ (ops[j]?).bind (·.dst) = some d ∧ d < 1000000) := by
  unfold compOper at h
  simp only [Option.bind_eq_bind, Option.pure_def] at h
  obtain ⟨⟨p, args⟩, h1, h2⟩ := Option.bind_eq_some_iff.1 h
  simp only at h2
  split at h2
  · cases h2
  · rename_i hc
    simp only [Bool.not_eq_true, Bool.not_eq_false', Bool.and_eq_true] at hc
    split at h2
    · rename_i hg
      simp only [Option.bind_some, Option.some.injEq] at h2
      subst h2
      exact ⟨h1, hc.1, hc.2, rfl, .inl ⟨hg, rfl⟩⟩
    · rename_i j b hg
      obtain ⟨d, h5, h6⟩ := Option.bind_eq_some_iff.1 h2
      split at h6
      · rename_i hlt
        simp only [Option.bind_some, Option.some.injEq] at h6
        subst h6
        exact ⟨h1, hc.1, hc.2, rfl, .inr ⟨j, b, d, hg, rfl, h5, by simpa [dstLt, nblt] using hlt⟩⟩
      · cases h6
theorem wanted_eq {ops : List Oper} {o : Oper} {q : Op} {e : Env} {a : Act} {b : Bool} (h : compOper P ops o = some q) (he : EnvR ι e a.tmps) (hw : wantedV e q.guard = some b) : Region.wanted o (yielded ops.toArray a.tmps) = b := by
  obtain ⟨_, _, _, _, hg⟩ := compOper_some h
  rcases hg with ⟨h1, h2⟩ | ⟨j, want, d, h1, h2, h3, h4⟩
  · rw [h2] at hw
    simp only [wantedV, Option.some.injEq] at hw
    subst hw
    simp [Region.wanted, h1]
  · rw [h2] at hw
    simp only [wantedV] at hw
    have hy : yielded ops.toArray a.tmps j = match a.tmps[d]? with
        | some (.bool b) => some b
        | _ => none := by
      unfold yielded
      rw [List.getElem?_toArray, h3]
      rfl
    simp only [Region.wanted, h1, hy]
    cases hv : e.get d with
    | none => rw [hv] at hw; cases hw
    | some v =>
      obtain ⟨v', g1, g2⟩ := he d v hv h4
      rw [hv] at hw
      rw [g1]
      cases g2 <;> simp only [Option.some.injEq] at hw <;> subst hw
      case bool b0 => cases b0 <;> cases want <;> rfl
      all_goals rfl

/-! ### Operations one behind another -/
def wpL (P : Program) (ops : Array Oper) (Q : Exit → Act → World → Prop) : List Nat → Act → World → Prop
  | [], a, w => Q .normal a w
  | i :: rest, a, w => ∃ o, ops[i]? = some o ∧ ((Region.wanted o (yielded ops a.tmps) = true ∧ o.wp P a w (wpL P ops Q rest) Q) ∨ (Region.wanted o (yielded ops a.tmps) = false ∧ wpL P ops Q rest (a.put o.dst undef) w))
theorem wpL_ops {ops : Array Oper} {Q : Exit → Act → World → Prop} : ∀ (l : List Nat) (a : Act) (w : World), wpL P ops Q l a w → wpOps P ops Q l a w
  | [], _, _, h => h
  | i :: rest, a, w, h => by
    obtain ⟨o, ho, h⟩ := h
    simp only [wpOps, ho]
    rcases h with ⟨hw, h⟩ | ⟨hw, h⟩
    · rw [if_pos hw]
      exact .inl (Oper.wp_mono (fun a w h => wpL_ops rest a w h) h)
    · rw [if_neg (by simp [hw])]
      exact wpL_ops rest _ _ h
theorem wpL_opsS {ops : Array Oper} {Q : Exit → Act → List Frame → World → Prop} {cs : List Frame} : ∀ (l : List Nat) (a : Act) (w : World), wpL P ops (fun e a w => Q e a cs w) l a w → wpOpsS P ops Q l a cs w
  | [], _, _, h => h
  | i :: rest, a, w, h => by
    obtain ⟨o, ho, h⟩ := h
    simp only [wpOpsS, ho]
    rcases h with ⟨hw, h⟩ | ⟨hw, h⟩
    · rw [if_pos hw]
      have h2 : o.wp P a w (fun a' w' => wpOpsS P ops Q rest a' cs w') (fun e a' w' => Q e a' cs w') := Oper.wp_mono (fun a w h => wpL_opsS rest a w h) h
      unfold Oper.wp at h2
      split
      · rename_i w' hr
        rw [hr] at h2
        exact h2.elim
      · exact h2
    · rw [if_neg (by simp [hw])]
      exact wpL_opsS rest _ _ h

theorem addDefer_some {e e' : Env} {f : Value} (h : addDefer e f = some e') : ∃ k cap, f = .func (.func k) ⟨[]⟩ ⟨cap⟩ ∧ e.get 1000000 = none ∧ e' = (1000000, f) :: e := by
  unfold addDefer at h
  split at h
  · rename_i k cap
    split at h
    · rename_i hn
      simp only [Option.some.injEq] at h
      exact ⟨k, cap.toList, rfl, hn, h.symm⟩
    · cases h
  · cases h

theorem kind_defer {p : Prim} (h : p.kind = .defer) : p = .defer := by cases p <;> simp [Prim.kind] at h ⊢
/-- A deferral. -/
theorem defer_wp {o : Oper} {p : Prim} {args : List Opd} {e e' : Env} {a : Act} {vs : List Value} {N : Nat} (hc : compOp P o.op = some (p, args)) (hk : p.kind = .defer) (hlt : args.all opdLt = true)
    (hs : StR N ι e a) (hv : e.evs args = some vs) (h : deferV e vs = some e') (hd : ∀ k, o.dst = some k → k < N) (hl : dstLt o.dst = true) {K : Act → World → Prop} {Q : Exit → Act → World → Prop}
    (hK : ∀ a', StR N ι (e'.put o.dst (.tuple #[])) a' → K a' w) : o.wp P a w K Q := by
  have hp := kind_defer hk
  subst hp
  unfold deferV at h
  split at h
  case h_2 => cases h
  rename_i f
  obtain ⟨k, cap, rfl, hn, rfl⟩ := addDefer_some h
  obtain ⟨dst, op, ty, pos, after, guard⟩ := o
  simp only at hc hd hl
  have hcall : ∃ c x d, op = .defer c ∧ c.callee = .value x ∧ c.args = #[] ∧ opdOf x = some d ∧ args = [d] := by
    cases comp_kind hc rfl with
    | call c x d ds h1 h2 h3 h4 h5 h6 => cases h6
    | invoke c x m d ds h1 h2 h3 h4 h5 h6 => cases h6
    | panic x d h1 h2 h3 h4 => cases h4
    | dfr c x d h1 h2 h3 h4 h5 h6 => exact ⟨c, x, d, h1, h2, h3, h4, h5⟩
  obtain ⟨c, x, d, rfl, hx, hargs, hdx, rfl⟩ := hcall
  obtain ⟨u, us, hus, e1, e2⟩ := evs_cons hv
  cases hus
  simp at hlt
  have hfv := hs.env.ev hdx e1 (opdLt_t hlt)
  generalize hev : a.eval x = fv' at hfv
  cases hfv with
  | func f h1 h2 =>
    rename_i us vs'
    cases h1
    have hrun : (execOp a.eval ⟨dst, .defer c, ty, pos, after, guard⟩).run P w = .ok (.defer { target := .fn (.func k) ⟨vs'⟩, args := #[] }) w := by
      simp [execOp, resolve, hx, hev, Deferred.ofValue, hargs]
    unfold Oper.wp
    rw [hrun]
    simp only [Oper.upon]
    refine hK _ ?_
    have hdf : a.defers = [] := by
      have := hs.dfr
      unfold DefR at this
      rw [hn] at this
      exact this
    have h0 : StR N ι ((1000000, .func (.func k) ⟨[]⟩ ⟨cap⟩) :: e) { a with defers := { target := .fn (.func k) ⟨vs'⟩, args := #[] } :: a.defers } := by
      refine ⟨fun t v ht hlt => ?_, ?_, hs.size⟩
      · rw [Env.get_cons, if_neg (by omega)] at ht
        exact hs.env t v ht hlt
      · unfold DefR
        rw [Env.get_cons, if_pos rfl]
        exact ⟨k, cap, vs', rfl, by rw [hdf], h2⟩
    exact h0.put hd hl undef_VR

theorem regs_cons {O : Orc} {q : Op} {os : List Op} {e : Env} {res : Ex × Env × H} (h : runOps O (q :: os) e σ = some res) :
    (wantedV e q.guard = some false ∧ runOps O os (e.put q.dst (.tuple #[])) σ = some res) ∨
    (wantedV e q.guard = some true ∧ ∃ vs, e.evs q.args = some vs ∧ (
      (q.p.kind = .defer ∧ ∃ e', deferV e vs = some e' ∧ runOps O os (e'.put q.dst (.tuple #[])) σ = some res) ∨
      ((q.p.kind = .defer → False) ∧ ∃ r σ1, step O q.p vs σ = some (r, σ1) ∧ ((∃ v, r = .ok v ∧ runOps O os (e.put q.dst v) σ1 = some res) ∨ (∃ v, r = .panic v ∧ res = (.panic v, e, σ1)))))) := by
  simp only [runOps] at h
  split at h
  · cases h
  · rename_i hw
    exact .inl ⟨hw, h⟩
  · rename_i hw
    refine .inr ⟨hw, ?_⟩
    split at h
    · cases h
    · rename_i vs hv
      refine ⟨vs, hv, ?_⟩
      split at h
      · rename_i hk
        split at h
        · rename_i e' he'
          exact .inl ⟨hk, e', he', h⟩
        · cases h
      · rename_i hk
        refine .inr ⟨fun h => hk h, ?_⟩
        split at h
        · cases h
        · rename_i r σ1 hstep
          refine ⟨r, σ1, hstep, ?_⟩
          split at h
          · exact .inl ⟨_, rfl, h⟩
          · simp only [Option.some.injEq] at h
            exact .inr ⟨_, rfl, h.symm⟩

/-- One operation of a region in the text's order, or an effect. -/
theorem op1_wp (T : Tables P) (hO : CallsOK P O) {all : List Oper} {o : Oper} {q : Op} {os : List Op} {e : Env} {a : Act} {N : Nat} {res : Ex × Env × H} (hc : compOper P all o = some q) (hd : dstN N q.dst = true) (hs : StR N ι e a) (hr : R ι σ w)
    (h : runOps O (q :: os) e σ = some res) {K : Act → World → Prop} {Q : Exit → Act → World → Prop}
    (hK : ∀ ι' e1 σ1 a' w', Ext ι w ι' w' → R ι' σ1 w' → StR N ι' e1 a' → runOps O os e1 σ1 = some res → K a' w')
    (hQ : ∀ v v' ι' w', res.1 = .panic v → res.2.1 = e → Ext ι w ι' w' → R ι' res.2.2 w' → VR ι' v v' → Q (.panic [{ v := v', recovered := false }]) a w') :
    (Region.wanted o (yielded all.toArray a.tmps) = true ∧ o.wp P a w K Q) ∨ (Region.wanted o (yielded all.toArray a.tmps) = false ∧ K (a.put o.dst undef) w) := by
  obtain ⟨h1, h2, h3, h4, h5⟩ := compOper_some hc
  have hdN := dstN_iff hd
  rw [h4] at hdN
  rcases regs_cons h with ⟨hw, h⟩ | ⟨hw, vs, hv, ⟨hk, e', he', h⟩ | ⟨hk, r, σ1, hstep, hrest⟩⟩
  · refine .inr ⟨wanted_eq hc hs.env hw, ?_⟩
    refine hK ι _ σ _ w (Ext.refl _ _) hr (hs.put hdN h3 undef_VR) (by rw [← h4]; exact h)
  · refine .inl ⟨wanted_eq hc hs.env hw, defer_wp h1 hk h2 hs hv he' hdN h3 fun a' ha' => ?_⟩
    exact hK ι _ σ _ w (Ext.refl _ _) hr ha' (by rw [← h4]; exact h)
  · refine .inl ⟨wanted_eq hc hs.env hw, op_wp T hO h1 hk h2 hs.env hv hr hstep (fun v v' ι' w' hv1 hx hR hvr => ?_) (fun v v' ι' w' hv1 hx hR hvr => ?_)⟩
    · subst hv1
      rcases hrest with ⟨v2, hv2, h⟩ | ⟨v2, hv2, _⟩
      · cases hv2
        exact hK ι' _ σ1 _ w' hx hR ((hs.mono hx.sub).put hdN h3 hvr) (by rw [← h4]; exact h)
      · cases hv2
    · subst hv1
      rcases hrest with ⟨v2, hv2, _⟩ | ⟨v2, hv2, rfl⟩
      · cases hv2
      · cases hv2
        exact hQ v v' ι' w' rfl rfl hx hR hvr

theorem mapM_cons_some {α β : Type} {f : α → Option β} {x : α} {l : List α} {ys : List β} (h : (x :: l).mapM f = some ys) : ∃ y r, f x = some y ∧ l.mapM f = some r ∧ ys = y :: r := by
  rw [List.mapM_cons] at h
  simp only [Option.bind_eq_bind] at h
  obtain ⟨y, h1, h2⟩ := Option.bind_eq_some_iff.1 h
  obtain ⟨r, h3, h4⟩ := Option.bind_eq_some_iff.1 h2
  simp at h4
  exact ⟨y, r, h1, h3, h4.symm⟩

theorem regs_wp (T : Tables P) (hO : CallsOK P O) {all : List Oper} {N : Nat} {res : Ex × Env × H} {Q : Exit → Act → World → Prop} : ∀ (l : List Oper) (k : Nat) (os : List Op) (e : Env) (a : Act) (σ : H) (w : World) (ι : Inj), all.drop k = l → l.mapM (compOper P all) = some os →
    (os.all fun q => dstN N q.dst) = true → StR N ι e a → R ι σ w → runOps O os e σ = some res → (∀ ex a' w', Post ι w N res ex a' w' → Q ex a' w') → wpL P all.toArray Q (List.range' k l.length) a w
  | [], k, os, e, a, σ, w, ι, hl, hm, hd, hs, hr, h, hQ => by
    simp at hm
    subst hm
    simp only [runOps, Option.some.injEq] at h
    subst h
    exact hQ _ _ _ ⟨ι, Ext.refl _ _, hr, trivial, hs⟩
  | o :: l, k, os, e, a, σ, w, ι, hl, hm, hd, hs, hr, h, hQ => by
    obtain ⟨q, os, h1, h2, rfl⟩ := mapM_cons_some hm
    simp only [List.all_cons, Bool.and_eq_true] at hd
    rw [List.length_cons, List.range'_succ]
    refine ⟨o, ?_, op1_wp T hO h1 hd.1 hs hr h (fun ι' e1 σ1 a' w' hx hR hs' hrun => ?_) (fun v v' ι' w' hv he hx hR hvr => ?_)⟩
    · rw [List.getElem?_toArray]
      have := congrArg (·[0]?) hl
      simpa using this
    · refine regs_wp T hO l (k + 1) os e1 a' σ1 w' ι' ?_ h2 hd.2 hs' hR hrun (fun ex a2 w2 hp => hQ ex a2 w2 (hp.trans hx))
      rw [← List.drop_drop, hl]; rfl
    · refine hQ _ _ _ ⟨ι', hx, hR, ?_, ?_⟩
      · rw [hv]; exact ⟨v', rfl, hvr⟩
      · rw [he]; exact hs.mono hx.sub
end
end AM
end Go.Proofs.YtdbbkaeoinalpaaGreat
