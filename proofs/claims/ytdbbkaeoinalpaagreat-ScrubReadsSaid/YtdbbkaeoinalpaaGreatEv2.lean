/- The run that the kernel follows answers as the abstract machine does. -/
import Derived.Test.YtdbbkaeoinalpaaGreatEv1
set_option linter.unusedVariables false
namespace Go.Proofs.YtdbbkaeoinalpaaGreat
namespace AM
variable [Aw]

structure OK (O : OrcK) : Prop where
  call : ∀ {k a σ K}, O.call k a σ K = true → Ru k a σ fun r σ' => K r σ' = true
  loop : ∀ {ks b e σ K}, O.loop ks b e σ K = true → ∃ n x e' σ', (orc prog n).loop ks b e σ = some (x, e', σ') ∧ K x e' σ' = true

omit [Aw] in
theorem pK_other {p : Prim} (h : p.kind = .other) : pK p = oth (mK p) := by
  cases p <;> first | rfl | cases h
section
variable {O : OrcK} (ok : OK O)
include ok
theorem pK_of {p : Prim} {dst : Option Nat} {args : List Opd} {g : Option (Nat × Bool)} {os : List Op} {vs : List Value} {e : Env} {σ : H} {N : Env → H → Bool} {K : Ex → Env → H → Bool} {Q : QC}
    (hw : wantedV e g = some true) (hv : e.evs args = some vs) (h : pK p O vs dst e σ N K = true)
    (hN : ∀ e σ, N e σ = true → WpO os e σ Q) (hK : ∀ x e σ, K x e σ = true → Q x e σ) : WpO (⟨dst, p, args, g⟩ :: os) e σ Q := by
  have put : ∀ {r σ'}, kPut dst e N K r σ' = true → (cnt2 (fun v σ1 => WpO os (e.put dst v) σ1 Q) (fun v σ1 => Q (.panic v) e σ1) : Res → H → Prop) r σ' := by
    intro r σ' h
    cases r with
    | ok v =>
      replace h : (pE dst e v fun e => N e σ') = true := h
      rw [pE_eq] at h
      exact hN _ _ h
    | panic v => exact hK _ _ _ h
  cases hk : p.kind with
  | other =>
    rw [pK_other hk] at h
    obtain ⟨v, σ', h1, h2⟩ := mK_ms p h
    rw [pE_eq] at h2
    exact wpO_prim (q := ⟨dst, p, args, g⟩) hw hv hk h1 (hN _ _ h2)
  | call =>
    have hp : p = .call := by cases p <;> first | rfl | cases hk
    subst hp
    replace h : oCall O vs dst e σ N K = true := h
    unfold oCall at h
    split at h
    · split at h
      · rename_i f as f' as' hc
        simp only [fN_eq, fS_eq] at h
        exact wpO_call (q := ⟨dst, .call, args, g⟩) hw hv rfl hc ((ok.call h).mono fun r σ' h => put h)
      · cases h
    · cases h
  | invoke name =>
    have hp : p = .invoke name := by cases p <;> first | (cases hk; rfl) | cases hk
    subst hp
    replace h : oInvoke name O vs dst e σ N K = true := h
    unfold oInvoke at h
    split at h
    · split at h
      · cases h
      · rename_i t v as _ f how hm
        split at h
        · cases h
        · rename_i x hr
          rw [fV_eq] at h
          exact wpO_invoke (q := ⟨dst, .invoke name, args, g⟩) hw hv rfl hm hr ((ok.call h).mono fun r σ' h => put h)
    · cases h
  | panic =>
    have hp : p = .panic := by cases p <;> first | rfl | cases hk
    subst hp
    replace h : oPanic O vs dst e σ N K = true := h
    unfold oPanic at h
    split at h
    · exact wpO_panic (q := ⟨dst, .panic, args, g⟩) hw hv rfl (hK _ _ _ h)
    · cases h
  | «defer» =>
    have hp : p = .defer := by cases p <;> first | rfl | cases hk
    subst hp
    replace h : oDefer O vs dst e σ N K = true := h
    unfold oDefer at h
    split at h
    · rename_i e' hd
      rw [pE_eq] at h
      obtain ⟨n, x, e2, σ2, h1, h2⟩ := hN _ _ h
      exact ⟨n, x, e2, σ2, by simp only [runOps, hw, hv, Prim.kind, hd]; exact h1, h2⟩
    · cases h
theorem kOp_of {o : Op} {os : List Op} {e : Env} {σ : H} {N : Env → H → Bool} {K : Ex → Env → H → Bool} {Q : QC} (h : kOp o O e σ N K = true)
    (hN : ∀ e σ, N e σ = true → WpO os e σ Q) (hK : ∀ x e σ, K x e σ = true → Q x e σ) : WpO (o :: os) e σ Q := by
  obtain ⟨dst, p, args, g⟩ := o
  rcases gG_of h with ⟨hw, h1⟩ | ⟨hw, h1⟩
  · obtain ⟨vs, hv, h2⟩ := gOs_of h1
    exact pK_of ok hw hv h2 hN hK
  · rw [pE_eq] at h1
    exact wpO_skip (q := ⟨dst, p, args, g⟩) hw (hN _ _ h1)
theorem kOps_of : ∀ {os : List Op} {e : Env} {σ : H} {K : Ex → Env → H → Bool}, kOps os O e σ K = true → WpO os e σ fun x e σ => K x e σ = true
  | [], _, _, _, h => wpO_nil h
  | o :: os, e, σ, K, h => kOp_of ok (N := fun e σ => kOps os O e σ K) (K := K) h (fun e σ h => kOps_of h) (fun x e σ h => h)
omit ok in
omit [Aw] in
theorem kQ1_of {o : Op} {os : List Op} {rs : List Read} {e : Env} {σ : H} {N : List Read → Env → Bool} {y : List Read × Env → Prop} (h : kQ1 o rs e σ N = true)
    (hN : ∀ rs e, N rs e = true → ∃ z, runQ rs os e σ = some z ∧ y z) : ∃ z, runQ rs (o :: os) e σ = some z ∧ y z := by
  obtain ⟨dst, p, args, g⟩ := o
  rcases gG_of h with ⟨hw, h1⟩ | ⟨hw, h1⟩
  · obtain ⟨vs, hv, h2⟩ := gOs_of h1
    cases hq : quR p with
    | false => rw [hq] at h2; cases h2
    | true =>
      rw [hq] at h2
      obtain ⟨v, σ', h3, h4⟩ := mK_ms p h2
      rw [quR_eq] at hq
      cases hr : rdR p with
      | false =>
        rw [hr] at h4
        replace h4 : (pE dst e v fun e => N rs e) = true := h4
        rw [pE_eq] at h4
        rw [rdR_eq] at hr
        obtain ⟨z, h5, h6⟩ := hN _ _ h4
        exact ⟨z, by simp only [runQ, hw, hv, hq, h3, hr]; exact h5, h6⟩
      | true =>
        rw [hr] at h4
        replace h4 : (pE dst e v fun e => N (⟨dst.getD 0, p, vs, v⟩ :: rs) e) = true := h4
        rw [pE_eq] at h4
        rw [rdR_eq] at hr
        obtain ⟨z, h5, h6⟩ := hN _ _ h4
        exact ⟨z, by simp only [runQ, hw, hv, hq, h3, hr]; exact h5, h6⟩
  · rw [pE_eq] at h1
    obtain ⟨z, h5, h6⟩ := hN _ _ h1
    exact ⟨z, by simp only [runQ, hw]; exact h5, h6⟩
omit ok in
omit [Aw] in
theorem kQ_of : ∀ {os : List Op} {rs : List Read} {e : Env} {σ : H} {K : List Read → Env → Bool}, kQ os rs e σ K = true → ∃ z : List Read × Env, runQ rs os e σ = some z ∧ K z.1 z.2 = true
  | [], rs, e, _, _, h => ⟨(rs, e), rfl, h⟩
  | o :: os, rs, e, σ, K, h => kQ1_of (N := fun rs e => kQ os rs e σ K) (y := fun z => K z.1 z.2 = true) h fun rs e h => kQ_of h
theorem kSegs_of {ds : List Nat} {e0 : Env} {K : Ex → Env → H → Bool} : ∀ {ss : List Seg} {rs : List Read} {e : Env} {σ : H}, kSegs ss O e0 ds rs e σ K = true → WpS e0 ds ss rs e σ fun x e σ => K x e σ = true
  | [], rs, e, σ, h => ⟨0, _, _, _, rfl, h⟩
  | s :: ss, rs, e, σ, h => by
    obtain ⟨⟨rs1, e1⟩, hq, h1⟩ := kQ_of (os := s.q) (K := fun rs e => match s.e with
      | none => kSegs ss O e0 ds rs e σ K
      | some o => match mobOk e σ rs s.mob with
        | false => false
        | true => kOps [o] O e σ (kEnd e0 ds (fun e' σ' => match still σ' (keepR s.chk rs) with
            | true => kSegs ss O e0 ds (keepR s.chk rs) e' σ' K
            | false => false) K)) h
    simp only at h1
    cases he : s.e with
    | none =>
      rw [he] at h1
      obtain ⟨n, x, e', σ', h2, h3⟩ := kSegs_of h1
      exact ⟨n, x, e', σ', by simp only [runSegs, hq, he]; exact h2, h3⟩
    | some o =>
      rw [he] at h1
      simp only at h1
      cases hm : mobOk e1 σ rs1 s.mob with
      | false => rw [hm] at h1; cases h1
      | true =>
        rw [hm] at h1
        obtain ⟨n, x, e2, σ2, h2, h3⟩ := kOps_of ok h1
        cases x with
        | exit i => cases h3
        | ret => cases h3
        | panic v => exact ⟨n, _, _, _, by simp only [runSegs, hq, he, hm, h2], h3⟩
        | normal =>
          replace h3 : (match still σ2 (keepR s.chk rs1) with
            | true => kSegs ss O e0 ds (keepR s.chk rs1) e2 σ2 K
            | false => false) = true := h3
          cases hst : still σ2 (keepR s.chk rs1) with
          | false => rw [hst] at h3; cases h3
          | true =>
            rw [hst] at h3
            obtain ⟨m, x, e3, σ3, h4, h5⟩ := kSegs_of h3
            refine ⟨max n m, x, e3, σ3, ?_, h5⟩
            simp only [runSegs, hq, he, hm, runOps_mono (orc_mono prog (Nat.le_max_left n m)) h2, hst]
            exact runSegs_mono (orc_mono prog (Nat.le_max_right n m)) h4
theorem kDen_of : ∀ {c : Code} {e : Env} {σ : H} {K : Ex → Env → H → Bool}, kDen c O e σ K = true → Wp c e σ fun x e σ => K x e σ = true
  | .skip, e, σ, K, h => wp_skip h
  | .reg ops, e, σ, K, h => wp_reg (kOps_of ok h)
  | .draw ss ds, e, σ, K, h => wp_draw (kSegs_of ok h)
  | .keep ks, e, σ, K, h => by
    replace h : (kSub ks e fun e => K .normal e σ) = true := h
    rw [kSub_eq] at h
    exact wp_keep h
  | .seq a b, e, σ, K, h => by
    refine wp_seq ((kDen_of (c := a) (K := kSeq (kDen b O) K) h).mono fun x e σ h => ?_)
    cases x with
    | normal => exact kDen_of (c := b) h
    | exit i => exact h
    | ret => exact h
    | panic v => exact h
  | .cond c a b, e, σ, K, h => by
    obtain ⟨v, hv, h1⟩ := gO_of (o := c) h
    obtain ⟨t, ht, h2⟩ := vB_of h1
    subst ht
    refine wp_cond hv ?_
    cases t with
    | true => exact kDen_of (c := a) h2
    | false => exact kDen_of (c := b) h2
  | .block id b, e, σ, K, h => by
    refine wp_block ((kDen_of (c := b) (K := kBlk id K) h).mono fun x e σ h => ?_)
    cases x with
    | normal => exact h
    | exit i =>
      replace h : @Bool.rec (fun _ => Bool) (K (.exit i) e σ) (K .normal e σ) (Nat.beq i id) = true := h
      simp only [AM.blk]
      by_cases hi : i = id
      · rw [nbeq, decide_eq_true hi] at h; rw [if_pos hi]; exact h
      · rw [nbeq, decide_eq_false hi] at h; rw [if_neg hi]; exact h
    | ret => exact h
    | panic v => exact h
  | .loop ks b, e, σ, K, h => by
    replace h : (kSub ks e fun e => O.loop ks b e σ K) = true := h
    rw [kSub_eq] at h
    obtain ⟨n, x, e', σ', h1, h2⟩ := ok.loop h
    exact ⟨n, x, e', σ', h1, h2⟩
  | .exit i, e, σ, K, h => wp_exit h
  | .ret, e, σ, K, h => wp_ret h
omit ok in
omit [Aw] in
theorem kResults_of {e : Env} {σ : H} {rs : List RVar} {K : Res → H → Bool} (h : kResults e σ rs K = true) : ∃ r σ', results e σ rs = some (r, σ') ∧ K r σ' = true := by
  unfold kResults at h
  split at h
  · rename_i r σ' hr
    rw [fR_eq] at h
    exact ⟨r, σ', hr, h⟩
  · cases h
theorem kDeferred_of {f : Value} {p : Option Value} {σ : H} {K : Bool → H → Bool} (h : kDeferred O f p σ K = true) : ∃ n b σ', deferred (orc prog n) prog.fs f p σ = some (b, σ') ∧ K b σ' = true := by
  unfold kDeferred at h
  split at h
  · split at h
    · rename_i hf
      have hf2 : prog.fs _ = some _ := hf
      split at h
      · cases h
      · rename_i hl
        rw [fE_eq] at h
        obtain ⟨n, x, e', σ', h1, h2⟩ := kDen_of ok h
        split at h2
        · cases h2
        · rename_i hg
          split at h2
          · exact ⟨n, _, σ', by simp only [deferred, hf2, hl, h1, hg], h2⟩
          · exact ⟨n, _, σ', by simp only [deferred, hf2, hl, h1, hg], h2⟩
          · cases h2
    · cases h
  · cases h
theorem kCallF_of {k : Nat} {args : List Value} {σ : H} {K : Res → H → Bool} (h : kCallF O k args σ K = true) : ∃ n r σ', callF (orc prog n) prog.fs k args σ = some (r, σ') ∧ K r σ' = true := by
  unfold kCallF at h
  rw [tG_eq] at h
  cases hf : ftab.get k with
  | none => rw [hf] at h; cases h
  | some fn =>
    rw [hf] at h
    obtain ⟨body, rs, rcv⟩ := fn
    cases rcv with
    | some r => cases h
    | none =>
      cases hl : Nat.ble args.length 1000 with
      | false =>
        replace h : @Bool.rec (fun _ => Bool) false (fE (params 0 args) fun e => kDen body O e σ (kEndF O rs K)) (Nat.ble args.length 1000) = true := h
        rw [hl] at h; cases h
      | true =>
        replace h : @Bool.rec (fun _ => Bool) false (fE (params 0 args) fun e => kDen body O e σ (kEndF O rs K)) (Nat.ble args.length 1000) = true := h
        rw [hl] at h
        replace h : (fE (params 0 args) fun e => kDen body O e σ (kEndF O rs K)) = true := h
        rw [fE_eq] at h
        have hf' : prog.fs k = some ⟨body, rs, none⟩ := hf
        obtain ⟨n, x, e', σ', h1, h2⟩ := kDen_of ok h
        unfold kEndF at h2
        rw [gD_eq] at h2
        cases hg : e'.get 1000000 with
        | none =>
          rw [hg] at h2
          cases x with
          | normal =>
            obtain ⟨r, σ2, h3, h4⟩ := kResults_of h2
            exact ⟨n, r, σ2, by simp only [callF, hf', hl, h1, hg, h3], h4⟩
          | ret =>
            obtain ⟨r, σ2, h3, h4⟩ := kResults_of h2
            exact ⟨n, r, σ2, by simp only [callF, hf', hl, h1, hg, h3], h4⟩
          | panic v => exact ⟨n, _, σ', by simp only [callF, hf', hl, h1, hg], h2⟩
          | exit i => cases h2
        | some d =>
          rw [hg] at h2
          have two : ∀ {m p b σ2}, deferred (orc prog m) prog.fs d p σ' = some (b, σ2) → deferred (orc prog (max n m)) prog.fs d p σ' = some (b, σ2) ∧ denote (orc prog (max n m)) body (params 0 args) σ = some (x, e', σ') :=
            fun h => ⟨deferred_mono (orc_mono prog (Nat.le_max_right n _)) h, denote_mono (orc_mono prog (Nat.le_max_left n _)) h1⟩
          cases x with
          | normal =>
            obtain ⟨m, b, σ2, h3, h4⟩ := kDeferred_of ok h2
            obtain ⟨r, σ3, h5, h6⟩ := kResults_of h4
            obtain ⟨h7, h8⟩ := two h3
            exact ⟨max n m, r, σ3, by simp only [callF, hf', hl, h8, hg, h7, h5], h6⟩
          | ret =>
            obtain ⟨m, b, σ2, h3, h4⟩ := kDeferred_of ok h2
            obtain ⟨r, σ3, h5, h6⟩ := kResults_of h4
            obtain ⟨h7, h8⟩ := two h3
            exact ⟨max n m, r, σ3, by simp only [callF, hf', hl, h8, hg, h7, h5], h6⟩
          | panic v =>
            obtain ⟨m, b, σ2, h3, h4⟩ := kDeferred_of ok h2
            cases b with
            | false => cases h4
            | true =>
              obtain ⟨r, σ3, h5, h6⟩ := kResults_of h4
              obtain ⟨h7, h8⟩ := two h3
              exact ⟨max n m, r, σ3, by simp only [callF, hf', hl, h8, hg, h7, h5], h6⟩
          | exit i => cases h2
end
/-- Contracts that may stand in a run. -/
def OvOK (V : Ov) : Prop := ∀ {k f}, V k = some f → ∀ {args σ K}, f args σ K = true → Ru k args σ fun r σ' => K r σ' = true
theorem orcK_ok {W : OwnT} {V : Ov} (hW : ∀ k, Aw.own k = W k) (hV : OvOK V) : ∀ n, OK (orcK W V n)
  | 0 => ⟨fun h => (by cases h), fun h => (by cases h)⟩
  | n + 1 => by
    have ih := orcK_ok hW hV n
    refine ⟨fun {k a σ K} h => ?_, fun {ks b e σ K} h => ?_⟩
    · replace h : kAnswer W V (orcK W V n) k a σ K = true := h
      unfold kAnswer at h
      have walk : prog.own k = none → kCallF (orcK W V n) k a σ K = true → Ru k a σ fun r σ' => K r σ' = true := by
        intro ho' h
        obtain ⟨m, r, σ', h1, h2⟩ := kCallF_of ih h
        exact ⟨m + 1, r, σ', by simp only [orc, answer, ho', h1], h2⟩
      cases hv : V k with
      | some f => rw [hv] at h; exact hV hv h
      | none =>
        rw [hv] at h
        simp only at h
        cases ha : isOwn k with
        | false =>
          rw [ha] at h
          exact walk (by simp only [prog, ha]) h
        | true =>
          rw [ha] at h
          simp only at h
          cases ho : W k with
          | some f =>
            rw [ho] at h
            simp only at h
            have ho' : prog.own k = some f := by simp only [prog, ha]; rw [hW]; exact ho
            split at h
            · rename_i r σ' hf
              rw [fR_eq, fH_eq] at h
              exact ⟨1, r, σ', by simp only [orc, answer, ho', hf], h⟩
            · cases h
          | none =>
            rw [ho] at h
            exact walk (by simp only [prog, ha]; rw [hW]; exact ho) h
    · replace h : kAgain (orcK W V n) ks b e σ K = true := h
      unfold kAgain at h
      obtain ⟨m, x, e', σ', h1, h2⟩ := kDen_of ih h
      cases x with
      | normal =>
        replace h2 : (kSub ks e' fun e' => (orcK W V n).loop ks b e' σ' K) = true := h2
        rw [kSub_eq] at h2
        obtain ⟨m2, x, e2, σ2, h3, h4⟩ := ih.loop h2
        refine ⟨max m m2 + 1, x, e2, σ2, ?_, h4⟩
        rw [orc]
        simp only [again, denote_mono (orc_mono prog (Nat.le_max_left m m2)) h1]
        exact (orc_mono prog (Nat.le_max_right m m2)).loop h3
      | exit i => exact ⟨m + 1, _, _, _, by rw [orc]; simp only [again, h1], h2⟩
      | ret => exact ⟨m + 1, _, _, _, by rw [orc]; simp only [again, h1], h2⟩
      | panic v => exact ⟨m + 1, _, _, _, by rw [orc]; simp only [again, h1], h2⟩
/-- A run that the kernel has followed. -/
theorem run_of {W : OwnT} {V : Ov} (hW : ∀ k, Aw.own k = W k) (hV : OvOK V) {n k : Nat} {args : List Value} {σ : H} {K : Res → H → Bool} (h : (orcK W V n).call k args σ K = true) : Ru k args σ fun r σ' => K r σ' = true := (orcK_ok hW hV n).call h
end AM
end Go.Proofs.YtdbbkaeoinalpaaGreat
