/- The machine without its depth: what a call, what code surely comes to. -/
import Derived.Test.YtdbbkaeoinalpaaGreatIrTab
set_option linter.unusedVariables false
namespace Go.Proofs.YtdbbkaeoinalpaaGreat
namespace AM

/-! ### More depth answers no less -/
structure Le (O O' : Orc) : Prop where
  call : ∀ {f a σ x}, O.call f a σ = some x → O'.call f a σ = some x
  loop : ∀ {ks b e σ x}, O.loop ks b e σ = some x → O'.loop ks b e σ = some x
  meth : O.meth = O'.meth
section
variable {O O' : Orc} (h : Le O O')
include h
theorem step_mono {p : Prim} {vs : List Value} {σ : H} {x : Res × H} (hx : step O p vs σ = some x) : step O' p vs σ = some x := by
  cases hk : p.kind <;> simp only [step, hk] at hx ⊢
  case call =>
    unfold sCall at *
    split at hx
    · split at hx
      · exact h.call hx
      · cases hx
    · cases hx
  case invoke name =>
    unfold sInvoke at *
    split at hx
    · split at hx
      · cases hx
      · rename_i hm
        split at hx
        · cases hx
        · rename_i hr
          rw [h.meth] at hm
          simp only [hm, hr]
          exact h.call hx
    · cases hx
  case panic => exact hx
  case «defer» => exact hx
  case other => exact hx
theorem runOps_mono : ∀ {os : List Op} {e : Env} {σ : H} {x : Ex × Env × H}, runOps O os e σ = some x → runOps O' os e σ = some x
  | [], _, _, _, hx => hx
  | o :: os, e, σ, x, hx => by
    simp only [runOps] at hx ⊢
    cases hw : wantedV e o.guard with
    | none => rw [hw] at hx; cases hx
    | some b =>
      rw [hw] at hx
      cases b with
      | false => exact runOps_mono hx
      | true =>
        simp only at hx ⊢
        cases hv : e.evs o.args with
        | none => rw [hv] at hx; cases hx
        | some vs =>
          rw [hv] at hx
          simp only at hx ⊢
          cases hk : o.p.kind with
          | «defer» =>
            rw [hk] at hx
            simp only at hx ⊢
            cases he : deferV e vs with
            | none => rw [he] at hx; cases hx
            | some e' => rw [he] at hx; exact runOps_mono hx
          | call =>
            rw [hk] at hx
            simp only at hx ⊢
            cases hs : step O o.p vs σ with
            | none => rw [hs] at hx; cases hx
            | some r =>
              rw [hs] at hx
              rw [step_mono h hs]
              obtain ⟨r, σ'⟩ := r
              cases r with
              | ok v => exact runOps_mono hx
              | panic v => exact hx
          | invoke nm =>
            rw [hk] at hx
            simp only at hx ⊢
            cases hs : step O o.p vs σ with
            | none => rw [hs] at hx; cases hx
            | some r =>
              rw [hs] at hx
              rw [step_mono h hs]
              obtain ⟨r, σ'⟩ := r
              cases r with
              | ok v => exact runOps_mono hx
              | panic v => exact hx
          | panic =>
            rw [hk] at hx
            simp only at hx ⊢
            cases hs : step O o.p vs σ with
            | none => rw [hs] at hx; cases hx
            | some r =>
              rw [hs] at hx
              rw [step_mono h hs]
              obtain ⟨r, σ'⟩ := r
              cases r with
              | ok v => exact runOps_mono hx
              | panic v => exact hx
          | other =>
            rw [hk] at hx
            simp only at hx ⊢
            cases hs : step O o.p vs σ with
            | none => rw [hs] at hx; cases hx
            | some r =>
              rw [hs] at hx
              rw [step_mono h hs]
              obtain ⟨r, σ'⟩ := r
              cases r with
              | ok v => exact runOps_mono hx
              | panic v => exact hx
theorem runSegs_mono {e0 : Env} {ds : List Nat} : ∀ {ss : List Seg} {rs : List Read} {e : Env} {σ : H} {x : Ex × Env × H}, runSegs O e0 ds ss rs e σ = some x → runSegs O' e0 ds ss rs e σ = some x
  | [], _, _, _, _, hx => hx
  | s :: ss, rs, e, σ, x, hx => by
    simp only [runSegs] at hx ⊢
    cases hq : runQ rs s.q e σ with
    | none => rw [hq] at hx; cases hx
    | some y =>
      obtain ⟨rs1, e1⟩ := y
      rw [hq] at hx
      simp only at hx ⊢
      cases he : s.e with
      | none => rw [he] at hx; exact runSegs_mono hx
      | some o =>
        rw [he] at hx
        simp only at hx ⊢
        cases hm : mobOk e1 σ rs1 s.mob with
        | false => rw [hm] at hx; cases hx
        | true =>
          rw [hm] at hx
          simp only at hx ⊢
          cases hr : runOps O [o] e1 σ with
          | none => rw [hr] at hx; cases hx
          | some z =>
            rw [hr] at hx
            rw [runOps_mono h hr]
            obtain ⟨z, e', σ'⟩ := z
            simp only at hx ⊢
            cases z with
            | normal =>
              simp only at hx ⊢
              cases hst : still σ' (keepR s.chk rs1) with
              | false => rw [hst] at hx; cases hx
              | true => rw [hst] at hx; exact runSegs_mono hx
            | panic v => exact hx
            | exit i => cases hx
            | ret => cases hx
theorem denote_mono : ∀ {c : Code} {e : Env} {σ : H} {x : Ex × Env × H}, denote O c e σ = some x → denote O' c e σ = some x
  | .skip, _, _, _, hx => hx
  | .reg ops, _, _, _, hx => runOps_mono h hx
  | .draw ss ds, _, _, _, hx => runSegs_mono h hx
  | .keep ks, _, _, _, hx => hx
  | .seq a b, e, σ, x, hx => by
    simp only [denote] at hx ⊢
    split at hx
    · cases hx
    · rename_i y e' σ' ha
      simp only [denote_mono ha]
      split at hx
      · exact denote_mono hx
      · exact hx
  | .cond c a b, e, σ, x, hx => by
    simp only [denote] at hx ⊢
    split at hx
    · rename_i t ht
      split at hx
      · exact denote_mono hx
      · exact denote_mono hx
    · cases hx
  | .block id b, e, σ, x, hx => by
    simp only [denote] at hx ⊢
    split at hx
    · cases hx
    · rename_i y e' σ' ha
      simp only [denote_mono ha]
      exact hx
  | .loop ks b, _, _, _, hx => h.loop hx
  | .exit _, _, _, _, hx => hx
  | .ret, _, _, _, hx => hx
theorem deferred_mono {fs : Nat → Option Func} {f : Value} {p : Option Value} {σ : H} {x : Bool × H} (hx : deferred O fs f p σ = some x) : deferred O' fs f p σ = some x := by
  unfold deferred at *
  split at hx
  · split at hx
    · split at hx
      · cases hx
      · rename_i hl
        split at hx
        · rename_i hd
          simp only [denote_mono h hd]
          exact hx
        · cases hx
    · cases hx
  · cases hx
theorem callF_mono {fs : Nat → Option Func} {k : Nat} {a : List Value} {σ : H} {x : Res × H} (hx : callF O fs k a σ = some x) : callF O' fs k a σ = some x := by
  unfold callF at *
  split at hx
  · cases hx
  · split at hx
    · cases hx
    · split at hx
      · cases hx
      · split at hx
        · cases hx
        · rename_i y e σ' hd
          simp only [denote_mono h hd]
          split at hx
          · exact hx
          · split at hx
            · split at hx
              · rename_i hdf; simp only [deferred_mono h hdf]; exact hx
              · cases hx
            · split at hx
              · rename_i hdf; simp only [deferred_mono h hdf]; exact hx
              · cases hx
            · split at hx
              · rename_i hdf; simp only [deferred_mono h hdf]; exact hx
              · cases hx
            · exact hx
end
theorem orc_le (P : Prog) : ∀ n, Le (orc P n) (orc P (n + 1))
  | 0 => ⟨fun h => (by simp [orc] at h), fun h => (by simp [orc] at h), rfl⟩
  | n + 1 => by
    have ih := orc_le P n
    refine ⟨fun {f a σ x} h => ?_, fun {ks b e σ x} h => ?_, rfl⟩
    · simp only [orc, answer] at h ⊢
      split at h
      · exact h
      · exact callF_mono ih h
    · rw [orc] at h ⊢
      simp only [again] at h ⊢
      split at h
      · cases h
      · rename_i y e' σ' hd
        simp only [denote_mono ih hd]
        split at h
        · exact ih.loop h
        · exact h
theorem Le.refl (O : Orc) : Le O O := ⟨fun h => h, fun h => h, rfl⟩
theorem Le.trans {a b c : Orc} (h : Le a b) (k : Le b c) : Le a c := ⟨fun x => k.call (h.call x), fun x => k.loop (h.loop x), h.meth.trans k.meth⟩
theorem orc_mono (P : Prog) {n m : Nat} (h : n ≤ m) : Le (orc P n) (orc P m) := by
  induction m with
  | zero => obtain rfl : n = 0 := by omega
            exact Le.refl _
  | succ m ih =>
    by_cases e : n = m + 1
    · subst e; exact Le.refl _
    · exact (ih (by omega)).trans (orc_le P m)

/-! ### What is surely come to -/
variable [Aw]
abbrev QC := Ex → Env → H → Prop
/-- A mark: what bears it is not looked into by simp. -/
structure Fz {α : Type} (x : α) : Type where
def Ru (f : Nat) (args : List Value) (σ : H) (Q : Res → H → Prop) (z : Fz Q := ⟨⟩) : Prop := ∃ n r σ', (orc prog n).call f args σ = some (r, σ') ∧ Q r σ'
def Wp (c : Code) (e : Env) (σ : H) (Q : QC) (z : Fz Q := ⟨⟩) : Prop := ∃ n x e' σ', denote (orc prog n) c e σ = some (x, e', σ') ∧ Q x e' σ'
def WpO (os : List Op) (e : Env) (σ : H) (Q : QC) : Prop := ∃ n x e' σ', runOps (orc prog n) os e σ = some (x, e', σ') ∧ Q x e' σ'
def WpS (e0 : Env) (ds : List Nat) (ss : List Seg) (rs : List Read) (e : Env) (σ : H) (Q : QC) : Prop := ∃ n x e' σ', runSegs (orc prog n) e0 ds ss rs e σ = some (x, e', σ') ∧ Q x e' σ'
theorem Ru.mono {f : Nat} {args : List Value} {σ : H} {Q Q' : Res → H → Prop} (h : Ru f args σ Q) (hq : ∀ r σ', Q r σ' → Q' r σ') : Ru f args σ Q' := let ⟨n, r, σ', h1, h2⟩ := h; ⟨n, r, σ', h1, hq _ _ h2⟩
theorem Wp.mono {c : Code} {e : Env} {σ : H} {Q Q' : QC} (h : Wp c e σ Q) (hq : ∀ x e σ', Q x e σ' → Q' x e σ') : Wp c e σ Q' := let ⟨n, x, e', σ', h1, h2⟩ := h; ⟨n, x, e', σ', h1, hq _ _ _ h2⟩

section
variable {e e0 : Env} {σ : H} {Q : QC}
theorem wp_skip (h : Q .normal e σ) : Wp .skip e σ Q := ⟨0, _, _, _, rfl, h⟩
theorem wp_exit {id : Nat} (h : Q (.exit id) e σ) : Wp (.exit id) e σ Q := ⟨0, _, _, _, rfl, h⟩
theorem wp_ret (h : Q .ret e σ) : Wp .ret e σ Q := ⟨0, _, _, _, rfl, h⟩
theorem wp_keep {ks : List Nat} (h : Q .normal (e.sub ks) σ) : Wp (.keep ks) e σ Q := ⟨0, _, _, _, rfl, h⟩
theorem wp_reg {os : List Op} (h : WpO os e σ Q) : Wp (.reg os) e σ Q := h
theorem wp_draw {ss : List Seg} {ds : List Nat} (h : WpS e ds ss [] e σ Q) : Wp (.draw ss ds) e σ Q := h
/-- Where code goes on when the first part is done. -/
def thn (K : Env → H → Prop) (Q : QC) (z : Fz K := ⟨⟩) (z2 : Fz Q := ⟨⟩) : QC
  | .normal, e, σ => K e σ
  | x, e, σ => Q x e σ
theorem wp_seq {a b : Code} (h : Wp a e σ (thn (fun e σ => Wp b e σ Q) Q)) : Wp (.seq a b) e σ Q := by
  obtain ⟨n, x, e', σ', h1, h2⟩ := h
  cases x with
  | normal =>
    obtain ⟨m, x2, e2, σ2, h3, h4⟩ := h2
    refine ⟨max n m, x2, e2, σ2, ?_, h4⟩
    simp only [denote, denote_mono (orc_mono prog (Nat.le_max_left n m)) h1, denote_mono (orc_mono prog (Nat.le_max_right n m)) h3]
  | exit id => exact ⟨n, _, _, _, by simp only [denote, h1], h2⟩
  | ret => exact ⟨n, _, _, _, by simp only [denote, h1], h2⟩
  | panic v => exact ⟨n, _, _, _, by simp only [denote, h1], h2⟩
theorem wp_cond {c : Opd} {a b : Code} {t : Bool} (hc : e.ev c = some (.bool t)) (h : Wp (match t with | true => a | false => b) e σ Q) : Wp (.cond c a b) e σ Q := by
  obtain ⟨n, x, e', σ', h1, h2⟩ := h
  refine ⟨n, x, e', σ', ?_, h2⟩
  simp only [denote, hc]
  cases t <;> exact h1
/-- A block's end. -/
def blk (id : Nat) (Q : QC) (z : Fz Q := ⟨⟩) : QC
  | .exit i, e, σ => if i = id then Q .normal e σ else Q (.exit i) e σ
  | x, e, σ => Q x e σ
theorem wp_block {id : Nat} {b : Code} (h : Wp b e σ (blk id Q)) : Wp (.block id b) e σ Q := by
  obtain ⟨n, x, e', σ', h1, h2⟩ := h
  cases x with
  | exit i =>
    simp only [blk] at h2
    by_cases hi : i = id
    · rw [if_pos hi] at h2
      exact ⟨n, _, _, _, by simp only [denote, h1, nbeq, decide_eq_true hi], h2⟩
    · rw [if_neg hi] at h2
      exact ⟨n, _, _, _, by simp only [denote, h1, nbeq, decide_eq_false hi], h2⟩
  | normal => exact ⟨n, _, _, _, by simp only [denote, h1], h2⟩
  | ret => exact ⟨n, _, _, _, by simp only [denote, h1], h2⟩
  | panic v => exact ⟨n, _, _, _, by simp only [denote, h1], h2⟩
/-- A loop: what stands at its head, and what grows less. -/
theorem wp_loop {ks : List Nat} {b : Code} {α : Type} (I : α → Env → H → Prop) (μ : α → Nat) (x0 : α) (h0 : I x0 (e.sub ks) σ)
    (round : ∀ x e σ, I x e σ → Wp b e σ (thn (fun e' σ' => ∃ x', I x' (e'.sub ks) σ' ∧ μ x' < μ x) Q)) : Wp (.loop ks b) e σ Q := by
  have key : ∀ (k : Nat) (x : α) (e : Env) (σ : H), μ x = k → I x e σ → ∃ n y e' σ', (orc prog n).loop ks b e σ = some (y, e', σ') ∧ Q y e' σ' := by
    intro k
    induction k using Nat.strongRecOn with
    | _ k ih =>
      intro x e σ hk hI
      obtain ⟨n, y, e', σ', h1, h2⟩ := round x e σ hI
      cases y with
      | normal =>
        obtain ⟨x', hI', hlt⟩ := h2
        obtain ⟨m, y2, e2, σ2, h3, h4⟩ := ih (μ x') (by omega) x' _ σ' rfl hI'
        refine ⟨max n m + 1, y2, e2, σ2, ?_, h4⟩
        rw [orc]
        simp only [again, denote_mono (orc_mono prog (Nat.le_max_left n m)) h1]
        exact (orc_mono prog (Nat.le_max_right n m)).loop h3
      | exit i => exact ⟨n + 1, _, _, _, by rw [orc]; simp only [again, h1], h2⟩
      | ret => exact ⟨n + 1, _, _, _, by rw [orc]; simp only [again, h1], h2⟩
      | panic v => exact ⟨n + 1, _, _, _, by rw [orc]; simp only [again, h1], h2⟩
  obtain ⟨n, y, e', σ', h1, h2⟩ := key (μ x0) x0 _ σ rfl h0
  exact ⟨n, y, e', σ', by simp only [denote]; exact h1, h2⟩

/-! ### Operations -/
theorem wpO_nil (h : Q .normal e σ) : WpO [] e σ Q := ⟨0, _, _, _, rfl, h⟩
theorem wpO_skip {q : Op} {os : List Op} (hw : wantedV e q.guard = some false) (h : WpO os (e.put q.dst (.tuple #[])) σ Q) : WpO (q :: os) e σ Q := by
  obtain ⟨n, x, e', σ', h1, h2⟩ := h
  exact ⟨n, x, e', σ', by simp only [runOps, hw]; exact h1, h2⟩
theorem wpO_prim {q : Op} {os : List Op} {vs : List Value} {v : Value} {σ1 : H} (hw : wantedV e q.guard = some true) (hv : e.evs q.args = some vs) (hk : q.p.kind = .other) (hp : prim q.p vs σ = some (v, σ1)) (h : WpO os (e.put q.dst v) σ1 Q) : WpO (q :: os) e σ Q := by
  obtain ⟨n, x, e', σ', h1, h2⟩ := h
  exact ⟨n, x, e', σ', by simp only [runOps, hw, hv, hk, step, sPrim, hp]; exact h1, h2⟩
/-- What a call answers, and what comes behind. -/
def cnt2 (K : Value → H → Prop) (E : Value → H → Prop) (z : Fz K := ⟨⟩) (z2 : Fz E := ⟨⟩) : Res → H → Prop
  | .ok v, σ => K v σ
  | .panic v, σ => E v σ
theorem wpO_call {q : Op} {os : List Op} {f : Nat} {fv : Value} {as as2 : List Value} (hw : wantedV e q.guard = some true) (hv : e.evs q.args = some (fv :: as)) (hk : q.p = .call) (hc : callee fv as = some (f, as2))
    (h : Ru f as2 σ (cnt2 (fun v σ1 => WpO os (e.put q.dst v) σ1 Q) (fun v σ1 => Q (.panic v) e σ1))) : WpO (q :: os) e σ Q := by
  obtain ⟨n, r, σ1, h1, h2⟩ := h
  cases r with
  | ok v =>
    obtain ⟨m, x, e', σ', h3, h4⟩ := h2
    refine ⟨max n m, x, e', σ', ?_, h4⟩
    have h1' := (orc_mono prog (Nat.le_max_left n m)).call h1
    simp only [runOps, hw, hv, hk, Prim.kind, step, sCall, hc, h1']
    exact runOps_mono (orc_mono prog (Nat.le_max_right n m)) h3
  | panic v =>
    exact ⟨n, _, _, _, by simp only [runOps, hw, hv, hk, Prim.kind, step, sCall, hc, h1], h2⟩
theorem wpO_invoke {q : Op} {os : List Op} {f t : Nat} {name : String} {how : Option (Bool × Nat)} {v x : Value} {as : List Value} (hw : wantedV e q.guard = some true) (hv : e.evs q.args = some (.iface t v :: as)) (hk : q.p = .invoke name) (hm : mtab t name = some (f, how)) (hr : recv σ v how = some x)
    (h : Ru f (x :: as) σ (cnt2 (fun v σ1 => WpO os (e.put q.dst v) σ1 Q) (fun v σ1 => Q (.panic v) e σ1))) : WpO (q :: os) e σ Q := by
  obtain ⟨n, r, σ1, h1, h2⟩ := h
  have hmeth : ∀ n, (orc prog n).meth = mtab := fun n => by cases n <;> rfl
  cases r with
  | ok v =>
    obtain ⟨m, y, e', σ', h3, h4⟩ := h2
    refine ⟨max n m, y, e', σ', ?_, h4⟩
    have h1' := (orc_mono prog (Nat.le_max_left n m)).call h1
    simp only [runOps, hw, hv, hk, Prim.kind, step, sInvoke, hmeth, hm, hr, h1']
    exact runOps_mono (orc_mono prog (Nat.le_max_right n m)) h3
  | panic v =>
    exact ⟨n, _, _, _, by simp only [runOps, hw, hv, hk, Prim.kind, step, sInvoke, hmeth, hm, hr, h1], h2⟩
theorem wpO_panic {q : Op} {os : List Op} {t : Nat} {v : Value} (hw : wantedV e q.guard = some true) (hv : e.evs q.args = some [.iface t v]) (hk : q.p = .panic) (h : Q (.panic (.iface t v)) e σ) : WpO (q :: os) e σ Q :=
  ⟨0, _, _, _, by simp only [runOps, hw, hv, hk, Prim.kind, step, sPanic], h⟩
theorem wpO_defer {q : Op} {os : List Op} {k : Nat} {cap : List Value} (hw : wantedV e q.guard = some true) (hv : e.evs q.args = some [.func (.func k) ⟨[]⟩ ⟨cap⟩]) (hk : q.p = .defer) (hn : e.get 1000000 = none) (h : WpO os (Env.put ((1000000, .func (.func k) ⟨[]⟩ ⟨cap⟩) :: e) q.dst (.tuple #[])) σ Q) : WpO (q :: os) e σ Q := by
  obtain ⟨n, x, e', σ', h1, h2⟩ := h
  exact ⟨n, x, e', σ', by simp only [runOps, hw, hv, hk, Prim.kind, deferV, addDefer, hn]; exact h1, h2⟩
end
end AM
end Go.Proofs.YtdbbkaeoinalpaaGreat
