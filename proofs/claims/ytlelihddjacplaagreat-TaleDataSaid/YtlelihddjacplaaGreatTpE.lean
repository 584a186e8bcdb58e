/- Parts: Wp1, Ev1, Ev2, Wp2, Wp3, Wp4. -/
import Derived.Test.YtlelihddjacplaaGreatTpD
set_option linter.unusedVariables false
namespace Go.Proofs.YtlelihddjacplaaGreat
namespace AM

/-! ### More depth answers no less -/
structure Le (O O' : Orc) : Prop where
  call : ∀ {f a σ x}, O.call f a σ = some x → O'.call f a σ = some x
  loop : ∀ {ks b e σ x}, O.loop ks b e σ = some x → O'.loop ks b e σ = some x
  meth : O.meth = O'.meth
section
variable {O O' : Orc} (h : Le O O')
include h
theorem step_mono {p : Prim} {vs : List Value} {σ : H} {x : Res × H} (hx : step O p vs σ = some x) : step O' p vs σ = some x := by
  cases hk : p.kind <;> simp only [step, hk] at hx ⊢
  case call =>
    unfold sCall at *
    split at hx
    · split at hx
      · exact h.call hx
      · cases hx
    · cases hx
  case invoke name =>
    unfold sInvoke at *
    split at hx
    · split at hx
      · cases hx
      · rename_i hm
        split at hx
        · cases hx
        · rename_i hr
          rw [h.meth] at hm
          simp only [hm, hr]
          exact h.call hx
    · cases hx
  case panic => exact hx
  case «defer» => exact hx
  case other => exact hx
theorem runOps_mono : ∀ {os : List Op} {e : Env} {σ : H} {x : Ex × Env × H}, runOps O os e σ = some x → runOps O' os e σ = some x
  | [], _, _, _, hx => hx
  | o :: os, e, σ, x, hx => by
    simp only [runOps] at hx ⊢
    cases hw : wantedV e o.guard with
    | none => rw [hw] at hx; cases hx
    | some b =>
      rw [hw] at hx
      cases b with
      | false => exact runOps_mono hx
      | true =>
        simp only at hx ⊢
        cases hv : e.evs o.args with
        | none => rw [hv] at hx; cases hx
        | some vs =>
          rw [hv] at hx
          simp only at hx ⊢
          cases hk : o.p.kind with
          | «defer» =>
            rw [hk] at hx
            simp only at hx ⊢
            cases he : deferV e vs with
            | none => rw [he] at hx; cases hx
            | some e' => rw [he] at hx; exact runOps_mono hx
          | call =>
            rw [hk] at hx
            simp only at hx ⊢
            cases hs : step O o.p vs σ with
            | none => rw [hs] at hx; cases hx
            | some r =>
              rw [hs] at hx
              rw [step_mono h hs]
              obtain ⟨r, σ'⟩ := r
              cases r with
              | ok v => exact runOps_mono hx
              | panic v => exact hx
          | invoke nm =>
            rw [hk] at hx
            simp only at hx ⊢
            cases hs : step O o.p vs σ with
            | none => rw [hs] at hx; cases hx
            | some r =>
              rw [hs] at hx
              rw [step_mono h hs]
              obtain ⟨r, σ'⟩ := r
              cases r with
              | ok v => exact runOps_mono hx
              | panic v => exact hx
          | panic =>
            rw [hk] at hx
            simp only at hx ⊢
            cases hs : step O o.p vs σ with
            | none => rw [hs] at hx; cases hx
            | some r =>
              rw [hs] at hx
              rw [step_mono h hs]
              obtain ⟨r, σ'⟩ := r
              cases r with
              | ok v => exact runOps_mono hx
              | panic v => exact hx
          | other =>
            rw [hk] at hx
            simp only at hx ⊢
            cases hs : step O o.p vs σ with
            | none => rw [hs] at hx; cases hx
            | some r =>
              rw [hs] at hx
              rw [step_mono h hs]
              obtain ⟨r, σ'⟩ := r
              cases r with
              | ok v => exact runOps_mono hx
              | panic v => exact hx
theorem runSegs_mono {e0 : Env} {ds : List Nat} : ∀ {ss : List Seg} {rs : List Read} {e : Env} {σ : H} {x : Ex × Env × H}, runSegs O e0 ds ss rs e σ = some x → runSegs O' e0 ds ss rs e σ = some x
  | [], _, _, _, _, hx => hx
  | s :: ss, rs, e, σ, x, hx => by
    simp only [runSegs] at hx ⊢
    cases hq : runQ rs s.q e σ with
    | none => rw [hq] at hx; cases hx
    | some y =>
      obtain ⟨rs1, e1⟩ := y
      rw [hq] at hx
      simp only at hx ⊢
      cases he : s.e with
      | none => rw [he] at hx; exact runSegs_mono hx
      | some o =>
        rw [he] at hx
        simp only at hx ⊢
        cases hm : mobOk e1 σ rs1 s.mob with
        | false => rw [hm] at hx; cases hx
        | true =>
          rw [hm] at hx
          simp only at hx ⊢
          cases hr : runOps O [o] e1 σ with
          | none => rw [hr] at hx; cases hx
          | some z =>
            rw [hr] at hx
            rw [runOps_mono h hr]
            obtain ⟨z, e', σ'⟩ := z
            simp only at hx ⊢
            cases z with
            | normal =>
              simp only at hx ⊢
              cases hst : still σ' (keepR s.chk rs1) with
              | false => rw [hst] at hx; cases hx
              | true => rw [hst] at hx; exact runSegs_mono hx
            | panic v => exact hx
            | exit i => cases hx
            | ret => cases hx
theorem denote_mono : ∀ {c : Code} {e : Env} {σ : H} {x : Ex × Env × H}, denote O c e σ = some x → denote O' c e σ = some x
  | .skip, _, _, _, hx => hx
  | .reg ops, _, _, _, hx => runOps_mono h hx
  | .draw ss ds, _, _, _, hx => runSegs_mono h hx
  | .keep ks, _, _, _, hx => hx
  | .seq a b, e, σ, x, hx => by
    simp only [denote] at hx ⊢
    split at hx
    · cases hx
    · rename_i y e' σ' ha
      simp only [denote_mono ha]
      split at hx
      · exact denote_mono hx
      · exact hx
  | .cond c a b, e, σ, x, hx => by
    simp only [denote] at hx ⊢
    split at hx
    · rename_i t ht
      split at hx
      · exact denote_mono hx
      · exact denote_mono hx
    · cases hx
  | .block id b, e, σ, x, hx => by
    simp only [denote] at hx ⊢
    split at hx
    · cases hx
    · rename_i y e' σ' ha
      simp only [denote_mono ha]
      exact hx
  | .loop ks b, _, _, _, hx => h.loop hx
  | .exit _, _, _, _, hx => hx
  | .ret, _, _, _, hx => hx
theorem deferred_mono {fs : Nat → Option Func} {f : Value} {p : Option Value} {σ : H} {x : Bool × H} (hx : deferred O fs f p σ = some x) : deferred O' fs f p σ = some x := by
  unfold deferred at *
  split at hx
  · split at hx
    · split at hx
      · cases hx
      · rename_i hl
        split at hx
        · rename_i hd
          simp only [denote_mono h hd]
          exact hx
        · cases hx
    · cases hx
  · cases hx
theorem callF_mono {fs : Nat → Option Func} {k : Nat} {a : List Value} {σ : H} {x : Res × H} (hx : callF O fs k a σ = some x) : callF O' fs k a σ = some x := by
  unfold callF at *
  split at hx
  · cases hx
  · split at hx
    · cases hx
    · split at hx
      · cases hx
      · split at hx
        · cases hx
        · rename_i y e σ' hd
          simp only [denote_mono h hd]
          split at hx
          · exact hx
          · split at hx
            · split at hx
              · rename_i hdf; simp only [deferred_mono h hdf]; exact hx
              · cases hx
            · split at hx
              · rename_i hdf; simp only [deferred_mono h hdf]; exact hx
              · cases hx
            · split at hx
              · rename_i hdf; simp only [deferred_mono h hdf]; exact hx
              · cases hx
            · exact hx
end
theorem orc_le (P : Prog) : ∀ n, Le (orc P n) (orc P (n + 1))
  | 0 => ⟨fun h => (by simp [orc] at h), fun h => (by simp [orc] at h), rfl⟩
  | n + 1 => by
    have ih := orc_le P n
    refine ⟨fun {f a σ x} h => ?_, fun {ks b e σ x} h => ?_, rfl⟩
    · simp only [orc, answer] at h ⊢
      split at h
      · exact h
      · exact callF_mono ih h
    · rw [orc] at h ⊢
      simp only [again] at h ⊢
      split at h
      · cases h
      · rename_i y e' σ' hd
        simp only [denote_mono ih hd]
        split at h
        · exact ih.loop h
        · exact h
theorem Le.refl (O : Orc) : Le O O := ⟨fun h => h, fun h => h, rfl⟩
theorem Le.trans {a b c : Orc} (h : Le a b) (k : Le b c) : Le a c := ⟨fun x => k.call (h.call x), fun x => k.loop (h.loop x), h.meth.trans k.meth⟩
theorem orc_mono (P : Prog) {n m : Nat} (h : n ≤ m) : Le (orc P n) (orc P m) := by
  induction m with
  | zero => obtain rfl : n = 0 := by omega
            exact Le.refl _
  | succ m ih =>
    by_cases e : n = m + 1
    · subst e; exact Le.refl _
    · exact (ih (by omega)).trans (orc_le P m)

/-! ### What is surely come to -/
variable [Aw]
abbrev QC := Ex → Env → H → Prop
/-- A mark: what bears it is not looked into by simp. -/
structure Fz {α : Type} (x : α) : Type where
def Ru (f : Nat) (args : List Value) (σ : H) (Q : Res → H → Prop) (z : Fz Q := ⟨⟩) : Prop := ∃ n r σ', (orc prog n).call f args σ = some (r, σ') ∧ Q r σ'
def Wp (c : Code) (e : Env) (σ : H) (Q : QC) (z : Fz Q := ⟨⟩) : Prop := ∃ n x e' σ', denote (orc prog n) c e σ = some (x, e', σ') ∧ Q x e' σ'
def WpO (os : List Op) (e : Env) (σ : H) (Q : QC) : Prop := ∃ n x e' σ', runOps (orc prog n) os e σ = some (x, e', σ') ∧ Q x e' σ'
def WpS (e0 : Env) (ds : List Nat) (ss : List Seg) (rs : List Read) (e : Env) (σ : H) (Q : QC) : Prop := ∃ n x e' σ', runSegs (orc prog n) e0 ds ss rs e σ = some (x, e', σ') ∧ Q x e' σ'
theorem Ru.mono {f : Nat} {args : List Value} {σ : H} {Q Q' : Res → H → Prop} (h : Ru f args σ Q) (hq : ∀ r σ', Q r σ' → Q' r σ') : Ru f args σ Q' := let ⟨n, r, σ', h1, h2⟩ := h; ⟨n, r, σ', h1, hq _ _ h2⟩
theorem Wp.mono {c : Code} {e : Env} {σ : H} {Q Q' : QC} (h : Wp c e σ Q) (hq : ∀ x e σ', Q x e σ' → Q' x e σ') : Wp c e σ Q' := let ⟨n, x, e', σ', h1, h2⟩ := h; ⟨n, x, e', σ', h1, hq _ _ _ h2⟩

section
variable {e e0 : Env} {σ : H} {Q : QC}
theorem wp_skip (h : Q .normal e σ) : Wp .skip e σ Q := ⟨0, _, _, _, rfl, h⟩
theorem wp_exit {id : Nat} (h : Q (.exit id) e σ) : Wp (.exit id) e σ Q := ⟨0, _, _, _, rfl, h⟩
theorem wp_ret (h : Q .ret e σ) : Wp .ret e σ Q := ⟨0, _, _, _, rfl, h⟩
theorem wp_keep {ks : List Nat} (h : Q .normal (e.sub ks) σ) : Wp (.keep ks) e σ Q := ⟨0, _, _, _, rfl, h⟩
theorem wp_reg {os : List Op} (h : WpO os e σ Q) : Wp (.reg os) e σ Q := h
theorem wp_draw {ss : List Seg} {ds : List Nat} (h : WpS e ds ss [] e σ Q) : Wp (.draw ss ds) e σ Q := h
/-- Where code goes on when the first part is done. -/
def thn (K : Env → H → Prop) (Q : QC) (z : Fz K := ⟨⟩) (z2 : Fz Q := ⟨⟩) : QC
  | .normal, e, σ => K e σ
  | x, e, σ => Q x e σ
theorem wp_seq {a b : Code} (h : Wp a e σ (thn (fun e σ => Wp b e σ Q) Q)) : Wp (.seq a b) e σ Q := by
  obtain ⟨n, x, e', σ', h1, h2⟩ := h
  cases x with
  | normal =>
    obtain ⟨m, x2, e2, σ2, h3, h4⟩ := h2
    refine ⟨max n m, x2, e2, σ2, ?_, h4⟩
    simp only [denote, denote_mono (orc_mono prog (Nat.le_max_left n m)) h1, denote_mono (orc_mono prog (Nat.le_max_right n m)) h3]
  | exit id => exact ⟨n, _, _, _, by simp only [denote, h1], h2⟩
  | ret => exact ⟨n, _, _, _, by simp only [denote, h1], h2⟩
  | panic v => exact ⟨n, _, _, _, by simp only [denote, h1], h2⟩
theorem wp_cond {c : Opd} {a b : Code} {t : Bool} (hc : e.ev c = some (.bool t)) (h : Wp (match t with | true => a | false => b) e σ Q) : Wp (.cond c a b) e σ Q := by
  obtain ⟨n, x, e', σ', h1, h2⟩ := h
  refine ⟨n, x, e', σ', ?_, h2⟩
  simp only [denote, hc]
  cases t <;> exact h1
/-- A block's end. -/
def blk (id : Nat) (Q : QC) (z : Fz Q := ⟨⟩) : QC
  | .exit i, e, σ => if i = id then Q .normal e σ else Q (.exit i) e σ
  | x, e, σ => Q x e σ
theorem wp_block {id : Nat} {b : Code} (h : Wp b e σ (blk id Q)) : Wp (.block id b) e σ Q := by
  obtain ⟨n, x, e', σ', h1, h2⟩ := h
  cases x with
  | exit i =>
    simp only [blk] at h2
    by_cases hi : i = id
    · rw [if_pos hi] at h2
      exact ⟨n, _, _, _, by simp only [denote, h1, nbeq, decide_eq_true hi], h2⟩
    · rw [if_neg hi] at h2
      exact ⟨n, _, _, _, by simp only [denote, h1, nbeq, decide_eq_false hi], h2⟩
  | normal => exact ⟨n, _, _, _, by simp only [denote, h1], h2⟩
  | ret => exact ⟨n, _, _, _, by simp only [denote, h1], h2⟩
  | panic v => exact ⟨n, _, _, _, by simp only [denote, h1], h2⟩
/-- A loop: what stands at its head, and what grows less. -/
theorem wp_loop {ks : List Nat} {b : Code} {α : Type} (I : α → Env → H → Prop) (μ : α → Nat) (x0 : α) (h0 : I x0 (e.sub ks) σ)
    (round : ∀ x e σ, I x e σ → Wp b e σ (thn (fun e' σ' => ∃ x', I x' (e'.sub ks) σ' ∧ μ x' < μ x) Q)) : Wp (.loop ks b) e σ Q := by
  have key : ∀ (k : Nat) (x : α) (e : Env) (σ : H), μ x = k → I x e σ → ∃ n y e' σ', (orc prog n).loop ks b e σ = some (y, e', σ') ∧ Q y e' σ' := by
    intro k
    induction k using Nat.strongRecOn with
    | _ k ih =>
      intro x e σ hk hI
      obtain ⟨n, y, e', σ', h1, h2⟩ := round x e σ hI
      cases y with
      | normal =>
        obtain ⟨x', hI', hlt⟩ := h2
        obtain ⟨m, y2, e2, σ2, h3, h4⟩ := ih (μ x') (by omega) x' _ σ' rfl hI'
        refine ⟨max n m + 1, y2, e2, σ2, ?_, h4⟩
        rw [orc]
        simp only [again, denote_mono (orc_mono prog (Nat.le_max_left n m)) h1]
        exact (orc_mono prog (Nat.le_max_right n m)).loop h3
      | exit i => exact ⟨n + 1, _, _, _, by rw [orc]; simp only [again, h1], h2⟩
      | ret => exact ⟨n + 1, _, _, _, by rw [orc]; simp only [again, h1], h2⟩
      | panic v => exact ⟨n + 1, _, _, _, by rw [orc]; simp only [again, h1], h2⟩
  obtain ⟨n, y, e', σ', h1, h2⟩ := key (μ x0) x0 _ σ rfl h0
  exact ⟨n, y, e', σ', by simp only [denote]; exact h1, h2⟩

/-! ### Operations -/
theorem wpO_nil (h : Q .normal e σ) : WpO [] e σ Q := ⟨0, _, _, _, rfl, h⟩
theorem wpO_skip {q : Op} {os : List Op} (hw : wantedV e q.guard = some false) (h : WpO os (e.put q.dst (.tuple #[])) σ Q) : WpO (q :: os) e σ Q := by
  obtain ⟨n, x, e', σ', h1, h2⟩ := h
  exact ⟨n, x, e', σ', by simp only [runOps, hw]; exact h1, h2⟩
theorem wpO_prim {q : Op} {os : List Op} {vs : List Value} {v : Value} {σ1 : H} (hw : wantedV e q.guard = some true) (hv : e.evs q.args = some vs) (hk : q.p.kind = .other) (hp : prim q.p vs σ = some (v, σ1)) (h : WpO os (e.put q.dst v) σ1 Q) : WpO (q :: os) e σ Q := by
  obtain ⟨n, x, e', σ', h1, h2⟩ := h
  exact ⟨n, x, e', σ', by simp only [runOps, hw, hv, hk, step, sPrim, hp]; exact h1, h2⟩
/-- What a call answers, and what comes behind. -/
def cnt2 (K : Value → H → Prop) (E : Value → H → Prop) (z : Fz K := ⟨⟩) (z2 : Fz E := ⟨⟩) : Res → H → Prop
  | .ok v, σ => K v σ
  | .panic v, σ => E v σ
theorem wpO_call {q : Op} {os : List Op} {f : Nat} {fv : Value} {as as2 : List Value} (hw : wantedV e q.guard = some true) (hv : e.evs q.args = some (fv :: as)) (hk : q.p = .call) (hc : callee fv as = some (f, as2))
    (h : Ru f as2 σ (cnt2 (fun v σ1 => WpO os (e.put q.dst v) σ1 Q) (fun v σ1 => Q (.panic v) e σ1))) : WpO (q :: os) e σ Q := by
  obtain ⟨n, r, σ1, h1, h2⟩ := h
  cases r with
  | ok v =>
    obtain ⟨m, x, e', σ', h3, h4⟩ := h2
    refine ⟨max n m, x, e', σ', ?_, h4⟩
    have h1' := (orc_mono prog (Nat.le_max_left n m)).call h1
    simp only [runOps, hw, hv, hk, Prim.kind, step, sCall, hc, h1']
    exact runOps_mono (orc_mono prog (Nat.le_max_right n m)) h3
  | panic v =>
    exact ⟨n, _, _, _, by simp only [runOps, hw, hv, hk, Prim.kind, step, sCall, hc, h1], h2⟩
theorem wpO_invoke {q : Op} {os : List Op} {f t : Nat} {name : String} {how : Option (Bool × Nat)} {v x : Value} {as : List Value} (hw : wantedV e q.guard = some true) (hv : e.evs q.args = some (.iface t v :: as)) (hk : q.p = .invoke name) (hm : mtab t name = some (f, how)) (hr : recv σ v how = some x)
    (h : Ru f (x :: as) σ (cnt2 (fun v σ1 => WpO os (e.put q.dst v) σ1 Q) (fun v σ1 => Q (.panic v) e σ1))) : WpO (q :: os) e σ Q := by
  obtain ⟨n, r, σ1, h1, h2⟩ := h
  have hmeth : ∀ n, (orc prog n).meth = mtab := fun n => by cases n <;> rfl
  cases r with
  | ok v =>
    obtain ⟨m, y, e', σ', h3, h4⟩ := h2
    refine ⟨max n m, y, e', σ', ?_, h4⟩
    have h1' := (orc_mono prog (Nat.le_max_left n m)).call h1
    simp only [runOps, hw, hv, hk, Prim.kind, step, sInvoke, hmeth, hm, hr, h1']
    exact runOps_mono (orc_mono prog (Nat.le_max_right n m)) h3
  | panic v =>
    exact ⟨n, _, _, _, by simp only [runOps, hw, hv, hk, Prim.kind, step, sInvoke, hmeth, hm, hr, h1], h2⟩
theorem wpO_panic {q : Op} {os : List Op} {t : Nat} {v : Value} (hw : wantedV e q.guard = some true) (hv : e.evs q.args = some [.iface t v]) (hk : q.p = .panic) (h : Q (.panic (.iface t v)) e σ) : WpO (q :: os) e σ Q :=
  ⟨0, _, _, _, by simp only [runOps, hw, hv, hk, Prim.kind, step, sPanic], h⟩
theorem wpO_defer {q : Op} {os : List Op} {k : Nat} {cap : List Value} (hw : wantedV e q.guard = some true) (hv : e.evs q.args = some [.func (.func k) ⟨[]⟩ ⟨cap⟩]) (hk : q.p = .defer) (hn : e.get 1000000 = none) (h : WpO os (Env.put ((1000000, .func (.func k) ⟨[]⟩ ⟨cap⟩) :: e) q.dst (.tuple #[])) σ Q) : WpO (q :: os) e σ Q := by
  obtain ⟨n, x, e', σ', h1, h2⟩ := h
  exact ⟨n, x, e', σ', by simp only [runOps, hw, hv, hk, Prim.kind, deferV, addDefer, hn]; exact h1, h2⟩
end
end AM
end Go.Proofs.YtlelihddjacplaaGreat
namespace Go.Proofs.YtlelihddjacplaaGreat
namespace AM
noncomputable section

/-! ### Working out what there is; every one of these is 'K x' -/
def fN : Nat → (Nat → Bool) → Bool := @Nat.rec (fun _ => (Nat → Bool) → Bool) (fun K => K 0) (fun m _ K => K (Nat.succ m))
theorem fN_eq (n : Nat) (K : Nat → Bool) : fN n K = K n := by cases n <;> rfl
def fI : Int → (Int → Bool) → Bool := @Int.rec (fun _ => (Int → Bool) → Bool) (fun n K => fN n fun n => K (.ofNat n)) (fun n K => fN n fun n => K (.negSucc n))
theorem fI_eq (n : Int) (K : Int → Bool) : fI n K = K n := by cases n <;> exact fN_eq _ _
def fB : Bool → (Bool → Bool) → Bool := @Bool.rec (fun _ => (Bool → Bool) → Bool) (fun K => K false) (fun K => K true)
theorem fB_eq (b : Bool) (K : Bool → Bool) : fB b K = K b := by cases b <;> rfl
def fA : Option Addr → (Option Addr → Bool) → Bool :=
  @Option.rec Addr (fun _ => (Option Addr → Bool) → Bool) (fun K => K none) (fun a K => @Addr.rec (fun _ => Bool) (fun b o s => fN b fun b => fN o fun o => @Option.rec Nat (fun _ => Bool) (K (some ⟨b, o, none⟩)) (fun s => K (some ⟨b, o, some s⟩)) s) a)
theorem fA_eq (a : Option Addr) (K : Option Addr → Bool) : fA a K = K a := by
  rcases a with _ | ⟨b, o, _ | s⟩
  · rfl
  · show fN b _ = _; simp only [fN_eq]
  · show fN b _ = _; simp only [fN_eq]
def fC : Value → (Value → Bool) → Bool :=
  @Value.rec (fun _ => (Value → Bool) → Bool) (fun _ => Unit) (fun _ => Unit)
    (fun b K => fB b fun b => K (.bool b)) (fun k n K => fI n fun n => K (.int k n)) (fun k n K => K (.float k n)) (fun k a b K => K (.complex k a b)) (fun s K => K (.string s))
    (fun a K => fA a fun a => K (.pointer a)) (fun a n c K => fA a fun a => fN n fun n => fN c fun c => K (.slice a n c)) (fun r K => K (.map r)) (fun r K => K (.chan r))
    (fun f a b _ _ K => K (.func f a b)) (fun K => K .nilFunc) (fun t v _ K => K (.iface t v)) (fun K => K .nilIface) (fun c _ K => K (.agg c)) (fun c _ K => K (.tuple c))
    (fun _ _ => ()) () (fun _ _ _ _ => ())
theorem fC_eq (v : Value) (K : Value → Bool) : fC v K = K v := by
  cases v <;> first | rfl | exact fB_eq _ _ | exact fI_eq _ _ | exact fA_eq _ _ | skip
  show fA _ (fun a => fN _ fun n => fN _ fun c => K (.slice a n c)) = _
  simp only [fA_eq, fN_eq]
def fL : List Value → (List Value → Bool) → Bool :=
  @List.rec Value (fun _ => (List Value → Bool) → Bool) (fun K => K []) (fun v _ ih K => fC v fun v => ih fun r => K (v :: r))
theorem fL_eq : ∀ (l : List Value) (K : List Value → Bool), fL l K = K l
  | [], _ => rfl
  | v :: l, K => by
    show fC v (fun v => fL l fun r => K (v :: r)) = _
    rw [fC_eq, fL_eq]
def fAg : Value → (Value → Bool) → Bool :=
  @Value.rec (fun _ => (Value → Bool) → Bool) (fun _ => Unit) (fun _ => Unit)
    (fun b K => fB b fun b => K (.bool b)) (fun k n K => fI n fun n => K (.int k n)) (fun k n K => K (.float k n)) (fun k a b K => K (.complex k a b)) (fun s K => K (.string s))
    (fun a K => fA a fun a => K (.pointer a)) (fun a n c K => fA a fun a => fN n fun n => fN c fun c => K (.slice a n c)) (fun r K => K (.map r)) (fun r K => K (.chan r))
    (fun f a b _ _ K => K (.func f a b)) (fun K => K .nilFunc) (fun t v _ K => K (.iface t v)) (fun K => K .nilIface) (fun c _ K => @Array.rec Value (fun _ => Bool) (fun cs => fL cs fun cs => K (.agg ⟨cs⟩)) c) (fun c _ K => K (.tuple c))
    (fun _ _ => ()) () (fun _ _ _ _ => ())
theorem fAg_eq (v : Value) (K : Value → Bool) : fAg v K = K v := by
  cases v with
  | agg c => obtain ⟨cs⟩ := c; exact fL_eq cs fun cs => K (.agg ⟨cs⟩)
  | bool b => exact fC_eq (.bool b) K
  | int k n => exact fC_eq (.int k n) K
  | float k n => exact fC_eq (.float k n) K
  | complex k a b => exact fC_eq (.complex k a b) K
  | string s => exact fC_eq (.string s) K
  | pointer a => exact fC_eq (.pointer a) K
  | slice a n c => exact fC_eq (.slice a n c) K
  | map r => exact fC_eq (.map r) K
  | chan r => exact fC_eq (.chan r) K
  | func f a b => exact fC_eq (.func f a b) K
  | nilFunc => exact fC_eq (.nilFunc) K
  | iface t v => exact fC_eq (.iface t v) K
  | nilIface => exact fC_eq (.nilIface) K
  | tuple c => exact fC_eq (.tuple c) K
def fLA : List Value → (List Value → Bool) → Bool :=
  @List.rec Value (fun _ => (List Value → Bool) → Bool) (fun K => K []) (fun v _ ih K => fAg v fun v => ih fun r => K (v :: r))
theorem fLA_eq : ∀ (l : List Value) (K : List Value → Bool), fLA l K = K l
  | [], _ => rfl
  | v :: l, K => by
    show fAg v (fun v => fLA l fun r => K (v :: r)) = _
    rw [fAg_eq, fLA_eq]
def fV : Value → (Value → Bool) → Bool :=
  @Value.rec (fun _ => (Value → Bool) → Bool) (fun _ => Unit) (fun _ => Unit)
    (fun b K => fB b fun b => K (.bool b)) (fun k n K => fI n fun n => K (.int k n)) (fun k n K => K (.float k n)) (fun k a b K => K (.complex k a b)) (fun s K => K (.string s))
    (fun a K => fA a fun a => K (.pointer a)) (fun a n c K => fA a fun a => fN n fun n => fN c fun c => K (.slice a n c)) (fun r K => K (.map r)) (fun r K => K (.chan r))
    (fun f a b _ _ K => K (.func f a b)) (fun K => K .nilFunc) (fun t v _ K => K (.iface t v)) (fun K => K .nilIface) (fun c _ K => @Array.rec Value (fun _ => Bool) (fun cs => fL cs fun cs => K (.agg ⟨cs⟩)) c) (fun c _ K => @Array.rec Value (fun _ => Bool) (fun cs => fLA cs fun cs => K (.tuple ⟨cs⟩)) c)
    (fun _ _ => ()) () (fun _ _ _ _ => ())
theorem fV_eq (v : Value) (K : Value → Bool) : fV v K = K v := by
  cases v with
  | agg c => obtain ⟨cs⟩ := c; exact fL_eq cs fun cs => K (.agg ⟨cs⟩)
  | tuple c => obtain ⟨cs⟩ := c; exact fLA_eq cs fun cs => K (.tuple ⟨cs⟩)
  | bool b => exact fC_eq (.bool b) K
  | int k n => exact fC_eq (.int k n) K
  | float k n => exact fC_eq (.float k n) K
  | complex k a b => exact fC_eq (.complex k a b) K
  | string s => exact fC_eq (.string s) K
  | pointer a => exact fC_eq (.pointer a) K
  | slice a n c => exact fC_eq (.slice a n c) K
  | map r => exact fC_eq (.map r) K
  | chan r => exact fC_eq (.chan r) K
  | func f a b => exact fC_eq (.func f a b) K
  | nilFunc => exact fC_eq (.nilFunc) K
  | iface t v => exact fC_eq (.iface t v) K
  | nilIface => exact fC_eq (.nilIface) K
/-- A list's spine. -/
def fS : List Value → (List Value → Bool) → Bool :=
  @List.rec Value (fun _ => (List Value → Bool) → Bool) (fun K => K []) (fun v _ ih K => ih fun r => K (v :: r))
theorem fS_eq : ∀ (l : List Value) (K : List Value → Bool), fS l K = K l
  | [], _ => rfl
  | v :: l, K => by
    show fS l (fun r => K (v :: r)) = _
    rw [fS_eq]
def fE : Env → (Env → Bool) → Bool :=
  @List.rec (Nat × Value) (fun _ => (Env → Bool) → Bool) (fun K => K []) (fun p _ ih K => @Prod.rec Nat Value (fun _ => Bool) (fun k v => fN k fun k => ih fun r => K ((k, v) :: r)) p)
theorem fE_eq : ∀ (l : Env) (K : Env → Bool), fE l K = K l
  | [], _ => rfl
  | (k, v) :: l, K => by
    show fN k (fun k => fE l fun r => K ((k, v) :: r)) = _
    rw [fN_eq, fE_eq]
def fM : List MapEntry → (List MapEntry → Bool) → Bool :=
  @List.rec MapEntry (fun _ => (List MapEntry → Bool) → Bool) (fun K => K []) (fun p _ ih K => @MapEntry.rec (fun _ => Bool) (fun k v b => fN b fun b => ih fun r => K (⟨k, v, b⟩ :: r)) p)
theorem fM_eq : ∀ (l : List MapEntry) (K : List MapEntry → Bool), fM l K = K l
  | [], _ => rfl
  | ⟨k, v, b⟩ :: l, K => by
    show fN b (fun b => fM l fun r => K (⟨k, v, b⟩ :: r)) = _
    rw [fN_eq, fM_eq]
/-- An object; its cells too, if full. -/
def fOb (full : Bool) : Obj → (Option Obj → Bool) → Bool :=
  @Obj.rec (fun _ => (Option Obj → Bool) → Bool) (fun c e s m K => @Bool.rec (fun _ => Bool) (K (some (.cells c e s m))) (fL c fun c => @Mode.rec (fun _ => Bool) (K (some (.cells c e s .exact))) (K (some (.cells c e s .grown))) (K (some (.cells c e s .ro))) m) full)
    (fun es c K => fM es fun es => fN c fun c => K (some (.map es c))) (fun K => K (some .dead))
theorem fOb_eq (full : Bool) (o : Obj) (K : Option Obj → Bool) : fOb full o K = K (some o) := by
  cases o with
  | cells c e s m =>
    cases full with
    | false => rfl
    | true =>
      show fL c (fun c => @Mode.rec (fun _ => Bool) (K (some (.cells c e s .exact))) (K (some (.cells c e s .grown))) (K (some (.cells c e s .ro))) m) = _
      rw [fL_eq]
      cases m <;> rfl
  | map es c =>
    show fM es (fun es => fN c fun c => K (some (.map es c))) = _
    rw [fM_eq, fN_eq]
  | dead => rfl
def fO (full : Bool) : Option Obj → (Option Obj → Bool) → Bool :=
  @Option.rec Obj (fun _ => (Option Obj → Bool) → Bool) (fun K => K none) (fun o K => fOb full o K)
theorem fO_eq (full : Bool) (o : Option Obj) (K : Option Obj → Bool) : fO full o K = K o := by
  cases o with
  | none => rfl
  | some o => exact fOb_eq full o K
/-- A path of the heap. -/
def fT : Tr Obj → Bool → Nat → (Tr Obj → Bool) → Bool :=
  @Tr.rec Obj (fun _ => Bool → Nat → (Tr Obj → Bool) → Bool) (fun _ _ K => K .leaf) (fun l v r il ir full i K =>
    @Nat.rec (fun _ => Bool) (fO full v fun v => K (.node l v r)) (fun j _ =>
      @Bool.rec (fun _ => Bool) (ir full (j / 2) fun r => K (.node l v r)) (il full (j / 2) fun l => K (.node l v r)) (Nat.beq (j % 2) 0)) i)
theorem fT_eq (full : Bool) : ∀ (t : Tr Obj) (i : Nat) (K : Tr Obj → Bool), fT t full i K = K t
  | .leaf, _, _ => rfl
  | .node l v r, 0, K => by
    show fO full v (fun v => K (.node l v r)) = _
    rw [fO_eq]
  | .node l v r, j + 1, K => by
    show @Bool.rec (fun _ => Bool) (fT r full (j / 2) fun r => K (.node l v r)) (fT l full (j / 2) fun l => K (.node l v r)) (Nat.beq (j % 2) 0) = _
    cases Nat.beq (j % 2) 0 with
    | false => exact fT_eq full r _ _
    | true => exact fT_eq full l _ _
/-- The heap behind an operation: the block a may have changed, and what is new stands at b. -/
def fH (a b : Nat) (σ : H) (K : H → Bool) : Bool :=
  @H.rec (fun _ => Bool) (fun n t => fN n fun n => fT t false a fun t => @Bool.rec (fun _ => Bool) (fT t true b fun t => K ⟨n, t⟩) (K ⟨n, t⟩) (Nat.beq n b)) σ
theorem fH_eq (a b : Nat) (σ : H) (K : H → Bool) : fH a b σ K = K σ := by
  obtain ⟨n, t⟩ := σ
  show fN n (fun n => fT t false a fun t => @Bool.rec (fun _ => Bool) (fT t true b fun t => K ⟨n, t⟩) (K ⟨n, t⟩) (Nat.beq n b)) = _
  simp only [fN_eq, fT_eq]
  cases Nat.beq n b <;> rfl
/-- The block that an operation may write. -/
def wblk : List Value → Nat
  | .pointer (some a) :: _ => a.block
  | .slice (some a) _ _ :: _ => a.block
  | .map (some r) :: _ => r
  | _ => 0
def fR : Res → (Res → Bool) → Bool := @Res.rec (fun _ => (Res → Bool) → Bool) (fun v K => fV v fun v => K (.ok v)) (fun v K => fV v fun v => K (.panic v))
theorem fR_eq (r : Res) (K : Res → Bool) : fR r K = K r := by cases r <;> exact fV_eq _ _

/-! ### Slots -/
def gE : Env → Nat → (Value → Bool) → Bool :=
  @List.rec (Nat × Value) (fun _ => Nat → (Value → Bool) → Bool) (fun _ _ => false)
    (fun p _ ih i K => @Prod.rec Nat Value (fun _ => Bool) (fun k v => @Bool.rec (fun _ => Bool) (ih i K) (K v) (Nat.beq k i)) p)
theorem gE_of : ∀ {e : Env} {i : Nat} {K : Value → Bool}, gE e i K = true → ∃ v, e.get i = some v ∧ K v = true
  | [], _, _, h => by cases h
  | (k, v) :: e, i, K, h => by
    replace h : @Bool.rec (fun _ => Bool) (gE e i K) (K v) (Nat.beq k i) = true := h
    cases hb : Nat.beq k i with
    | true =>
      rw [hb] at h
      exact ⟨v, by simp only [Env.get, hb], h⟩
    | false =>
      rw [hb] at h
      obtain ⟨u, h1, h2⟩ := gE_of h
      exact ⟨u, by simp only [Env.get, hb]; exact h1, h2⟩
/-- A slot, or what there is where it has none. -/
def gD : Env → Nat → (Value → Bool) → Bool → Bool :=
  @List.rec (Nat × Value) (fun _ => Nat → (Value → Bool) → Bool → Bool) (fun _ _ d => d)
    (fun p _ ih i K d => @Prod.rec Nat Value (fun _ => Bool) (fun k v => @Bool.rec (fun _ => Bool) (ih i K d) (K v) (Nat.beq k i)) p)
theorem gD_eq : ∀ (e : Env) (i : Nat) (K : Value → Bool) (d : Bool), gD e i K d = (match e.get i with | some v => K v | none => d)
  | [], _, _, _ => rfl
  | (k, v) :: e, i, K, d => by
    show @Bool.rec (fun _ => Bool) (gD e i K d) (K v) (Nat.beq k i) = _
    simp only [Env.get]
    cases Nat.beq k i with
    | true => rfl
    | false => exact gD_eq e i K d
def kSub : List Nat → Env → (Env → Bool) → Bool :=
  @List.rec Nat (fun _ => Env → (Env → Bool) → Bool) (fun e K => gD e 1000000 (fun v => K [(1000000, v)]) (K [])) (fun k _ ih e K => gD e k (fun v => ih e fun r => K ((k, v) :: r)) (ih e K))
theorem kSub_eq (e : Env) : ∀ (ks : List Nat) (K : Env → Bool), kSub ks e K = K (e.sub ks)
  | [], K => by
    show gD e 1000000 (fun v => K [(1000000, v)]) (K []) = _
    rw [gD_eq]
    simp only [Env.sub]
    cases e.get 1000000 <;> rfl
  | k :: ks, K => by
    show gD e k (fun v => kSub ks e fun r => K ((k, v) :: r)) (kSub ks e K) = _
    rw [gD_eq]
    simp only [Env.sub, kSub_eq e ks]
    cases e.get k <;> rfl
def tG {α : Type} : Tr α → Nat → (α → Bool) → Bool → Bool :=
  @Tr.rec α (fun _ => Nat → (α → Bool) → Bool → Bool) (fun _ _ d => d) (fun _ v _ il ir i K d =>
    @Nat.rec (fun _ => Bool) (@Option.rec α (fun _ => Bool) d K v) (fun j _ =>
      @Bool.rec (fun _ => Bool) (ir (j / 2) K d) (il (j / 2) K d) (Nat.beq (j % 2) 0)) i)
theorem tG_eq {α : Type} : ∀ (t : Tr α) (i : Nat) (K : α → Bool) (d : Bool), tG t i K d = (match t.get i with | some a => K a | none => d)
  | .leaf, _, _, _ => by rw [Tr.get_leaf]; rfl
  | .node l v r, 0, K, d => by
    rw [Tr.get_zero]
    show @Option.rec α (fun _ => Bool) d K v = _
    cases v <;> rfl
  | .node l v r, j + 1, K, d => by
    show @Bool.rec (fun _ => Bool) (tG r (j / 2) K d) (tG l (j / 2) K d) (Nat.beq (j % 2) 0) = _
    simp only [Tr.get]
    cases Nat.beq (j % 2) 0 with
    | false => exact tG_eq r _ K d
    | true => exact tG_eq l _ K d
def gO : Opd → Env → (Value → Bool) → Bool := @Opd.rec (fun _ => Env → (Value → Bool) → Bool) (fun i e K => gE e i K) (fun v _ K => K v)
theorem gO_of {o : Opd} {e : Env} {K : Value → Bool} (h : gO o e K = true) : ∃ v, e.ev o = some v ∧ K v = true := by
  cases o with
  | t i => exact gE_of h
  | c v => exact ⟨v, rfl, h⟩
def gOs : List Opd → Env → (List Value → Bool) → Bool :=
  @List.rec Opd (fun _ => Env → (List Value → Bool) → Bool) (fun _ K => K []) (fun o _ ih e K => gO o e fun v => ih e fun vs => K (v :: vs))
theorem gOs_of : ∀ {os : List Opd} {e : Env} {K : List Value → Bool}, gOs os e K = true → ∃ vs, e.evs os = some vs ∧ K vs = true
  | [], _, _, h => ⟨[], rfl, h⟩
  | o :: os, e, K, h => by
    obtain ⟨v, h1, h2⟩ := gO_of (o := o) h
    obtain ⟨vs, h3, h4⟩ := gOs_of h2
    exact ⟨v :: vs, by simp only [Env.evs, h1, h3], h4⟩
def pE : Option Nat → Env → Value → (Env → Bool) → Bool := @Option.rec Nat (fun _ => Env → Value → (Env → Bool) → Bool) (fun e _ K => K e) (fun d e v K => K ((d, v) :: e))
theorem pE_eq (d : Option Nat) (e : Env) (v : Value) (K : Env → Bool) : pE d e v K = K (e.put d v) := by cases d <;> rfl
/-- A guarded operation: n where it is left out. -/
def gG : Option (Nat × Bool) → Env → Bool → Bool → Bool :=
  @Option.rec (Nat × Bool) (fun _ => Env → Bool → Bool → Bool) (fun _ y _ => y) (fun p e y n => match wantedV e (some p) with
    | some true => y
    | some false => n
    | none => false)
theorem gG_of {g : Option (Nat × Bool)} {e : Env} {y n : Bool} (h : gG g e y n = true) : (wantedV e g = some true ∧ y = true) ∨ (wantedV e g = some false ∧ n = true) := by
  cases g with
  | none => exact .inl ⟨rfl, h⟩
  | some p =>
    replace h : (match wantedV e (some p) with
      | some true => y
      | some false => n
      | none => false) = true := h
    split at h
    · rename_i hw; exact .inl ⟨hw, h⟩
    · rename_i hw; exact .inr ⟨hw, h⟩
    · cases h

/-! ### Operations -/
def MS (f : List Value → H → Option (Value × H)) (m : List Value → H → (Value → H → Bool) → Bool) : Prop :=
  ∀ {vs σ K}, m vs σ K = true → ∃ v σ', f vs σ = some (v, σ') ∧ K v σ' = true
def mN (f : List Value → H → Option (Value × H)) (vs : List Value) (σ : H) (K : Value → H → Bool) : Bool :=
  @Option.rec (Value × H) (fun _ => Bool) false (fun p => @Prod.rec Value H (fun _ => Bool) (fun v σ' => K v σ') p) (f vs σ)
def mF (f : List Value → H → Option (Value × H)) (vs : List Value) (σ : H) (K : Value → H → Bool) : Bool :=
  @Option.rec (Value × H) (fun _ => Bool) false (fun p => @Prod.rec Value H (fun _ => Bool) (fun v σ' => fV v fun v => K v σ') p) (f vs σ)
def mW (f : List Value → H → Option (Value × H)) (vs : List Value) (σ : H) (K : Value → H → Bool) : Bool :=
  @Option.rec (Value × H) (fun _ => Bool) false (fun p => @Prod.rec Value H (fun _ => Bool) (fun v σ' => fV v fun v => fH (wblk vs) σ.next σ' fun σ' => K v σ') p) (f vs σ)
def mX (vs : List Value) (σ : H) (K : Value → H → Bool) : Bool := false
theorem mN_ms (f : List Value → H → Option (Value × H)) : MS f (mN f) := by
  intro vs σ K h
  unfold mN at h
  cases hf : f vs σ with
  | none => rw [hf] at h; cases h
  | some p => rw [hf] at h; exact ⟨p.1, p.2, rfl, h⟩
theorem mF_ms (f : List Value → H → Option (Value × H)) : MS f (mF f) := by
  intro vs σ K h
  unfold mF at h
  cases hf : f vs σ with
  | none => rw [hf] at h; cases h
  | some p => rw [hf] at h; exact ⟨p.1, p.2, rfl, (fV_eq p.1 (fun v => K v p.2)).symm.trans h⟩
theorem mW_ms (f : List Value → H → Option (Value × H)) : MS f (mW f) := by
  intro vs σ K h
  unfold mW at h
  cases hf : f vs σ with
  | none => rw [hf] at h; cases h
  | some p =>
    rw [hf] at h
    replace h : fV p.1 (fun v => fH (wblk vs) σ.next p.2 fun σ' => K v σ') = true := h
    rw [fV_eq, fH_eq] at h
    exact ⟨p.1, p.2, rfl, h⟩
theorem mX_ms (f : List Value → H → Option (Value × H)) : MS f mX := by intro vs σ K h; cases h

/-! quick ones -/
def vI : Value → (IntKind → Int → Bool) → Bool → Bool :=
  @Value.rec (fun _ => (IntKind → Int → Bool) → Bool → Bool) (fun _ => Unit) (fun _ => Unit)
    (fun _ _ d => d) (fun k n K _ => K k n) (fun _ _ _ d => d) (fun _ _ _ _ d => d) (fun _ _ d => d)
    (fun _ _ d => d) (fun _ _ _ _ d => d) (fun _ _ d => d) (fun _ _ d => d)
    (fun _ _ _ _ _ _ d => d) (fun _ d => d) (fun _ _ _ _ d => d) (fun _ d => d) (fun _ _ _ d => d) (fun _ _ _ d => d)
    (fun _ _ => ()) () (fun _ _ _ _ => ())
theorem vI_of {v : Value} {K : IntKind → Int → Bool} {d : Bool} (h : vI v K d = true) : (∃ k n, v = .int k n ∧ K k n = true) ∨ d = true := by
  cases v <;> first | exact .inr h | exact .inl ⟨_, _, rfl, h⟩
def vP : Value → (Addr → Bool) → Bool :=
  @Value.rec (fun _ => (Addr → Bool) → Bool) (fun _ => Unit) (fun _ => Unit)
    (fun _ _ => false) (fun _ _ _ => false) (fun _ _ _ => false) (fun _ _ _ _ => false) (fun _ _ => false)
    (fun a K => @Option.rec Addr (fun _ => Bool) false K a) (fun _ _ _ _ => false) (fun _ _ => false) (fun _ _ => false)
    (fun _ _ _ _ _ _ => false) (fun _ => false) (fun _ _ _ _ => false) (fun _ => false) (fun _ _ _ => false) (fun _ _ _ => false)
    (fun _ _ => ()) () (fun _ _ _ _ => ())
theorem vP_of {v : Value} {K : Addr → Bool} (h : vP v K = true) : ∃ a, v = .pointer (some a) ∧ K a = true := by
  cases v <;> first | (cases h; done) | skip
  rename_i a
  cases a with
  | none => cases h
  | some a => exact ⟨a, rfl, h⟩
def vB : Value → (Bool → Bool) → Bool :=
  @Value.rec (fun _ => (Bool → Bool) → Bool) (fun _ => Unit) (fun _ => Unit)
    (fun b K => K b) (fun _ _ _ => false) (fun _ _ _ => false) (fun _ _ _ _ => false) (fun _ _ => false)
    (fun _ _ => false) (fun _ _ _ _ => false) (fun _ _ => false) (fun _ _ => false)
    (fun _ _ _ _ _ _ => false) (fun _ => false) (fun _ _ _ _ => false) (fun _ => false) (fun _ _ _ => false) (fun _ _ _ => false)
    (fun _ _ => ()) () (fun _ _ _ _ => ())
theorem vB_of {v : Value} {K : Bool → Bool} (h : vB v K = true) : ∃ b, v = .bool b ∧ K b = true := by
  cases v <;> first | (cases h; done) | exact ⟨_, rfl, h⟩
def kN : IntKind → Nat := @IntKind.rec (fun _ => Nat) 0 1 2 3 4 5 6 7
theorem kN_eq (k : IntKind) : kN k = kindN k := by cases k <;> rfl
def tget : Tr Obj → Nat → (Obj → Bool) → Bool :=
  @Tr.rec Obj (fun _ => Nat → (Obj → Bool) → Bool) (fun _ _ => false) (fun _ v _ il ir i K =>
    @Nat.rec (fun _ => Bool) (@Option.rec Obj (fun _ => Bool) false K v) (fun j _ =>
      @Bool.rec (fun _ => Bool) (ir (j / 2) K) (il (j / 2) K) (Nat.beq (j % 2) 0)) i)
theorem tget_of : ∀ {t : Tr Obj} {i : Nat} {K : Obj → Bool}, tget t i K = true → ∃ o, t.get i = some o ∧ K o = true
  | .leaf, _, _, h => by cases h
  | .node l v r, 0, K, h => by
    replace h : @Option.rec Obj (fun _ => Bool) false K v = true := h
    cases v with
    | none => cases h
    | some o => exact ⟨o, rfl, h⟩
  | .node l v r, j + 1, K, h => by
    replace h : @Bool.rec (fun _ => Bool) (tget r (j / 2) K) (tget l (j / 2) K) (Nat.beq (j % 2) 0) = true := h
    simp only [Tr.get]
    cases hb : Nat.beq (j % 2) 0 with
    | false => rw [hb] at h; exact tget_of h
    | true => rw [hb] at h; exact tget_of h
def ktake : List Value → Nat → (List Value → Bool) → Bool :=
  @List.rec Value (fun _ => Nat → (List Value → Bool) → Bool) (fun n K => @Nat.rec (fun _ => Bool) (K []) (fun _ _ => false) n)
    (fun v _ ih n K => @Nat.rec (fun _ => Bool) (K []) (fun m _ => ih m fun l => K (v :: l)) n)
theorem ktake_of : ∀ {l : List Value} {n : Nat} {K : List Value → Bool}, ktake l n K = true → ∃ r, ltake l n = some r ∧ K r = true
  | [], 0, _, h => ⟨[], rfl, h⟩
  | [], _ + 1, _, h => by cases h
  | _ :: _, 0, _, h => ⟨[], rfl, h⟩
  | v :: l, n + 1, K, h => by
    obtain ⟨r, h1, h2⟩ := ktake_of (l := l) (n := n) h
    exact ⟨v :: r, by simp only [ltake, h1], h2⟩
def kcut : List Value → Nat → Nat → (List Value → Bool) → Bool :=
  @List.rec Value (fun _ => Nat → Nat → (List Value → Bool) → Bool) (fun o n K => @Nat.rec (fun _ => Bool) (ktake [] n K) (fun _ _ => false) o)
    (fun v r ih o n K => @Nat.rec (fun _ => Bool) (ktake (v :: r) n K) (fun o _ => ih o n K) o)
theorem kcut_of : ∀ {l : List Value} {o n : Nat} {K : List Value → Bool}, kcut l o n K = true → ∃ r, lcut l o n = some r ∧ K r = true
  | [], 0, n, K, h => by
    obtain ⟨r, h1, h2⟩ := ktake_of (l := []) (n := n) h
    exact ⟨r, by simp only [lcut]; exact h1, h2⟩
  | [], _ + 1, _, _, h => by cases h
  | v :: l, 0, n, K, h => by
    obtain ⟨r, h1, h2⟩ := ktake_of (l := v :: l) (n := n) h
    exact ⟨r, by simp only [lcut]; exact h1, h2⟩
  | v :: l, o + 1, n, K, h => by
    obtain ⟨r, h1, h2⟩ := kcut_of (l := l) (o := o) (n := n) h
    exact ⟨r, by simp only [lcut]; exact h1, h2⟩
/-- The cells at an address. -/
def kRd (σ : H) (a : Addr) (n : Nat) (K : List Value → Bool) : Bool :=
  @Addr.rec (fun _ => Bool) (fun b o s => @Option.rec Nat (fun _ => Bool) (@H.rec (fun _ => Bool) (fun _ t => tget t b fun ob => @Obj.rec (fun _ => Bool) (fun c _ _ _ => kcut c o n K) (fun _ _ => false) false ob) σ) (fun _ => false) s) a
theorem kRd_of {σ : H} {a : Addr} {n : Nat} {K : List Value → Bool} (h : kRd σ a n K = true) : ∃ r, rdCells σ a n = some r ∧ K r = true := by
  obtain ⟨b, o, s⟩ := a
  obtain ⟨nx, t⟩ := σ
  cases s with
  | some s => cases h
  | none =>
    obtain ⟨ob, h1, h2⟩ := tget_of (t := t) (i := b) h
    cases ob with
    | cells c e s m =>
      obtain ⟨r, h3, h4⟩ := kcut_of (l := c) (o := o) (n := n) h2
      exact ⟨r, by simp only [rdCells, H.get, h1]; exact h3, h4⟩
    | map es c => cases h2
    | dead => cases h2
def vs1 (vs : List Value) (K : Value → Bool) : Bool := @List.rec Value (fun _ => Bool) false (fun v r _ => @List.rec Value (fun _ => Bool) (K v) (fun _ _ _ => false) r) vs
theorem vs1_of {vs : List Value} {K : Value → Bool} (h : vs1 vs K = true) : ∃ v, vs = [v] ∧ K v = true := by
  match vs, h with
  | [], h => cases h
  | [v], h => exact ⟨v, rfl, h⟩
  | _ :: _ :: _, h => cases h
def vs2 (vs : List Value) (K : Value → Value → Bool) : Bool := @List.rec Value (fun _ => Bool) false (fun v r _ => vs1 r fun u => K v u) vs
theorem vs2_of {vs : List Value} {K : Value → Value → Bool} (h : vs2 vs K = true) : ∃ v u, vs = [v, u] ∧ K v u = true := by
  cases vs with
  | nil => cases h
  | cons v r =>
    obtain ⟨u, e, h2⟩ := vs1_of (vs := r) (K := fun u => K v u) h
    subst e
    exact ⟨v, u, rfl, h2⟩
def mLoad (agg : Bool) (n : Nat) (vs : List Value) (σ : H) (K : Value → H → Bool) : Bool :=
  vs1 vs fun v => vP v fun a => @Bool.rec (fun _ => Bool) (kRd σ a 1 fun l => vs1 l fun v => K v σ) (kRd σ a n fun l => K (.agg ⟨l⟩) σ) agg
theorem mLoad_ms (agg : Bool) (n : Nat) : MS (pLoad agg n) (mLoad agg n) := by
  intro vs σ K h
  unfold mLoad at h
  obtain ⟨v, e1, h0⟩ := vs1_of h
  obtain ⟨a, e2, h0⟩ := vP_of h0
  subst e1; subst e2
  cases agg with
  | false =>
    obtain ⟨r, h1, h2⟩ := kRd_of (n := 1) h0
    obtain ⟨v, e3, h3⟩ := vs1_of h2
    subst e3
    exact ⟨v, σ, by simp only [pLoad, h1], h3⟩
  | true =>
    obtain ⟨r, h1, h2⟩ := kRd_of (n := n) h0
    exact ⟨_, σ, by simp only [pLoad, h1], h2⟩
def mToInt (k : IntKind) (vs : List Value) (σ : H) (K : Value → H → Bool) : Bool :=
  vs1 vs fun v => vI v (fun _ n => fI (wrapI k n) fun n => K (.int k n) σ) false
theorem mToInt_ms (k : IntKind) : MS (pToInt k) (mToInt k) := by
  intro vs σ K h
  unfold mToInt at h
  obtain ⟨v, hvs, h1⟩ := vs1_of h
  rcases vI_of h1 with ⟨k', n, hv, h2⟩ | h2
  · subst hv; subst hvs
    rw [fI_eq] at h2
    exact ⟨_, σ, rfl, h2⟩
  · cases h2
def mBinV (op : BinOp) (x y : Value) (K : Value → Bool) : Bool := @Option.rec Value (fun _ => Bool) false (fun v => fV v K) (binV op x y)
theorem mBinV_of {op : BinOp} {x y : Value} {K : Value → Bool} (h : mBinV op x y K = true) : ∃ v, binV op x y = some v ∧ K v = true := by
  unfold mBinV at h
  cases hb : binV op x y with
  | none => rw [hb] at h; cases h
  | some v => rw [hb] at h; exact ⟨v, rfl, (fV_eq v K).symm.trans h⟩
/-- Two ints of one kind; d: what else there may be. -/
def kI2 (x y : Value) (K : IntKind → Int → Int → Bool) (d : Bool) : Bool :=
  vI x (fun k a => vI y (fun k' b => @Bool.rec (fun _ => Bool) d (K k a b) (Nat.beq (kN k) (kN k'))) d) d
theorem kI2_of {x y : Value} {K : IntKind → Int → Int → Bool} {d : Bool} (h : kI2 x y K d = true) : (∃ k a b, x = .int k a ∧ y = .int k b ∧ K k a b = true) ∨ d = true := by
  unfold kI2 at h
  rcases vI_of h with ⟨k, a, hx, h1⟩ | h1
  · rcases vI_of h1 with ⟨k', b, hy, h2⟩ | h2
    · cases hb : Nat.beq (kN k) (kN k') with
      | false => rw [hb] at h2; exact .inr h2
      | true =>
        rw [hb] at h2
        have e : k = k' := by
          rw [kN_eq, kN_eq] at hb
          have h3 := sameK_eq k k'
          unfold sameK at h3
          rw [hb] at h3
          exact of_decide_eq_true h3.symm
        exact .inl ⟨k, a, b, hx, e ▸ hy, h2⟩
    · exact .inr h2
  · exact .inr h1
def kTest (x y : Value) (σ : H) (K : Value → H → Bool) (f : Int → Int → Bool) (d : Bool) : Bool := kI2 x y (fun _ a b => @Bool.rec (fun _ => Bool) (K (.bool false) σ) (K (.bool true) σ) (f a b)) d
def kNum (x y : Value) (σ : H) (K : Value → H → Bool) (f : IntKind → Int → Int → Int) (d : Bool) : Bool := kI2 x y (fun k a b => fI (f k a b) fun n => K (.int k n) σ) d
def mBinR : BinOp → Value → Value → H → (Value → H → Bool) → Bool → Bool :=
  @BinOp.rec (fun _ => Value → Value → H → (Value → H → Bool) → Bool → Bool)
    (fun x y σ K d => kNum x y σ K (fun k a b => wrapI k (Int.add a b)) d)
    (fun x y σ K d => kNum x y σ K (fun k a b => wrapI k (Int.sub a b)) d)
    (fun x y σ K d => kNum x y σ K (fun k a b => wrapI k (Int.mul a b)) d)
    (fun _ _ _ _ d => d) (fun _ _ _ _ d => d)
    (fun x y σ K d => kNum x y σ K (fun k a b => bitI k Nat.land (· &&& ·) a b) d)
    (fun x y σ K d => kNum x y σ K (fun k a b => bitI k Nat.lor (· ||| ·) a b) d)
    (fun x y σ K d => kNum x y σ K (fun k a b => bitI k Nat.xor (· ^^^ ·) a b) d)
    (fun _ _ _ _ d => d) (fun _ _ _ _ d => d) (fun _ _ _ _ d => d)
    (fun x y σ K d => kTest x y σ K (fun a b => eqI a b) d)
    (fun x y σ K d => kTest x y σ K (fun a b => !(eqI a b)) d)
    (fun x y σ K d => kTest x y σ K (fun a b => ltI a b) d)
    (fun x y σ K d => kTest x y σ K (fun a b => !(ltI b a)) d)
    (fun x y σ K d => kTest x y σ K (fun a b => ltI b a) d)
    (fun x y σ K d => kTest x y σ K (fun a b => !(ltI a b)) d)
theorem sameK_refl (k : IntKind) : sameK k k = true := by rw [sameK_eq]; simp
theorem kTest_of {x y : Value} {σ : H} {K : Value → H → Bool} {f : Int → Int → Bool} {d : Bool} (h : kTest x y σ K f d = true) : (∃ k a b, x = .int k a ∧ y = .int k b ∧ K (.bool (f a b)) σ = true) ∨ d = true := by
  unfold kTest at h
  rcases kI2_of h with ⟨k, a, b, hx, hy, h1⟩ | h1
  · refine .inl ⟨k, a, b, hx, hy, ?_⟩
    cases hf : f a b <;> rw [hf] at h1 <;> exact h1
  · exact .inr h1
theorem kNum_of {x y : Value} {σ : H} {K : Value → H → Bool} {f : IntKind → Int → Int → Int} {d : Bool} (h : kNum x y σ K f d = true) : (∃ k a b, x = .int k a ∧ y = .int k b ∧ K (.int k (f k a b)) σ = true) ∨ d = true := by
  unfold kNum at h
  rcases kI2_of h with ⟨k, a, b, hx, hy, h1⟩ | h1
  · exact .inl ⟨k, a, b, hx, hy, (fI_eq _ _).symm.trans h1⟩
  · exact .inr h1
theorem mBinR_of {op : BinOp} {x y : Value} {σ : H} {K : Value → H → Bool} {d : Bool} (h : mBinR op x y σ K d = true) : (∃ v, binV op x y = some v ∧ K v σ = true) ∨ d = true := by
  have num : ∀ (f : IntKind → Int → Int → Int) (op : BinOp), kNum x y σ K f d = true → (∀ k a b, binV op (.int k a) (.int k b) = some (.int k (f k a b))) → (∃ v, binV op x y = some v ∧ K v σ = true) ∨ d = true := by
    intro f op h hf
    rcases kNum_of h with ⟨k, a, b, hx, hy, h1⟩ | h1
    · exact .inl ⟨_, by rw [hx, hy]; exact hf k a b, h1⟩
    · exact .inr h1
  have tst : ∀ (f : Int → Int → Bool) (op : BinOp), kTest x y σ K f d = true → (∀ k a b, binV op (.int k a) (.int k b) = some (.bool (f a b))) → (∃ v, binV op x y = some v ∧ K v σ = true) ∨ d = true := by
    intro f op h hf
    rcases kTest_of h with ⟨k, a, b, hx, hy, h1⟩ | h1
    · exact .inl ⟨_, by rw [hx, hy]; exact hf k a b, h1⟩
    · exact .inr h1
  cases op with
  | add => exact num _ _ h fun k a b => by simp only [binV, sameK_refl, binI]
  | sub => exact num _ _ h fun k a b => by simp only [binV, sameK_refl, binI]
  | mul => exact num _ _ h fun k a b => by simp only [binV, sameK_refl, binI]
  | and => exact num _ _ h fun k a b => by simp only [binV, sameK_refl, binI]
  | or => exact num _ _ h fun k a b => by simp only [binV, sameK_refl, binI]
  | xor => exact num _ _ h fun k a b => by simp only [binV, sameK_refl, binI]
  | eql => exact tst _ _ h fun k a b => by simp only [binV, sameK_refl, binI]
  | neq => exact tst _ _ h fun k a b => by simp only [binV, sameK_refl, binI]
  | lss => exact tst _ _ h fun k a b => by simp only [binV, sameK_refl, binI]
  | leq => exact tst _ _ h fun k a b => by simp only [binV, sameK_refl, binI]
  | gtr => exact tst _ _ h fun k a b => by simp only [binV, sameK_refl, binI]
  | geq => exact tst _ _ h fun k a b => by simp only [binV, sameK_refl, binI]
  | quo => exact .inr h
  | rem => exact .inr h
  | shl => exact .inr h
  | shr => exact .inr h
  | andNot => exact .inr h
def mBin (op : BinOp) (vs : List Value) (σ : H) (K : Value → H → Bool) : Bool :=
  vs2 vs fun x y => mBinR op x y σ K (mBinV op x y fun v => K v σ)
theorem mBin_ms (op : BinOp) : MS (pBin op) (mBin op) := by
  intro vs σ K h
  unfold mBin at h
  obtain ⟨x, y, e, h0⟩ := vs2_of h
  subst e
  rcases mBinR_of h0 with ⟨v, h1, h2⟩ | h3
  · exact ⟨v, σ, by simp only [pBin, h1], h2⟩
  · obtain ⟨v, h1, h2⟩ := mBinV_of h3
    exact ⟨v, σ, by simp only [pBin, h1], h2⟩
def mK : Prim → List Value → H → (Value → H → Bool) → Bool :=
  @Prim.rec (fun _ => List Value → H → (Value → H → Bool) → Bool)
    (mN (pMove))
    (mN (pPick))
    (fun elem esz zero => mW (pNew elem esz zero))
    (fun elem esz => mW (pBox elem esz))
    (fun zero pl => mN (pBuild zero pl))
    (fun elem esz len zero pl => mW (pBuildSlice elem esz len zero pl))
    (fun agg n => mLoad agg n)
    (fun n => mW (pStore n))
    (mN (pNilCheck))
    (fun k neg => mF (pIsNil k neg))
    (fun op => mBin op)
    (fun neg => mF (pEqBool neg))
    (fun neg => mF (pEqStr neg))
    (fun neg => mF (pEqPtr neg))
    (fun bl n neg => mF (pEqAgg bl n neg))
    (fun op => mF (pUn op))
    (fun k => mToInt k)
    (fun k => mF (pToFloat k))
    (mN (pToStr))
    (fun t => mN (pIface t))
    (fun f first => mN (pFunc f first))
    (mW (pNewMap))
    (fun elem esz bytes zero => mW (pNewSlice elem esz bytes zero))
    (fun esz lo hi mx => mF (pSlice esz lo hi mx))
    (fun off => mF (pFieldAddr off))
    (fun esz => mF (pIdxAddr esz))
    (fun n esz => mF (pIdxAddrA n esz))
    (fun off agg n => mN (pField off agg n))
    (fun len esz agg => mN (pIdx len esz agg))
    (mF (pIdxStr))
    (fun ks zero ok => mF (pLookup ks zero ok))
    (fun ks => mW (pMapSet ks))
    (fun t zero ok => mF (pAssert t zero ok))
    (fun i => mN (pExtract i))
    (mF (pLenS))
    (mF (pLenM))
    (fun n => mF (pLenC n))
    (mF (pCap))
    (fun elem esz bytes => mW (pAppend elem esz bytes))
    (fun elem esz bytes zero => mW (pAppendZ elem esz bytes zero))
    (fun esz => mW (pCopy esz))
    (mF (pMin))
    (mF (pMax))
    (mW (pClearM))
    (fun zero => mW (pClearS zero))
    (fun ks => mW (pDelete ks))
    (fun n => mN (pArrPtr n))
    (mF (pF64bits))
    (mF (pF64from))
    (mX)
    (mW (pMapsClone))
    (mX)
    (fun name => mX)
    (mX)
    (mX)
    (mX)

theorem mK_ms (p : Prim) : MS (prim p) (mK p) := by
  cases p <;> first | exact @mN_ms _ | exact @mF_ms _ | exact @mW_ms _ | exact @mLoad_ms _ _ | exact @mToInt_ms _ | exact @mBin_ms _ | exact @mX_ms _
def quR : Prim → Bool :=
  @Prim.rec (fun _ => Bool)
    (true)
    (true)
    (fun elem esz zero => false)
    (fun elem esz => false)
    (fun zero pl => true)
    (fun elem esz len zero pl => false)
    (fun agg n => true)
    (fun n => false)
    (true)
    (fun k neg => true)
    (fun op => true)
    (fun neg => true)
    (fun neg => true)
    (fun neg => true)
    (fun bl n neg => true)
    (fun op => true)
    (fun k => true)
    (fun k => true)
    (true)
    (fun t => true)
    (fun f first => true)
    (false)
    (fun elem esz bytes zero => false)
    (fun esz lo hi mx => true)
    (fun off => true)
    (fun esz => true)
    (fun n esz => true)
    (fun off agg n => true)
    (fun len esz agg => true)
    (true)
    (fun ks zero ok => true)
    (fun ks => false)
    (fun t zero ok => true)
    (fun i => true)
    (true)
    (true)
    (fun n => true)
    (false)
    (fun elem esz bytes => false)
    (fun elem esz bytes zero => false)
    (fun esz => false)
    (true)
    (true)
    (false)
    (fun zero => false)
    (fun ks => false)
    (fun n => true)
    (true)
    (true)
    (false)
    (false)
    (false)
    (fun name => false)
    (false)
    (false)
    (false)

def rdR : Prim → Bool :=
  @Prim.rec (fun _ => Bool)
    (false)
    (false)
    (fun elem esz zero => false)
    (fun elem esz => false)
    (fun zero pl => false)
    (fun elem esz len zero pl => false)
    (fun agg n => true)
    (fun n => false)
    (false)
    (fun k neg => false)
    (fun op => false)
    (fun neg => false)
    (fun neg => false)
    (fun neg => true)
    (fun bl n neg => false)
    (fun op => false)
    (fun k => false)
    (fun k => false)
    (true)
    (fun t => false)
    (fun f first => false)
    (false)
    (fun elem esz bytes zero => false)
    (fun esz lo hi mx => false)
    (fun off => false)
    (fun esz => false)
    (fun n esz => false)
    (fun off agg n => false)
    (fun len esz agg => false)
    (false)
    (fun ks zero ok => true)
    (fun ks => false)
    (fun t zero ok => false)
    (fun i => false)
    (false)
    (true)
    (fun n => false)
    (false)
    (fun elem esz bytes => false)
    (fun elem esz bytes zero => false)
    (fun esz => false)
    (false)
    (false)
    (false)
    (fun zero => false)
    (fun ks => false)
    (fun n => false)
    (false)
    (false)
    (false)
    (false)
    (false)
    (fun name => false)
    (false)
    (false)
    (false)

theorem quR_eq (p : Prim) : quR p = quietP p := by cases p <;> rfl
theorem rdR_eq (p : Prim) : rdR p = readsHeap p := by cases p <;> rfl

/-! ### The run -/
structure OrcK where
  call : Nat → List Value → H → (Res → H → Bool) → Bool
  loop : List Nat → Code → Env → H → (Ex → Env → H → Bool) → Bool

def kPut (dst : Option Nat) (e : Env) (N : Env → H → Bool) (K : Ex → Env → H → Bool) (r : Res) (σ : H) : Bool :=
  @Res.rec (fun _ => Bool) (fun v => pE dst e v fun e => N e σ) (fun v => K (.panic v) e σ) r
def oth (m : List Value → H → (Value → H → Bool) → Bool) (O : OrcK) (vs : List Value) (dst : Option Nat) (e : Env) (σ : H) (N : Env → H → Bool) (K : Ex → Env → H → Bool) : Bool :=
  m vs σ fun v σ => pE dst e v fun e => N e σ
def oCall (O : OrcK) (vs : List Value) (dst : Option Nat) (e : Env) (σ : H) (N : Env → H → Bool) (K : Ex → Env → H → Bool) : Bool :=
  match vs with
  | f :: args => match callee f args with
    | some (f, args) => fN f fun f => fS args fun args => O.call f args σ (kPut dst e N K)
    | none => false
  | [] => false
def oInvoke (name : String) (O : OrcK) (vs : List Value) (dst : Option Nat) (e : Env) (σ : H) (N : Env → H → Bool) (K : Ex → Env → H → Bool) : Bool :=
  match vs with
  | .iface t v :: args => match mtab t name with
    | none => false
    | some (f, how) => match recv σ v how with
      | none => false
      | some x => fV x fun x => O.call f (x :: args) σ (kPut dst e N K)
  | _ => false
def oPanic (O : OrcK) (vs : List Value) (dst : Option Nat) (e : Env) (σ : H) (N : Env → H → Bool) (K : Ex → Env → H → Bool) : Bool :=
  match vs with
  | [.iface t v] => K (.panic (.iface t v)) e σ
  | _ => false
def oDefer (O : OrcK) (vs : List Value) (dst : Option Nat) (e : Env) (σ : H) (N : Env → H → Bool) (K : Ex → Env → H → Bool) : Bool :=
  match deferV e vs with
  | some e' => pE dst e' (.tuple #[]) fun e => N e σ
  | none => false
def pK : Prim → OrcK → List Value → Option Nat → Env → H → (Env → H → Bool) → (Ex → Env → H → Bool) → Bool :=
  @Prim.rec (fun _ => OrcK → List Value → Option Nat → Env → H → (Env → H → Bool) → (Ex → Env → H → Bool) → Bool)
    (oth (mN (pMove)))
    (oth (mN (pPick)))
    (fun elem esz zero => oth (mW (pNew elem esz zero)))
    (fun elem esz => oth (mW (pBox elem esz)))
    (fun zero pl => oth (mN (pBuild zero pl)))
    (fun elem esz len zero pl => oth (mW (pBuildSlice elem esz len zero pl)))
    (fun agg n => oth (mLoad agg n))
    (fun n => oth (mW (pStore n)))
    (oth (mN (pNilCheck)))
    (fun k neg => oth (mF (pIsNil k neg)))
    (fun op => oth (mBin op))
    (fun neg => oth (mF (pEqBool neg)))
    (fun neg => oth (mF (pEqStr neg)))
    (fun neg => oth (mF (pEqPtr neg)))
    (fun bl n neg => oth (mF (pEqAgg bl n neg)))
    (fun op => oth (mF (pUn op)))
    (fun k => oth (mToInt k))
    (fun k => oth (mF (pToFloat k)))
    (oth (mN (pToStr)))
    (fun t => oth (mN (pIface t)))
    (fun f first => oth (mN (pFunc f first)))
    (oth (mW (pNewMap)))
    (fun elem esz bytes zero => oth (mW (pNewSlice elem esz bytes zero)))
    (fun esz lo hi mx => oth (mF (pSlice esz lo hi mx)))
    (fun off => oth (mF (pFieldAddr off)))
    (fun esz => oth (mF (pIdxAddr esz)))
    (fun n esz => oth (mF (pIdxAddrA n esz)))
    (fun off agg n => oth (mN (pField off agg n)))
    (fun len esz agg => oth (mN (pIdx len esz agg)))
    (oth (mF (pIdxStr)))
    (fun ks zero ok => oth (mF (pLookup ks zero ok)))
    (fun ks => oth (mW (pMapSet ks)))
    (fun t zero ok => oth (mF (pAssert t zero ok)))
    (fun i => oth (mN (pExtract i)))
    (oth (mF (pLenS)))
    (oth (mF (pLenM)))
    (fun n => oth (mF (pLenC n)))
    (oth (mF (pCap)))
    (fun elem esz bytes => oth (mW (pAppend elem esz bytes)))
    (fun elem esz bytes zero => oth (mW (pAppendZ elem esz bytes zero)))
    (fun esz => oth (mW (pCopy esz)))
    (oth (mF (pMin)))
    (oth (mF (pMax)))
    (oth (mW (pClearM)))
    (fun zero => oth (mW (pClearS zero)))
    (fun ks => oth (mW (pDelete ks)))
    (fun n => oth (mN (pArrPtr n)))
    (oth (mF (pF64bits)))
    (oth (mF (pF64from)))
    (oth (mX))
    (oth (mW (pMapsClone)))
    (oCall)
    (fun name => oInvoke name)
    (oDefer)
    (oPanic)
    (oth (mX))

def kOp : Op → OrcK → Env → H → (Env → H → Bool) → (Ex → Env → H → Bool) → Bool :=
  @Op.rec (fun _ => OrcK → Env → H → (Env → H → Bool) → (Ex → Env → H → Bool) → Bool) (fun dst p args g O e σ N K =>
    gG g e (gOs args e fun vs => pK p O vs dst e σ N K) (pE dst e (.tuple #[]) fun e => N e σ))
def kOps : List Op → OrcK → Env → H → (Ex → Env → H → Bool) → Bool :=
  @List.rec Op (fun _ => OrcK → Env → H → (Ex → Env → H → Bool) → Bool) (fun _ e σ K => K .normal e σ) (fun o _ ih O e σ K => kOp o O e σ (fun e σ => ih O e σ K) K)
def kQ1 : Op → List Read → Env → H → (List Read → Env → Bool) → Bool :=
  @Op.rec (fun _ => List Read → Env → H → (List Read → Env → Bool) → Bool) (fun dst p args g rs e σ N =>
    gG g e (gOs args e fun vs => @Bool.rec (fun _ => Bool) false (mK p vs σ fun v _ => @Bool.rec (fun _ => Bool) (pE dst e v fun e => N rs e) (pE dst e v fun e => N (⟨dst.getD 0, p, vs, v⟩ :: rs) e) (rdR p)) (quR p)) (pE dst e (.tuple #[]) fun e => N rs e))
def kQ : List Op → List Read → Env → H → (List Read → Env → Bool) → Bool :=
  @List.rec Op (fun _ => List Read → Env → H → (List Read → Env → Bool) → Bool) (fun rs e _ K => K rs e) (fun o _ ih rs e σ K => kQ1 o rs e σ fun rs e => ih rs e σ K)
/-- How an effect ends, in a drawn region. -/
def kEnd (e0 : Env) (dsts : List Nat) (N : Env → H → Bool) (K : Ex → Env → H → Bool) (x : Ex) (e : Env) (σ : H) : Bool :=
  @Ex.rec (fun _ => Bool) (N e σ) (fun _ => false) false (fun v => K (.panic v) (dropD dsts e0) σ) x
def kSegs : List Seg → OrcK → Env → List Nat → List Read → Env → H → (Ex → Env → H → Bool) → Bool :=
  @List.rec Seg (fun _ => OrcK → Env → List Nat → List Read → Env → H → (Ex → Env → H → Bool) → Bool) (fun _ _ _ _ e σ K => K .normal e σ) (fun s _ ih O e0 dsts rs e σ K =>
    kQ s.q rs e σ fun rs e => match s.e with
      | none => ih O e0 dsts rs e σ K
      | some o => match mobOk e σ rs s.mob with
        | false => false
        | true => kOps [o] O e σ (kEnd e0 dsts (fun e' σ' => match still σ' (keepR s.chk rs) with
            | true => ih O e0 dsts (keepR s.chk rs) e' σ' K
            | false => false) K))
def kSeq (N : Env → H → (Ex → Env → H → Bool) → Bool) (K : Ex → Env → H → Bool) (x : Ex) (e : Env) (σ : H) : Bool :=
  @Ex.rec (fun _ => Bool) (N e σ K) (fun i => K (.exit i) e σ) (K .ret e σ) (fun v => K (.panic v) e σ) x
def kBlk (id : Nat) (K : Ex → Env → H → Bool) (x : Ex) (e : Env) (σ : H) : Bool :=
  @Ex.rec (fun _ => Bool) (K .normal e σ) (fun i => @Bool.rec (fun _ => Bool) (K (.exit i) e σ) (K .normal e σ) (Nat.beq i id)) (K .ret e σ) (fun v => K (.panic v) e σ) x
def kDen : Code → OrcK → Env → H → (Ex → Env → H → Bool) → Bool :=
  @Code.rec (fun _ => OrcK → Env → H → (Ex → Env → H → Bool) → Bool)
    (fun _ e σ K => K .normal e σ)
    (fun ops O e σ K => kOps ops O e σ K)
    (fun segs dsts O e σ K => kSegs segs O e dsts [] e σ K)
    (fun ks _ e σ K => kSub ks e fun e => K .normal e σ)
    (fun _ _ ia ib O e σ K => ia O e σ (kSeq (ib O) K))
    (fun c _ _ ia ib O e σ K => gO c e fun v => vB v fun t => @Bool.rec (fun _ => Bool) (ib O e σ K) (ia O e σ K) t)
    (fun id _ ib O e σ K => ib O e σ (kBlk id K))
    (fun ks b _ O e σ K => kSub ks e fun e => O.loop ks b e σ K)
    (fun id _ e σ K => K (.exit id) e σ)
    (fun _ e σ K => K .ret e σ)
def kResults (e : Env) (σ : H) (rs : List RVar) (K : Res → H → Bool) : Bool :=
  match results e σ rs with
  | some (r, σ) => fR r fun r => K r σ
  | none => false
def kDeferred (O : OrcK) (f : Value) (p : Option Value) (σ : H) (K : Bool → H → Bool) : Bool :=
  match f with
  | .func (.func k) _ ⟨cap⟩ => match ftab.get k with
    | some ⟨b, [], some r⟩ => match Nat.ble cap.length 1000 with
      | false => false
      | true => fE ((r, p.getD .nilIface) :: params 0 cap) fun e => kDen b O e σ fun x e' σ' => match e'.get 1000000 with
          | some _ => false
          | none => match x with
            | .normal | .ret => K p.isSome σ'
            | _ => false
    | _ => false
  | _ => false
/-- A function's end. -/
def kEndF (O : OrcK) (rs : List RVar) (K : Res → H → Bool) (x : Ex) (e : Env) (σ : H) : Bool :=
  gD e 1000000 (fun d => match x with
    | .normal | .ret => kDeferred O d none σ fun _ σ2 => kResults e σ2 rs K
    | .panic v => kDeferred O d (some v) σ fun t σ2 => match t with
      | true => kResults e σ2 rs K
      | false => false
    | .exit _ => false)
   (match x with
    | .normal | .ret => kResults e σ rs K
    | .panic v => K (.panic v) σ
    | .exit _ => false)
def kCallF (O : OrcK) (k : Nat) (args : List Value) (σ : H) (K : Res → H → Bool) : Bool :=
  tG ftab k (fun fn => @Func.rec (fun _ => Bool) (fun body rs rcv => @Option.rec Nat (fun _ => Bool) (@Bool.rec (fun _ => Bool) false (fE (params 0 args) fun e => kDen body O e σ (kEndF O rs K)) (Nat.ble args.length 1000)) (fun _ => false) rcv) fn) false
/-- Functions that are answered by their contracts. -/
abbrev Ov := Nat → Option (List Value → H → (Res → H → Bool) → Bool)
abbrev OwnT := Nat → Option (List Value → H → Option (Res × H))
def kAnswer (W : OwnT) (V : Ov) (O : OrcK) (k : Nat) (args : List Value) (σ : H) (K : Res → H → Bool) : Bool :=
  match V k with
  | some f => f args σ K
  | none => @Bool.rec (fun _ => Bool) (kCallF O k args σ K) (match W k with
    | some f => (match f args σ with
      | some (r, σ') => fR r fun r => fH (wblk args) σ.next σ' fun σ' => K r σ'
      | none => false)
    | none => kCallF O k args σ K) (isOwn k)
def kAgain (O : OrcK) (ks : List Nat) (b : Code) (e : Env) (σ : H) (K : Ex → Env → H → Bool) : Bool :=
  kDen b O e σ fun x e' σ' => @Ex.rec (fun _ => Bool) (kSub ks e' fun e' => O.loop ks b e' σ' K) (fun i => K (.exit i) e' σ') (K .ret e' σ') (fun v => K (.panic v) e' σ') x
def orcK (W : OwnT) (V : Ov) (n : Nat) : OrcK :=
  @Nat.rec (fun _ => OrcK) ⟨fun _ _ _ _ => false, fun _ _ _ _ _ => false⟩ (fun _ O => ⟨kAnswer W V O, kAgain O⟩) n
end
end AM
end Go.Proofs.YtlelihddjacplaaGreat
namespace Go.Proofs.YtlelihddjacplaaGreat
namespace AM
variable [Aw]

structure OK (O : OrcK) : Prop where
  call : ∀ {k a σ K}, O.call k a σ K = true → Ru k a σ fun r σ' => K r σ' = true
  loop : ∀ {ks b e σ K}, O.loop ks b e σ K = true → ∃ n x e' σ', (orc prog n).loop ks b e σ = some (x, e', σ') ∧ K x e' σ' = true

omit [Aw] in
theorem pK_other {p : Prim} (h : p.kind = .other) : pK p = oth (mK p) := by
  cases p <;> first | rfl | cases h
section
variable {O : OrcK} (ok : OK O)
include ok
theorem pK_of {p : Prim} {dst : Option Nat} {args : List Opd} {g : Option (Nat × Bool)} {os : List Op} {vs : List Value} {e : Env} {σ : H} {N : Env → H → Bool} {K : Ex → Env → H → Bool} {Q : QC}
    (hw : wantedV e g = some true) (hv : e.evs args = some vs) (h : pK p O vs dst e σ N K = true)
    (hN : ∀ e σ, N e σ = true → WpO os e σ Q) (hK : ∀ x e σ, K x e σ = true → Q x e σ) : WpO (⟨dst, p, args, g⟩ :: os) e σ Q := by
  have put : ∀ {r σ'}, kPut dst e N K r σ' = true → (cnt2 (fun v σ1 => WpO os (e.put dst v) σ1 Q) (fun v σ1 => Q (.panic v) e σ1) : Res → H → Prop) r σ' := by
    intro r σ' h
    cases r with
    | ok v =>
      replace h : (pE dst e v fun e => N e σ') = true := h
      rw [pE_eq] at h
      exact hN _ _ h
    | panic v => exact hK _ _ _ h
  cases hk : p.kind with
  | other =>
    rw [pK_other hk] at h
    obtain ⟨v, σ', h1, h2⟩ := mK_ms p h
    rw [pE_eq] at h2
    exact wpO_prim (q := ⟨dst, p, args, g⟩) hw hv hk h1 (hN _ _ h2)
  | call =>
    have hp : p = .call := by cases p <;> first | rfl | cases hk
    subst hp
    replace h : oCall O vs dst e σ N K = true := h
    unfold oCall at h
    split at h
    · split at h
      · rename_i f as f' as' hc
        simp only [fN_eq, fS_eq] at h
        exact wpO_call (q := ⟨dst, .call, args, g⟩) hw hv rfl hc ((ok.call h).mono fun r σ' h => put h)
      · cases h
    · cases h
  | invoke name =>
    have hp : p = .invoke name := by cases p <;> first | (cases hk; rfl) | cases hk
    subst hp
    replace h : oInvoke name O vs dst e σ N K = true := h
    unfold oInvoke at h
    split at h
    · split at h
      · cases h
      · rename_i t v as _ f how hm
        split at h
        · cases h
        · rename_i x hr
          rw [fV_eq] at h
          exact wpO_invoke (q := ⟨dst, .invoke name, args, g⟩) hw hv rfl hm hr ((ok.call h).mono fun r σ' h => put h)
    · cases h
  | panic =>
    have hp : p = .panic := by cases p <;> first | rfl | cases hk
    subst hp
    replace h : oPanic O vs dst e σ N K = true := h
    unfold oPanic at h
    split at h
    · exact wpO_panic (q := ⟨dst, .panic, args, g⟩) hw hv rfl (hK _ _ _ h)
    · cases h
  | «defer» =>
    have hp : p = .defer := by cases p <;> first | rfl | cases hk
    subst hp
    replace h : oDefer O vs dst e σ N K = true := h
    unfold oDefer at h
    split at h
    · rename_i e' hd
      rw [pE_eq] at h
      obtain ⟨n, x, e2, σ2, h1, h2⟩ := hN _ _ h
      exact ⟨n, x, e2, σ2, by simp only [runOps, hw, hv, Prim.kind, hd]; exact h1, h2⟩
    · cases h
theorem kOp_of {o : Op} {os : List Op} {e : Env} {σ : H} {N : Env → H → Bool} {K : Ex → Env → H → Bool} {Q : QC} (h : kOp o O e σ N K = true)
    (hN : ∀ e σ, N e σ = true → WpO os e σ Q) (hK : ∀ x e σ, K x e σ = true → Q x e σ) : WpO (o :: os) e σ Q := by
  obtain ⟨dst, p, args, g⟩ := o
  rcases gG_of h with ⟨hw, h1⟩ | ⟨hw, h1⟩
  · obtain ⟨vs, hv, h2⟩ := gOs_of h1
    exact pK_of ok hw hv h2 hN hK
  · rw [pE_eq] at h1
    exact wpO_skip (q := ⟨dst, p, args, g⟩) hw (hN _ _ h1)
theorem kOps_of : ∀ {os : List Op} {e : Env} {σ : H} {K : Ex → Env → H → Bool}, kOps os O e σ K = true → WpO os e σ fun x e σ => K x e σ = true
  | [], _, _, _, h => wpO_nil h
  | o :: os, e, σ, K, h => kOp_of ok (N := fun e σ => kOps os O e σ K) (K := K) h (fun e σ h => kOps_of h) (fun x e σ h => h)
omit ok in
omit [Aw] in
theorem kQ1_of {o : Op} {os : List Op} {rs : List Read} {e : Env} {σ : H} {N : List Read → Env → Bool} {y : List Read × Env → Prop} (h : kQ1 o rs e σ N = true)
    (hN : ∀ rs e, N rs e = true → ∃ z, runQ rs os e σ = some z ∧ y z) : ∃ z, runQ rs (o :: os) e σ = some z ∧ y z := by
  obtain ⟨dst, p, args, g⟩ := o
  rcases gG_of h with ⟨hw, h1⟩ | ⟨hw, h1⟩
  · obtain ⟨vs, hv, h2⟩ := gOs_of h1
    cases hq : quR p with
    | false => rw [hq] at h2; cases h2
    | true =>
      rw [hq] at h2
      obtain ⟨v, σ', h3, h4⟩ := mK_ms p h2
      rw [quR_eq] at hq
      cases hr : rdR p with
      | false =>
        rw [hr] at h4
        replace h4 : (pE dst e v fun e => N rs e) = true := h4
        rw [pE_eq] at h4
        rw [rdR_eq] at hr
        obtain ⟨z, h5, h6⟩ := hN _ _ h4
        exact ⟨z, by simp only [runQ, hw, hv, hq, h3, hr]; exact h5, h6⟩
      | true =>
        rw [hr] at h4
        replace h4 : (pE dst e v fun e => N (⟨dst.getD 0, p, vs, v⟩ :: rs) e) = true := h4
        rw [pE_eq] at h4
        rw [rdR_eq] at hr
        obtain ⟨z, h5, h6⟩ := hN _ _ h4
        exact ⟨z, by simp only [runQ, hw, hv, hq, h3, hr]; exact h5, h6⟩
  · rw [pE_eq] at h1
    obtain ⟨z, h5, h6⟩ := hN _ _ h1
    exact ⟨z, by simp only [runQ, hw]; exact h5, h6⟩
omit ok in
omit [Aw] in
theorem kQ_of : ∀ {os : List Op} {rs : List Read} {e : Env} {σ : H} {K : List Read → Env → Bool}, kQ os rs e σ K = true → ∃ z : List Read × Env, runQ rs os e σ = some z ∧ K z.1 z.2 = true
  | [], rs, e, _, _, h => ⟨(rs, e), rfl, h⟩
  | o :: os, rs, e, σ, K, h => kQ1_of (N := fun rs e => kQ os rs e σ K) (y := fun z => K z.1 z.2 = true) h fun rs e h => kQ_of h
theorem kSegs_of {ds : List Nat} {e0 : Env} {K : Ex → Env → H → Bool} : ∀ {ss : List Seg} {rs : List Read} {e : Env} {σ : H}, kSegs ss O e0 ds rs e σ K = true → WpS e0 ds ss rs e σ fun x e σ => K x e σ = true
  | [], rs, e, σ, h => ⟨0, _, _, _, rfl, h⟩
  | s :: ss, rs, e, σ, h => by
    obtain ⟨⟨rs1, e1⟩, hq, h1⟩ := kQ_of (os := s.q) (K := fun rs e => match s.e with
      | none => kSegs ss O e0 ds rs e σ K
      | some o => match mobOk e σ rs s.mob with
        | false => false
        | true => kOps [o] O e σ (kEnd e0 ds (fun e' σ' => match still σ' (keepR s.chk rs) with
            | true => kSegs ss O e0 ds (keepR s.chk rs) e' σ' K
            | false => false) K)) h
    simp only at h1
    cases he : s.e with
    | none =>
      rw [he] at h1
      obtain ⟨n, x, e', σ', h2, h3⟩ := kSegs_of h1
      exact ⟨n, x, e', σ', by simp only [runSegs, hq, he]; exact h2, h3⟩
    | some o =>
      rw [he] at h1
      simp only at h1
      cases hm : mobOk e1 σ rs1 s.mob with
      | false => rw [hm] at h1; cases h1
      | true =>
        rw [hm] at h1
        obtain ⟨n, x, e2, σ2, h2, h3⟩ := kOps_of ok h1
        cases x with
        | exit i => cases h3
        | ret => cases h3
        | panic v => exact ⟨n, _, _, _, by simp only [runSegs, hq, he, hm, h2], h3⟩
        | normal =>
          replace h3 : (match still σ2 (keepR s.chk rs1) with
            | true => kSegs ss O e0 ds (keepR s.chk rs1) e2 σ2 K
            | false => false) = true := h3
          cases hst : still σ2 (keepR s.chk rs1) with
          | false => rw [hst] at h3; cases h3
          | true =>
            rw [hst] at h3
            obtain ⟨m, x, e3, σ3, h4, h5⟩ := kSegs_of h3
            refine ⟨max n m, x, e3, σ3, ?_, h5⟩
            simp only [runSegs, hq, he, hm, runOps_mono (orc_mono prog (Nat.le_max_left n m)) h2, hst]
            exact runSegs_mono (orc_mono prog (Nat.le_max_right n m)) h4
theorem kDen_of : ∀ {c : Code} {e : Env} {σ : H} {K : Ex → Env → H → Bool}, kDen c O e σ K = true → Wp c e σ fun x e σ => K x e σ = true
  | .skip, e, σ, K, h => wp_skip h
  | .reg ops, e, σ, K, h => wp_reg (kOps_of ok h)
  | .draw ss ds, e, σ, K, h => wp_draw (kSegs_of ok h)
  | .keep ks, e, σ, K, h => by
    replace h : (kSub ks e fun e => K .normal e σ) = true := h
    rw [kSub_eq] at h
    exact wp_keep h
  | .seq a b, e, σ, K, h => by
    refine wp_seq ((kDen_of (c := a) (K := kSeq (kDen b O) K) h).mono fun x e σ h => ?_)
    cases x with
    | normal => exact kDen_of (c := b) h
    | exit i => exact h
    | ret => exact h
    | panic v => exact h
  | .cond c a b, e, σ, K, h => by
    obtain ⟨v, hv, h1⟩ := gO_of (o := c) h
    obtain ⟨t, ht, h2⟩ := vB_of h1
    subst ht
    refine wp_cond hv ?_
    cases t with
    | true => exact kDen_of (c := a) h2
    | false => exact kDen_of (c := b) h2
  | .block id b, e, σ, K, h => by
    refine wp_block ((kDen_of (c := b) (K := kBlk id K) h).mono fun x e σ h => ?_)
    cases x with
    | normal => exact h
    | exit i =>
      replace h : @Bool.rec (fun _ => Bool) (K (.exit i) e σ) (K .normal e σ) (Nat.beq i id) = true := h
      simp only [AM.blk]
      by_cases hi : i = id
      · rw [nbeq, decide_eq_true hi] at h; rw [if_pos hi]; exact h
      · rw [nbeq, decide_eq_false hi] at h; rw [if_neg hi]; exact h
    | ret => exact h
    | panic v => exact h
  | .loop ks b, e, σ, K, h => by
    replace h : (kSub ks e fun e => O.loop ks b e σ K) = true := h
    rw [kSub_eq] at h
    obtain ⟨n, x, e', σ', h1, h2⟩ := ok.loop h
    exact ⟨n, x, e', σ', h1, h2⟩
  | .exit i, e, σ, K, h => wp_exit h
  | .ret, e, σ, K, h => wp_ret h
omit ok in
omit [Aw] in
theorem kResults_of {e : Env} {σ : H} {rs : List RVar} {K : Res → H → Bool} (h : kResults e σ rs K = true) : ∃ r σ', results e σ rs = some (r, σ') ∧ K r σ' = true := by
  unfold kResults at h
  split at h
  · rename_i r σ' hr
    rw [fR_eq] at h
    exact ⟨r, σ', hr, h⟩
  · cases h
theorem kDeferred_of {f : Value} {p : Option Value} {σ : H} {K : Bool → H → Bool} (h : kDeferred O f p σ K = true) : ∃ n b σ', deferred (orc prog n) prog.fs f p σ = some (b, σ') ∧ K b σ' = true := by
  unfold kDeferred at h
  split at h
  · split at h
    · rename_i hf
      have hf2 : prog.fs _ = some _ := hf
      split at h
      · cases h
      · rename_i hl
        rw [fE_eq] at h
        obtain ⟨n, x, e', σ', h1, h2⟩ := kDen_of ok h
        split at h2
        · cases h2
        · rename_i hg
          split at h2
          · exact ⟨n, _, σ', by simp only [deferred, hf2, hl, h1, hg], h2⟩
          · exact ⟨n, _, σ', by simp only [deferred, hf2, hl, h1, hg], h2⟩
          · cases h2
    · cases h
  · cases h
theorem kCallF_of {k : Nat} {args : List Value} {σ : H} {K : Res → H → Bool} (h : kCallF O k args σ K = true) : ∃ n r σ', callF (orc prog n) prog.fs k args σ = some (r, σ') ∧ K r σ' = true := by
  unfold kCallF at h
  rw [tG_eq] at h
  cases hf : ftab.get k with
  | none => rw [hf] at h; cases h
  | some fn =>
    rw [hf] at h
    obtain ⟨body, rs, rcv⟩ := fn
    cases rcv with
    | some r => cases h
    | none =>
      cases hl : Nat.ble args.length 1000 with
      | false =>
        replace h : @Bool.rec (fun _ => Bool) false (fE (params 0 args) fun e => kDen body O e σ (kEndF O rs K)) (Nat.ble args.length 1000) = true := h
        rw [hl] at h; cases h
      | true =>
        replace h : @Bool.rec (fun _ => Bool) false (fE (params 0 args) fun e => kDen body O e σ (kEndF O rs K)) (Nat.ble args.length 1000) = true := h
        rw [hl] at h
        replace h : (fE (params 0 args) fun e => kDen body O e σ (kEndF O rs K)) = true := h
        rw [fE_eq] at h
        have hf' : prog.fs k = some ⟨body, rs, none⟩ := hf
        obtain ⟨n, x, e', σ', h1, h2⟩ := kDen_of ok h
        unfold kEndF at h2
        rw [gD_eq] at h2
        cases hg : e'.get 1000000 with
        | none =>
          rw [hg] at h2
          cases x with
          | normal =>
            obtain ⟨r, σ2, h3, h4⟩ := kResults_of h2
            exact ⟨n, r, σ2, by simp only [callF, hf', hl, h1, hg, h3], h4⟩
          | ret =>
            obtain ⟨r, σ2, h3, h4⟩ := kResults_of h2
            exact ⟨n, r, σ2, by simp only [callF, hf', hl, h1, hg, h3], h4⟩
          | panic v => exact ⟨n, _, σ', by simp only [callF, hf', hl, h1, hg], h2⟩
          | exit i => cases h2
        | some d =>
          rw [hg] at h2
          have two : ∀ {m p b σ2}, deferred (orc prog m) prog.fs d p σ' = some (b, σ2) → deferred (orc prog (max n m)) prog.fs d p σ' = some (b, σ2) ∧ denote (orc prog (max n m)) body (params 0 args) σ = some (x, e', σ') :=
            fun h => ⟨deferred_mono (orc_mono prog (Nat.le_max_right n _)) h, denote_mono (orc_mono prog (Nat.le_max_left n _)) h1⟩
          cases x with
          | normal =>
            obtain ⟨m, b, σ2, h3, h4⟩ := kDeferred_of ok h2
            obtain ⟨r, σ3, h5, h6⟩ := kResults_of h4
            obtain ⟨h7, h8⟩ := two h3
            exact ⟨max n m, r, σ3, by simp only [callF, hf', hl, h8, hg, h7, h5], h6⟩
          | ret =>
            obtain ⟨m, b, σ2, h3, h4⟩ := kDeferred_of ok h2
            obtain ⟨r, σ3, h5, h6⟩ := kResults_of h4
            obtain ⟨h7, h8⟩ := two h3
            exact ⟨max n m, r, σ3, by simp only [callF, hf', hl, h8, hg, h7, h5], h6⟩
          | panic v =>
            obtain ⟨m, b, σ2, h3, h4⟩ := kDeferred_of ok h2
            cases b with
            | false => cases h4
            | true =>
              obtain ⟨r, σ3, h5, h6⟩ := kResults_of h4
              obtain ⟨h7, h8⟩ := two h3
              exact ⟨max n m, r, σ3, by simp only [callF, hf', hl, h8, hg, h7, h5], h6⟩
          | exit i => cases h2
end
/-- Contracts that may stand in a run. -/
def OvOK (V : Ov) : Prop := ∀ {k f}, V k = some f → ∀ {args σ K}, f args σ K = true → Ru k args σ fun r σ' => K r σ' = true
theorem orcK_ok {W : OwnT} {V : Ov} (hW : ∀ k, Aw.own k = W k) (hV : OvOK V) : ∀ n, OK (orcK W V n)
  | 0 => ⟨fun h => (by cases h), fun h => (by cases h)⟩
  | n + 1 => by
    have ih := orcK_ok hW hV n
    refine ⟨fun {k a σ K} h => ?_, fun {ks b e σ K} h => ?_⟩
    · replace h : kAnswer W V (orcK W V n) k a σ K = true := h
      unfold kAnswer at h
      have walk : prog.own k = none → kCallF (orcK W V n) k a σ K = true → Ru k a σ fun r σ' => K r σ' = true := by
        intro ho' h
        obtain ⟨m, r, σ', h1, h2⟩ := kCallF_of ih h
        exact ⟨m + 1, r, σ', by simp only [orc, answer, ho', h1], h2⟩
      cases hv : V k with
      | some f => rw [hv] at h; exact hV hv h
      | none =>
        rw [hv] at h
        simp only at h
        cases ha : isOwn k with
        | false =>
          rw [ha] at h
          exact walk (by simp only [prog, ha]) h
        | true =>
          rw [ha] at h
          simp only at h
          cases ho : W k with
          | some f =>
            rw [ho] at h
            simp only at h
            have ho' : prog.own k = some f := by simp only [prog, ha]; rw [hW]; exact ho
            split at h
            · rename_i r σ' hf
              rw [fR_eq, fH_eq] at h
              exact ⟨1, r, σ', by simp only [orc, answer, ho', hf], h⟩
            · cases h
          | none =>
            rw [ho] at h
            exact walk (by simp only [prog, ha]; rw [hW]; exact ho) h
    · replace h : kAgain (orcK W V n) ks b e σ K = true := h
      unfold kAgain at h
      obtain ⟨m, x, e', σ', h1, h2⟩ := kDen_of ih h
      cases x with
      | normal =>
        replace h2 : (kSub ks e' fun e' => (orcK W V n).loop ks b e' σ' K) = true := h2
        rw [kSub_eq] at h2
        obtain ⟨m2, x, e2, σ2, h3, h4⟩ := ih.loop h2
        refine ⟨max m m2 + 1, x, e2, σ2, ?_, h4⟩
        rw [orc]
        simp only [again, denote_mono (orc_mono prog (Nat.le_max_left m m2)) h1]
        exact (orc_mono prog (Nat.le_max_right m m2)).loop h3
      | exit i => exact ⟨m + 1, _, _, _, by rw [orc]; simp only [again, h1], h2⟩
      | ret => exact ⟨m + 1, _, _, _, by rw [orc]; simp only [again, h1], h2⟩
      | panic v => exact ⟨m + 1, _, _, _, by rw [orc]; simp only [again, h1], h2⟩
/-- A run that the kernel has followed. -/
theorem run_of {W : OwnT} {V : Ov} (hW : ∀ k, Aw.own k = W k) (hV : OvOK V) {n k : Nat} {args : List Value} {σ : H} {K : Res → H → Bool} (h : (orcK W V n).call k args σ K = true) : Ru k args σ fun r σ' => K r σ' = true := (orcK_ok hW hV n).call h
end AM
end Go.Proofs.YtlelihddjacplaaGreat
namespace Go.Proofs.YtlelihddjacplaaGreat
namespace AM
variable [Aw]

/-- What is there, and what comes behind. -/
def WpV {α : Type} (o : Option α) (K : α → Prop) (z : Fz K := ⟨⟩) : Prop := ∃ x, o = some x ∧ K x
omit [Aw] in
@[simp] theorem WpV.some {α : Type} (x : α) (K : α → Prop) (z : Fz K) : WpV (.some x) K z = K x := by
  apply propext; unfold WpV; simp
omit [Aw] in
theorem WpV.intro {α : Type} {o : Option α} {K : α → Prop} {x : α} (h : o = .some x) (hk : K x) : WpV o K := ⟨x, h, hk⟩

/-- An operation that is no deferral. -/
def WpP (p : Prim) (vs : List Value) (σ : H) (K E : Value → H → Prop) (z : Fz K := ⟨⟩) (z2 : Fz E := ⟨⟩) : Prop :=
  match p.kind with
  | .other => WpV (prim p vs σ) fun x => K x.1 x.2
  | .call => match vs with
    | f :: as => WpV (callee f as) fun x => Ru x.1 x.2 σ (cnt2 K E)
    | [] => False
  | .invoke name => match vs with
    | .iface t v :: as => WpV (mtab t name) fun x => WpV (recv σ v x.2) fun y => Ru x.1 (y :: as) σ (cnt2 K E)
    | _ => False
  | .panic => match vs with
    | [.iface t v] => E (.iface t v) σ
    | _ => False
  | .defer => False
omit [Aw] in
@[simp] theorem thn_normal (K : Env → H → Prop) (Q : QC) (e : Env) (σ : H) (z : Fz K) (z2 : Fz Q) : thn K Q z z2 .normal e σ = K e σ := by exact (Eq.refl _).trans rfl
omit [Aw] in
@[simp] theorem thn_exit (K : Env → H → Prop) (Q : QC) (i : Nat) (e : Env) (σ : H) (z : Fz K) (z2 : Fz Q) : thn K Q z z2 (.exit i) e σ = Q (.exit i) e σ := by exact (Eq.refl _).trans rfl
omit [Aw] in
@[simp] theorem thn_ret (K : Env → H → Prop) (Q : QC) (e : Env) (σ : H) (z : Fz K) (z2 : Fz Q) : thn K Q z z2 .ret e σ = Q .ret e σ := by exact (Eq.refl _).trans rfl
omit [Aw] in
@[simp] theorem thn_panic (K : Env → H → Prop) (Q : QC) (v : Value) (e : Env) (σ : H) (z : Fz K) (z2 : Fz Q) : thn K Q z z2 (.panic v) e σ = Q (.panic v) e σ := by exact (Eq.refl _).trans rfl
omit [Aw] in
@[simp] theorem blk_normal (id : Nat) (Q : QC) (e : Env) (σ : H) (z : Fz Q) : blk id Q z .normal e σ = Q .normal e σ := by exact (Eq.refl _).trans rfl
omit [Aw] in
@[simp] theorem blk_ret (id : Nat) (Q : QC) (e : Env) (σ : H) (z : Fz Q) : blk id Q z .ret e σ = Q .ret e σ := by exact (Eq.refl _).trans rfl
omit [Aw] in
@[simp] theorem blk_panic (id : Nat) (Q : QC) (v : Value) (e : Env) (σ : H) (z : Fz Q) : blk id Q z (.panic v) e σ = Q (.panic v) e σ := by exact (Eq.refl _).trans rfl
omit [Aw] in
@[simp] theorem blk_hit (id : Nat) (Q : QC) (e : Env) (σ : H) (z : Fz Q) : blk id Q z (.exit id) e σ = Q .normal e σ := by simp [blk]
omit [Aw] in
theorem blk_miss {id i : Nat} (h : i ≠ id) (Q : QC) (e : Env) (σ : H) (z : Fz Q) : blk id Q z (.exit i) e σ = Q (.exit i) e σ := by simp [blk, h]
omit [Aw] in
@[simp] theorem cnt2_ok (K E : Value → H → Prop) (v : Value) (σ : H) (z : Fz K) (z2 : Fz E) : cnt2 K E z z2 (.ok v) σ = K v σ := by exact (Eq.refl _).trans rfl
omit [Aw] in
@[simp] theorem cnt2_panic (K E : Value → H → Prop) (v : Value) (σ : H) (z : Fz K) (z2 : Fz E) : cnt2 K E z z2 (.panic v) σ = E v σ := by exact (Eq.refl _).trans rfl

/-- Operations one behind another. -/
def WpR : (os : List Op) → (e : Env) → (σ : H) → (Q : QC) → (z : Fz Q := ⟨⟩) → Prop
  | [], e, σ, Q, _ => Q .normal e σ
  | o :: os, e, σ, Q, _ => WpV (wantedV e o.guard) fun b => match b with
    | false => WpR os (e.put o.dst (.tuple #[])) σ Q
    | true => WpV (e.evs o.args) fun vs => WpP o.p vs σ (fun v σ' => WpR os (e.put o.dst v) σ' Q) (fun v σ' => Q (.panic v) e σ')
@[simp] theorem WpR.nil (e : Env) (σ : H) (Q : QC) (z : Fz Q) : WpR [] e σ Q z = Q .normal e σ := by exact (Eq.refl _).trans rfl
@[simp] theorem WpR.oM (d s : Nat) (os : List Op) (e : Env) (σ : H) (Q : QC) (z : Fz Q) : WpR (AM.oM d s :: os) e σ Q z = WpV (e.get s) fun v => WpR os ((d, v) :: e) σ Q := by
  apply propext
  simp only [WpR, AM.oM, wantedV, WpV, Env.evs, Env.ev, WpP, Prim.kind, prim, pMove, Env.put]
  constructor
  · rintro ⟨b, hb, h⟩
    cases hb
    obtain ⟨vs, hvs, x, hx, hK⟩ := h
    cases hg : e.get s with
    | none => rw [hg] at hvs; cases hvs
    | some v =>
      rw [hg] at hvs
      cases hvs
      cases hx
      exact ⟨v, rfl, hK⟩
  · rintro ⟨v, hv, h⟩
    refine ⟨true, rfl, [v], by rw [hv], (v, σ), rfl, h⟩
@[simp] theorem WpR.oA (d : Nat) (p : Prim) (as : List Opd) (os : List Op) (e : Env) (σ : H) (Q : QC) (z : Fz Q) : WpR (AM.oA d p as :: os) e σ Q z = WpV (e.evs as) fun vs => WpP p vs σ (fun v σ' => WpR os ((d, v) :: e) σ' Q) (fun v σ' => Q (.panic v) e σ') := by
  simp only [WpR, AM.oA, wantedV, WpV.some, Env.put]
@[simp] theorem WpR.oN (p : Prim) (as : List Opd) (os : List Op) (e : Env) (σ : H) (Q : QC) (z : Fz Q) : WpR (AM.oN p as :: os) e σ Q z = WpV (e.evs as) fun vs => WpP p vs σ (fun v σ' => WpR os e σ' Q) (fun v σ' => Q (.panic v) e σ') := by
  simp only [WpR, AM.oN, wantedV, WpV.some, Env.put]
/-- A guarded operation. -/
def WpG (v : Value) (b : Bool) (A B : Prop) (z : Fz A := ⟨⟩) (z2 : Fz B := ⟨⟩) : Prop :=
  match v with
  | .bool x => (x = b → A) ∧ (x ≠ b → B)
  | _ => B
omit [Aw] in
@[simp] theorem WpG.tt (A B : Prop) (z : Fz A) (z2 : Fz B) : WpG (.bool true) true A B z z2 = A := by simp [WpG]
omit [Aw] in
@[simp] theorem WpG.ff (A B : Prop) (z : Fz A) (z2 : Fz B) : WpG (.bool false) false A B z z2 = A := by simp [WpG]
omit [Aw] in
@[simp] theorem WpG.tf (A B : Prop) (z : Fz A) (z2 : Fz B) : WpG (.bool true) false A B z z2 = B := by simp [WpG]
omit [Aw] in
@[simp] theorem WpG.ft (A B : Prop) (z : Fz A) (z2 : Fz B) : WpG (.bool false) true A B z z2 = B := by simp [WpG]
omit [Aw] in
@[simp] theorem WpG.tup (a : Array Value) (b : Bool) (A B : Prop) (z : Fz A) (z2 : Fz B) : WpG (.tuple a) b A B z z2 = B := by exact (Eq.refl _).trans rfl
theorem WpR.oG (d : Option Nat) (p : Prim) (as : List Opd) (j : Nat) (b : Bool) (os : List Op) (e : Env) (σ : H) (Q : QC)
    (h : WpV (e.get j) fun v => WpG v b (WpV (e.evs as) fun vs => WpP p vs σ (fun v σ' => WpR os (e.put d v) σ' Q) (fun v σ' => Q (.panic v) e σ')) (WpR os (e.put d (.tuple #[])) σ Q)) : WpR (AM.oG d p as j b :: os) e σ Q := by
  obtain ⟨v, hv, h⟩ := h
  simp only [WpR, AM.oG, wantedV, hv]
  cases v <;> simp only [WpG] at h <;> try (rw [WpV.some]; exact h)
  rename_i x
  rw [WpV.some]
  by_cases hx : x = b
  · have : (x == b) = true := by simp [hx]
    rw [this]; exact h.1 hx
  · have : (x == b) = false := by simp [hx]
    rw [this]; exact h.2 hx
@[simp] theorem WpR.oG_iff (d : Option Nat) (p : Prim) (as : List Opd) (j : Nat) (b : Bool) (os : List Op) (e : Env) (σ : H) (Q : QC) (z : Fz Q) :
    WpR (AM.oG d p as j b :: os) e σ Q z = WpV (e.get j) fun v => WpG v b (WpV (e.evs as) fun vs => WpP p vs σ (fun v σ' => WpR os (e.put d v) σ' Q) (fun v σ' => Q (.panic v) e σ')) (WpR os (e.put d (.tuple #[])) σ Q) := by
  apply propext
  refine ⟨fun h => ?_, WpR.oG d p as j b os e σ Q⟩
  simp only [WpR, AM.oG, wantedV] at h
  obtain ⟨x, hx, h⟩ := h
  cases hv : e.get j with
  | none => rw [hv] at hx; cases hx
  | some v =>
    rw [hv] at hx
    rw [WpV.some]
    cases v <;> simp only [Option.some.injEq] at hx <;> subst hx <;> simp only [WpG]
    case bool y =>
      refine ⟨fun hy => ?_, fun hy => ?_⟩
      · have : (y == b) = true := by simp [hy]
        rw [this] at h; exact h
      · have : (y == b) = false := by simp [hy]
        rw [this] at h; exact h
    all_goals exact h

theorem wpP_sound {q : Op} {os : List Op} {e : Env} {σ : H} {Q : QC} {vs : List Value} (hw : wantedV e q.guard = some true) (hv : e.evs q.args = some vs) (h : WpP q.p vs σ (fun v σ' => WpO os (e.put q.dst v) σ' Q) (fun v σ' => Q (.panic v) e σ')) : WpO (q :: os) e σ Q := by
  unfold WpP at h
  split at h
  · rename_i hk
    obtain ⟨⟨v, σ1⟩, hp, h⟩ := h
    exact wpO_prim hw hv hk hp h
  · rename_i hk
    have hp : q.p = .call := by cases hq : q.p <;> rw [hq] at hk <;> simp [Prim.kind] at hk ⊢
    split at h
    · obtain ⟨⟨f, as2⟩, hc, h⟩ := h
      exact wpO_call hw hv hp hc h
    · exact h.elim
  · rename_i name hk
    have hp : q.p = .invoke name := by cases hq : q.p <;> rw [hq] at hk <;> simp [Prim.kind] at hk ⊢; exact hk
    split at h
    · obtain ⟨⟨f, how⟩, hm, y, hr, h⟩ := h
      exact wpO_invoke hw hv hp hm hr h
    · exact h.elim
  · rename_i hk
    have hp : q.p = .panic := by cases hq : q.p <;> rw [hq] at hk <;> simp [Prim.kind] at hk ⊢
    split at h
    · exact wpO_panic hw hv hp h
    · exact h.elim
  · exact h.elim
theorem WpP.mono {p : Prim} {vs : List Value} {σ : H} {K K' E E' : Value → H → Prop} (h : WpP p vs σ K E) (hk : ∀ v σ, K v σ → K' v σ) (he : ∀ v σ, E v σ → E' v σ) : WpP p vs σ K' E' := by
  have hc : ∀ r σ, cnt2 K E ⟨⟩ ⟨⟩ r σ → cnt2 K' E' ⟨⟩ ⟨⟩ r σ := fun r σ h => by cases r <;> first | exact hk _ _ h | exact he _ _ h
  unfold WpP at *
  cases hp : p.kind <;> rw [hp] at h <;> simp only at h ⊢
  case other => obtain ⟨x, h1, h2⟩ := h; exact ⟨x, h1, hk _ _ h2⟩
  case call =>
    cases vs with
    | nil => exact h.elim
    | cons f as => obtain ⟨x, h1, h2⟩ := h; exact ⟨x, h1, h2.mono hc⟩
  case invoke name =>
    cases vs with
    | nil => exact h.elim
    | cons f as =>
      cases f <;> simp only at h ⊢
      obtain ⟨x, h1, y, h2, h3⟩ := h; exact ⟨x, h1, y, h2, h3.mono hc⟩
  case panic =>
    cases vs with
    | nil => exact h.elim
    | cons f as =>
      cases as with
      | nil => cases f <;> simp only at h ⊢ <;> exact he _ _ h
      | cons _ _ => cases f <;> simp only at h
theorem wpO_of : ∀ (os : List Op) (e : Env) (σ : H) (Q : QC), WpR os e σ Q → WpO os e σ Q
  | [], e, σ, Q, h => wpO_nil h
  | o :: os, e, σ, Q, h => by
    obtain ⟨b, hb, h⟩ := h
    cases b with
    | false => exact wpO_skip hb (wpO_of os _ _ _ h)
    | true =>
      obtain ⟨vs, hv, h⟩ := h
      exact wpP_sound hb hv (h.mono (fun v σ h => wpO_of os _ _ _ h) (fun _ _ h => h))

/-! ### Drawn regions -/
def WpQ : (os : List Op) → (rs : List Read) → (e : Env) → (σ : H) → (K : List Read → Env → Prop) → (z : Fz K := ⟨⟩) → Prop
  | [], rs, e, _, K, _ => K rs e
  | o :: os, rs, e, σ, K, _ => WpV (wantedV e o.guard) fun b => match b with
    | false => WpQ os rs (e.put o.dst (.tuple #[])) σ K
    | true => WpV (e.evs o.args) fun vs => match quietP o.p with
      | false => False
      | true => WpV (prim o.p vs σ) fun x => match readsHeap o.p with
        | true => WpQ os (⟨o.dst.getD 0, o.p, vs, x.1⟩ :: rs) (e.put o.dst x.1) σ K
        | false => WpQ os rs (e.put o.dst x.1) σ K
def WpD (e0 : Env) (ds : List Nat) : (ss : List Seg) → (rs : List Read) → (e : Env) → (σ : H) → (Q : QC) → (z : Fz Q := ⟨⟩) → Prop
  | [], _, e, σ, Q, _ => Q .normal e σ
  | s :: ss, rs, e, σ, Q, _ => WpQ s.q rs e σ fun rs e => match s.e with
    | none => WpD e0 ds ss rs e σ Q
    | some o => mobOk e σ rs s.mob = true ∧ WpR [o] e σ fun x e' σ' => match x with
      | .normal => still σ' (keepR s.chk rs) = true ∧ WpD e0 ds ss (keepR s.chk rs) e' σ' Q
      | .panic v => Q (.panic v) (dropD ds e0) σ'
      | _ => False
end AM
end Go.Proofs.YtlelihddjacplaaGreat
namespace Go.Proofs.YtlelihddjacplaaGreat
namespace AM
variable [Aw]

omit [Aw] in
theorem wpQ_sound {σ : H} : ∀ (q : List Op) (rs : List Read) (e : Env) (K : List Read → Env → Prop), WpQ q rs e σ K → ∃ rs1 e1, runQ rs q e σ = some (rs1, e1) ∧ K rs1 e1
  | [], rs, e, K, h => ⟨rs, e, rfl, h⟩
  | o :: os, rs, e, K, h => by
    obtain ⟨b, hb, h⟩ := h
    cases b with
    | false =>
      obtain ⟨rs1, e1, h1, h2⟩ := wpQ_sound os rs _ K h
      refine ⟨rs1, e1, ?_, h2⟩
      simp only [runQ, hb]; exact h1
    | true =>
      obtain ⟨vs, hv, h⟩ := h
      cases hq : quietP o.p with
      | false => rw [hq] at h; exact h.elim
      | true =>
        rw [hq] at h
        obtain ⟨⟨v, σx⟩, hp, h⟩ := h
        cases hr : readsHeap o.p with
        | true =>
          rw [hr] at h
          obtain ⟨rs1, e1, h1, h2⟩ := wpQ_sound os _ _ K h
          refine ⟨rs1, e1, ?_, h2⟩
          simp only [runQ, hb, hv, hq, hp, hr]; exact h1
        | false =>
          rw [hr] at h
          obtain ⟨rs1, e1, h1, h2⟩ := wpQ_sound os _ _ K h
          refine ⟨rs1, e1, ?_, h2⟩
          simp only [runQ, hb, hv, hq, hp, hr]; exact h1
theorem wpD_sound {e0 : Env} {ds : List Nat} : ∀ (ss : List Seg) (rs : List Read) (e : Env) (σ : H) (Q : QC), WpD e0 ds ss rs e σ Q → WpS e0 ds ss rs e σ Q
  | [], rs, e, σ, Q, h => ⟨0, _, _, _, rfl, h⟩
  | s :: ss, rs, e, σ, Q, h => by
    obtain ⟨rs1, e1, hq, h⟩ := wpQ_sound _ _ _ _ h
    cases he : s.e with
    | none =>
      rw [he] at h
      obtain ⟨n, x, e', σ', h1, h2⟩ := wpD_sound ss rs1 e1 σ Q h
      exact ⟨n, x, e', σ', by simp only [runSegs, hq, he]; exact h1, h2⟩
    | some o =>
      rw [he] at h
      obtain ⟨hm, h⟩ := h
      obtain ⟨n, x, e', σ', h1, h2⟩ := wpO_of _ _ _ _ h
      cases x with
      | normal =>
        obtain ⟨hs, h2⟩ := h2
        obtain ⟨m, y, e2, σ2, h3, h4⟩ := wpD_sound ss _ _ _ Q h2
        refine ⟨max n m, y, e2, σ2, ?_, h4⟩
        simp only [runSegs, hq, he, hm, runOps_mono (orc_mono prog (Nat.le_max_left n m)) h1, hs]
        exact runSegs_mono (orc_mono prog (Nat.le_max_right n m)) h3
      | panic v => exact ⟨n, _, _, _, by simp only [runSegs, hq, he, hm, h1], h2⟩
      | exit i => exact h2.elim
      | ret => exact h2.elim

/-- What a bool decides. -/
def WpB (v : Value) (A B : Prop) (z : Fz A := ⟨⟩) (z2 : Fz B := ⟨⟩) : Prop :=
  match v with
  | .bool t => (t = true → A) ∧ (t = false → B)
  | _ => False
omit [Aw] in
@[simp] theorem WpB.tt (A B : Prop) (z : Fz A) (z2 : Fz B) : WpB (.bool true) A B z z2 = A := by simp [WpB]
omit [Aw] in
@[simp] theorem WpB.ff (A B : Prop) (z : Fz A) (z2 : Fz B) : WpB (.bool false) A B z z2 = B := by simp [WpB]
omit [Aw] in
theorem WpB.dec {p : Prop} [Decidable p] {A B : Prop} {z : Fz A} {z2 : Fz B} (h1 : p → A) (h2 : ¬ p → B) : WpB (.bool (decide p)) A B z z2 := by
  by_cases h : p <;> simp [WpB, h, h1, h2]
omit [Aw] in
theorem WpB.of {t : Bool} {A B : Prop} {z : Fz A} {z2 : Fz B} (h1 : t = true → A) (h2 : t = false → B) : WpB (.bool t) A B z z2 := ⟨h1, h2⟩

def WpC : (c : Code) → (e : Env) → (σ : H) → (Q : QC) → (z : Fz Q := ⟨⟩) → Prop
  | .skip, e, σ, Q, _ => Q .normal e σ
  | .reg os, e, σ, Q, _ => WpR os e σ Q
  | .draw ss ds, e, σ, Q, _ => WpD e ds ss [] e σ Q
  | .keep ks, e, σ, Q, _ => Q .normal (e.sub ks) σ
  | .seq a b, e, σ, Q, _ => WpC a e σ (thn (fun e σ => WpC b e σ Q) Q)
  | .cond c a b, e, σ, Q, _ => WpV (e.ev c) fun v => WpB v (WpC a e σ Q) (WpC b e σ Q)
  | .block id b, e, σ, Q, _ => WpC b e σ (blk id Q)
  | .loop ks b, e, σ, Q, _ => Wp (.loop ks b) e σ Q
  | .exit id, e, σ, Q, _ => Q (.exit id) e σ
  | .ret, e, σ, Q, _ => Q .ret e σ
theorem wp_of : ∀ (c : Code) (e : Env) (σ : H) (Q : QC), WpC c e σ Q → Wp c e σ Q
  | .skip, e, σ, Q, h => wp_skip h
  | .reg os, e, σ, Q, h => wp_reg (wpO_of _ _ _ _ h)
  | .draw ss ds, e, σ, Q, h => wp_draw (wpD_sound _ _ _ _ _ h)
  | .keep ks, e, σ, Q, h => wp_keep h
  | .seq a b, e, σ, Q, h => wp_seq ((wp_of a e σ _ h).mono fun x e σ h => by
      cases x <;> first | exact wp_of b e σ Q h | exact h)
  | .cond c a b, e, σ, Q, h => by
    obtain ⟨v, hv, h⟩ := h
    cases v <;> simp only [WpB] at h
    rename_i t
    cases t with
    | true => exact wp_cond hv (wp_of a e σ Q (h.1 rfl))
    | false => exact wp_cond hv (wp_of b e σ Q (h.2 rfl))
  | .block id b, e, σ, Q, h => wp_block (wp_of b e σ _ h)
  | .loop ks b, e, σ, Q, h => h
  | .exit id, e, σ, Q, h => wp_exit h
  | .ret, e, σ, Q, h => wp_ret h
theorem WpC.mono : ∀ {c : Code} {e : Env} {σ : H} {Q Q' : QC}, Wp c e σ Q → (∀ x e σ, Q x e σ → Q' x e σ) → Wp c e σ Q' := fun h hq => Wp.mono h hq

@[simp] theorem WpC.skip (e : Env) (σ : H) (Q : QC) (z : Fz Q) : WpC .skip e σ Q z = Q .normal e σ := by exact (Eq.refl _).trans rfl
@[simp] theorem WpC.seq (a b : Code) (e : Env) (σ : H) (Q : QC) (z : Fz Q) : WpC (.seq a b) e σ Q z = WpC a e σ (thn (fun e σ => WpC b e σ Q) Q) := by exact (Eq.refl _).trans rfl
@[simp] theorem WpC.cond (c : Opd) (a b : Code) (e : Env) (σ : H) (Q : QC) (z : Fz Q) : WpC (.cond c a b) e σ Q z = WpV (e.ev c) fun v => WpB v (WpC a e σ Q) (WpC b e σ Q) := by exact (Eq.refl _).trans rfl
@[simp] theorem WpC.block (id : Nat) (b : Code) (e : Env) (σ : H) (Q : QC) (z : Fz Q) : WpC (.block id b) e σ Q z = WpC b e σ (blk id Q) := by exact (Eq.refl _).trans rfl
@[simp] theorem WpC.loop (ks : List Nat) (b : Code) (e : Env) (σ : H) (Q : QC) (z : Fz Q) : WpC (.loop ks b) e σ Q z = Wp (.loop ks b) e σ Q := by exact (Eq.refl _).trans rfl
@[simp] theorem WpC.exit (id : Nat) (e : Env) (σ : H) (Q : QC) (z : Fz Q) : WpC (.exit id) e σ Q z = Q (.exit id) e σ := by exact (Eq.refl _).trans rfl
@[simp] theorem WpC.ret (e : Env) (σ : H) (Q : QC) (z : Fz Q) : WpC .ret e σ Q z = Q .ret e σ := by exact (Eq.refl _).trans rfl
@[simp] theorem WpC.cR (os : List Op) (ks : List Nat) (e : Env) (σ : H) (Q : QC) (z : Fz Q) : WpC (AM.cR os ks) e σ Q z = WpR os e σ (thn (fun e σ => Q .normal (e.sub ks) σ) Q) := by exact (Eq.refl _).trans rfl
@[simp] theorem WpC.cD (ss : List Seg) (ds ks : List Nat) (e : Env) (σ : H) (Q : QC) (z : Fz Q) : WpC (AM.cD ss ds ks) e σ Q z = WpD e ds ss [] e σ (thn (fun e σ => Q .normal (e.sub ks) σ) Q) := by exact (Eq.refl _).trans rfl
@[simp] theorem WpD.nil (e0 : Env) (ds : List Nat) (rs : List Read) (e : Env) (σ : H) (Q : QC) (z : Fz Q) : WpD e0 ds [] rs e σ Q z = Q .normal e σ := by exact (Eq.refl _).trans rfl
@[simp] theorem WpD.quiet (e0 : Env) (ds : List Nat) (q : List Op) (chk : List Nat) (mob : List Op) (ss : List Seg) (rs : List Read) (e : Env) (σ : H) (Q : QC) (z : Fz Q) : WpD e0 ds (⟨q, none, chk, mob⟩ :: ss) rs e σ Q z = WpQ q rs e σ fun rs e => WpD e0 ds ss rs e σ Q := by exact (Eq.refl _).trans rfl
/-- Behind an effect of a drawn region. -/
def eff (e0 : Env) (ds : List Nat) (ss : List Seg) (rs : List Read) (Q : QC) (z : Fz Q := ⟨⟩) : QC
  | .normal, e, σ => still σ rs = true ∧ WpD e0 ds ss rs e σ Q
  | .panic v, e, σ => Q (.panic v) (dropD ds e0) σ
  | _, _, _ => False
@[simp] theorem eff_normal (e0 : Env) (ds : List Nat) (ss : List Seg) (rs : List Read) (Q : QC) (e : Env) (σ : H) (z : Fz Q) : eff e0 ds ss rs Q z .normal e σ = (still σ rs = true ∧ WpD e0 ds ss rs e σ Q) := by exact (Eq.refl _).trans rfl
@[simp] theorem eff_panic (e0 : Env) (ds : List Nat) (ss : List Seg) (rs : List Read) (Q : QC) (v : Value) (e : Env) (σ : H) (z : Fz Q) : eff e0 ds ss rs Q z (.panic v) e σ = Q (.panic v) (dropD ds e0) σ := by exact (Eq.refl _).trans rfl
@[simp] theorem WpD.eff (e0 : Env) (ds : List Nat) (q : List Op) (o : Op) (chk : List Nat) (mob : List Op) (ss : List Seg) (rs : List Read) (e : Env) (σ : H) (Q : QC) (z : Fz Q) :
    WpD e0 ds (⟨q, .some o, chk, mob⟩ :: ss) rs e σ Q z = WpQ q rs e σ fun rs e => mobOk e σ rs mob = true ∧ WpR [o] e σ (AM.eff e0 ds ss (keepR chk rs) Q) := by
  refine congrArg (WpQ q rs e σ) (funext fun rs => funext fun e => ?_)
  have h : (fun (x : Ex) (e' : Env) (σ' : H) => match x with
      | .normal => still σ' (keepR chk rs) = true ∧ WpD e0 ds ss (keepR chk rs) e' σ' Q
      | .panic v => Q (.panic v) (dropD ds e0) σ'
      | _ => False) = AM.eff e0 ds ss (keepR chk rs) Q := by
    funext x e' σ'
    cases x <;> rfl
  rw [← h]
  try rfl
omit [Aw] in
@[simp] theorem WpQ.nil (rs : List Read) (e : Env) (σ : H) (K : List Read → Env → Prop) (z : Fz K) : WpQ [] rs e σ K z = K rs e := by exact (Eq.refl _).trans rfl
omit [Aw] in
@[simp] theorem WpQ.oM (d s : Nat) (os : List Op) (rs : List Read) (e : Env) (σ : H) (K : List Read → Env → Prop) (z : Fz K) : WpQ (AM.oM d s :: os) rs e σ K z = WpV (e.get s) fun v => WpQ os rs ((d, v) :: e) σ K := by
  apply propext
  simp only [WpQ, AM.oM, wantedV, WpV, Env.evs, Env.ev, quietP, readsHeap, prim, pMove, Env.put]
  constructor
  · rintro ⟨b, hb, h⟩
    cases hb
    obtain ⟨vs, hvs, x, hx, hK⟩ := h
    cases hg : e.get s with
    | none => rw [hg] at hvs; cases hvs
    | some v =>
      rw [hg] at hvs
      cases hvs
      cases hx
      exact ⟨v, rfl, hK⟩
  · rintro ⟨v, hv, h⟩
    exact ⟨true, rfl, [v], by rw [hv], (v, σ), rfl, h⟩
/-- A quiet operation. -/
def WpU (d : Nat) (p : Prim) (vs : List Value) (σ : H) (K : Value → List Read → Prop) (z : Fz K := ⟨⟩) : Prop := match quietP p with
  | false => False
  | true => WpV (prim p vs σ) fun x => match readsHeap p with
    | true => K x.1 [⟨d, p, vs, x.1⟩]
    | false => K x.1 []
omit [Aw] in
@[simp] theorem WpQ.oA (d : Nat) (p : Prim) (as : List Opd) (os : List Op) (rs : List Read) (e : Env) (σ : H) (K : List Read → Env → Prop) (z : Fz K) :
    WpQ (AM.oA d p as :: os) rs e σ K z = WpV (e.evs as) fun vs => WpU d p vs σ fun v r => WpQ os (r ++ rs) ((d, v) :: e) σ K := by
  simp only [WpQ, AM.oA, wantedV, WpV.some, Env.put, WpU, Option.getD_some]
  refine congrArg (fun K => WpV (e.evs as) K) (funext fun vs => ?_)
  cases quietP p with
  | false => rfl
  | true => 
    exact congrArg (fun K => WpV (prim p vs σ) K) (funext fun x => by cases readsHeap p <;> rfl)
omit [Aw] in
@[simp] theorem WpQ.oG (d : Nat) (p : Prim) (as : List Opd) (j : Nat) (b : Bool) (os : List Op) (rs : List Read) (e : Env) (σ : H) (K : List Read → Env → Prop) (z : Fz K) :
    WpQ (AM.oG (.some d) p as j b :: os) rs e σ K z = WpV (e.get j) fun v => WpG v b (WpV (e.evs as) fun vs => WpU d p vs σ fun v r => WpQ os (r ++ rs) ((d, v) :: e) σ K) (WpQ os rs ((d, .tuple #[]) :: e) σ K) := by
  have hA : (WpV (e.evs as) fun vs => match quietP p with
      | false => False
      | true => WpV (prim p vs σ) fun x => match readsHeap p with
        | true => WpQ os (⟨d, p, vs, x.1⟩ :: rs) ((d, x.1) :: e) σ K
        | false => WpQ os rs ((d, x.1) :: e) σ K) = WpV (e.evs as) fun vs => WpU d p vs σ fun v r => WpQ os (r ++ rs) ((d, v) :: e) σ K := by
    refine congrArg (fun K => WpV (e.evs as) K) (funext fun vs => ?_)
    unfold WpU
    cases quietP p with
    | false => rfl
    | true =>
      exact congrArg (fun K => WpV (prim p vs σ) K) (funext fun x => by cases readsHeap p <;> rfl)
  rw [← hA]
  apply propext
  simp only [WpQ, AM.oG, wantedV, Env.put, Option.getD_some]
  cases hv : e.get j with
  | none => constructor <;> (rintro ⟨_, h, _⟩; cases h)
  | some v =>
    rw [WpV.some]
    cases v <;> simp only [WpG, WpV.some]
    case bool y =>
      cases y <;> cases b <;> simp <;> rfl

/-! ### Functions -/
def retQ (rs : List RVar) (Q : Res → H → Prop) (z : Fz Q := ⟨⟩) : QC
  | .normal, e, σ => e.get 1000000 = none ∧ WpV (results e σ rs) fun r => Q r.1 r.2
  | .ret, e, σ => e.get 1000000 = none ∧ WpV (results e σ rs) fun r => Q r.1 r.2
  | .panic v, e, σ => e.get 1000000 = none ∧ Q (.panic v) σ
  | .exit _, _, _ => False
omit [Aw] in
@[simp] theorem retQ_normal (rs : List RVar) (Q : Res → H → Prop) (e : Env) (σ : H) (z : Fz Q) : retQ rs Q z .normal e σ = (e.get 1000000 = none ∧ WpV (results e σ rs) fun r => Q r.1 r.2) := by exact (Eq.refl _).trans rfl
omit [Aw] in
@[simp] theorem retQ_ret (rs : List RVar) (Q : Res → H → Prop) (e : Env) (σ : H) (z : Fz Q) : retQ rs Q z .ret e σ = (e.get 1000000 = none ∧ WpV (results e σ rs) fun r => Q r.1 r.2) := by exact (Eq.refl _).trans rfl
omit [Aw] in
@[simp] theorem retQ_panic (rs : List RVar) (Q : Res → H → Prop) (v : Value) (e : Env) (σ : H) (z : Fz Q) : retQ rs Q z (.panic v) e σ = (e.get 1000000 = none ∧ Q (.panic v) σ) := by exact (Eq.refl _).trans rfl
theorem ru_fn {f : Nat} {F : Func} {args : List Value} {σ : H} {Q : Res → H → Prop} (hF : prog.fs f = some F) (ho : prog.own f = none) (hr : F.rcv = none) (hl : args.length ≤ 1000) (h : WpC F.body (params 0 args) σ (retQ F.results Q)) : Ru f args σ Q := by
  obtain ⟨n, x, e, σ', h1, h2⟩ := wp_of _ _ _ _ h
  have hl' : Nat.ble args.length 1000 = true := by rw [nble]; simpa using hl
  cases x with
  | normal =>
    obtain ⟨hn, ⟨r, σ2⟩, h3, h4⟩ := h2
    exact ⟨n + 1, r, σ2, by simp only [orc, answer, ho, callF, hF, hr, hl', h1, hn, h3], h4⟩
  | ret =>
    obtain ⟨hn, ⟨r, σ2⟩, h3, h4⟩ := h2
    exact ⟨n + 1, r, σ2, by simp only [orc, answer, ho, callF, hF, hr, hl', h1, hn, h3], h4⟩
  | panic v =>
    obtain ⟨hn, h3⟩ := h2
    exact ⟨n + 1, _, _, by simp only [orc, answer, ho, callF, hF, hr, hl', h1, hn], h3⟩
  | exit i => exact h2.elim
end AM
end Go.Proofs.YtlelihddjacplaaGreat
namespace Go.Proofs.YtlelihddjacplaaGreat
namespace AM

/-! ### Slots -/
theorem Env.get_consW (k : Nat) (v : Value) (e : Env) (i : Nat) : Env.get ((k, v) :: e) i = if k = i then some v else Env.get e i := by
  simp only [Env.get, nbeq]
  by_cases h : k = i <;> simp [h]
@[simp] theorem get_hit (i : Nat) (v : Value) (e : Env) : Env.get ((i, v) :: e) i = some v := by simp [Env.get_consW]
@[simp] theorem get_miss {k i : Nat} (h : k ≠ i) (v : Value) (e : Env) : Env.get ((k, v) :: e) i = Env.get e i := by simp [Env.get_consW, h]
@[simp] theorem get_nil (i : Nat) : Env.get [] i = none := by exact (Eq.refl _).trans rfl
@[simp] theorem ev_t (e : Env) (i : Nat) : e.ev (.t i) = e.get i := by exact (Eq.refl _).trans rfl
@[simp] theorem ev_c (e : Env) (v : Value) : e.ev (.c v) = some v := by exact (Eq.refl _).trans rfl
@[simp] theorem evs_nil' (e : Env) : e.evs [] = some [] := by exact (Eq.refl _).trans rfl
@[simp] theorem evs_cons' (e : Env) (o : Opd) (os : List Opd) : e.evs (o :: os) = (e.ev o).bind fun v => (e.evs os).map (v :: ·) := by
  simp only [Env.evs]
  cases e.ev o with
  | none => rfl
  | some v => cases e.evs os <;> rfl
@[simp] theorem put_some (e : Env) (d : Nat) (v : Value) : Env.put e (some d) v = (d, v) :: e := by exact (Eq.refl _).trans rfl
@[simp] theorem put_none (e : Env) (v : Value) : Env.put e none v = e := by exact (Eq.refl _).trans rfl
/-- What is kept of a slot. -/
def kp (k : Nat) (o : Option Value) (e : Env) : Env := match o with
  | some v => (k, v) :: e
  | none => e
@[simp] theorem kp_some (k : Nat) (v : Value) (e : Env) : kp k (some v) e = (k, v) :: e := by exact (Eq.refl _).trans rfl
@[simp] theorem kp_none (k : Nat) (e : Env) : kp k none e = e := by exact (Eq.refl _).trans rfl
@[simp] theorem sub_nil (e : Env) : e.sub [] = kp 1000000 (e.get 1000000) [] := by simp only [Env.sub, kp]; cases e.get 1000000 <;> rfl
@[simp] theorem sub_cons (e : Env) (k : Nat) (ks : List Nat) : e.sub (k :: ks) = kp k (e.get k) (e.sub ks) := by simp only [Env.sub, kp]; cases e.get k <;> rfl
@[simp] theorem params_nil (i : Nat) : params i [] = [] := by exact (Eq.refl _).trans rfl
@[simp] theorem params_cons (i : Nat) (v : Value) (vs : List Value) : params i (v :: vs) = (i, v) :: params (i + 1) vs := by exact (Eq.refl _).trans rfl
attribute [simp] results resultL result

/-! ### The heap -/
@[simp] theorem H.next_put (σ : H) (a : Nat) (o : Obj) : (σ.put a o).next = σ.next := by exact (Eq.refl _).trans rfl
@[simp] theorem H.next_push (σ : H) (o : Obj) : (σ.push o).next = σ.next + 1 := by exact (Eq.refl _).trans rfl
@[simp] theorem H.get_put_same (σ : H) (a : Nat) (o : Obj) : (σ.put a o).get a = some o := by simp [H.get_put]
@[simp] theorem H.get_put_ne (σ : H) {a b : Nat} (h : a ≠ b) (o : Obj) : (σ.put a o).get b = σ.get b := by simp [H.get_put, h]
@[simp] theorem H.get_push_same (σ : H) (o : Obj) : (σ.push o).get σ.next = some o := by simp [H.get_push]
@[simp] theorem H.get_push_lt (σ : H) {b : Nat} (h : b < σ.next) (o : Obj) : (σ.push o).get b = σ.get b := by
  rw [H.get_push, if_neg (by omega)]

/-- A cell of an object. -/
def cellAt (o : Option Obj) (i : Nat) : Option Value := match o with
  | some (.cells c _ _ _) => c[i]?
  | _ => none
@[simp] theorem cellAt_cells (c : List Value) (e s : Nat) (m : Mode) (i : Nat) : cellAt (some (.cells c e s m)) i = c[i]? := by exact (Eq.refl _).trans rfl
def cutAt (o : Option Obj) (i n : Nat) : Option (List Value) := match o with
  | some (.cells c _ _ _) => if i + n ≤ c.length then some ((c.drop i).take n) else none
  | _ => none
@[simp] theorem cutAt_cells (c : List Value) (e s : Nat) (m : Mode) (i n : Nat) : cutAt (some (.cells c e s m)) i n = if i + n ≤ c.length then some ((c.drop i).take n) else none := by exact (Eq.refl _).trans rfl
theorem lcut_eq' : ∀ (l : List Value) (o n : Nat), lcut l o n = if o + n ≤ l.length then some ((l.drop o).take n) else none
  | l, 0, n => by
    have : ∀ (l : List Value) (n : Nat), ltake l n = if n ≤ l.length then some (l.take n) else none := by
      intro l n
      induction n generalizing l with
      | zero => simp [ltake]
      | succ n ih =>
        cases l with
        | nil => simp [ltake]
        | cons v r =>
          simp only [ltake, ih r, List.length_cons, Nat.add_le_add_iff_right, List.take_succ_cons]
          split <;> rename_i h <;> split at h <;> simp_all
    simp [lcut, this]
  | [], o + 1, n => by cases n <;> simp [lcut]
  | v :: r, o + 1, n => by
    simp only [lcut, lcut_eq' r o n, List.length_cons, List.drop_succ_cons]
    by_cases h : o + n ≤ r.length
    · rw [if_pos h, if_pos (by omega)]
    · rw [if_neg h, if_neg (by omega)]
theorem lput_eq' : ∀ (l : List Value) (o : Nat) (vs : List Value), lput l o vs = if o + vs.length ≤ l.length then some (l.take o ++ (vs ++ l.drop (o + vs.length))) else none
  | l, 0, vs => by
    have : ∀ (vs l : List Value), lover l vs = if vs.length ≤ l.length then some (vs ++ l.drop vs.length) else none := by
      intro vs
      induction vs with
      | nil => intro l; cases l <;> simp [lover]
      | cons v vs ih =>
        intro l
        cases l with
        | nil => simp [lover]
        | cons u r =>
          simp only [lover, ih r, List.length_cons, Nat.add_le_add_iff_right, List.cons_append, List.drop_succ_cons]
          split <;> rename_i h <;> split at h <;> simp_all
    simp [lput, this]
  | [], o + 1, vs => by simp [lput]
  | u :: r, o + 1, vs => by
    simp only [lput, lput_eq' r o vs, List.length_cons, List.take_succ_cons]
    by_cases h : o + vs.length ≤ r.length
    · rw [if_pos h, if_pos (by omega)]
      simp [show o + 1 + vs.length = o + vs.length + 1 by omega]
    · rw [if_neg h, if_neg (by omega)]
theorem rdCells_eq (σ : H) (b o n : Nat) : rdCells σ ⟨b, o, none⟩ n = cutAt (σ.get b) o n := by
  simp only [rdCells, cutAt]
  cases σ.get b with
  | none => rfl
  | some ob => cases ob <;> simp [lcut_eq']
/-- The object with a cell, with cells laid in. -/
def setAt (o : Option Obj) (i : Nat) (v : Value) : Option Obj := match o with
  | some (.cells c e s m) => if m ≠ .ro ∧ cellOk v = true ∧ i < c.length then some (.cells (c.set i v) e s m) else none
  | _ => none
@[simp] theorem setAt_cells (c : List Value) (e s : Nat) (m : Mode) (i : Nat) (v : Value) : setAt (some (.cells c e s m)) i v = if m ≠ .ro ∧ cellOk v = true ∧ i < c.length then some (.cells (c.set i v) e s m) else none := by exact (Eq.refl _).trans rfl
def layAt (o : Option Obj) (i : Nat) (vs : List Value) : Option Obj := match o with
  | some (.cells c e s m) => if m ≠ .ro ∧ vs.all cellOk = true ∧ i + vs.length ≤ c.length then some (.cells (c.take i ++ (vs ++ c.drop (i + vs.length))) e s m) else none
  | _ => none
@[simp] theorem layAt_cells (c : List Value) (e s : Nat) (m : Mode) (i : Nat) (vs : List Value) : layAt (some (.cells c e s m)) i vs = if m ≠ .ro ∧ vs.all cellOk = true ∧ i + vs.length ≤ c.length then some (.cells (c.take i ++ (vs ++ c.drop (i + vs.length))) e s m) else none := by exact (Eq.refl _).trans rfl
theorem wrCells_eq (σ : H) (b o : Nat) (vs : List Value) : wrCells σ ⟨b, o, none⟩ vs = (layAt (σ.get b) o vs).map (σ.put b) := by
  simp only [wrCells, layAt]
  cases σ.get b with
  | none => rfl
  | some ob =>
    cases ob with
    | cells c e s m =>
      cases m with
      | ro => simp
      | exact =>
        simp only [lput_eq']
        cases hv : vs.all cellOk <;> by_cases hl : o + vs.length ≤ c.length <;> simp [hl]
      | grown =>
        simp only [lput_eq']
        cases hv : vs.all cellOk <;> by_cases hl : o + vs.length ≤ c.length <;> simp [hl]
    | map es clk => rfl
    | dead => rfl
theorem layAt_one (o : Option Obj) (i : Nat) (v : Value) : layAt o i [v] = setAt o i v := by
  cases o with
  | none => rfl
  | some ob =>
    cases ob with
    | cells c e s m =>
      simp only [layAt, setAt, List.all_cons, List.all_nil, Bool.and_true, List.length_cons, List.length_nil]
      by_cases h : i + 1 ≤ c.length
      · have : c.take i ++ ([v] ++ c.drop (i + 1)) = c.set i v := by
          rw [List.set_eq_take_append_cons_drop, if_pos (by omega)]
          rfl
        rw [this]
        simp only [show (i + 1 ≤ c.length) = (i < c.length) from rfl]
      · simp [h, show ¬ i < c.length by omega]
    | map es clk => rfl
    | dead => rfl

/-! ### Operations -/
section
variable [Aw]
theorem wpp_other {p : Prim} {vs : List Value} {σ : H} {K E : Value → H → Prop} {z : Fz K} {z2 : Fz E} (h : p.kind = .other) : WpP p vs σ K E z z2 = WpV (prim p vs σ) fun x => K x.1 x.2 := by simp only [WpP, h]
@[simp] theorem wpp_call (f : Nat) (fs cs as : List Value) (σ : H) (K E : Value → H → Prop) (z : Fz K) (z2 : Fz E) : WpP .call (.func (.func f) ⟨fs⟩ ⟨cs⟩ :: as) σ K E z z2 = Ru f (fs ++ (as ++ cs)) σ (cnt2 K E) := by
  show (WpV (callee _ as) fun x => Ru x.1 x.2 σ (cnt2 K E)) = _
  simp only [callee, WpV.some]
@[simp] theorem wpp_panic (t : Nat) (v : Value) (σ : H) (K E : Value → H → Prop) (z : Fz K) (z2 : Fz E) : WpP .panic [.iface t v] σ K E z z2 = E (.iface t v) σ := by exact (Eq.refl _).trans rfl
omit [Aw] in
theorem wpu_pure {d : Nat} {p : Prim} {vs : List Value} {σ : H} {K : Value → List Read → Prop} {z : Fz K} (h : quietP p = true) (h2 : readsHeap p = false) : WpU d p vs σ K z = WpV (prim p vs σ) fun x => K x.1 [] := by
  simp only [WpU, h]
  exact congrArg (fun K => WpV (prim p vs σ) K) (funext fun x => by rw [h2])
omit [Aw] in
theorem wpu_read {d : Nat} {p : Prim} {vs : List Value} {σ : H} {K : Value → List Read → Prop} {z : Fz K} (h : quietP p = true) (h2 : readsHeap p = true) : WpU d p vs σ K z = WpV (prim p vs σ) fun x => K x.1 [⟨d, p, vs, x.1⟩] := by
  simp only [WpU, h]
  exact congrArg (fun K => WpV (prim p vs σ) K) (funext fun x => by rw [h2])
@[simp] theorem wpp_move (vs : List Value) (σ : H) (K E : Value → H → Prop) (z : Fz K) (z2 : Fz E) : WpP .move vs σ K E z z2 = WpV (prim .move vs σ) fun x => K x.1 x.2 := wpp_other rfl
omit [Aw] in
@[simp] theorem wpu_move (d : Nat) (vs : List Value) (σ : H) (K : Value → List Read → Prop) (z : Fz K) : WpU d .move vs σ K z = WpV (prim .move vs σ) fun x => K x.1 [] := wpu_pure rfl rfl
@[simp] theorem wpp_pick (vs : List Value) (σ : H) (K E : Value → H → Prop) (z : Fz K) (z2 : Fz E) : WpP .pick vs σ K E z z2 = WpV (prim .pick vs σ) fun x => K x.1 x.2 := wpp_other rfl
omit [Aw] in
@[simp] theorem wpu_pick (d : Nat) (vs : List Value) (σ : H) (K : Value → List Read → Prop) (z : Fz K) : WpU d .pick vs σ K z = WpV (prim .pick vs σ) fun x => K x.1 [] := wpu_pure rfl rfl
@[simp] theorem wpp_new (elem esz : Nat) (zero : List Value) (vs : List Value) (σ : H) (K E : Value → H → Prop) (z : Fz K) (z2 : Fz E) : WpP (.new elem esz zero) vs σ K E z z2 = WpV (prim (.new elem esz zero) vs σ) fun x => K x.1 x.2 := wpp_other rfl
@[simp] theorem wpp_box (elem esz : Nat) (vs : List Value) (σ : H) (K E : Value → H → Prop) (z : Fz K) (z2 : Fz E) : WpP (.box elem esz) vs σ K E z z2 = WpV (prim (.box elem esz) vs σ) fun x => K x.1 x.2 := wpp_other rfl
@[simp] theorem wpp_build (zero : List Value) (pl : List (Nat × Nat)) (vs : List Value) (σ : H) (K E : Value → H → Prop) (z : Fz K) (z2 : Fz E) : WpP (.build zero pl) vs σ K E z z2 = WpV (prim (.build zero pl) vs σ) fun x => K x.1 x.2 := wpp_other rfl
omit [Aw] in
@[simp] theorem wpu_build (zero : List Value) (pl : List (Nat × Nat)) (d : Nat) (vs : List Value) (σ : H) (K : Value → List Read → Prop) (z : Fz K) : WpU d (.build zero pl) vs σ K z = WpV (prim (.build zero pl) vs σ) fun x => K x.1 [] := wpu_pure rfl rfl
@[simp] theorem wpp_buildSlice (elem esz len : Nat) (zero : List Value) (pl : List (Nat × Nat)) (vs : List Value) (σ : H) (K E : Value → H → Prop) (z : Fz K) (z2 : Fz E) : WpP (.buildSlice elem esz len zero pl) vs σ K E z z2 = WpV (prim (.buildSlice elem esz len zero pl) vs σ) fun x => K x.1 x.2 := wpp_other rfl
@[simp] theorem wpp_load (agg : Bool) (n : Nat) (vs : List Value) (σ : H) (K E : Value → H → Prop) (z : Fz K) (z2 : Fz E) : WpP (.load agg n) vs σ K E z z2 = WpV (prim (.load agg n) vs σ) fun x => K x.1 x.2 := wpp_other rfl
omit [Aw] in
@[simp] theorem wpu_load (agg : Bool) (n : Nat) (d : Nat) (vs : List Value) (σ : H) (K : Value → List Read → Prop) (z : Fz K) : WpU d (.load agg n) vs σ K z = WpV (prim (.load agg n) vs σ) fun x => K x.1 [⟨d, (.load agg n), vs, x.1⟩] := wpu_read rfl rfl
@[simp] theorem wpp_store (n : Nat) (vs : List Value) (σ : H) (K E : Value → H → Prop) (z : Fz K) (z2 : Fz E) : WpP (.store n) vs σ K E z z2 = WpV (prim (.store n) vs σ) fun x => K x.1 x.2 := wpp_other rfl
@[simp] theorem wpp_nilCheck (vs : List Value) (σ : H) (K E : Value → H → Prop) (z : Fz K) (z2 : Fz E) : WpP .nilCheck vs σ K E z z2 = WpV (prim .nilCheck vs σ) fun x => K x.1 x.2 := wpp_other rfl
omit [Aw] in
@[simp] theorem wpu_nilCheck (d : Nat) (vs : List Value) (σ : H) (K : Value → List Read → Prop) (z : Fz K) : WpU d .nilCheck vs σ K z = WpV (prim .nilCheck vs σ) fun x => K x.1 [] := wpu_pure rfl rfl
@[simp] theorem wpp_isNil (k : NK) (neg : Bool) (vs : List Value) (σ : H) (K E : Value → H → Prop) (z : Fz K) (z2 : Fz E) : WpP (.isNil k neg) vs σ K E z z2 = WpV (prim (.isNil k neg) vs σ) fun x => K x.1 x.2 := wpp_other rfl
omit [Aw] in
@[simp] theorem wpu_isNil (k : NK) (neg : Bool) (d : Nat) (vs : List Value) (σ : H) (K : Value → List Read → Prop) (z : Fz K) : WpU d (.isNil k neg) vs σ K z = WpV (prim (.isNil k neg) vs σ) fun x => K x.1 [] := wpu_pure rfl rfl
@[simp] theorem wpp_bin (op : BinOp) (vs : List Value) (σ : H) (K E : Value → H → Prop) (z : Fz K) (z2 : Fz E) : WpP (.bin op) vs σ K E z z2 = WpV (prim (.bin op) vs σ) fun x => K x.1 x.2 := wpp_other rfl
omit [Aw] in
@[simp] theorem wpu_bin (op : BinOp) (d : Nat) (vs : List Value) (σ : H) (K : Value → List Read → Prop) (z : Fz K) : WpU d (.bin op) vs σ K z = WpV (prim (.bin op) vs σ) fun x => K x.1 [] := wpu_pure rfl rfl
@[simp] theorem wpp_eqBool (neg : Bool) (vs : List Value) (σ : H) (K E : Value → H → Prop) (z : Fz K) (z2 : Fz E) : WpP (.eqBool neg) vs σ K E z z2 = WpV (prim (.eqBool neg) vs σ) fun x => K x.1 x.2 := wpp_other rfl
omit [Aw] in
@[simp] theorem wpu_eqBool (neg : Bool) (d : Nat) (vs : List Value) (σ : H) (K : Value → List Read → Prop) (z : Fz K) : WpU d (.eqBool neg) vs σ K z = WpV (prim (.eqBool neg) vs σ) fun x => K x.1 [] := wpu_pure rfl rfl
@[simp] theorem wpp_eqStr (neg : Bool) (vs : List Value) (σ : H) (K E : Value → H → Prop) (z : Fz K) (z2 : Fz E) : WpP (.eqStr neg) vs σ K E z z2 = WpV (prim (.eqStr neg) vs σ) fun x => K x.1 x.2 := wpp_other rfl
omit [Aw] in
@[simp] theorem wpu_eqStr (neg : Bool) (d : Nat) (vs : List Value) (σ : H) (K : Value → List Read → Prop) (z : Fz K) : WpU d (.eqStr neg) vs σ K z = WpV (prim (.eqStr neg) vs σ) fun x => K x.1 [] := wpu_pure rfl rfl
@[simp] theorem wpp_eqPtr (neg : Bool) (vs : List Value) (σ : H) (K E : Value → H → Prop) (z : Fz K) (z2 : Fz E) : WpP (.eqPtr neg) vs σ K E z z2 = WpV (prim (.eqPtr neg) vs σ) fun x => K x.1 x.2 := wpp_other rfl
omit [Aw] in
@[simp] theorem wpu_eqPtr (neg : Bool) (d : Nat) (vs : List Value) (σ : H) (K : Value → List Read → Prop) (z : Fz K) : WpU d (.eqPtr neg) vs σ K z = WpV (prim (.eqPtr neg) vs σ) fun x => K x.1 [⟨d, (.eqPtr neg), vs, x.1⟩] := wpu_read rfl rfl
@[simp] theorem wpp_eqAgg (bl : Bool) (n : Nat) (neg : Bool) (vs : List Value) (σ : H) (K E : Value → H → Prop) (z : Fz K) (z2 : Fz E) : WpP (.eqAgg bl n neg) vs σ K E z z2 = WpV (prim (.eqAgg bl n neg) vs σ) fun x => K x.1 x.2 := wpp_other rfl
omit [Aw] in
@[simp] theorem wpu_eqAgg (bl : Bool) (n : Nat) (neg : Bool) (d : Nat) (vs : List Value) (σ : H) (K : Value → List Read → Prop) (z : Fz K) : WpU d (.eqAgg bl n neg) vs σ K z = WpV (prim (.eqAgg bl n neg) vs σ) fun x => K x.1 [] := wpu_pure rfl rfl
@[simp] theorem wpp_un (op : UnOp) (vs : List Value) (σ : H) (K E : Value → H → Prop) (z : Fz K) (z2 : Fz E) : WpP (.un op) vs σ K E z z2 = WpV (prim (.un op) vs σ) fun x => K x.1 x.2 := wpp_other rfl
omit [Aw] in
@[simp] theorem wpu_un (op : UnOp) (d : Nat) (vs : List Value) (σ : H) (K : Value → List Read → Prop) (z : Fz K) : WpU d (.un op) vs σ K z = WpV (prim (.un op) vs σ) fun x => K x.1 [] := wpu_pure rfl rfl
@[simp] theorem wpp_toInt (k : IntKind) (vs : List Value) (σ : H) (K E : Value → H → Prop) (z : Fz K) (z2 : Fz E) : WpP (.toInt k) vs σ K E z z2 = WpV (prim (.toInt k) vs σ) fun x => K x.1 x.2 := wpp_other rfl
omit [Aw] in
@[simp] theorem wpu_toInt (k : IntKind) (d : Nat) (vs : List Value) (σ : H) (K : Value → List Read → Prop) (z : Fz K) : WpU d (.toInt k) vs σ K z = WpV (prim (.toInt k) vs σ) fun x => K x.1 [] := wpu_pure rfl rfl
@[simp] theorem wpp_toFloat (k : FloatKind) (vs : List Value) (σ : H) (K E : Value → H → Prop) (z : Fz K) (z2 : Fz E) : WpP (.toFloat k) vs σ K E z z2 = WpV (prim (.toFloat k) vs σ) fun x => K x.1 x.2 := wpp_other rfl
omit [Aw] in
@[simp] theorem wpu_toFloat (k : FloatKind) (d : Nat) (vs : List Value) (σ : H) (K : Value → List Read → Prop) (z : Fz K) : WpU d (.toFloat k) vs σ K z = WpV (prim (.toFloat k) vs σ) fun x => K x.1 [] := wpu_pure rfl rfl
@[simp] theorem wpp_toStr (vs : List Value) (σ : H) (K E : Value → H → Prop) (z : Fz K) (z2 : Fz E) : WpP .toStr vs σ K E z z2 = WpV (prim .toStr vs σ) fun x => K x.1 x.2 := wpp_other rfl
omit [Aw] in
@[simp] theorem wpu_toStr (d : Nat) (vs : List Value) (σ : H) (K : Value → List Read → Prop) (z : Fz K) : WpU d .toStr vs σ K z = WpV (prim .toStr vs σ) fun x => K x.1 [⟨d, .toStr, vs, x.1⟩] := wpu_read rfl rfl
@[simp] theorem wpp_iface (t : Nat) (vs : List Value) (σ : H) (K E : Value → H → Prop) (z : Fz K) (z2 : Fz E) : WpP (.iface t) vs σ K E z z2 = WpV (prim (.iface t) vs σ) fun x => K x.1 x.2 := wpp_other rfl
omit [Aw] in
@[simp] theorem wpu_iface (t : Nat) (d : Nat) (vs : List Value) (σ : H) (K : Value → List Read → Prop) (z : Fz K) : WpU d (.iface t) vs σ K z = WpV (prim (.iface t) vs σ) fun x => K x.1 [] := wpu_pure rfl rfl
@[simp] theorem wpp_func (f first : Nat) (vs : List Value) (σ : H) (K E : Value → H → Prop) (z : Fz K) (z2 : Fz E) : WpP (.func f first) vs σ K E z z2 = WpV (prim (.func f first) vs σ) fun x => K x.1 x.2 := wpp_other rfl
omit [Aw] in
@[simp] theorem wpu_func (f first : Nat) (d : Nat) (vs : List Value) (σ : H) (K : Value → List Read → Prop) (z : Fz K) : WpU d (.func f first) vs σ K z = WpV (prim (.func f first) vs σ) fun x => K x.1 [] := wpu_pure rfl rfl
@[simp] theorem wpp_newMap (vs : List Value) (σ : H) (K E : Value → H → Prop) (z : Fz K) (z2 : Fz E) : WpP .newMap vs σ K E z z2 = WpV (prim .newMap vs σ) fun x => K x.1 x.2 := wpp_other rfl
@[simp] theorem wpp_newSlice (elem esz bytes : Nat) (zero : List Value) (vs : List Value) (σ : H) (K E : Value → H → Prop) (z : Fz K) (z2 : Fz E) : WpP (.newSlice elem esz bytes zero) vs σ K E z z2 = WpV (prim (.newSlice elem esz bytes zero) vs σ) fun x => K x.1 x.2 := wpp_other rfl
@[simp] theorem wpp_slice (esz : Nat) (lo hi mx : Bool) (vs : List Value) (σ : H) (K E : Value → H → Prop) (z : Fz K) (z2 : Fz E) : WpP (.slice esz lo hi mx) vs σ K E z z2 = WpV (prim (.slice esz lo hi mx) vs σ) fun x => K x.1 x.2 := wpp_other rfl
omit [Aw] in
@[simp] theorem wpu_slice (esz : Nat) (lo hi mx : Bool) (d : Nat) (vs : List Value) (σ : H) (K : Value → List Read → Prop) (z : Fz K) : WpU d (.slice esz lo hi mx) vs σ K z = WpV (prim (.slice esz lo hi mx) vs σ) fun x => K x.1 [] := wpu_pure rfl rfl
@[simp] theorem wpp_fieldAddr (off : Nat) (vs : List Value) (σ : H) (K E : Value → H → Prop) (z : Fz K) (z2 : Fz E) : WpP (.fieldAddr off) vs σ K E z z2 = WpV (prim (.fieldAddr off) vs σ) fun x => K x.1 x.2 := wpp_other rfl
omit [Aw] in
@[simp] theorem wpu_fieldAddr (off : Nat) (d : Nat) (vs : List Value) (σ : H) (K : Value → List Read → Prop) (z : Fz K) : WpU d (.fieldAddr off) vs σ K z = WpV (prim (.fieldAddr off) vs σ) fun x => K x.1 [] := wpu_pure rfl rfl
@[simp] theorem wpp_idxAddr (esz : Nat) (vs : List Value) (σ : H) (K E : Value → H → Prop) (z : Fz K) (z2 : Fz E) : WpP (.idxAddr esz) vs σ K E z z2 = WpV (prim (.idxAddr esz) vs σ) fun x => K x.1 x.2 := wpp_other rfl
omit [Aw] in
@[simp] theorem wpu_idxAddr (esz : Nat) (d : Nat) (vs : List Value) (σ : H) (K : Value → List Read → Prop) (z : Fz K) : WpU d (.idxAddr esz) vs σ K z = WpV (prim (.idxAddr esz) vs σ) fun x => K x.1 [] := wpu_pure rfl rfl
@[simp] theorem wpp_idxAddrA (n esz : Nat) (vs : List Value) (σ : H) (K E : Value → H → Prop) (z : Fz K) (z2 : Fz E) : WpP (.idxAddrA n esz) vs σ K E z z2 = WpV (prim (.idxAddrA n esz) vs σ) fun x => K x.1 x.2 := wpp_other rfl
omit [Aw] in
@[simp] theorem wpu_idxAddrA (n esz : Nat) (d : Nat) (vs : List Value) (σ : H) (K : Value → List Read → Prop) (z : Fz K) : WpU d (.idxAddrA n esz) vs σ K z = WpV (prim (.idxAddrA n esz) vs σ) fun x => K x.1 [] := wpu_pure rfl rfl
@[simp] theorem wpp_field (off : Nat) (agg : Bool) (n : Nat) (vs : List Value) (σ : H) (K E : Value → H → Prop) (z : Fz K) (z2 : Fz E) : WpP (.field off agg n) vs σ K E z z2 = WpV (prim (.field off agg n) vs σ) fun x => K x.1 x.2 := wpp_other rfl
omit [Aw] in
@[simp] theorem wpu_field (off : Nat) (agg : Bool) (n : Nat) (d : Nat) (vs : List Value) (σ : H) (K : Value → List Read → Prop) (z : Fz K) : WpU d (.field off agg n) vs σ K z = WpV (prim (.field off agg n) vs σ) fun x => K x.1 [] := wpu_pure rfl rfl
@[simp] theorem wpp_idx (len esz : Nat) (agg : Bool) (vs : List Value) (σ : H) (K E : Value → H → Prop) (z : Fz K) (z2 : Fz E) : WpP (.idx len esz agg) vs σ K E z z2 = WpV (prim (.idx len esz agg) vs σ) fun x => K x.1 x.2 := wpp_other rfl
omit [Aw] in
@[simp] theorem wpu_idx (len esz : Nat) (agg : Bool) (d : Nat) (vs : List Value) (σ : H) (K : Value → List Read → Prop) (z : Fz K) : WpU d (.idx len esz agg) vs σ K z = WpV (prim (.idx len esz agg) vs σ) fun x => K x.1 [] := wpu_pure rfl rfl
@[simp] theorem wpp_idxStr (vs : List Value) (σ : H) (K E : Value → H → Prop) (z : Fz K) (z2 : Fz E) : WpP .idxStr vs σ K E z z2 = WpV (prim .idxStr vs σ) fun x => K x.1 x.2 := wpp_other rfl
omit [Aw] in
@[simp] theorem wpu_idxStr (d : Nat) (vs : List Value) (σ : H) (K : Value → List Read → Prop) (z : Fz K) : WpU d .idxStr vs σ K z = WpV (prim .idxStr vs σ) fun x => K x.1 [] := wpu_pure rfl rfl
@[simp] theorem wpp_lookup (ks : Option Nat) (zero : Value) (ok : Bool) (vs : List Value) (σ : H) (K E : Value → H → Prop) (z : Fz K) (z2 : Fz E) : WpP (.lookup ks zero ok) vs σ K E z z2 = WpV (prim (.lookup ks zero ok) vs σ) fun x => K x.1 x.2 := wpp_other rfl
omit [Aw] in
@[simp] theorem wpu_lookup (ks : Option Nat) (zero : Value) (ok : Bool) (d : Nat) (vs : List Value) (σ : H) (K : Value → List Read → Prop) (z : Fz K) : WpU d (.lookup ks zero ok) vs σ K z = WpV (prim (.lookup ks zero ok) vs σ) fun x => K x.1 [⟨d, (.lookup ks zero ok), vs, x.1⟩] := wpu_read rfl rfl
@[simp] theorem wpp_mapSet (ks : Option Nat) (vs : List Value) (σ : H) (K E : Value → H → Prop) (z : Fz K) (z2 : Fz E) : WpP (.mapSet ks) vs σ K E z z2 = WpV (prim (.mapSet ks) vs σ) fun x => K x.1 x.2 := wpp_other rfl
@[simp] theorem wpp_assert (t : Nat) (zero : Value) (ok : Bool) (vs : List Value) (σ : H) (K E : Value → H → Prop) (z : Fz K) (z2 : Fz E) : WpP (.assert t zero ok) vs σ K E z z2 = WpV (prim (.assert t zero ok) vs σ) fun x => K x.1 x.2 := wpp_other rfl
omit [Aw] in
@[simp] theorem wpu_assert (t : Nat) (zero : Value) (ok : Bool) (d : Nat) (vs : List Value) (σ : H) (K : Value → List Read → Prop) (z : Fz K) : WpU d (.assert t zero ok) vs σ K z = WpV (prim (.assert t zero ok) vs σ) fun x => K x.1 [] := wpu_pure rfl rfl
@[simp] theorem wpp_extract (i : Nat) (vs : List Value) (σ : H) (K E : Value → H → Prop) (z : Fz K) (z2 : Fz E) : WpP (.extract i) vs σ K E z z2 = WpV (prim (.extract i) vs σ) fun x => K x.1 x.2 := wpp_other rfl
omit [Aw] in
@[simp] theorem wpu_extract (i : Nat) (d : Nat) (vs : List Value) (σ : H) (K : Value → List Read → Prop) (z : Fz K) : WpU d (.extract i) vs σ K z = WpV (prim (.extract i) vs σ) fun x => K x.1 [] := wpu_pure rfl rfl
@[simp] theorem wpp_lenS (vs : List Value) (σ : H) (K E : Value → H → Prop) (z : Fz K) (z2 : Fz E) : WpP .lenS vs σ K E z z2 = WpV (prim .lenS vs σ) fun x => K x.1 x.2 := wpp_other rfl
omit [Aw] in
@[simp] theorem wpu_lenS (d : Nat) (vs : List Value) (σ : H) (K : Value → List Read → Prop) (z : Fz K) : WpU d .lenS vs σ K z = WpV (prim .lenS vs σ) fun x => K x.1 [] := wpu_pure rfl rfl
@[simp] theorem wpp_lenM (vs : List Value) (σ : H) (K E : Value → H → Prop) (z : Fz K) (z2 : Fz E) : WpP .lenM vs σ K E z z2 = WpV (prim .lenM vs σ) fun x => K x.1 x.2 := wpp_other rfl
omit [Aw] in
@[simp] theorem wpu_lenM (d : Nat) (vs : List Value) (σ : H) (K : Value → List Read → Prop) (z : Fz K) : WpU d .lenM vs σ K z = WpV (prim .lenM vs σ) fun x => K x.1 [⟨d, .lenM, vs, x.1⟩] := wpu_read rfl rfl
@[simp] theorem wpp_lenC (n : Nat) (vs : List Value) (σ : H) (K E : Value → H → Prop) (z : Fz K) (z2 : Fz E) : WpP (.lenC n) vs σ K E z z2 = WpV (prim (.lenC n) vs σ) fun x => K x.1 x.2 := wpp_other rfl
omit [Aw] in
@[simp] theorem wpu_lenC (n : Nat) (d : Nat) (vs : List Value) (σ : H) (K : Value → List Read → Prop) (z : Fz K) : WpU d (.lenC n) vs σ K z = WpV (prim (.lenC n) vs σ) fun x => K x.1 [] := wpu_pure rfl rfl
@[simp] theorem wpp_cap (vs : List Value) (σ : H) (K E : Value → H → Prop) (z : Fz K) (z2 : Fz E) : WpP .cap vs σ K E z z2 = WpV (prim .cap vs σ) fun x => K x.1 x.2 := wpp_other rfl
@[simp] theorem wpp_append (elem esz bytes : Nat) (vs : List Value) (σ : H) (K E : Value → H → Prop) (z : Fz K) (z2 : Fz E) : WpP (.append elem esz bytes) vs σ K E z z2 = WpV (prim (.append elem esz bytes) vs σ) fun x => K x.1 x.2 := wpp_other rfl
@[simp] theorem wpp_appendZ (elem esz bytes : Nat) (zero : List Value) (vs : List Value) (σ : H) (K E : Value → H → Prop) (z : Fz K) (z2 : Fz E) : WpP (.appendZ elem esz bytes zero) vs σ K E z z2 = WpV (prim (.appendZ elem esz bytes zero) vs σ) fun x => K x.1 x.2 := wpp_other rfl
@[simp] theorem wpp_copy (esz : Nat) (vs : List Value) (σ : H) (K E : Value → H → Prop) (z : Fz K) (z2 : Fz E) : WpP (.copy esz) vs σ K E z z2 = WpV (prim (.copy esz) vs σ) fun x => K x.1 x.2 := wpp_other rfl
@[simp] theorem wpp_min (vs : List Value) (σ : H) (K E : Value → H → Prop) (z : Fz K) (z2 : Fz E) : WpP .min vs σ K E z z2 = WpV (prim .min vs σ) fun x => K x.1 x.2 := wpp_other rfl
omit [Aw] in
@[simp] theorem wpu_min (d : Nat) (vs : List Value) (σ : H) (K : Value → List Read → Prop) (z : Fz K) : WpU d .min vs σ K z = WpV (prim .min vs σ) fun x => K x.1 [] := wpu_pure rfl rfl
@[simp] theorem wpp_max (vs : List Value) (σ : H) (K E : Value → H → Prop) (z : Fz K) (z2 : Fz E) : WpP .max vs σ K E z z2 = WpV (prim .max vs σ) fun x => K x.1 x.2 := wpp_other rfl
omit [Aw] in
@[simp] theorem wpu_max (d : Nat) (vs : List Value) (σ : H) (K : Value → List Read → Prop) (z : Fz K) : WpU d .max vs σ K z = WpV (prim .max vs σ) fun x => K x.1 [] := wpu_pure rfl rfl
@[simp] theorem wpp_clearM (vs : List Value) (σ : H) (K E : Value → H → Prop) (z : Fz K) (z2 : Fz E) : WpP .clearM vs σ K E z z2 = WpV (prim .clearM vs σ) fun x => K x.1 x.2 := wpp_other rfl
@[simp] theorem wpp_clearS (zero : List Value) (vs : List Value) (σ : H) (K E : Value → H → Prop) (z : Fz K) (z2 : Fz E) : WpP (.clearS zero) vs σ K E z z2 = WpV (prim (.clearS zero) vs σ) fun x => K x.1 x.2 := wpp_other rfl
@[simp] theorem wpp_delete (ks : Option Nat) (vs : List Value) (σ : H) (K E : Value → H → Prop) (z : Fz K) (z2 : Fz E) : WpP (.delete ks) vs σ K E z z2 = WpV (prim (.delete ks) vs σ) fun x => K x.1 x.2 := wpp_other rfl
@[simp] theorem wpp_arrPtr (n : Nat) (vs : List Value) (σ : H) (K E : Value → H → Prop) (z : Fz K) (z2 : Fz E) : WpP (.arrPtr n) vs σ K E z z2 = WpV (prim (.arrPtr n) vs σ) fun x => K x.1 x.2 := wpp_other rfl
omit [Aw] in
@[simp] theorem wpu_arrPtr (n : Nat) (d : Nat) (vs : List Value) (σ : H) (K : Value → List Read → Prop) (z : Fz K) : WpU d (.arrPtr n) vs σ K z = WpV (prim (.arrPtr n) vs σ) fun x => K x.1 [] := wpu_pure rfl rfl
@[simp] theorem wpp_f64bits (vs : List Value) (σ : H) (K E : Value → H → Prop) (z : Fz K) (z2 : Fz E) : WpP .f64bits vs σ K E z z2 = WpV (prim .f64bits vs σ) fun x => K x.1 x.2 := wpp_other rfl
omit [Aw] in
@[simp] theorem wpu_f64bits (d : Nat) (vs : List Value) (σ : H) (K : Value → List Read → Prop) (z : Fz K) : WpU d .f64bits vs σ K z = WpV (prim .f64bits vs σ) fun x => K x.1 [] := wpu_pure rfl rfl
@[simp] theorem wpp_f64from (vs : List Value) (σ : H) (K E : Value → H → Prop) (z : Fz K) (z2 : Fz E) : WpP .f64from vs σ K E z z2 = WpV (prim .f64from vs σ) fun x => K x.1 x.2 := wpp_other rfl
omit [Aw] in
@[simp] theorem wpu_f64from (d : Nat) (vs : List Value) (σ : H) (K : Value → List Read → Prop) (z : Fz K) : WpU d .f64from vs σ K z = WpV (prim .f64from vs σ) fun x => K x.1 [] := wpu_pure rfl rfl
@[simp] theorem wpp_mapsClone (vs : List Value) (σ : H) (K E : Value → H → Prop) (z : Fz K) (z2 : Fz E) : WpP .mapsClone vs σ K E z z2 = WpV (prim .mapsClone vs σ) fun x => K x.1 x.2 := wpp_other rfl
end
section
variable (σ : H) (x y : Value) (vs : List Value)
@[simp] theorem prim_move : prim .move [x] σ = some (x, σ) := by exact (Eq.refl _).trans rfl
@[simp] theorem prim_pick (c : Bool) : prim .pick [.bool c, x, y] σ = some (bif c then x else y, σ) := by cases c <;> rfl
@[simp] theorem prim_new (elem esz : Nat) (z : List Value) : prim (.new elem esz z) [] σ = some (.pointer (some ⟨σ.next, 0, none⟩), σ.push (.cells z elem esz .exact)) := by exact (Eq.refl _).trans rfl
@[simp] theorem prim_box (elem esz : Nat) : prim (.box elem esz) [x] σ = if (cellsOf x).length = esz ∧ (cellsOf x).all cellOk = true then some (.pointer (some ⟨σ.next, 0, none⟩), σ.push (.cells (cellsOf x) elem esz .exact)) else none := by
  simp only [prim, pBox, nbeq]
  by_cases h1 : (cellsOf x).length = esz <;> cases h2 : (cellsOf x).all cellOk <;> simp [h1]
@[simp] theorem prim_build (z : List Value) (pl : List (Nat × Nat)) : prim (.build z pl) vs σ = (fillL z pl vs).map fun c => (.agg ⟨c⟩, σ) := by
  simp only [prim, pBuild]
  cases fillL z pl vs <;> rfl
@[simp] theorem prim_buildSlice (elem esz len : Nat) (z : List Value) (pl : List (Nat × Nat)) : prim (.buildSlice elem esz len z pl) vs σ = (fillL z pl vs).bind fun c => if c.all cellOk = true then some (.slice (some ⟨σ.next, 0, none⟩) len len, σ.push (.cells c elem esz .exact)) else none := by
  simp only [prim, pBuildSlice]
  cases fillL z pl vs with
  | none => rfl
  | some c => cases h : c.all cellOk <;> simp [-List.all_eq_true, h]
@[simp] theorem prim_load1 (b o n : Nat) : prim (.load false n) [.pointer (some ⟨b, o, none⟩)] σ = (cellAt (σ.get b) o).map fun v => (v, σ) := by
  simp only [prim, pLoad, rdCells_eq, cutAt, cellAt]
  cases σ.get b with
  | none => rfl
  | some ob =>
    cases ob with
    | cells c e s m =>
      simp only
      by_cases h : o + 1 ≤ c.length
      · have hlt : o < c.length := by omega
        have : (c.drop o).take 1 = [c[o]] := by rw [List.drop_eq_getElem_cons hlt]; rfl
        simp [h, this, hlt]
      · simp [h, List.getElem?_eq_none (show c.length ≤ o by omega)]
    | map es clk => rfl
    | dead => rfl
@[simp] theorem prim_loadN (b o n : Nat) : prim (.load true n) [.pointer (some ⟨b, o, none⟩)] σ = (cutAt (σ.get b) o n).map fun c => (.agg ⟨c⟩, σ) := by
  simp only [prim, pLoad, rdCells_eq]
  cases cutAt (σ.get b) o n <;> rfl
theorem prim_store (b o n : Nat) : prim (.store n) [.pointer (some ⟨b, o, none⟩), x] σ = if (cellsOf x).length = n then (layAt (σ.get b) o (cellsOf x)).map fun ob => (.tuple #[], σ.put b ob) else none := by
  simp only [prim, pStore, nbeq, wrCells_eq]
  by_cases h : (cellsOf x).length = n
  · rw [decide_eq_true h, if_pos h]
    cases layAt (σ.get b) o (cellsOf x) <;> rfl
  · rw [decide_eq_false h, if_neg h]
theorem cellsOf_one (h : cellOk x = true) : cellsOf x = [x] := by cases x <;> simp_all [cellOk, cellsOf]
/-- A store of one cell. -/
theorem prim_store1 (b o : Nat) (h : cellOk x = true) : prim (.store 1) [.pointer (some ⟨b, o, none⟩), x] σ = (setAt (σ.get b) o x).map fun ob => (.tuple #[], σ.put b ob) := by
  rw [prim_store, cellsOf_one x h]
  simp [layAt_one]
@[simp] theorem prim_store_int (b o : Nat) (k : IntKind) (n : Int) : prim (.store 1) [.pointer (some ⟨b, o, none⟩), .int k n] σ = (setAt (σ.get b) o (.int k n)).map fun ob => (.tuple #[], σ.put b ob) := prim_store1 _ _ _ _ rfl
@[simp] theorem prim_store_bool (b o : Nat) (t : Bool) : prim (.store 1) [.pointer (some ⟨b, o, none⟩), .bool t] σ = (setAt (σ.get b) o (.bool t)).map fun ob => (.tuple #[], σ.put b ob) := prim_store1 _ _ _ _ rfl
@[simp] theorem prim_store_ptr (b o : Nat) (a : Option Addr) : prim (.store 1) [.pointer (some ⟨b, o, none⟩), .pointer a] σ = (setAt (σ.get b) o (.pointer a)).map fun ob => (.tuple #[], σ.put b ob) := prim_store1 _ _ _ _ rfl
@[simp] theorem prim_store_slice (b o : Nat) (a : Option Addr) (n c : Nat) : prim (.store 1) [.pointer (some ⟨b, o, none⟩), .slice a n c] σ = (setAt (σ.get b) o (.slice a n c)).map fun ob => (.tuple #[], σ.put b ob) := prim_store1 _ _ _ _ rfl
@[simp] theorem prim_store_map (b o : Nat) (a : Option Nat) : prim (.store 1) [.pointer (some ⟨b, o, none⟩), .map a] σ = (setAt (σ.get b) o (.map a)).map fun ob => (.tuple #[], σ.put b ob) := prim_store1 _ _ _ _ rfl
@[simp] theorem prim_store_float (b o : Nat) (k : FloatKind) (a : Nat) : prim (.store 1) [.pointer (some ⟨b, o, none⟩), .float k a] σ = (setAt (σ.get b) o (.float k a)).map fun ob => (.tuple #[], σ.put b ob) := prim_store1 _ _ _ _ rfl
@[simp] theorem prim_storeN (b o n : Nat) (cs : List Value) : prim (.store n) [.pointer (some ⟨b, o, none⟩), .agg ⟨cs⟩] σ = if cs.length = n then (layAt (σ.get b) o cs).map fun ob => (.tuple #[], σ.put b ob) else none := prim_store _ _ _ _ _
@[simp] theorem prim_nilCheck (a : Addr) : prim .nilCheck [.pointer (some a)] σ = some (.pointer (some a), σ) := by exact (Eq.refl _).trans rfl
@[simp] theorem prim_nilCheckI (t : Nat) : prim .nilCheck [.iface t x] σ = some (.iface t x, σ) := by exact (Eq.refl _).trans rfl
@[simp] theorem prim_isNilP (a : Option Addr) (neg : Bool) : prim (.isNil .ptr neg) [.pointer a] σ = some (.bool (negB neg a.isNone), σ) := by exact (Eq.refl _).trans rfl
@[simp] theorem prim_isNilS (a : Option Addr) (n c : Nat) (neg : Bool) : prim (.isNil .slice neg) [.slice a n c] σ = some (.bool (negB neg a.isNone), σ) := by exact (Eq.refl _).trans rfl
@[simp] theorem prim_isNilM (a : Option Nat) (neg : Bool) : prim (.isNil .map neg) [.map a] σ = some (.bool (negB neg a.isNone), σ) := by exact (Eq.refl _).trans rfl
@[simp] theorem prim_isNilF (neg : Bool) : prim (.isNil .func neg) [.nilFunc] σ = some (.bool (negB neg true), σ) := by exact (Eq.refl _).trans rfl
@[simp] theorem prim_isNilF2 (f : Fn) (a b : Array Value) (neg : Bool) : prim (.isNil .func neg) [.func f a b] σ = some (.bool (negB neg false), σ) := by exact (Eq.refl _).trans rfl
@[simp] theorem prim_isNilI (neg : Bool) : prim (.isNil .iface neg) [.nilIface] σ = some (.bool (negB neg true), σ) := by exact (Eq.refl _).trans rfl
@[simp] theorem prim_isNilI2 (t : Nat) (neg : Bool) : prim (.isNil .iface neg) [.iface t x] σ = some (.bool (negB neg false), σ) := by exact (Eq.refl _).trans rfl
@[simp] theorem negB_t (b : Bool) : negB true b = !b := by exact (Eq.refl _).trans rfl
@[simp] theorem negB_f (b : Bool) : negB false b = b := by exact (Eq.refl _).trans rfl
variable (k k' : IntKind) (a b : Int)
theorem sameK_self : sameK k k = true := by cases k <;> rfl
@[simp] theorem prim_add : prim (.bin .add) [.int k a, .int k b] σ = some (.int k (k.wrap (a + b)), σ) := by simp [prim, pBin, binV, sameK_self, binI, wrapI_eq]
@[simp] theorem prim_sub : prim (.bin .sub) [.int k a, .int k b] σ = some (.int k (k.wrap (a - b)), σ) := by simp [prim, pBin, binV, sameK_self, binI, wrapI_eq]; rfl
@[simp] theorem prim_mul : prim (.bin .mul) [.int k a, .int k b] σ = some (.int k (k.wrap (a * b)), σ) := by simp [prim, pBin, binV, sameK_self, binI, wrapI_eq]
@[simp] theorem prim_lss : prim (.bin .lss) [.int k a, .int k b] σ = some (.bool (decide (a < b)), σ) := by simp [prim, pBin, binV, sameK_self, binI, ltI_eq]
@[simp] theorem prim_leq : prim (.bin .leq) [.int k a, .int k b] σ = some (.bool (decide (a ≤ b)), σ) := by
  have : (!decide (b < a)) = decide (a ≤ b) := by by_cases h : b < a <;> simp [h] <;> omega
  simp only [prim, pBin, binV, sameK_self, binI, ltI_eq, this]
@[simp] theorem prim_gtr : prim (.bin .gtr) [.int k a, .int k b] σ = some (.bool (decide (b < a)), σ) := by simp [prim, pBin, binV, sameK_self, binI, ltI_eq]
@[simp] theorem prim_geq : prim (.bin .geq) [.int k a, .int k b] σ = some (.bool (decide (b ≤ a)), σ) := by
  have : (!decide (a < b)) = decide (b ≤ a) := by by_cases h : a < b <;> simp [h] <;> omega
  simp only [prim, pBin, binV, sameK_self, binI, ltI_eq, this]
@[simp] theorem prim_eql : prim (.bin .eql) [.int k a, .int k b] σ = some (.bool (decide (a = b)), σ) := by simp [prim, pBin, binV, sameK_self, binI, eqI_eq]
@[simp] theorem prim_neq : prim (.bin .neq) [.int k a, .int k b] σ = some (.bool (!decide (a = b)), σ) := by simp [prim, pBin, binV, sameK_self, binI, eqI_eq]
@[simp] theorem prim_quo (h : b ≠ 0) : prim (.bin .quo) [.int k a, .int k b] σ = some (.int k (k.wrap (a.tdiv b)), σ) := by simp [prim, pBin, binV, sameK_self, binI, eqI_eq, h, wrapI_eq, divI_eq]
@[simp] theorem prim_rem (h : b ≠ 0) : prim (.bin .rem) [.int k a, .int k b] σ = some (.int k (a.tmod b), σ) := by simp [prim, pBin, binV, sameK_self, binI, eqI_eq, h, remI_eq]
@[simp] theorem prim_shl (h : 0 ≤ b) : prim (.bin .shl) [.int k a, .int k' b] σ = some (.int k (k.wrap (a * 2 ^ (Nat.min b.toNat k.bits))), σ) := by
  have : ¬ b < 0 := by omega
  simp [prim, pBin, binV, shiftI, ltI_eq, this, shlI_eq, shiftN_eq]
@[simp] theorem prim_shr (h : 0 ≤ b) : prim (.bin .shr) [.int k a, .int k' b] σ = some (.int k (a.fdiv (2 ^ (Nat.min b.toNat k.bits))), σ) := by
  have : ¬ b < 0 := by omega
  simp [prim, pBin, binV, shiftI, ltI_eq, this, shrI_eq, shiftN_eq]
@[simp] theorem prim_toInt : prim (.toInt k') [.int k a] σ = some (.int k' (k'.wrap a), σ) := by simp [prim, pToInt, wrapI_eq]
@[simp] theorem prim_not (t : Bool) : prim (.un .not) [.bool t] σ = some (.bool !t, σ) := by exact (Eq.refl _).trans rfl
@[simp] theorem prim_neg : prim (.un .neg) [.int k a] σ = some (.int k (k.wrap (-a)), σ) := by
  have : Int.sub 0 a = -a := by show 0 - a = -a; omega
  simp [prim, pUn, unV, wrapI_eq, this]
@[simp] theorem prim_eqBool (neg s t : Bool) : prim (.eqBool neg) [.bool s, .bool t] σ = some (.bool (negB neg (s == t)), σ) := by exact (Eq.refl _).trans rfl
@[simp] theorem prim_eqStr (neg : Bool) (s t : ByteArray) : prim (.eqStr neg) [.string s, .string t] σ = some (.bool (negB neg (s.data.toList == t.data.toList)), σ) := by exact (Eq.refl _).trans rfl
@[simp] theorem prim_iface (t : Nat) : prim (.iface t) [x] σ = some (.iface t x, σ) := by exact (Eq.refl _).trans rfl
@[simp] theorem prim_func (f n : Nat) : prim (.func f n) vs σ = some (.func (.func f) ⟨vs.take n⟩ ⟨vs.drop n⟩, σ) := by exact (Eq.refl _).trans rfl
@[simp] theorem prim_newMap : prim .newMap [] σ = some (.map (some σ.next), σ.push (.map [] 0)) := by exact (Eq.refl _).trans rfl
@[simp] theorem prim_fieldAddr (off bl o : Nat) : prim (.fieldAddr off) [.pointer (some ⟨bl, o, none⟩)] σ = some (.pointer (some ⟨bl, o + off, none⟩), σ) := by exact (Eq.refl _).trans rfl
theorem prim_idxAddr (esz : Nat) (bl o n c : Nat) (i : Int) (h0 : 0 ≤ i) (h1 : i < n) : prim (.idxAddr esz) [.slice (some ⟨bl, o, none⟩) n c, .int k i] σ = some (.pointer (some ⟨bl, o + i.toNat * esz, none⟩), σ) := by
  have : ¬ i < 0 := by omega
  simp [prim, pIdxAddr, ltI_eq, this, h1]
@[simp] theorem prim_idxAddrN (esz : Nat) (bl o n c i : Nat) (h1 : i < n) : prim (.idxAddr esz) [.slice (some ⟨bl, o, none⟩) n c, .int k (i : Int)] σ = some (.pointer (some ⟨bl, o + i * esz, none⟩), σ) := by
  rw [prim_idxAddr _ _ _ _ _ _ _ _ (by omega) (by omega)]; simp
theorem prim_idxAddrA (n esz : Nat) (bl o : Nat) (i : Int) (h0 : 0 ≤ i) (h1 : i < n) : prim (.idxAddrA n esz) [.pointer (some ⟨bl, o, none⟩), .int k i] σ = some (.pointer (some ⟨bl, o + i.toNat * esz, none⟩), σ) := by
  have : ¬ i < 0 := by omega
  simp [prim, pIdxAddrA, ltI_eq, this, h1]
@[simp] theorem prim_idxAddrAN (n esz : Nat) (bl o i : Nat) (h1 : i < n) : prim (.idxAddrA n esz) [.pointer (some ⟨bl, o, none⟩), .int k (i : Int)] σ = some (.pointer (some ⟨bl, o + i * esz, none⟩), σ) := by
  rw [prim_idxAddrA _ _ _ _ _ _ _ (by omega) (by omega)]; simp
@[simp] theorem prim_idxAddrA0 (n esz : Nat) (bl o i : Nat) (h1 : i < n) : prim (.idxAddrA n esz) [.pointer (some ⟨bl, o, none⟩), .int k (OfNat.ofNat i)] σ = some (.pointer (some ⟨bl, o + i * esz, none⟩), σ) := prim_idxAddrAN _ _ _ _ _ _ _ h1
@[simp] theorem prim_field1 (off n : Nat) (c : List Value) : prim (.field off false n) [.agg ⟨c⟩] σ = (c[off]?).map fun v => (v, σ) := by
  have : ∀ (l : List Value) (i : Nat), lget l i = l[i]? := by
    intro l
    induction l with
    | nil => intro i; simp [lget]
    | cons v r ih => intro i; cases i <;> simp [lget, ih]
  simp only [prim, pField, this]
  cases c[off]? <;> rfl
@[simp] theorem prim_fieldN (off n : Nat) (c : List Value) : prim (.field off true n) [.agg ⟨c⟩] σ = if off + n ≤ c.length then some (.agg ⟨(c.drop off).take n⟩, σ) else none := by
  simp only [prim, pField, lcut_eq']
  split <;> rename_i h <;> split at h <;> simp_all
@[simp] theorem prim_extract (i : Nat) : prim (.extract i) [.tuple ⟨vs⟩] σ = (vs[i]?).map fun v => (v, σ) := by
  have : ∀ (l : List Value) (i : Nat), lget l i = l[i]? := by
    intro l
    induction l with
    | nil => intro i; simp [lget]
    | cons v r ih => intro i; cases i <;> simp [lget, ih]
  simp only [prim, pExtract, this]
  cases vs[i]? <;> rfl
@[simp] theorem prim_assert_ok (t : Nat) (z : Value) : prim (.assert t z true) [.iface t x] σ = some (.tuple #[x, .bool true], σ) := by simp [prim, pAssert]
@[simp] theorem prim_assert_no (t u : Nat) (h : u ≠ t) (z : Value) : prim (.assert t z true) [.iface u x] σ = some (.tuple #[z, .bool false], σ) := by
  have : Nat.beq u t = false := by rw [nbeq, decide_eq_false h]
  simp [prim, pAssert, this]
@[simp] theorem prim_assert1 (t : Nat) (z : Value) : prim (.assert t z false) [.iface t x] σ = some (x, σ) := by simp [prim, pAssert]
@[simp] theorem prim_lenS (p : Option Addr) (n c : Nat) : prim .lenS [.slice p n c] σ = some (.int .i64 n, σ) := by exact (Eq.refl _).trans rfl
@[simp] theorem prim_lenC (n : Nat) : prim (.lenC n) [x] σ = some (.int .i64 n, σ) := by exact (Eq.refl _).trans rfl
@[simp] theorem prim_min : prim .min [.int k a, .int k' b] σ = some (.int k (min a b), σ) := by
  simp only [prim, pMin, ltI_eq]
  by_cases h : b < a
  · rw [decide_eq_true h]; simp only []; rw [Int.min_eq_right (by omega)]
  · rw [decide_eq_false h]; simp only []; rw [Int.min_eq_left (by omega)]
@[simp] theorem prim_max : prim .max [.int k a, .int k' b] σ = some (.int k (max a b), σ) := by
  simp only [prim, pMax, ltI_eq]
  by_cases h : a < b
  · rw [decide_eq_true h]; simp only []; rw [Int.max_eq_right (by omega)]
  · rw [decide_eq_false h]; simp only []; rw [Int.max_eq_left (by omega)]
@[simp] theorem prim_f64bits (n : Nat) : prim .f64bits [.float .f64 n] σ = some (.int .u64 n, σ) := by exact (Eq.refl _).trans rfl
end

/-! ### Numbers -/
theorem wrap64 {x : Int} (h : -9223372036854775808 ≤ x) (h2 : x < 9223372036854775808) : IntKind.i64.wrap x = x := by simp [IntKind.wrap, IntKind.bits, IntKind.signed]; omega
theorem wrapU8 (x : Int) : IntKind.u8.wrap x = x % 256 := by simp [IntKind.wrap, IntKind.bits, IntKind.signed]
theorem wrapU16 (x : Int) : IntKind.u16.wrap x = x % 65536 := by simp [IntKind.wrap, IntKind.bits, IntKind.signed]
theorem wrapU32 (x : Int) : IntKind.u32.wrap x = x % 4294967296 := by simp [IntKind.wrap, IntKind.bits, IntKind.signed]
theorem wrapU64 (x : Int) : IntKind.u64.wrap x = x % 18446744073709551616 := by simp [IntKind.wrap, IntKind.bits, IntKind.signed]
section
variable (σ : H) (k : IntKind) (a b : Nat)
def lim : IntKind → Nat := limit
@[simp 2000] theorem prim_and (ha : a < limit k) (hb : b < limit k) : prim (.bin .and) [.int k a, .int k b] σ = some (.int k ((a &&& b : Nat) : Int), σ) := by
  simp [prim, pBin, binV, sameK_self, binI, bitI, nblt, ha, hb]
@[simp 2000] theorem prim_or (ha : a < limit k) (hb : b < limit k) : prim (.bin .or) [.int k a, .int k b] σ = some (.int k ((a ||| b : Nat) : Int), σ) := by
  simp [prim, pBin, binV, sameK_self, binI, bitI, nblt, ha, hb]
@[simp 2000] theorem prim_xor (ha : a < limit k) (hb : b < limit k) : prim (.bin .xor) [.int k a, .int k b] σ = some (.int k ((a ^^^ b : Nat) : Int), σ) := by
  simp [prim, pBin, binV, sameK_self, binI, bitI, nblt, ha, hb]
theorem prim_compl32 (ha : a < 4294967296) : prim (.un .xor) [.int .u32 a] σ = some (.int .u32 ((a ^^^ 4294967295 : Nat) : Int), σ) := by
  have : a < limit .u32 := ha
  have h2 : (4294967295 : Nat) < limit .u32 := by decide
  have h3 : IntKind.u32.max = Int.ofNat 4294967295 := rfl
  simp only [prim, pUn, unV, IntKind.signed, Bool.false_eq_true, if_false, h3]
  show some (Value.int .u32 (bitI .u32 Nat.xor _ (Int.ofNat a) (Int.ofNat 4294967295)), σ) = _
  simp only [bitI, nblt, this, h2, decide_true, Bool.and_self]
  rfl
end
section
variable (σ : H) (k k' : IntKind) (a b : Nat)
@[simp] theorem signed_u8 : IntKind.u8.signed = false := by decide
@[simp] theorem signed_u16 : IntKind.u16.signed = false := by decide
@[simp] theorem signed_u32 : IntKind.u32.signed = false := by decide
@[simp] theorem signed_u64 : IntKind.u64.signed = false := by decide
@[simp] theorem bits_i64 : IntKind.i64.bits = 64 := by decide
@[simp] theorem bits_u8 : IntKind.u8.bits = 8 := by decide
@[simp] theorem bits_u16 : IntKind.u16.bits = 16 := by decide
@[simp] theorem bits_u32 : IntKind.u32.bits = 32 := by decide
@[simp] theorem bits_u64 : IntKind.u64.bits = 64 := by decide
@[simp] theorem limit_i64 : limit .i64 = 9223372036854775808 := by decide
@[simp] theorem limit_u8 : limit .u8 = 256 := by decide
@[simp] theorem limit_u16 : limit .u16 = 65536 := by decide
@[simp] theorem limit_u32 : limit .u32 = 4294967296 := by decide
@[simp] theorem limit_u64 : limit .u64 = 18446744073709551616 := by decide
theorem wrapU8N : IntKind.u8.wrap (a : Int) = ((a % 256 : Nat) : Int) := by rw [wrapU8]; omega
theorem wrapU16N : IntKind.u16.wrap (a : Int) = ((a % 65536 : Nat) : Int) := by rw [wrapU16]; omega
theorem wrapU32N : IntKind.u32.wrap (a : Int) = ((a % 4294967296 : Nat) : Int) := by rw [wrapU32]; omega
theorem wrapU64N : IntKind.u64.wrap (a : Int) = ((a % 18446744073709551616 : Nat) : Int) := by rw [wrapU64]; omega
/-- The lowest bits. -/
noncomputable def md (k : IntKind) (a : Nat) : Nat := Classical.choose (⟨a % 2 ^ k.bits, rfl⟩ : ∃ n, n = a % 2 ^ k.bits)
theorem md_eq : md k a = a % 2 ^ k.bits := Classical.choose_spec (⟨a % 2 ^ k.bits, rfl⟩ : ∃ n, n = a % 2 ^ k.bits)
theorem md8 : md .u8 a = a % 256 := by rw [md_eq]; rfl
theorem md16 : md .u16 a = a % 65536 := by rw [md_eq]; rfl
theorem md32 : md .u32 a = a % 4294967296 := by rw [md_eq]; rfl
theorem md64 : md .u64 a = a % 18446744073709551616 := by rw [md_eq]; rfl
theorem md_lt : md k a < 2 ^ k.bits := by rw [md_eq]; exact Nat.mod_lt _ (Nat.pow_pos (by decide))
@[simp] theorem md_id (h : a < 2 ^ k.bits) : md k a = a := by rw [md_eq]; exact Nat.mod_eq_of_lt h
@[simp] theorem md_u8 (b : UInt8) : md .u8 b.toNat = b.toNat := by rw [md8]; have := UInt8.toNat_lt b; omega
@[simp] theorem md_lt8 : md .u8 a < 256 := by rw [md8]; omega
@[simp] theorem md_lt16 : md .u16 a < 65536 := by rw [md16]; omega
@[simp] theorem md_lt32 : md .u32 a < 4294967296 := by rw [md32]; omega
@[simp] theorem md_lt64 : md .u64 a < 18446744073709551616 := by rw [md64]; omega
theorem wrap_md (h : k.signed = false) : k.wrap (a : Int) = (md k a : Nat) := by
  cases k <;> simp [IntKind.signed] at h
  · rw [md8]; exact wrapU8N a
  · rw [md16]; exact wrapU16N a
  · rw [md32]; exact wrapU32N a
  · rw [md64]; exact wrapU64N a
@[simp high] theorem prim_toU8 : prim (.toInt .u8) [.int k (a : Int)] σ = some (.int .u8 (md .u8 a : Nat), σ) := by rw [prim_toInt, wrap_md _ _ rfl]
@[simp high] theorem prim_toU16 : prim (.toInt .u16) [.int k (a : Int)] σ = some (.int .u16 (md .u16 a : Nat), σ) := by rw [prim_toInt, wrap_md _ _ rfl]
@[simp high] theorem prim_toU32 : prim (.toInt .u32) [.int k (a : Int)] σ = some (.int .u32 (md .u32 a : Nat), σ) := by rw [prim_toInt, wrap_md _ _ rfl]
@[simp high] theorem prim_toU64 : prim (.toInt .u64) [.int k (a : Int)] σ = some (.int .u64 (md .u64 a : Nat), σ) := by rw [prim_toInt, wrap_md _ _ rfl]
theorem wrap64N (h : a < 9223372036854775808) : IntKind.i64.wrap (a : Int) = a := wrap64 (by omega) (by omega)
/-- Shifts by numbers of the text. -/
@[simp high] theorem prim_shlN (b : Int) (h0 : 0 ≤ b) (h : b.toNat ≤ k.bits) (hk : k.signed = false) : prim (.bin .shl) [.int k (a : Int), .int k' b] σ = some (.int k (md k (a * 2 ^ b.toNat) : Nat), σ) := by
  rw [← wrap_md _ _ hk, prim_shl _ _ _ _ _ h0]
  have : Nat.min b.toNat k.bits = b.toNat := Nat.min_eq_left h
  rw [this]
  simp
@[simp high] theorem prim_shrN (b : Int) (h0 : 0 ≤ b) (h : b.toNat ≤ k.bits) : prim (.bin .shr) [.int k (a : Int), .int k' b] σ = some (.int k ((a / 2 ^ b.toNat : Nat) : Int), σ) := by
  rw [prim_shr _ _ _ _ _ h0]
  have : Nat.min b.toNat k.bits = b.toNat := Nat.min_eq_left h
  rw [this, Int.fdiv_eq_ediv_of_nonneg _ (by exact Int.pow_nonneg (by decide))]
  simp
/-- Shifts by numbers. -/
theorem prim_shlV (h : b ≤ k.bits) (hk : k.signed = false) : prim (.bin .shl) [.int k (a : Int), .int k' (b : Int)] σ = some (.int k (md k (a * 2 ^ b) : Nat), σ) := by
  rw [← wrap_md _ _ hk]
  rw [prim_shl _ _ _ _ _ (by omega)]
  have : Nat.min (b : Int).toNat k.bits = b := by
    show Nat.min b k.bits = b
    exact Nat.min_eq_left h
  rw [this]
  simp
theorem prim_shrV (h : b ≤ k.bits) : prim (.bin .shr) [.int k (a : Int), .int k' (b : Int)] σ = some (.int k ((a / 2 ^ b : Nat) : Int), σ) := by
  rw [prim_shr _ _ _ _ _ (by omega)]
  have : Nat.min (b : Int).toNat k.bits = b := by
    show Nat.min b k.bits = b
    exact Nat.min_eq_left h
  rw [this, Int.fdiv_eq_ediv_of_nonneg _ (by exact Int.pow_nonneg (by decide))]
  simp
@[simp high] theorem prim_andL (b : Int) (ha : a < limit k) (h0 : 0 ≤ b) (hb : b.toNat < limit k) : prim (.bin .and) [.int k (a : Int), .int k b] σ = some (.int k ((a &&& b.toNat : Nat) : Int), σ) := by
  obtain ⟨n, rfl⟩ := Int.eq_ofNat_of_zero_le h0
  exact prim_and σ k a n ha hb
@[simp high] theorem prim_orL (b : Int) (ha : a < limit k) (h0 : 0 ≤ b) (hb : b.toNat < limit k) : prim (.bin .or) [.int k (a : Int), .int k b] σ = some (.int k ((a ||| b.toNat : Nat) : Int), σ) := by
  obtain ⟨n, rfl⟩ := Int.eq_ofNat_of_zero_le h0
  exact prim_or σ k a n ha hb
@[simp high] theorem prim_xorL (b : Int) (ha : a < limit k) (h0 : 0 ≤ b) (hb : b.toNat < limit k) : prim (.bin .xor) [.int k (a : Int), .int k b] σ = some (.int k ((a ^^^ b.toNat : Nat) : Int), σ) := by
  obtain ⟨n, rfl⟩ := Int.eq_ofNat_of_zero_le h0
  exact prim_xor σ k a n ha hb
end
theorem u8_lt (b : UInt8) : b.toNat < 256 := UInt8.toNat_lt b
@[simp] theorem u8_lt256 (b : UInt8) : b.toNat < 256 := UInt8.toNat_lt b
@[simp] theorem u8_lt32 (b : UInt8) : b.toNat < 4294967296 := Nat.lt_trans (UInt8.toNat_lt b) (by decide)
@[simp] theorem u8_lt64 (b : UInt8) : b.toNat < 18446744073709551616 := Nat.lt_trans (UInt8.toNat_lt b) (by decide)
@[simp] theorem u8_lti (b : UInt8) : b.toNat < 9223372036854775808 := Nat.lt_trans (UInt8.toNat_lt b) (by decide)
@[simp] theorem u8_mod8 (b : UInt8) : b.toNat % 256 = b.toNat := Nat.mod_eq_of_lt (u8_lt b)
@[simp] theorem u8_mod32 (b : UInt8) : b.toNat % 4294967296 = b.toNat := Nat.mod_eq_of_lt (u8_lt32 b)
@[simp] theorem u8_mod64 (b : UInt8) : b.toNat % 18446744073709551616 = b.toNat := Nat.mod_eq_of_lt (u8_lt64 b)
@[simp] theorem u8_wrapi (b : UInt8) : IntKind.i64.wrap (b.toNat : Int) = b.toNat := wrap64N _ (u8_lti b)
@[simp] theorem neqN (a : Nat) (n : Nat) : (((a : Int) = OfNat.ofNat n) ↔ a = n) := by
  constructor
  · intro h; exact Int.ofNat.inj h
  · rintro rfl; rfl
end AM
end Go.Proofs.YtlelihddjacplaaGreat
