/- The walk: code, functions. -/
import Derived.Test.YtdbbkaeoinalpaaGreatWp2
set_option linter.unusedVariables false
namespace Go.Proofs.YtdbbkaeoinalpaaGreat
namespace AM
variable [Aw]

omit [Aw] in
theorem wpQ_sound {σ : H} : ∀ (q : List Op) (rs : List Read) (e : Env) (K : List Read → Env → Prop), WpQ q rs e σ K → ∃ rs1 e1, runQ rs q e σ = some (rs1, e1) ∧ K rs1 e1
  | [], rs, e, K, h => ⟨rs, e, rfl, h⟩
  | o :: os, rs, e, K, h => by
    obtain ⟨b, hb, h⟩ := h
    cases b with
    | false =>
      obtain ⟨rs1, e1, h1, h2⟩ := wpQ_sound os rs _ K h
      refine ⟨rs1, e1, ?_, h2⟩
      simp only [runQ, hb]; exact h1
    | true =>
      obtain ⟨vs, hv, h⟩ := h
      cases hq : quietP o.p with
      | false => rw [hq] at h; exact h.elim
      | true =>
        rw [hq] at h
        obtain ⟨⟨v, σx⟩, hp, h⟩ := h
        cases hr : readsHeap o.p with
        | true =>
          rw [hr] at h
          obtain ⟨rs1, e1, h1, h2⟩ := wpQ_sound os _ _ K h
          refine ⟨rs1, e1, ?_, h2⟩
          simp only [runQ, hb, hv, hq, hp, hr]; exact h1
        | false =>
          rw [hr] at h
          obtain ⟨rs1, e1, h1, h2⟩ := wpQ_sound os _ _ K h
          refine ⟨rs1, e1, ?_, h2⟩
          simp only [runQ, hb, hv, hq, hp, hr]; exact h1
theorem wpD_sound {e0 : Env} {ds : List Nat} : ∀ (ss : List Seg) (rs : List Read) (e : Env) (σ : H) (Q : QC), WpD e0 ds ss rs e σ Q → WpS e0 ds ss rs e σ Q
  | [], rs, e, σ, Q, h => ⟨0, _, _, _, rfl, h⟩
  | s :: ss, rs, e, σ, Q, h => by
    obtain ⟨rs1, e1, hq, h⟩ := wpQ_sound _ _ _ _ h
    cases he : s.e with
    | none =>
      rw [he] at h
      obtain ⟨n, x, e', σ', h1, h2⟩ := wpD_sound ss rs1 e1 σ Q h
      exact ⟨n, x, e', σ', by simp only [runSegs, hq, he]; exact h1, h2⟩
    | some o =>
      rw [he] at h
      obtain ⟨hm, h⟩ := h
      obtain ⟨n, x, e', σ', h1, h2⟩ := wpO_of _ _ _ _ h
      cases x with
      | normal =>
        obtain ⟨hs, h2⟩ := h2
        obtain ⟨m, y, e2, σ2, h3, h4⟩ := wpD_sound ss _ _ _ Q h2
        refine ⟨max n m, y, e2, σ2, ?_, h4⟩
        simp only [runSegs, hq, he, hm, runOps_mono (orc_mono prog (Nat.le_max_left n m)) h1, hs]
        exact runSegs_mono (orc_mono prog (Nat.le_max_right n m)) h3
      | panic v => exact ⟨n, _, _, _, by simp only [runSegs, hq, he, hm, h1], h2⟩
      | exit i => exact h2.elim
      | ret => exact h2.elim

/-- What a bool decides. -/
def WpB (v : Value) (A B : Prop) (z : Fz A := ⟨⟩) (z2 : Fz B := ⟨⟩) : Prop :=
  match v with
  | .bool t => (t = true → A) ∧ (t = false → B)
  | _ => False
omit [Aw] in
@[simp] theorem WpB.tt (A B : Prop) (z : Fz A) (z2 : Fz B) : WpB (.bool true) A B z z2 = A := by simp [WpB]
omit [Aw] in
@[simp] theorem WpB.ff (A B : Prop) (z : Fz A) (z2 : Fz B) : WpB (.bool false) A B z z2 = B := by simp [WpB]
omit [Aw] in
theorem WpB.dec {p : Prop} [Decidable p] {A B : Prop} {z : Fz A} {z2 : Fz B} (h1 : p → A) (h2 : ¬ p → B) : WpB (.bool (decide p)) A B z z2 := by
  by_cases h : p <;> simp [WpB, h, h1, h2]
omit [Aw] in
theorem WpB.of {t : Bool} {A B : Prop} {z : Fz A} {z2 : Fz B} (h1 : t = true → A) (h2 : t = false → B) : WpB (.bool t) A B z z2 := ⟨h1, h2⟩

def WpC : (c : Code) → (e : Env) → (σ : H) → (Q : QC) → (z : Fz Q := ⟨⟩) → Prop
  | .skip, e, σ, Q, _ => Q .normal e σ
  | .reg os, e, σ, Q, _ => WpR os e σ Q
  | .draw ss ds, e, σ, Q, _ => WpD e ds ss [] e σ Q
  | .keep ks, e, σ, Q, _ => Q .normal (e.sub ks) σ
  | .seq a b, e, σ, Q, _ => WpC a e σ (thn (fun e σ => WpC b e σ Q) Q)
  | .cond c a b, e, σ, Q, _ => WpV (e.ev c) fun v => WpB v (WpC a e σ Q) (WpC b e σ Q)
  | .block id b, e, σ, Q, _ => WpC b e σ (blk id Q)
  | .loop ks b, e, σ, Q, _ => Wp (.loop ks b) e σ Q
  | .exit id, e, σ, Q, _ => Q (.exit id) e σ
  | .ret, e, σ, Q, _ => Q .ret e σ
theorem wp_of : ∀ (c : Code) (e : Env) (σ : H) (Q : QC), WpC c e σ Q → Wp c e σ Q
  | .skip, e, σ, Q, h => wp_skip h
  | .reg os, e, σ, Q, h => wp_reg (wpO_of _ _ _ _ h)
  | .draw ss ds, e, σ, Q, h => wp_draw (wpD_sound _ _ _ _ _ h)
  | .keep ks, e, σ, Q, h => wp_keep h
  | .seq a b, e, σ, Q, h => wp_seq ((wp_of a e σ _ h).mono fun x e σ h => by
      cases x <;> first | exact wp_of b e σ Q h | exact h)
  | .cond c a b, e, σ, Q, h => by
    obtain ⟨v, hv, h⟩ := h
    cases v <;> simp only [WpB] at h
    rename_i t
    cases t with
    | true => exact wp_cond hv (wp_of a e σ Q (h.1 rfl))
    | false => exact wp_cond hv (wp_of b e σ Q (h.2 rfl))
  | .block id b, e, σ, Q, h => wp_block (wp_of b e σ _ h)
  | .loop ks b, e, σ, Q, h => h
  | .exit id, e, σ, Q, h => wp_exit h
  | .ret, e, σ, Q, h => wp_ret h
theorem WpC.mono : ∀ {c : Code} {e : Env} {σ : H} {Q Q' : QC}, Wp c e σ Q → (∀ x e σ, Q x e σ → Q' x e σ) → Wp c e σ Q' := fun h hq => Wp.mono h hq

@[simp] theorem WpC.skip (e : Env) (σ : H) (Q : QC) (z : Fz Q) : WpC .skip e σ Q z = Q .normal e σ := by exact (Eq.refl _).trans rfl
@[simp] theorem WpC.seq (a b : Code) (e : Env) (σ : H) (Q : QC) (z : Fz Q) : WpC (.seq a b) e σ Q z = WpC a e σ (thn (fun e σ => WpC b e σ Q) Q) := by exact (Eq.refl _).trans rfl
@[simp] theorem WpC.cond (c : Opd) (a b : Code) (e : Env) (σ : H) (Q : QC) (z : Fz Q) : WpC (.cond c a b) e σ Q z = WpV (e.ev c) fun v => WpB v (WpC a e σ Q) (WpC b e σ Q) := by exact (Eq.refl _).trans rfl
@[simp] theorem WpC.block (id : Nat) (b : Code) (e : Env) (σ : H) (Q : QC) (z : Fz Q) : WpC (.block id b) e σ Q z = WpC b e σ (blk id Q) := by exact (Eq.refl _).trans rfl
@[simp] theorem WpC.loop (ks : List Nat) (b : Code) (e : Env) (σ : H) (Q : QC) (z : Fz Q) : WpC (.loop ks b) e σ Q z = Wp (.loop ks b) e σ Q := by exact (Eq.refl _).trans rfl
@[simp] theorem WpC.exit (id : Nat) (e : Env) (σ : H) (Q : QC) (z : Fz Q) : WpC (.exit id) e σ Q z = Q (.exit id) e σ := by exact (Eq.refl _).trans rfl
@[simp] theorem WpC.ret (e : Env) (σ : H) (Q : QC) (z : Fz Q) : WpC .ret e σ Q z = Q .ret e σ := by exact (Eq.refl _).trans rfl
@[simp] theorem WpC.cR (os : List Op) (ks : List Nat) (e : Env) (σ : H) (Q : QC) (z : Fz Q) : WpC (AM.cR os ks) e σ Q z = WpR os e σ (thn (fun e σ => Q .normal (e.sub ks) σ) Q) := by exact (Eq.refl _).trans rfl
@[simp] theorem WpC.cD (ss : List Seg) (ds ks : List Nat) (e : Env) (σ : H) (Q : QC) (z : Fz Q) : WpC (AM.cD ss ds ks) e σ Q z = WpD e ds ss [] e σ (thn (fun e σ => Q .normal (e.sub ks) σ) Q) := by exact (Eq.refl _).trans rfl
@[simp] theorem WpD.nil (e0 : Env) (ds : List Nat) (rs : List Read) (e : Env) (σ : H) (Q : QC) (z : Fz Q) : WpD e0 ds [] rs e σ Q z = Q .normal e σ := by exact (Eq.refl _).trans rfl
@[simp] theorem WpD.quiet (e0 : Env) (ds : List Nat) (q : List Op) (chk : List Nat) (mob : List Op) (ss : List Seg) (rs : List Read) (e : Env) (σ : H) (Q : QC) (z : Fz Q) : WpD e0 ds (⟨q, none, chk, mob⟩ :: ss) rs e σ Q z = WpQ q rs e σ fun rs e => WpD e0 ds ss rs e σ Q := by exact (Eq.refl _).trans rfl
/-- Behind an effect of a drawn region. -/
def eff (e0 : Env) (ds : List Nat) (ss : List Seg) (rs : List Read) (Q : QC) (z : Fz Q := ⟨⟩) : QC
  | .normal, e, σ => still σ rs = true ∧ WpD e0 ds ss rs e σ Q
  | .panic v, e, σ => Q (.panic v) (dropD ds e0) σ
  | _, _, _ => False
@[simp] theorem eff_normal (e0 : Env) (ds : List Nat) (ss : List Seg) (rs : List Read) (Q : QC) (e : Env) (σ : H) (z : Fz Q) : eff e0 ds ss rs Q z .normal e σ = (still σ rs = true ∧ WpD e0 ds ss rs e σ Q) := by exact (Eq.refl _).trans rfl
@[simp] theorem eff_panic (e0 : Env) (ds : List Nat) (ss : List Seg) (rs : List Read) (Q : QC) (v : Value) (e : Env) (σ : H) (z : Fz Q) : eff e0 ds ss rs Q z (.panic v) e σ = Q (.panic v) (dropD ds e0) σ := by exact (Eq.refl _).trans rfl
@[simp] theorem WpD.eff (e0 : Env) (ds : List Nat) (q : List Op) (o : Op) (chk : List Nat) (mob : List Op) (ss : List Seg) (rs : List Read) (e : Env) (σ : H) (Q : QC) (z : Fz Q) :
    WpD e0 ds (⟨q, .some o, chk, mob⟩ :: ss) rs e σ Q z = WpQ q rs e σ fun rs e => mobOk e σ rs mob = true ∧ WpR [o] e σ (AM.eff e0 ds ss (keepR chk rs) Q) := by
  refine congrArg (WpQ q rs e σ) (funext fun rs => funext fun e => ?_)
  have h : (fun (x : Ex) (e' : Env) (σ' : H) => match x with
      | .normal => still σ' (keepR chk rs) = true ∧ WpD e0 ds ss (keepR chk rs) e' σ' Q
      | .panic v => Q (.panic v) (dropD ds e0) σ'
      | _ => False) = AM.eff e0 ds ss (keepR chk rs) Q := by
    funext x e' σ'
    cases x <;> rfl
  rw [← h]
  rfl
omit [Aw] in
@[simp] theorem WpQ.nil (rs : List Read) (e : Env) (σ : H) (K : List Read → Env → Prop) (z : Fz K) : WpQ [] rs e σ K z = K rs e := by exact (Eq.refl _).trans rfl
omit [Aw] in
@[simp] theorem WpQ.oM (d s : Nat) (os : List Op) (rs : List Read) (e : Env) (σ : H) (K : List Read → Env → Prop) (z : Fz K) : WpQ (AM.oM d s :: os) rs e σ K z = WpV (e.get s) fun v => WpQ os rs ((d, v) :: e) σ K := by
  apply propext
  simp only [WpQ, AM.oM, wantedV, WpV, Env.evs, Env.ev, quietP, readsHeap, prim, pMove, Env.put]
  constructor
  · rintro ⟨b, hb, h⟩
    cases hb
    obtain ⟨vs, hvs, x, hx, hK⟩ := h
    cases hg : e.get s with
    | none => rw [hg] at hvs; cases hvs
    | some v =>
      rw [hg] at hvs
      cases hvs
      cases hx
      exact ⟨v, rfl, hK⟩
  · rintro ⟨v, hv, h⟩
    exact ⟨true, rfl, [v], by rw [hv], (v, σ), rfl, h⟩
/-- A quiet operation. -/
def WpU (d : Nat) (p : Prim) (vs : List Value) (σ : H) (K : Value → List Read → Prop) (z : Fz K := ⟨⟩) : Prop := match quietP p with
  | false => False
  | true => WpV (prim p vs σ) fun x => match readsHeap p with
    | true => K x.1 [⟨d, p, vs, x.1⟩]
    | false => K x.1 []
omit [Aw] in
@[simp] theorem WpQ.oA (d : Nat) (p : Prim) (as : List Opd) (os : List Op) (rs : List Read) (e : Env) (σ : H) (K : List Read → Env → Prop) (z : Fz K) :
    WpQ (AM.oA d p as :: os) rs e σ K z = WpV (e.evs as) fun vs => WpU d p vs σ fun v r => WpQ os (r ++ rs) ((d, v) :: e) σ K := by
  simp only [WpQ, AM.oA, wantedV, WpV.some, Env.put, WpU, Option.getD_some]
  refine congrArg (fun K => WpV (e.evs as) K) (funext fun vs => ?_)
  cases quietP p with
  | false => rfl
  | true => 
    exact congrArg (fun K => WpV (prim p vs σ) K) (funext fun x => by cases readsHeap p <;> rfl)
omit [Aw] in
@[simp] theorem WpQ.oG (d : Nat) (p : Prim) (as : List Opd) (j : Nat) (b : Bool) (os : List Op) (rs : List Read) (e : Env) (σ : H) (K : List Read → Env → Prop) (z : Fz K) :
    WpQ (AM.oG (.some d) p as j b :: os) rs e σ K z = WpV (e.get j) fun v => WpG v b (WpV (e.evs as) fun vs => WpU d p vs σ fun v r => WpQ os (r ++ rs) ((d, v) :: e) σ K) (WpQ os rs ((d, .tuple #[]) :: e) σ K) := by
  have hA : (WpV (e.evs as) fun vs => match quietP p with
      | false => False
      | true => WpV (prim p vs σ) fun x => match readsHeap p with
        | true => WpQ os (⟨d, p, vs, x.1⟩ :: rs) ((d, x.1) :: e) σ K
        | false => WpQ os rs ((d, x.1) :: e) σ K) = WpV (e.evs as) fun vs => WpU d p vs σ fun v r => WpQ os (r ++ rs) ((d, v) :: e) σ K := by
    refine congrArg (fun K => WpV (e.evs as) K) (funext fun vs => ?_)
    unfold WpU
    cases quietP p with
    | false => rfl
    | true =>
      exact congrArg (fun K => WpV (prim p vs σ) K) (funext fun x => by cases readsHeap p <;> rfl)
  rw [← hA]
  apply propext
  simp only [WpQ, AM.oG, wantedV, Env.put, Option.getD_some]
  cases hv : e.get j with
  | none => constructor <;> (rintro ⟨_, h, _⟩; cases h)
  | some v =>
    rw [WpV.some]
    cases v <;> simp only [WpG, WpV.some]
    case bool y =>
      cases y <;> cases b <;> simp <;> rfl

/-! ### Functions -/
def retQ (rs : List RVar) (Q : Res → H → Prop) (z : Fz Q := ⟨⟩) : QC
  | .normal, e, σ => e.get 1000000 = none ∧ WpV (results e σ rs) fun r => Q r.1 r.2
  | .ret, e, σ => e.get 1000000 = none ∧ WpV (results e σ rs) fun r => Q r.1 r.2
  | .panic v, e, σ => e.get 1000000 = none ∧ Q (.panic v) σ
  | .exit _, _, _ => False
omit [Aw] in
@[simp] theorem retQ_normal (rs : List RVar) (Q : Res → H → Prop) (e : Env) (σ : H) (z : Fz Q) : retQ rs Q z .normal e σ = (e.get 1000000 = none ∧ WpV (results e σ rs) fun r => Q r.1 r.2) := by exact (Eq.refl _).trans rfl
omit [Aw] in
@[simp] theorem retQ_ret (rs : List RVar) (Q : Res → H → Prop) (e : Env) (σ : H) (z : Fz Q) : retQ rs Q z .ret e σ = (e.get 1000000 = none ∧ WpV (results e σ rs) fun r => Q r.1 r.2) := by exact (Eq.refl _).trans rfl
omit [Aw] in
@[simp] theorem retQ_panic (rs : List RVar) (Q : Res → H → Prop) (v : Value) (e : Env) (σ : H) (z : Fz Q) : retQ rs Q z (.panic v) e σ = (e.get 1000000 = none ∧ Q (.panic v) σ) := by exact (Eq.refl _).trans rfl
theorem ru_fn {f : Nat} {F : Func} {args : List Value} {σ : H} {Q : Res → H → Prop} (hF : prog.fs f = some F) (ho : prog.own f = none) (hr : F.rcv = none) (hl : args.length ≤ 1000) (h : WpC F.body (params 0 args) σ (retQ F.results Q)) : Ru f args σ Q := by
  obtain ⟨n, x, e, σ', h1, h2⟩ := wp_of _ _ _ _ h
  have hl' : Nat.ble args.length 1000 = true := by rw [nble]; simpa using hl
  cases x with
  | normal =>
    obtain ⟨hn, ⟨r, σ2⟩, h3, h4⟩ := h2
    exact ⟨n + 1, r, σ2, by simp only [orc, answer, ho, callF, hF, hr, hl', h1, hn, h3], h4⟩
  | ret =>
    obtain ⟨hn, ⟨r, σ2⟩, h3, h4⟩ := h2
    exact ⟨n + 1, r, σ2, by simp only [orc, answer, ho, callF, hF, hr, hl', h1, hn, h3], h4⟩
  | panic v =>
    obtain ⟨hn, h3⟩ := h2
    exact ⟨n + 1, _, _, by simp only [orc, answer, ho, callF, hF, hr, hl', h1, hn], h3⟩
  | exit i => exact h2.elim
end AM
end Go.Proofs.YtdbbkaeoinalpaaGreat
