/- The walk: code, operation by operation, by simp. What is still to come is not looked into. -/
import Derived.Test.YtdbbkaeoinalpaaGreatWp1
set_option linter.unusedVariables false
namespace Go.Proofs.YtdbbkaeoinalpaaGreat
namespace AM
variable [Aw]

/-- What is there, and what comes behind. -/
def WpV {α : Type} (o : Option α) (K : α → Prop) (z : Fz K := ⟨⟩) : Prop := ∃ x, o = some x ∧ K x
omit [Aw] in
@[simp] theorem WpV.some {α : Type} (x : α) (K : α → Prop) (z : Fz K) : WpV (.some x) K z = K x := by
  apply propext; unfold WpV; simp
omit [Aw] in
theorem WpV.intro {α : Type} {o : Option α} {K : α → Prop} {x : α} (h : o = .some x) (hk : K x) : WpV o K := ⟨x, h, hk⟩

/-- An operation that is no deferral. -/
def WpP (p : Prim) (vs : List Value) (σ : H) (K E : Value → H → Prop) (z : Fz K := ⟨⟩) (z2 : Fz E := ⟨⟩) : Prop :=
  match p.kind with
  | .other => WpV (prim p vs σ) fun x => K x.1 x.2
  | .call => match vs with
    | f :: as => WpV (callee f as) fun x => Ru x.1 x.2 σ (cnt2 K E)
    | [] => False
  | .invoke name => match vs with
    | .iface t v :: as => WpV (mtab t name) fun x => WpV (recv σ v x.2) fun y => Ru x.1 (y :: as) σ (cnt2 K E)
    | _ => False
  | .panic => match vs with
    | [.iface t v] => E (.iface t v) σ
    | _ => False
  | .defer => False
omit [Aw] in
@[simp] theorem thn_normal (K : Env → H → Prop) (Q : QC) (e : Env) (σ : H) (z : Fz K) (z2 : Fz Q) : thn K Q z z2 .normal e σ = K e σ := by exact (Eq.refl _).trans rfl
omit [Aw] in
@[simp] theorem thn_exit (K : Env → H → Prop) (Q : QC) (i : Nat) (e : Env) (σ : H) (z : Fz K) (z2 : Fz Q) : thn K Q z z2 (.exit i) e σ = Q (.exit i) e σ := by exact (Eq.refl _).trans rfl
omit [Aw] in
@[simp] theorem thn_ret (K : Env → H → Prop) (Q : QC) (e : Env) (σ : H) (z : Fz K) (z2 : Fz Q) : thn K Q z z2 .ret e σ = Q .ret e σ := by exact (Eq.refl _).trans rfl
omit [Aw] in
@[simp] theorem thn_panic (K : Env → H → Prop) (Q : QC) (v : Value) (e : Env) (σ : H) (z : Fz K) (z2 : Fz Q) : thn K Q z z2 (.panic v) e σ = Q (.panic v) e σ := by exact (Eq.refl _).trans rfl
omit [Aw] in
@[simp] theorem blk_normal (id : Nat) (Q : QC) (e : Env) (σ : H) (z : Fz Q) : blk id Q z .normal e σ = Q .normal e σ := by exact (Eq.refl _).trans rfl
omit [Aw] in
@[simp] theorem blk_ret (id : Nat) (Q : QC) (e : Env) (σ : H) (z : Fz Q) : blk id Q z .ret e σ = Q .ret e σ := by exact (Eq.refl _).trans rfl
omit [Aw] in
@[simp] theorem blk_panic (id : Nat) (Q : QC) (v : Value) (e : Env) (σ : H) (z : Fz Q) : blk id Q z (.panic v) e σ = Q (.panic v) e σ := by exact (Eq.refl _).trans rfl
omit [Aw] in
@[simp] theorem blk_hit (id : Nat) (Q : QC) (e : Env) (σ : H) (z : Fz Q) : blk id Q z (.exit id) e σ = Q .normal e σ := by simp [blk]
omit [Aw] in
theorem blk_miss {id i : Nat} (h : i ≠ id) (Q : QC) (e : Env) (σ : H) (z : Fz Q) : blk id Q z (.exit i) e σ = Q (.exit i) e σ := by simp [blk, h]
omit [Aw] in
@[simp] theorem cnt2_ok (K E : Value → H → Prop) (v : Value) (σ : H) (z : Fz K) (z2 : Fz E) : cnt2 K E z z2 (.ok v) σ = K v σ := by exact (Eq.refl _).trans rfl
omit [Aw] in
@[simp] theorem cnt2_panic (K E : Value → H → Prop) (v : Value) (σ : H) (z : Fz K) (z2 : Fz E) : cnt2 K E z z2 (.panic v) σ = E v σ := by exact (Eq.refl _).trans rfl

/-- Operations one behind another. -/
def WpR : (os : List Op) → (e : Env) → (σ : H) → (Q : QC) → (z : Fz Q := ⟨⟩) → Prop
  | [], e, σ, Q, _ => Q .normal e σ
  | o :: os, e, σ, Q, _ => WpV (wantedV e o.guard) fun b => match b with
    | false => WpR os (e.put o.dst (.tuple #[])) σ Q
    | true => WpV (e.evs o.args) fun vs => WpP o.p vs σ (fun v σ' => WpR os (e.put o.dst v) σ' Q) (fun v σ' => Q (.panic v) e σ')
@[simp] theorem WpR.nil (e : Env) (σ : H) (Q : QC) (z : Fz Q) : WpR [] e σ Q z = Q .normal e σ := by exact (Eq.refl _).trans rfl
@[simp] theorem WpR.oM (d s : Nat) (os : List Op) (e : Env) (σ : H) (Q : QC) (z : Fz Q) : WpR (AM.oM d s :: os) e σ Q z = WpV (e.get s) fun v => WpR os ((d, v) :: e) σ Q := by
  apply propext
  simp only [WpR, AM.oM, wantedV, WpV, Env.evs, Env.ev, WpP, Prim.kind, prim, pMove, Env.put]
  constructor
  · rintro ⟨b, hb, h⟩
    cases hb
    obtain ⟨vs, hvs, x, hx, hK⟩ := h
    cases hg : e.get s with
    | none => rw [hg] at hvs; cases hvs
    | some v =>
      rw [hg] at hvs
      cases hvs
      cases hx
      exact ⟨v, rfl, hK⟩
  · rintro ⟨v, hv, h⟩
    refine ⟨true, rfl, [v], by rw [hv], (v, σ), rfl, h⟩
@[simp] theorem WpR.oA (d : Nat) (p : Prim) (as : List Opd) (os : List Op) (e : Env) (σ : H) (Q : QC) (z : Fz Q) : WpR (AM.oA d p as :: os) e σ Q z = WpV (e.evs as) fun vs => WpP p vs σ (fun v σ' => WpR os ((d, v) :: e) σ' Q) (fun v σ' => Q (.panic v) e σ') := by
  simp only [WpR, AM.oA, wantedV, WpV.some, Env.put]
@[simp] theorem WpR.oN (p : Prim) (as : List Opd) (os : List Op) (e : Env) (σ : H) (Q : QC) (z : Fz Q) : WpR (AM.oN p as :: os) e σ Q z = WpV (e.evs as) fun vs => WpP p vs σ (fun v σ' => WpR os e σ' Q) (fun v σ' => Q (.panic v) e σ') := by
  simp only [WpR, AM.oN, wantedV, WpV.some, Env.put]
/-- A guarded operation. -/
def WpG (v : Value) (b : Bool) (A B : Prop) (z : Fz A := ⟨⟩) (z2 : Fz B := ⟨⟩) : Prop :=
  match v with
  | .bool x => (x = b → A) ∧ (x ≠ b → B)
  | _ => B
omit [Aw] in
@[simp] theorem WpG.tt (A B : Prop) (z : Fz A) (z2 : Fz B) : WpG (.bool true) true A B z z2 = A := by simp [WpG]
omit [Aw] in
@[simp] theorem WpG.ff (A B : Prop) (z : Fz A) (z2 : Fz B) : WpG (.bool false) false A B z z2 = A := by simp [WpG]
omit [Aw] in
@[simp] theorem WpG.tf (A B : Prop) (z : Fz A) (z2 : Fz B) : WpG (.bool true) false A B z z2 = B := by simp [WpG]
omit [Aw] in
@[simp] theorem WpG.ft (A B : Prop) (z : Fz A) (z2 : Fz B) : WpG (.bool false) true A B z z2 = B := by simp [WpG]
omit [Aw] in
@[simp] theorem WpG.tup (a : Array Value) (b : Bool) (A B : Prop) (z : Fz A) (z2 : Fz B) : WpG (.tuple a) b A B z z2 = B := by exact (Eq.refl _).trans rfl
theorem WpR.oG (d : Option Nat) (p : Prim) (as : List Opd) (j : Nat) (b : Bool) (os : List Op) (e : Env) (σ : H) (Q : QC)
    (h : WpV (e.get j) fun v => WpG v b (WpV (e.evs as) fun vs => WpP p vs σ (fun v σ' => WpR os (e.put d v) σ' Q) (fun v σ' => Q (.panic v) e σ')) (WpR os (e.put d (.tuple #[])) σ Q)) : WpR (AM.oG d p as j b :: os) e σ Q := by
  obtain ⟨v, hv, h⟩ := h
  simp only [WpR, AM.oG, wantedV, hv]
  cases v <;> simp only [WpG] at h <;> try (rw [WpV.some]; exact h)
  rename_i x
  rw [WpV.some]
  by_cases hx : x = b
  · have : (x == b) = true := by simp [hx]
    rw [this]; exact h.1 hx
  · have : (x == b) = false := by simp [hx]
    rw [this]; exact h.2 hx
@[simp] theorem WpR.oG_iff (d : Option Nat) (p : Prim) (as : List Opd) (j : Nat) (b : Bool) (os : List Op) (e : Env) (σ : H) (Q : QC) (z : Fz Q) :
    WpR (AM.oG d p as j b :: os) e σ Q z = WpV (e.get j) fun v => WpG v b (WpV (e.evs as) fun vs => WpP p vs σ (fun v σ' => WpR os (e.put d v) σ' Q) (fun v σ' => Q (.panic v) e σ')) (WpR os (e.put d (.tuple #[])) σ Q) := by
  apply propext
  refine ⟨fun h => ?_, WpR.oG d p as j b os e σ Q⟩
  simp only [WpR, AM.oG, wantedV] at h
  obtain ⟨x, hx, h⟩ := h
  cases hv : e.get j with
  | none => rw [hv] at hx; cases hx
  | some v =>
    rw [hv] at hx
    rw [WpV.some]
    cases v <;> simp only [Option.some.injEq] at hx <;> subst hx <;> simp only [WpG]
    case bool y =>
      refine ⟨fun hy => ?_, fun hy => ?_⟩
      · have : (y == b) = true := by simp [hy]
        rw [this] at h; exact h
      · have : (y == b) = false := by simp [hy]
        rw [this] at h; exact h
    all_goals exact h

theorem wpP_sound {q : Op} {os : List Op} {e : Env} {σ : H} {Q : QC} {vs : List Value} (hw : wantedV e q.guard = some true) (hv : e.evs q.args = some vs) (h : WpP q.p vs σ (fun v σ' => WpO os (e.put q.dst v) σ' Q) (fun v σ' => Q (.panic v) e σ')) : WpO (q :: os) e σ Q := by
  unfold WpP at h
  split at h
  · rename_i hk
    obtain ⟨⟨v, σ1⟩, hp, h⟩ := h
    exact wpO_prim hw hv hk hp h
  · rename_i hk
    have hp : q.p = .call := by cases hq : q.p <;> rw [hq] at hk <;> simp [Prim.kind] at hk ⊢
    split at h
    · obtain ⟨⟨f, as2⟩, hc, h⟩ := h
      exact wpO_call hw hv hp hc h
    · exact h.elim
  · rename_i name hk
    have hp : q.p = .invoke name := by cases hq : q.p <;> rw [hq] at hk <;> simp [Prim.kind] at hk ⊢; exact hk
    split at h
    · obtain ⟨⟨f, how⟩, hm, y, hr, h⟩ := h
      exact wpO_invoke hw hv hp hm hr h
    · exact h.elim
  · rename_i hk
    have hp : q.p = .panic := by cases hq : q.p <;> rw [hq] at hk <;> simp [Prim.kind] at hk ⊢
    split at h
    · exact wpO_panic hw hv hp h
    · exact h.elim
  · exact h.elim
theorem WpP.mono {p : Prim} {vs : List Value} {σ : H} {K K' E E' : Value → H → Prop} (h : WpP p vs σ K E) (hk : ∀ v σ, K v σ → K' v σ) (he : ∀ v σ, E v σ → E' v σ) : WpP p vs σ K' E' := by
  have hc : ∀ r σ, cnt2 K E ⟨⟩ ⟨⟩ r σ → cnt2 K' E' ⟨⟩ ⟨⟩ r σ := fun r σ h => by cases r <;> first | exact hk _ _ h | exact he _ _ h
  unfold WpP at *
  cases hp : p.kind <;> rw [hp] at h <;> simp only at h ⊢
  case other => obtain ⟨x, h1, h2⟩ := h; exact ⟨x, h1, hk _ _ h2⟩
  case call =>
    cases vs with
    | nil => exact h.elim
    | cons f as => obtain ⟨x, h1, h2⟩ := h; exact ⟨x, h1, h2.mono hc⟩
  case invoke name =>
    cases vs with
    | nil => exact h.elim
    | cons f as =>
      cases f <;> simp only at h ⊢
      obtain ⟨x, h1, y, h2, h3⟩ := h; exact ⟨x, h1, y, h2, h3.mono hc⟩
  case panic =>
    cases vs with
    | nil => exact h.elim
    | cons f as =>
      cases as with
      | nil => cases f <;> simp only at h ⊢ <;> exact he _ _ h
      | cons _ _ => cases f <;> simp only at h
theorem wpO_of : ∀ (os : List Op) (e : Env) (σ : H) (Q : QC), WpR os e σ Q → WpO os e σ Q
  | [], e, σ, Q, h => wpO_nil h
  | o :: os, e, σ, Q, h => by
    obtain ⟨b, hb, h⟩ := h
    cases b with
    | false => exact wpO_skip hb (wpO_of os _ _ _ h)
    | true =>
      obtain ⟨vs, hv, h⟩ := h
      exact wpP_sound hb hv (h.mono (fun v σ h => wpO_of os _ _ _ h) (fun _ _ h => h))

/-! ### Drawn regions -/
def WpQ : (os : List Op) → (rs : List Read) → (e : Env) → (σ : H) → (K : List Read → Env → Prop) → (z : Fz K := ⟨⟩) → Prop
  | [], rs, e, _, K, _ => K rs e
  | o :: os, rs, e, σ, K, _ => WpV (wantedV e o.guard) fun b => match b with
    | false => WpQ os rs (e.put o.dst (.tuple #[])) σ K
    | true => WpV (e.evs o.args) fun vs => match quietP o.p with
      | false => False
      | true => WpV (prim o.p vs σ) fun x => match readsHeap o.p with
        | true => WpQ os (⟨o.dst.getD 0, o.p, vs, x.1⟩ :: rs) (e.put o.dst x.1) σ K
        | false => WpQ os rs (e.put o.dst x.1) σ K
def WpD (e0 : Env) (ds : List Nat) : (ss : List Seg) → (rs : List Read) → (e : Env) → (σ : H) → (Q : QC) → (z : Fz Q := ⟨⟩) → Prop
  | [], _, e, σ, Q, _ => Q .normal e σ
  | s :: ss, rs, e, σ, Q, _ => WpQ s.q rs e σ fun rs e => match s.e with
    | none => WpD e0 ds ss rs e σ Q
    | some o => mobOk e σ rs s.mob = true ∧ WpR [o] e σ fun x e' σ' => match x with
      | .normal => still σ' (keepR s.chk rs) = true ∧ WpD e0 ds ss (keepR s.chk rs) e' σ' Q
      | .panic v => Q (.panic v) (dropD ds e0) σ'
      | _ => False
end AM
end Go.Proofs.YtdbbkaeoinalpaaGreat
