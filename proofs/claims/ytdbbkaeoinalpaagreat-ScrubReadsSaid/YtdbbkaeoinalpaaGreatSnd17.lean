/- Drawn regions: whatever order is drawn, it ends as the machine says. -/
import Derived.Test.YtdbbkaeoinalpaaGreatSnd16
set_option linter.unusedVariables false
namespace Go.Proofs.YtdbbkaeoinalpaaGreat
namespace AM
section
variable {P : Program} {l : List Oper} {N : Nat} {dsts : List Nat} {e0 : Env} {ι0 : Inj} {w0 : World} {O : Orc}

/-! ### Counting -/
def cnt (items : List (Bool × Nat)) (listed : Array Bool) : Nat := (items.filter fun x => !listed.getD x.2 false).length
theorem set_true_of {listed : Array Bool} {j k : Nat} (h : (listed.setIfInBounds j true).getD k false = false) : listed.getD k false = false := by
  cases h2 : listed.getD k false with
  | false => rfl
  | true => rw [getD_set_true h2] at h; cases h
theorem cnt_le (j : Nat) (listed : Array Bool) : ∀ (items : List (Bool × Nat)), cnt items (listed.setIfInBounds j true) ≤ cnt items listed
  | [] => Nat.le_refl _
  | x :: items => by
    have ih := cnt_le j listed items
    unfold cnt at *
    rw [List.filter_cons, List.filter_cons]
    cases h1 : (listed.setIfInBounds j true).getD x.2 false with
    | false =>
      rw [set_true_of h1]
      simpa using ih
    | true =>
      simp only [Bool.not_true, Bool.false_eq_true, if_false]
      split
      · rw [List.length_cons]; omega
      · exact ih
theorem getD_set_self {listed : Array Bool} {j : Nat} (h : j < listed.size) : (listed.setIfInBounds j true).getD j false = true := by
  simp [h]
theorem cnt_lt {b : Bool} {j : Nat} {listed : Array Bool} (hj : listed.getD j false = false) (hs : j < listed.size) : ∀ {items : List (Bool × Nat)}, (b, j) ∈ items → cnt items (listed.setIfInBounds j true) + 1 ≤ cnt items listed
  | [], h => by cases h
  | x :: items, h => by
    have hle := cnt_le j listed items
    by_cases hx : x.2 = j
    · unfold cnt at *
      rw [List.filter_cons, List.filter_cons, hx, getD_set_self hs, hj]
      simpa using hle
    · have hm : (b, j) ∈ items := by
        cases h with
        | head => exact absurd rfl hx
        | tail _ h => exact h
      have ih := cnt_lt hj hs hm
      unfold cnt at *
      rw [List.filter_cons, List.filter_cons, getD_set_ne' (fun e => hx e.symm)]
      split
      · rw [List.length_cons, List.length_cons]; omega
      · exact ih
theorem cnt_skip {x : Bool × Nat} {items : List (Bool × Nat)} {listed : Array Bool} (h : listed.getD x.2 false = true) : cnt (x :: items) listed = cnt items listed := by
  unfold cnt
  rw [List.filter_cons, h]
  simp

/-! ### The plan and the segments -/
def hitems (q : List Nat) (eo : Option Nat) (r : Plan) : List (Bool × Nat) := q.map (true, ·) ++ (eo.toList.map (false, ·) ++ Plan.items r)
def SegRel (P : Program) (l : List Oper) (q : List Nat) (eo : Option Nat) (r : Plan) (s : Seg) (ss : List Seg) (rsI : List (Nat × Nat)) : Prop :=
  q.mapM (one P l) = some s.q ∧ (s.q.all fun o => quietP o.p && (!readsHeap o.p || o.dst.isSome)) = true ∧
  ((eo = none ∧ s.e = none ∧ ∃ rsF, (∀ x ∈ reads (q.zip s.q) ++ rsI, x ∈ rsF) ∧ compSegs P l r rsF = some ss) ∨
  (∃ i o rsF, eo = some i ∧ s.e = some o ∧ one P l i = some o ∧ isDefer o.p = false ∧ (∀ x ∈ reads (q.zip s.q) ++ rsI, waits l.toArray x.1 i = false → x ∈ rsF) ∧ s.chk = rsF.map (·.2) ∧
    (mobs P l i (Plan.items r)).mapM (one P l) = some s.mob ∧ compSegs P l r rsF = some ss))
theorem segs_head {q : List Nat} {eo : Option Nat} {r : Plan} {rsI : List (Nat × Nat)} {segs : List Seg} (h : compSegs P l ((q, eo) :: r) rsI = some segs) : ∃ s ss, segs = s :: ss ∧ SegRel P l q eo r s ss rsI := by
  simp only [compSegs, Option.bind_eq_bind, Option.pure_def] at h
  obtain ⟨qs, hq, h⟩ := Option.bind_eq_some_iff.1 h
  split at h
  · cases h
  rename_i hall
  simp only [Bool.not_eq_true, Bool.not_eq_false'] at hall
  cases eo with
  | none =>
    simp only at h
    obtain ⟨ss, hs, h⟩ := Option.bind_eq_some_iff.1 h
    simp only [Option.some.injEq] at h
    exact ⟨_, ss, h.symm, hq, hall, .inl ⟨rfl, rfl, _, fun x hx => hx, hs⟩⟩
  | some i =>
    simp only at h
    obtain ⟨o, ho, h⟩ := Option.bind_eq_some_iff.1 h
    split at h
    · cases h
    rename_i hd
    obtain ⟨mob, hm, h⟩ := Option.bind_eq_some_iff.1 h
    obtain ⟨ss, hs, h⟩ := Option.bind_eq_some_iff.1 h
    simp only [Option.some.injEq] at h
    exact ⟨_, ss, h.symm, hq, hall, .inr ⟨i, o, _, rfl, rfl, ho, by simpa using hd, fun x hx hw => List.mem_filter.2 ⟨hx, by simp [hw]⟩, rfl, hm, hs⟩⟩
theorem segs_next {r : Plan} {rsI : List (Nat × Nat)} {ss : List Seg} (h : compSegs P l r rsI = some ss) : ∃ q eo r' s ss', hitems q eo r' = Plan.items r ∧ SegRel P l q eo r' s ss' rsI ∧ (r ≠ [] → r'.length < r.length) ∧ (r = [] → q = [] ∧ eo = none ∧ r' = []) ∧
    ∀ (O : Orc) e0 dsts rs e σ, runSegs O e0 dsts (s :: ss') rs e σ = runSegs O e0 dsts ss rs e σ := by
  cases r with
  | nil =>
    simp only [compSegs, Option.some.injEq] at h
    subst h
    refine ⟨[], none, [], ⟨[], none, [], []⟩, [], rfl, ⟨rfl, rfl, .inl ⟨rfl, rfl, rsI, fun x hx => hx, rfl⟩⟩, fun h => absurd rfl h, fun _ => ⟨rfl, rfl, rfl⟩, fun O e0 dsts rs e σ => ?_⟩
    simp only [runSegs, runQ]
  | cons x r =>
    obtain ⟨q, eo⟩ := x
    obtain ⟨s, ss', rfl, hS⟩ := segs_head h
    exact ⟨q, eo, r, s, ss', rfl, hS, fun _ => by simp, fun h => (by cases h), fun O e0 dsts rs e σ => rfl⟩

theorem runSegs_q {q0 : Op} {qs : List Op} {eo : Option Op} {chk : List Nat} {mob : List Op} {ss : List Seg} {rs : List AM.Read} {e : Env} {σ : H} {res : Ex × Env × H} (h : runSegs O e0 dsts (⟨q0 :: qs, eo, chk, mob⟩ :: ss) rs e σ = some res) :
    (wantedV e q0.guard = some false ∧ runSegs O e0 dsts (⟨qs, eo, chk, mob⟩ :: ss) rs (e.put q0.dst (.tuple #[])) σ = some res) ∨
    (wantedV e q0.guard = some true ∧ ∃ vs v σx, e.evs q0.args = some vs ∧ quietP q0.p = true ∧ prim q0.p vs σ = some (v, σx) ∧
      ((readsHeap q0.p = true ∧ runSegs O e0 dsts (⟨qs, eo, chk, mob⟩ :: ss) (⟨q0.dst.getD 0, q0.p, vs, v⟩ :: rs) (e.put q0.dst v) σ = some res) ∨
       (readsHeap q0.p = false ∧ runSegs O e0 dsts (⟨qs, eo, chk, mob⟩ :: ss) rs (e.put q0.dst v) σ = some res))) := by
  simp only [runSegs, runQ] at h ⊢
  cases hw : wantedV e q0.guard with
  | none => rw [hw] at h; simp at h
  | some b =>
    rw [hw] at h
    cases b with
    | false => exact .inl ⟨rfl, h⟩
    | true =>
      refine .inr ⟨rfl, ?_⟩
      simp only at h
      cases hv : e.evs q0.args with
      | none => rw [hv] at h; simp at h
      | some vs =>
        rw [hv] at h
        simp only at h
        cases hq : quietP q0.p with
        | false => rw [hq] at h; simp at h
        | true =>
          rw [hq] at h
          simp only at h
          cases hp : prim q0.p vs σ with
          | none => rw [hp] at h; simp at h
          | some x =>
            obtain ⟨v, σx⟩ := x
            rw [hp] at h
            simp only at h
            refine ⟨vs, v, σx, rfl, rfl, hp, ?_⟩
            cases hr : readsHeap q0.p with
            | true => rw [hr] at h; exact .inl ⟨rfl, h⟩
            | false => rw [hr] at h; exact .inr ⟨rfl, h⟩
theorem runSegs_none {chk : List Nat} {mob : List Op} {ss : List Seg} {rs : List AM.Read} {e : Env} {σ : H} {res : Ex × Env × H} (h : runSegs O e0 dsts (⟨[], none, chk, mob⟩ :: ss) rs e σ = some res) : runSegs O e0 dsts ss rs e σ = some res := by
  simpa only [runSegs, runQ] using h
theorem runSegs_e {o : Op} {chk : List Nat} {mob : List Op} {ss : List Seg} {rs : List AM.Read} {e : Env} {σ : H} {res : Ex × Env × H} (h : runSegs O e0 dsts (⟨[], some o, chk, mob⟩ :: ss) rs e σ = some res) :
    mobOk e σ rs mob = true ∧ ∃ x e' σ', runOps O [o] e σ = some (x, e', σ') ∧ ((x = .normal ∧ still σ' (keepR chk rs) = true ∧ runSegs O e0 dsts ss (keepR chk rs) e' σ' = some res) ∨ (∃ v, x = .panic v ∧ res = (.panic v, dropD dsts e0, σ'))) := by
  simp only [runSegs, runQ] at h
  split at h
  · cases h
  rename_i hm
  refine ⟨hm, ?_⟩
  split at h
  · cases h
  rename_i x e' σ' hr
  refine ⟨x, e', σ', hr, ?_⟩
  split at h
  · split at h
    · rename_i hs
      exact .inl ⟨rfl, hs, h⟩
    · cases h
  · rename_i v
    simp only [Option.some.injEq] at h
    exact .inr ⟨v, rfl, h.symm⟩
  · cases h
theorem makes_mem {e : Env} {σ : H} : ∀ {ms : List Op}, makes e σ ms = true → ∀ o ∈ ms, ∃ vs v σx, e.evs o.args = some vs ∧ prim o.p vs σ = some (v, σx)
  | [], _, o, ho => by cases ho
  | m :: ms, h, o, ho => by
    simp only [makes] at h
    split at h
    · cases h
    rename_i vs hv
    split at h
    · cases h
    rename_i x hp
    cases ho with
    | head => exact ⟨vs, x.1, x.2, hv, hp⟩
    | tail _ ho => exact makes_mem h o ho
theorem mapM_mem {α β : Type} {f : α → Option β} : ∀ {xs : List α} {ys : List β}, xs.mapM f = some ys → ∀ x ∈ xs, ∃ y ∈ ys, f x = some y
  | [], _, _, x, hx => by cases hx
  | z :: xs, ys, h, x, hx => by
    obtain ⟨y, r, h1, h2, rfl⟩ := mapM_cons_some h
    cases hx with
    | head => exact ⟨y, List.mem_cons_self, h1⟩
    | tail _ hx =>
      obtain ⟨u, hu, h3⟩ := mapM_mem h2 x hx
      exact ⟨u, List.mem_cons_of_mem _ hu, h3⟩

theorem one_some {i : Nat} {q : Op} (h : one P l i = some q) : ∃ o, l[i]? = some o ∧ compOper P l o = some q := by
  unfold one at h
  obtain ⟨o, h1, h2⟩ := Option.bind_eq_some_iff.1 h
  exact ⟨o, h1, h2⟩
theorem R.late {ι : Inj} {σ : H} {w : World} (h : R ι σ w) {b te elem esz : Nat} {c c' : List Value} (hb : w.heap[b]? = some (.cells ⟨c'⟩ te (0, 0))) (hc : VRs ι c c') (hf : ∀ A bk, ι A = some bk → bk.blk ≠ b) :
    R (ι.set σ.next ⟨b, 0, c.length, esz, 0, false⟩) (σ.push (.cells c elem esz .exact)) w := by
  have hs : Sub ι (ι.set σ.next ⟨b, 0, c.length, esz, 0, false⟩) := Inj.set_sub h.fresh
  refine h.bind _ _ rfl (Array.getElem?_eq_some_iff.1 hb).1 ⟨⟨c'⟩, (0, 0), te, hb, rfl, rfl, rfl, fun _ => rfl, fun _ => rfl, ?_, fun i v hv => ?_, fun _ => rfl⟩ (fun A oA bA _ _ hA => hf A bA hA)
  · show 0 + c.length + 0 * esz ≤ (⟨c'⟩ : Array Value).size
    have : c'.length = c.length := hc.length
    show _ ≤ c'.length
    omega
  · obtain ⟨v', h1, h2⟩ := hc.get i v hv
    refine ⟨v', ?_, h2.mono hs⟩
    rw [List.getElem?_toArray, Nat.zero_add]
    exact h1
theorem Ext.late {ι0 ι : Inj} {w0 w : World} (h : Ext ι0 w0 ι w) {A : Nat} {bk : Bk} (hA : ι A = none) (hro : bk.ro = false) (hb : w0.heap.size ≤ bk.blk) : Ext ι0 w0 (ι.set A bk) w := by
  refine ⟨h.sub.trans (Inj.set_sub hA), h.os, h.tape, h.output, h.size, h.keep, fun B b h0 h1 => ?_⟩
  unfold Inj.set at h1
  split at h1
  · cases h1
    exact ⟨hro, .inl hb⟩
  · exact h.new B b h0 h1
end
end AM
end Go.Proofs.YtdbbkaeoinalpaaGreat
