/- Drawn regions: what stands between two operations. -/
import Derived.Test.YtdbbkaeoinalpaaGreatSnd15
set_option linter.unusedVariables false
namespace Go.Proofs.YtdbbkaeoinalpaaGreat
namespace AM
section
variable {P : Program} {l : List Oper} {N : Nat} {dsts : List Nat} {e0 : Env} {ι0 : Inj} {w0 : World}

/-- j was made early, in block b. -/
structure Adv (P : Program) (l : List Oper) (w0 : World) (ι : Inj) (e : Env) (a : Act) (w : World) (j b : Nat) (q : Op) (d : Nat) (vs c c' : List Value) (te elem esz : Nat) (mk : Nat → Value) : Prop where
  op : one P l j = some q
  guard : q.guard = none
  dst : q.dst = some d
  kind : q.p.kind = .other
  args : e.evs q.args = some vs
  prim : ∀ σ : H, prim q.p vs σ = some (mk σ.next, σ.push (.cells c elem esz .exact))
  mkc : MK mk c.length esz
  slot : a.tmps[d]? = some (mk b)
  heap : w.heap[b]? = some (.cells ⟨c'⟩ te (0, 0))
  cells : VRs ι c c'
  free : ∀ A bk, ι A = some bk → bk.blk ≠ b
  new : w0.heap.size ≤ b
def AdvE (P : Program) (l : List Oper) (w0 : World) (ι : Inj) (e : Env) (a : Act) (w : World) (jb : Nat × Nat) : Prop :=
  ∃ q d vs c c' te elem esz mk, Adv P l w0 ι e a w jb.1 jb.2 q d vs c c' te elem esz mk
def mds (P : Program) (l : List Oper) (M : List (Nat × Nat)) : List Nat := M.filterMap fun jb => (one P l jb.1).bind (·.dst)
theorem mem_mds {M : List (Nat × Nat)} {t : Nat} : t ∈ mds P l M ↔ ∃ jb ∈ M, ∃ q, one P l jb.1 = some q ∧ q.dst = some t := by
  unfold mds
  rw [List.mem_filterMap]
  constructor
  · rintro ⟨jb, h1, h2⟩
    obtain ⟨q, h3, h4⟩ := Option.bind_eq_some_iff.1 h2
    exact ⟨jb, h1, q, h3, h4⟩
  · rintro ⟨jb, h1, q, h3, h4⟩
    exact ⟨jb, h1, by rw [h3]; exact h4⟩

structure Inv (P : Program) (l : List Oper) (N : Nat) (dsts : List Nat) (e0 : Env) (ι0 : Inj) (w0 : World) (items : List (Bool × Nat)) (listed : Array Bool) (T : Con) (rsI : List (Nat × Nat)) (rs : List AM.Read) (M : List (Nat × Nat)) (e : Env) (σ : H) (ι : Inj) (a : Act) (w : World) : Prop where
  r : R ι σ w
  x : Ext ι0 w0 ι w
  env : ∀ t v, e.get t = some v → t < 1000000 → t ∉ mds P l M → ∃ v', a.tmps[t]? = some v' ∧ VR ι v v'
  env0 : EnvR ι (dropD dsts e0) a.tmps
  dfr : DefR ι e a.defers
  dfr0 : DefR ι e0 a.defers
  size : a.tmps.size = N
  down : DownC .any l.toArray listed
  cover : ∀ p ∈ T, (∀ w, p.2 w) ∨ ∃ r ∈ rs, (p.1, r.d) ∈ rsI ∧ ReadOK P l ι p r
  now : ∀ p ∈ T, p.2 w
  late : ∀ p ∈ T, ∀ jb ∈ M, waits l.toArray p.1 jb.1 = false
  adv : ∀ jb ∈ M, AdvE P l w0 ι e a w jb
  early : ∀ jb ∈ M, okEarly P l items jb.1 = true
  inM : ∀ jb ∈ M, (false, jb.1) ∈ items ∧ listed.getD jb.1 false = true
  known : ∀ j, (false, j) ∈ items → listed.getD j false = true → ∃ b, (j, b) ∈ M
  uniq : ∀ x ∈ M, ∀ y ∈ M, x.1 = y.1 ∨ x.2 = y.2 → x = y

/-- What is told of each operation's slot. -/
structure Slots (P : Program) (l : List Oper) (N : Nat) (dsts : List Nat) : Prop where
  dst : ∀ k q, one P l k = some q → ∀ d, q.dst = some d → d ∈ dsts
  lt : ∀ d ∈ dsts, d < N ∧ d < 1000000

theorem befores_head {b : Bool} {k j : Nat} {items : List (Bool × Nat)} (h : b = true ∨ k ≠ j) : befores j ((b, k) :: items) = k :: befores j items := by
  simp only [befores]
  have : (!b && Nat.beq k j) = false := by
    rcases h with rfl | h
    · rfl
    · rw [nbeq, decide_eq_false h, Bool.and_false]
  rw [this]
theorem okEarly_head {b : Bool} {k j : Nat} {items : List (Bool × Nat)} (h : b = true ∨ k ≠ j) (he : okEarly P l ((b, k) :: items) j = true) {qj qk : Op} (hj : one P l j = some qj) (hk : one P l k = some qk) : apartQ qj qk = true := by
  unfold okEarly at he
  rw [befores_head h] at he
  simp only [List.all_cons, Bool.and_eq_true, hj, hk] at he
  exact he.1.1
theorem okEarly_tail {b : Bool} {k j : Nat} {items : List (Bool × Nat)} (h : b = true ∨ k ≠ j) (he : okEarly P l ((b, k) :: items) j = true) : okEarly P l items j = true := by
  unfold okEarly at *
  rw [befores_head h] at he
  simp only [List.all_cons, Bool.and_eq_true] at he ⊢
  exact ⟨he.1.2, he.2.2⟩
theorem okEarly_fresh {j k : Nat} {items : List (Bool × Nat)} (he : okEarly P l items j = true) (hk : (false, k) ∈ items) (hne : k ≠ j) {qj qk : Op} (hj : one P l j = some qj) (hq : one P l k = some qk) {d : Nat} (hd : qk.dst = some d) : d ∉ slots qj ∧ qj.dst ≠ some d := by
  unfold okEarly at he
  simp only [Bool.and_eq_true] at he
  have h := List.all_eq_true.1 he.2 _ hk
  simp only [Bool.false_or, hj, hq, Bool.or_eq_true, nbeq, decide_eq_true_eq] at h
  rcases h with h | h
  · exact absurd h hne
  · unfold freshQ at h
    rw [hd] at h
    simp only [Bool.and_eq_true, Bool.not_eq_true', List.contains_eq_mem, decide_eq_false_iff_not] at h
    refine ⟨h.1, fun e => ?_⟩
    rw [e] at h
    simp [nbeq] at h

variable {items : List (Bool × Nat)} {listed : Array Bool} {T : Con} {rsI : List (Nat × Nat)} {rs : List AM.Read} {M : List (Nat × Nat)} {e : Env} {σ : H} {ι : Inj} {a : Act} {w : World}

/-- The operation at the head is none that was made early. -/
theorem Inv.apart {b : Bool} {k : Nat} (h : Inv P l N dsts e0 ι0 w0 ((b, k) :: items) listed T rsI rs M e σ ι a w) (hk : b = true ∨ listed.getD k false = false) {q : Op} (hq : one P l k = some q) : ∀ jb ∈ M, (b = true ∨ k ≠ jb.1) ∧ ∀ qj, one P l jb.1 = some qj → apartQ qj q = true := by
  intro jb hjb
  have hne : b = true ∨ k ≠ jb.1 := by
    rcases hk with h1 | h1
    · exact .inl h1
    · refine .inr fun e => ?_
      have := (h.inM jb hjb).2
      rw [← e, h1] at this; cases this
  exact ⟨hne, fun qj hj => okEarly_head hne (h.early jb hjb) hj hq⟩
theorem Inv.slots {b : Bool} {k : Nat} (h : Inv P l N dsts e0 ι0 w0 ((b, k) :: items) listed T rsI rs M e σ ι a w) (hk : b = true ∨ listed.getD k false = false) {q : Op} (hq : one P l k = some q) : ∀ t ∈ AM.slots q, t ∉ mds P l M := by
  intro t ht hm
  obtain ⟨jb, hjb, qj, hj, hd⟩ := mem_mds.1 hm
  obtain ⟨_, hap⟩ := h.apart hk hq jb hjb
  obtain ⟨d, h1, h2, _⟩ := apartQ_spec (hap qj hj)
  rw [hd] at h1
  cases h1
  exact h2 ht
theorem Inv.envR (h : Inv P l N dsts e0 ι0 w0 items listed T rsI rs M e σ ι a w) : EnvR ι (dropD (mds P l M) e) a.tmps := by
  intro t v hv hlt
  rw [dropD_get] at hv
  split at hv
  · cases hv
  · rename_i hm
    exact h.env t v hv hlt hm
theorem Inv.evs {b : Bool} {k : Nat} (h : Inv P l N dsts e0 ι0 w0 ((b, k) :: items) listed T rsI rs M e σ ι a w) (hk : b = true ∨ listed.getD k false = false) {q : Op} (hq : one P l k = some q) :
    (dropD (mds P l M) e).evs q.args = e.evs q.args ∧ wantedV (dropD (mds P l M) e) q.guard = wantedV e q.guard := by
  have hs := h.slots hk hq
  exact ⟨evs_congr fun t ht => by rw [dropD_get, if_neg (hs t (slots_args ht))], wantedV_congr fun t ht => by rw [dropD_get, if_neg (hs t ht)]⟩

theorem keep_free {ι' : Inj} {w' : World} (hx : Ext ι w ι' w') {b : Nat} (hb : b < w.heap.size) (hf : ∀ A bk, ι A = some bk → bk.blk ≠ b) : w'.heap[b]? = w.heap[b]? ∧ ∀ A bk, ι' A = some bk → bk.blk ≠ b := by
  refine ⟨hx.keep b hb fun A bk hA _ => hf A bk hA, fun A bk hA e => ?_⟩
  cases h0 : ι A with
  | some bk0 =>
    have := hx.sub _ _ h0
    rw [hA] at this
    cases this
    exact hf A bk h0 e
  | none =>
    obtain ⟨_, h1 | ⟨B, bB, h1, h2, h3⟩⟩ := hx.new A bk h0 hA
    · omega
    · exact hf B bB h1 (h3.trans e)

theorem put_tmps_ne {a : Act} {d : Option Nat} {v : Value} {t : Nat} (h : d ≠ some t) : (a.put d v).tmps[t]? = a.tmps[t]? := by
  cases d with
  | none => rfl
  | some d =>
    have : d ≠ t := fun e => h (by rw [e])
    simp [Act.put, Array.getElem?_setIfInBounds_ne this]

theorem getD_set_ne' {listed : Array Bool} {i j : Nat} (h : i ≠ j) : (listed.setIfInBounds i true).getD j false = listed.getD j false := getD_set_ne false h

/-- Behind the operation at the head. -/
theorem Inv.step {b : Bool} {k : Nat} (h : Inv P l N dsts e0 ι0 w0 ((b, k) :: items) listed T rsI rs M e σ ι a w) (hS : Slots P l N dsts) (honce : ∀ y ∈ items, y.2 ≠ k) (hk : b = true ∨ listed.getD k false = false) {q : Op} (hq : one P l k = some q)
    {v v' : Value} {ι' : Inj} {w' : World} {σ' : H} (hx : Ext ι w ι' w') (hR : R ι' σ' w') (hv : VR ι' v v') {T' : Con} {rsI' : List (Nat × Nat)} {rs' : List AM.Read} (hdown : DownC .any l.toArray (listed.setIfInBounds k true))
    (hcover : ∀ p ∈ T', (∀ w, p.2 w) ∨ ∃ r ∈ rs', (p.1, r.d) ∈ rsI' ∧ ReadOK P l ι' p r) (hnow : ∀ p ∈ T', p.2 w') (hlate : ∀ p ∈ T', ∀ jb ∈ M, waits l.toArray p.1 jb.1 = false) :
    Inv P l N dsts e0 ι0 w0 items (listed.setIfInBounds k true) T' rsI' rs' M (e.put q.dst v) σ' ι' (a.put q.dst v') w' := by
  have hap := h.apart hk hq
  have hdl : dstLt q.dst = true := by
    cases hd : q.dst with
    | none => rfl
    | some d =>
      have := (hS.lt d (hS.dst k q hq d hd)).2
      simpa [dstLt, nblt] using this
  have h6 : (e.put q.dst v).get 1000000 = e.get 1000000 := by
    rw [Env.get_put, if_neg]
    intro hd
    have := dstLt_iff hdl _ hd
    omega
  have hkne : ∀ y ∈ items, k ≠ y.2 := fun y hy e => honce y hy e.symm
  have hMk : ∀ jb ∈ M, k ≠ jb.1 := fun jb hjb => by
    rcases (hap jb hjb).1 with hb | hne
    · subst hb
      have := (h.inM jb hjb).1
      cases this with
      | tail _ hm => exact hkne _ hm
    · exact hne
  refine ⟨hR, h.x.trans hx, fun t u hu hlt hm => ?_, fun t u hu hlt => ?_, ?_, ?_, ?_, hdown, hcover, hnow, hlate, fun jb hjb => ?_, fun jb hjb => okEarly_tail (hap jb hjb).1 (h.early jb hjb), fun jb hjb => ?_, fun j hj hl => ?_, h.uniq⟩
  · rw [Env.get_put] at hu
    split at hu
    · rename_i hd
      cases hu
      refine ⟨v', ?_, hv⟩
      rw [hd]
      have : t < a.tmps.size := by rw [h.size]; exact (hS.lt t (hS.dst k q hq t hd)).1
      simp [Act.put, this]
    · rename_i hd
      obtain ⟨u', h1, h2⟩ := h.env t u hu hlt hm
      exact ⟨u', by rw [put_tmps_ne hd]; exact h1, h2.mono hx.sub⟩
  · obtain ⟨u', h1, h2⟩ := h.env0 t u hu hlt
    refine ⟨u', ?_, h2.mono hx.sub⟩
    rw [put_tmps_ne]
    · exact h1
    · intro hd
      rw [dropD_get, if_pos (hS.dst k q hq t hd)] at hu
      cases hu
  · rw [Act.put_dfr]; exact (h.dfr.of_get h6).mono hx.sub
  · rw [Act.put_dfr]; exact h.dfr0.mono hx.sub
  · rw [Act.put_size]; exact h.size
  · obtain ⟨qj, d, vs, c, c', te, elem, esz, mk, hA⟩ := h.adv jb hjb
    obtain ⟨d2, g1, g2, g3, g4⟩ := apartQ_spec ((hap jb hjb).2 qj hA.op)
    rw [hA.dst] at g1; cases g1
    have hb : jb.2 < w.heap.size := (Array.getElem?_eq_some_iff.1 hA.heap).1
    obtain ⟨k1, k2⟩ := keep_free hx hb hA.free
    refine ⟨qj, d, vs, c, c', te, elem, esz, mk, hA.op, hA.guard, hA.dst, hA.kind, ?_, hA.prim, hA.mkc, ?_, k1.trans hA.heap, hA.cells.mono hx.sub, k2, hA.new⟩
    · rw [← hA.args]
      refine evs_congr fun t ht => ?_
      rw [Env.get_put, if_neg]
      intro hd
      exact g4 t hd (slots_args ht)
    · rw [put_tmps_ne g3]; exact hA.slot
  · obtain ⟨h1, h2⟩ := h.inM jb hjb
    refine ⟨?_, getD_set_true h2⟩
    cases h1 with
    | head => exact absurd rfl (hMk jb hjb)
    | tail _ hm => exact hm
  · rw [getD_set_ne' (hkne _ hj)] at hl
    exact h.known j (List.mem_cons_of_mem _ hj) hl
end
end AM
end Go.Proofs.YtdbbkaeoinalpaaGreat
