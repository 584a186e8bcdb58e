/- Drawn regions: what is taken first, what may come early. -/
import Derived.Test.YtdbbkaeoinalpaaGreatSnd13
set_option linter.unusedVariables false
namespace Go.Proofs.YtdbbkaeoinalpaaGreat
namespace AM
section
variable {P : Program} {l : List Oper} {Q : Exit → Act → World → Prop}

abbrev Con := List (Nat × (World → Prop))
def past (ops : Array Oper) (j : Nat) (T : Con) : Con := T.filter fun p => !waits ops p.1 j
theorem past_sub {ops : Array Oper} {j : Nat} {T : Con} {p : Nat × (World → Prop)} (h : p ∈ past ops j T) : p ∈ T := (List.mem_filter.1 h).1
theorem past_not {ops : Array Oper} {j : Nat} {T : Con} {p : Nat × (World → Prop)} (h : p ∈ past ops j T) : waits ops p.1 j = false := by simpa using (List.mem_filter.1 h).2

/-- Whatever order is picked; what was read, and may be read still, is so behind each operation. -/
def wpAnyT (P : Program) (ops : Array Oper) (Q : Exit → Act → World → Prop) : Nat → Con → Array Bool → Act → World → Prop
  | 0, _, listed, a, w => Region.ready .any ops listed = [] ∧ Q .normal a w
  | fuel + 1, T, listed, a, w => (Region.ready .any ops listed = [] → Q .normal a w) ∧
    ∀ j ∈ Region.ready .any ops listed, wpOp P ops Q j (fun a' w' => (∀ p ∈ past ops j T, p.2 w') ∧ wpAnyT P ops Q fuel (past ops j T) (listed.setIfInBounds j true) a' w') a w

theorem wpAny_of_T : ∀ (fuel : Nat) (T : Con) (listed : Array Bool) (a : Act) (w : World), wpAnyT P l.toArray Q fuel T listed a w → wpAny P .any l.toArray Q fuel listed a w
  | 0, _, _, _, _, h => h
  | fuel + 1, T, _, _, _, h => ⟨h.1, fun i hi => wpOp_mono (fun a' w' h' => wpAny_of_T fuel _ _ a' w' h'.2) (h.2 i hi)⟩
theorem wpAnyT_sub : ∀ (fuel : Nat) {T T' : Con} {listed : Array Bool} {a : Act} {w : World}, (∀ p ∈ T', p ∈ T) → wpAnyT P l.toArray Q fuel T listed a w → wpAnyT P l.toArray Q fuel T' listed a w
  | 0, _, _, _, _, _, _, h => h
  | fuel + 1, T, T', _, _, _, hs, h => ⟨h.1, fun i hi => wpOp_mono (fun a' w' h' => by
      have hp : ∀ p ∈ past l.toArray i T', p ∈ past l.toArray i T := fun p hp => List.mem_filter.2 ⟨hs p (past_sub hp), by simpa using past_not hp⟩
      exact ⟨fun p h => h'.1 p (hp p h), wpAnyT_sub fuel hp h'.2⟩) (h.2 i hi)⟩
theorem wpAnyT_done {listed : Array Bool} {a : Act} {w : World} (hr : Region.ready .any l.toArray listed = []) (h : Q .normal a w) : ∀ (fuel : Nat) (T : Con), wpAnyT P l.toArray Q fuel T listed a w
  | 0, _ => ⟨hr, h⟩
  | _ + 1, _ => ⟨fun _ => h, by rw [hr]; simp⟩

theorem waits_anc {i k : Nat} (h : waits l.toArray i k = true) : Anc .any l.toArray i k :=
  ancs_sound (md := .any) (ops := l.toArray) i l.toArray.toList [] (fun j => by simp) (fun k hk => by simp at hk) k h
theorem waits_ready {listed : Array Bool} {i k : Nat} (inv : DownC .any l.toArray listed) (hk : k ∈ Region.ready .any l.toArray listed) (hi : listed.getD i true = false) : waits l.toArray i k = false := by
  cases h : waits l.toArray i k with
  | false => rfl
  | true =>
    obtain ⟨_, o, ho, hall⟩ := mem_ready.1 hk
    have := waits_anc h listed o inv ho hall
    rw [getD_t hi] at this; cases this
theorem waits_listed {listed : Array Bool} {i k : Nat} (inv : DownC .any l.toArray listed) (hk : listed.getD k false = true) (hi : listed.getD i true = false) : waits l.toArray i k = false := by
  cases h : waits l.toArray i k with
  | false => rfl
  | true =>
    have hlt : k < l.toArray.size := by
      rcases Nat.lt_or_ge k listed.size with h' | h'
      · rw [inv.1] at h'; exact h'
      · simp [Array.getElem?_eq_none h'] at hk
    have := waits_anc h listed _ inv (Array.getElem?_eq_getElem hlt) (inv.2 k _ (Array.getElem?_eq_getElem hlt) hk)
    rw [getD_t hi] at this; cases this

theorem wpAnyT_first {i : Nat} {oi : Oper} {v : Value} {S : World → Prop} (hi : l.toArray[i]? = some oi) (hsel : ∀ (j : Nat) (o : Oper) cs b, l.toArray[j]? = some o → o.op ≠ .select cs b)
    (hQ : ∀ c a w, Q (.panic c) (a.put oi.dst v) w → Q (.panic c) a w) :
    ∀ (fuel : Nat) (T : Con) (listed : Array Bool) (a : Act) (w : World), DownC .any l.toArray listed →
      (∀ j oj, l.toArray[j]? = some oj → j ≠ i → listed.getD j true = false → (∀ e ∈ oj.after, Region.binds .any e = true → e.on ≠ i) → oi.apart l.toArray oj = true) →
      i ∈ Region.ready .any l.toArray listed → YieldsIf P l.toArray S oi v a → S w → (∀ p ∈ T, p.2 w) →
      wpAnyT P l.toArray Q fuel ((i, S) :: T) (listed.setIfInBounds i true) (a.put oi.dst v) w → wpAnyT P l.toArray Q (fuel + 1) T listed a w := by
  intro fuel
  induction fuel with
  | zero =>
    intro T listed a w _ _ hr hy hS hT H
    refine ⟨fun h => (by rw [h] at hr; cases hr), fun j hj => ?_⟩
    by_cases hji : j = i
    · subst hji; exact hy.wpOp hi hS ⟨fun p hp => hT p (past_sub hp), H⟩
    · have := ready_mono hj hji
      rw [H.1] at this
      cases this
  | succ fuel ih =>
    intro T listed a w inv hfree hr hy hS hT H
    refine ⟨fun h => (by rw [h] at hr; cases hr), fun j hj => ?_⟩
    by_cases hji : j = i
    · subst hji; exact hy.wpOp hi hS ⟨fun p hp => hT p (past_sub hp), wpAnyT_sub _ (fun p hp => List.mem_cons_of_mem _ (past_sub hp)) H⟩
    · have h1 := H.2 j (ready_mono hj hji)
      obtain ⟨hjun, oj, hoj, hall⟩ := mem_ready.1 hj
      have hun := (mem_ready.1 hr).1
      have hw0 := waits_ready inv hj hun
      have hpast : past l.toArray j ((i, S) :: T) = (i, S) :: past l.toArray j T := by simp [past, hw0]
      rw [hpast] at h1
      have hnot : ∀ e ∈ oj.after, Region.binds .any e = true → e.on ≠ i := fun e he hb heq => by
        have h1 := hall e he hb
        rw [heq, getD_t hun] at h1; cases h1
      have h2 := wpOp_putIf hoj (hfree j oj hoj hji hjun hnot) (fun cs b => hsel i oi cs b hi) (fun cs b => hsel j oj cs b hoj) hQ hy h1
      have hfree' : ∀ k ok, l.toArray[k]? = some ok → k ≠ i → (listed.setIfInBounds j true).getD k true = false →
          (∀ e ∈ ok.after, Region.binds .any e = true → e.on ≠ i) → oi.apart l.toArray ok = true := fun k ok hk hki hun hno => by
        refine hfree k ok hk hki ?_ hno
        by_cases hjk : j = k
        · subst hjk; exact hjun
        · rw [getD_set_ne true hjk] at hun; exact hun
      refine wpOp_mono (fun a' w' h3 => ⟨fun p hp => h3.2.1 p (List.mem_cons_of_mem _ hp), ih (past l.toArray j T) (listed.setIfInBounds j true) a' w' (inv.set hj) hfree' (ready_mono hr (Ne.symm hji)) h3.1 (h3.2.1 _ List.mem_cons_self) (fun p hp => h3.2.1 p (List.mem_cons_of_mem _ hp)) ?_⟩) h2
      rw [Array.setIfInBounds_comm _ _ hji]
      exact h3.2.2

/-! ### Answers that can be told from one another -/
theorem sameC_eq {ι ι' : Inj} {v v' u u' : Value} (h1 : VR ι v v') (h2 : VR ι' u u') (hs : Sub ι ι') (hr : rigidC v = true) (he : sameC v u = true) : u' = v' := by
  have pt : ∀ {A o A' o' : Nat} {bk bk' : Bk}, ι A = some bk → ι' A' = some bk' → (⟨A, o, none⟩ : Addr) = ⟨A', o', none⟩ → bk' = bk ∧ o' = o := by
    intro A o A' o' bk bk' h h' e
    cases e
    have := hs _ _ h
    rw [h'] at this
    exact ⟨Option.some.inj this, rfl⟩
  cases h1 with
  | bool b => cases h2 <;> simp_all [sameC]
  | int k n => cases h2 <;> simp_all [sameC]
  | float k b => cases h2 <;> simp_all [sameC]
  | string s =>
    cases h2 <;> simp only [sameC, Bool.false_eq_true] at he
    rename_i s2
    have e : s = s2 := by
      rw [beq_iff_eq] at he
      cases s with
      | mk s => cases s2 with
        | mk s2 => exact congrArg ByteArray.mk (Array.ext' he)
    rw [e]
  | nilp => cases h2 <;> simp_all [sameC]
  | ptr h =>
    cases h2 <;> simp only [sameC, Bool.false_eq_true, decide_eq_true_eq, reduceCtorEq, Option.some.injEq] at he
    rename_i h'
    obtain ⟨rfl, rfl⟩ := pt h h' he
    rfl
  | nils n c => cases h2 <;> simp_all [sameC]
  | slice h0 h =>
    cases h2 <;> simp only [sameC, Bool.false_eq_true, decide_eq_true_eq, reduceCtorEq, Option.some.injEq, Bool.and_eq_true, beq_iff_eq] at he
    · simp at he
    · rename_i h'
      obtain ⟨⟨e, rfl⟩, rfl⟩ := he
      obtain ⟨rfl, rfl⟩ := pt h h' e
      rfl
    · exfalso
      have := he.1.1
      cases this
      exact h0 rfl
  | void o a c h => simp [rigidC] at hr
  | nilm => cases h2 <;> simp_all [sameC]
  | map h =>
    cases h2 <;> simp only [sameC, Bool.false_eq_true, beq_iff_eq, reduceCtorEq, Option.some.injEq] at he
    rename_i h'
    subst he
    have := hs _ _ h
    rw [h'] at this
    cases this; rfl
  | nilf => cases h2 <;> simp_all [sameC]
  | func f h1 h2 =>
    exfalso
    unfold rigidC at hr
    split at hr <;> simp_all
  | iface t h =>
    cases h2 <;> simp only [sameC, Bool.false_eq_true] at he
    rename_i h'
    simp only [Bool.and_eq_true, beq_iff_eq] at he
    obtain ⟨rfl, he⟩ := he
    cases h <;> simp only [rigidC, Bool.false_eq_true] at hr
    · cases h' <;> simp_all
    · cases h' <;> simp_all
    · cases h' <;> simp_all
    · rename_i h
      cases h' <;> simp only [Bool.false_eq_true, decide_eq_true_eq, reduceCtorEq, Option.some.injEq] at he
      rename_i h'
      obtain ⟨rfl, rfl⟩ := pt h h' he
      rfl
    · cases h' <;> simp_all
    · rename_i h
      cases h' <;> simp only [Bool.false_eq_true, beq_iff_eq, reduceCtorEq, Option.some.injEq] at he
      rename_i h'
      subst he
      have := hs _ _ h
      rw [h'] at this
      cases this; rfl
  | nili => cases h2 <;> simp_all [sameC]
  | agg h => simp [rigidC] at hr
  | tuple h => simp [rigidC] at hr
theorem sameL_eq {ι ι' : Inj} (hs : Sub ι ι') : ∀ {x x' y y' : List Value}, VRs ι x x' → VRs ι' y y' → x.all rigidC = true → sameL x y = true → y' = x'
  | _, _, _, _, .nil, .nil, _, _ => rfl
  | _, _, _, _, .cons h1 h2, .cons h3 h4, hr, he => by
    simp only [List.all_cons, Bool.and_eq_true, sameL] at hr he
    rw [sameC_eq h1 h3 hs hr.1 he.1, sameL_eq hs h2 h4 hr.2 he.2]
theorem same_eq {ι ι' : Inj} {v v' u u' : Value} (h1 : VR ι v v') (h2 : VR ι' u u') (hs : Sub ι ι') (hr : rigid v = true) (he : same v u = true) : u' = v' := by
  cases h1 with
  | agg h =>
    cases h2 <;> simp only [same, sameC, Bool.false_eq_true] at he
    rename_i h'
    rw [sameL_eq hs h h' hr he]
  | tuple h =>
    cases h2 <;> simp only [same, sameC, Bool.false_eq_true] at he
    rename_i h'
    rw [sameL_eq hs h h' hr he]
  | bool b => exact sameC_eq (.bool b) h2 hs hr he
  | int k n => exact sameC_eq (.int k n) h2 hs hr he
  | float k b => exact sameC_eq (.float k b) h2 hs hr he
  | string s => exact sameC_eq (.string s) h2 hs hr he
  | nilp => exact sameC_eq .nilp h2 hs hr he
  | ptr h => exact sameC_eq (.ptr h) h2 hs hr he
  | nils n c => exact sameC_eq (.nils n c) h2 hs hr he
  | slice h0 h => exact sameC_eq (.slice h0 h) h2 hs hr he
  | void o a c h => exact sameC_eq (.void o a c h) h2 hs hr he
  | nilm => exact sameC_eq .nilm h2 hs hr he
  | map h => exact sameC_eq (.map h) h2 hs hr he
  | nilf => exact sameC_eq .nilf h2 hs hr he
  | func f h1 h3 => exact sameC_eq (.func f h1 h3) h2 hs hr he
  | iface t h => exact sameC_eq (.iface t h) h2 hs hr he
  | nili => exact sameC_eq .nili h2 hs hr he

/-! ### Reads that may come later -/
def ReadOK (P : Program) (l : List Oper) (ι : Inj) (p : Nat × (World → Prop)) (r : AM.Read) : Prop :=
  ∃ (o : Oper) (q : List Opd) (e : Env) (a : Act) (v' : Value), l[p.1]? = some o ∧ compOp P o.op = some (r.p, q) ∧ q.all opdLt = true ∧ EnvR ι e a.tmps ∧ e.evs q = some r.vs ∧ looks r.p = true ∧ VR ι r.v v' ∧ (∀ w, (execOp a.eval o).run P w = .ok (.value v') w → p.2 w)
theorem ReadOK.mono {ι ι' : Inj} (hs : Sub ι ι') {p : Nat × (World → Prop)} {r : AM.Read} (h : ReadOK P l ι p r) : ReadOK P l ι' p r := by
  obtain ⟨o, q, e, a, v', h1, h2, h3, h4, h5, h6, h7, h8⟩ := h
  exact ⟨o, q, e, a, v', h1, h2, h3, h4.mono hs, h5, h6, h7.mono hs, h8⟩
theorem still_mem {σ : H} : ∀ {rs : List AM.Read}, still σ rs = true → ∀ r ∈ rs, ∃ v σ2, prim r.p r.vs σ = some (v, σ2) ∧ rigid r.v = true ∧ same r.v v = true
  | [], _, r, hr => by cases hr
  | r0 :: rs, h, r, hr => by
    simp only [still] at h
    split at h
    · rename_i v σ2 hp
      simp only [Bool.and_eq_true] at h
      cases hr with
      | head => exact ⟨v, σ2, hp, h.1.1, h.1.2⟩
      | tail _ hr => exact still_mem h.2 r hr
    · cases h
theorem looks_eq (p : Prim) : readsHeap p = looks p := by cases p <;> rfl
theorem ReadOK.still {ι ι' : Inj} {σ : H} {w : World} (T : Tables P) (hs : Sub ι ι') (hR : R ι' σ w) {p : Nat × (World → Prop)} {r : AM.Read} (h : ReadOK P l ι p r) {rs : List AM.Read} (hst : still σ rs = true) (hm : r ∈ rs) : p.2 w := by
  obtain ⟨o, q, e, a, v', h1, h2, h3, h4, h5, h6, h7, h8⟩ := h
  obtain ⟨v, σ2, g1, g2, g3⟩ := still_mem hst r hm
  obtain ⟨⟨u', k1, k2⟩, _⟩ := read_sound T h2 h6 h3 (h4.mono hs) h5 hR g1
  refine h8 w ?_
  rw [k1, same_eq h7 k2 hs g2 g3]
theorem keepR_mem {ks : List Nat} : ∀ {rs : List AM.Read} {r : AM.Read}, r ∈ rs → r.d ∈ ks → r ∈ keepR ks rs
  | [], r, h, _ => by cases h
  | r0 :: rs, r, h, hk => by
    simp only [keepR]
    cases h with
    | head =>
      have : ks.contains r0.d = true := by simpa using hk
      rw [this]; exact List.mem_cons_self
    | tail _ h =>
      have := keepR_mem h hk
      split
      · exact List.mem_cons_of_mem _ this
      · exact this
end
end AM
end Go.Proofs.YtdbbkaeoinalpaaGreat
