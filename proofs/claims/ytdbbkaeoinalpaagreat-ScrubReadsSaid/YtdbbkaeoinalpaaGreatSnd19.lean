/- Code. -/
import Derived.Test.YtdbbkaeoinalpaaGreatSnd18
set_option linter.unusedVariables false
namespace Go.Proofs.YtdbbkaeoinalpaaGreat
namespace AM
section
variable {P : Program} {O : Orc}

theorem claim_all {l : List Oper} {N : Nat} {dsts : List Nat} {e0 : Env} {ι0 : Inj} {w0 : World} {res : Ex × Env × H} (T0 : Tables P) (hO : CallsOK P O) (hS : Slots P l N dsts) (hsel : Region.noSelect l.toArray = true)
    (hclose : ∀ (d : Option Nat) v c a w, (∀ k, d = some k → k ∈ dsts) → Post ι0 w0 N res (.panic c) (a.put d v) w → Post ι0 w0 N res (.panic c) a w) (f n : Nat) : Claim P l N dsts e0 ι0 w0 O res f n := by
  induction f using Nat.strongRecOn generalizing n with
  | _ f ihf =>
    induction n using Nat.strongRecOn with
    | _ n ihn => exact claim_step T0 hO hS hsel hclose f n (fun f' h n => ihf f' h n) ihn
theorem runQ_len {qs : List Op} {rs : List AM.Read} {e : Env} {σ : H} : True := trivial
theorem runSegs_panic {e0 : Env} {dsts : List Nat} {res : Ex × Env × H} : ∀ (ss : List Seg) (rs : List AM.Read) (e : Env) (σ : H), runSegs O e0 dsts ss rs e σ = some res → ∀ v, res.1 = .panic v → res.2.1 = dropD dsts e0
  | [], rs, e, σ, h, v, hv => by
    simp only [runSegs, Option.some.injEq] at h
    subst h; cases hv
  | s :: ss, rs, e, σ, h, v, hv => by
    simp only [runSegs] at h
    split at h
    · cases h
    · split at h
      · exact runSegs_panic ss _ _ _ h v hv
      · split at h
        · cases h
        · split at h
          · cases h
          · split at h
            · split at h
              · exact runSegs_panic ss _ _ _ h v hv
              · cases h
            · simp only [Option.some.injEq] at h
              subst h; rfl
            · cases h

theorem Post.of_ext {ι ι1 : Inj} {w w1 : World} {N : Nat} {res : Ex × Env × H} (h : Ext ι w ι1 w1) {c : Go.Code} {a : Act} {wx : World} (hp : c.wp P (Post ι1 w1 N res) a wx) : c.wp P (Post ι w N res) a wx := wp_mono hp fun _ _ _ h2 => h2.trans h

theorem draw_wp (T0 : Tables P) (hO : CallsOK P O) {id : Nat} {l : List Oper} {pl : Plan} {b : AM.Code} {N : Nat} (hc : compReg P l true (some pl) = some b) (hok : okN N b = true) {e : Env} {a : Act} {σ : H} {w : World} {ι : Inj} {res : Ex × Env × H}
    (hs : StR N ι e a) (hr : R ι σ w) (h : denote O b e σ = some res) : (Go.Code.region id l.toArray true).wp P (Post ι w N res) a w := by
  simp only [compReg] at hc
  split at hc
  case isFalse => cases hc
  rename_i hchk
  simp only [Bool.and_eq_true, nble, decide_eq_true_eq] at hchk
  obtain ⟨⟨⟨hB, honce⟩, hlen⟩, hsel⟩ := hchk
  simp only [Option.bind_eq_bind] at hc
  obtain ⟨segs, hsegs, hc⟩ := Option.bind_eq_some_iff.1 hc
  simp only [Option.some.injEq] at hc
  subst hc
  simp only [denote] at h
  simp only [okN, List.all_eq_true, Bool.and_eq_true, nblt, decide_eq_true_eq] at hok
  have hS : Slots P l N (l.filterMap (·.dst)) := by
    refine ⟨fun k q hq d hd => ?_, hok⟩
    obtain ⟨o, ho, hco⟩ := one_some hq
    obtain ⟨_, _, _, hdst, _⟩ := compOper_some hco
    exact List.mem_filterMap.2 ⟨o, List.mem_of_getElem? ho, by rw [← hdst]; exact hd⟩
  obtain ⟨q, eo, r', s, ss', e1, e2, _, _, e5⟩ := segs_next hsegs
  have hrun : runSegs O e (l.filterMap (·.dst)) (s :: ss') [] e σ = some res := by rw [e5]; exact h
  have hclose : ∀ (d : Option Nat) v c a w2, (∀ k, d = some k → k ∈ l.filterMap (·.dst)) → Post ι w.drew N res (.panic c) (a.put d v) w2 → Post ι w.drew N res (.panic c) a w2 := by
    rintro d v c a w2 hd ⟨ι', h1, h2, h3, h4⟩
    refine ⟨ι', h1, h2, h3, ?_⟩
    have he : res.2.1 = dropD (l.filterMap (·.dst)) e := by
      cases hx : res.1 with
      | panic v => exact runSegs_panic _ _ _ _ h v hx
      | _ => rw [hx] at h3; exact h3.elim
    refine ⟨fun t u hu hlt => ?_, by have := h4.dfr; rwa [Act.put_dfr] at this, by have := h4.size; rwa [Act.put_size] at this⟩
    obtain ⟨u', g1, g2⟩ := h4.env t u hu hlt
    refine ⟨u', ?_, g2⟩
    rw [put_tmps_ne] at g1
    · exact g1
    · intro hdt
      rw [he, dropD_get, if_pos (hd t hdt)] at hu
      cases hu
  have hr1 : R ι σ w.drew := hr.same rfl
  have hl0 : ∀ j : Nat, (Array.replicate l.length false).getD j false = false := fun j => by
    rcases Nat.lt_or_ge j l.length with h | h
    · simp [h]
    · simp [h]
  have hInv : Inv P l N (l.filterMap (·.dst)) e ι w.drew pl.items (Array.replicate l.length false) [] [] [] [] e σ ι a w.drew := by
    refine ⟨hr1, Ext.refl _ _, fun t v hv hlt _ => hs.env t v hv hlt, fun t v hv hlt => ?_, hs.dfr, hs.dfr, hs.size, ⟨by simp, fun j oj _ hl => ?_⟩, fun p hp => (by cases hp), fun p hp => (by cases hp), fun p hp => (by cases hp), fun p hp => (by cases hp), fun p hp => (by cases hp), fun p hp => (by cases hp), fun j _ hl => ?_, fun p hp => (by cases hp)⟩
    · rw [dropD_get] at hv
      split at hv
      · cases hv
      · exact hs.env t v hv hlt
    · rw [hl0] at hl; cases hl
    · rw [hl0] at hl; cases hl
  have hcnt : cnt pl.items (Array.replicate l.length false) ≤ l.length := Nat.le_trans (List.length_filter_le _ _) hlen
  rw [← e1] at hB honce hInv hcnt
  have := claim_all T0 hO hS hsel hclose (2 * l.length) r'.length r' q eo s ss' [] (Array.replicate l.length false) [] [] [] e σ ι a w.drew l.length (Nat.le_refl _) e2 hB honce hcnt hInv hrun
  refine Post.of_ext (Ext.same (ι := ι) (w := w) (w' := w.drew) rfl rfl rfl rfl) (wp_region_any T0.mixed ?_)
  have h2 := wpAny_of_T _ _ _ _ _ this
  simpa using h2

/-! ### Loops -/
def LoopSt (P : Program) (c : Go.Code) (Q : Exit → Act → World → Prop) (a : Act) (w : World) : Prop :=
  ∀ (b : Frame) (k : List Item) (cs : List Frame), ∃ e a' w', Q e a' w' ∧ Arrives P (lone (b.at a (.code c :: .inLoop c :: k)) cs w) b k cs e a' w'
theorem LoopSt.wp {c : Go.Code} {Q : Exit → Act → World → Prop} {a : Act} {w : World} (h : LoopSt P c Q a w) : (Go.Code.loop c).wp P Q a w := fun b k cs =>
  let ⟨e, a', w', hq, harr⟩ := h b k cs
  ⟨e, a', w', hq, .of_steps (.one step_loop) harr⟩
theorem LoopSt.unroll {c : Go.Code} {Q : Exit → Act → World → Prop} {a : Act} {w : World} (h : c.wp P (Exit.then (LoopSt P c Q) Q) a w) : LoopSt P c Q a w := by
  intro b k cs
  obtain ⟨e, a₁, w₁, hq, harr⟩ := h b (.inLoop c :: k) cs
  cases e with
  | normal =>
    obtain ⟨e₂, a₂, w₂, hq₂, harr₂⟩ := hq b k cs
    exact ⟨e₂, a₂, w₂, hq₂, .of_steps (Steps.trans harr (.one step_inLoop)) harr₂⟩
  | exit id => exact ⟨_, a₁, w₁, hq, .pass (x := .inLoop c) rfl (fun _ _ => .inl (by simp)) harr⟩
  | goto l => exact ⟨_, a₁, w₁, hq, .pass (x := .inLoop c) rfl (fun _ _ => .inl (by simp)) harr⟩
  | ret => exact ⟨_, a₁, w₁, hq, .pass (x := .inLoop c) rfl (fun _ _ => .inl (by simp)) harr⟩
  | panic ch => exact ⟨_, a₁, w₁, hq, .pass (x := .inLoop c) rfl (fun _ _ => .inl (by simp)) harr⟩
  | outgrown => exact ⟨_, a₁, w₁, hq, .pass (x := .inLoop c) rfl (fun _ _ => .inl (by simp)) harr⟩
theorem LoopSt.mono {c : Go.Code} {Q Q' : Exit → Act → World → Prop} {a : Act} {w : World} (h : LoopSt P c Q a w) (hq : ∀ e a w, Q e a w → Q' e a w) : LoopSt P c Q' a w := fun b k cs =>
  let ⟨e, a', w', q, harr⟩ := h b k cs
  ⟨e, a', w', hq _ _ _ q, harr⟩

structure OrcOK (P : Program) (O : Orc) : Prop extends CallsOK P O where
  loop : ∀ {plan : Nat → Option Plan} {N : Nat} {ks : List Nat} {b : AM.Code} {c : Go.Code} {e : Env} {σ : H} {res : Ex × Env × H}, compCode P plan c = some (erase b) → okN N b = true → O.loop ks b e σ = some res →
    ∀ {ι : Inj} {w : World} {a : Act}, StR N ι e a → R ι σ w → LoopSt P c (Post ι w N res) a w

theorem sub_get {e : Env} : ∀ {ks : List Nat} {t : Nat} {v : Value}, (e.sub ks).get t = some v → e.get t = some v
  | [], t, v, h => by
    simp only [Env.sub] at h
    split at h
    · rename_i u hu
      rw [Env.get_cons] at h
      split at h
      · rename_i ht; subst ht; cases h; exact hu
      · simp [Env.get] at h
    · simp [Env.get] at h
  | k :: ks, t, v, h => by
    simp only [Env.sub] at h
    split at h
    · rename_i u hu
      rw [Env.get_cons] at h
      split at h
      · rename_i ht; subst ht; cases h; exact hu
      · exact sub_get h
    · exact sub_get h
theorem sub_dfr {e : Env} : ∀ (ks : List Nat), (e.sub ks).get 1000000 = e.get 1000000
  | [] => by
    simp only [Env.sub]
    split
    · rename_i u hu
      rw [Env.get_cons, if_pos rfl, hu]
    · rename_i hu
      rw [hu]; rfl
  | k :: ks => by
    simp only [Env.sub]
    split
    · rename_i u hu
      rw [Env.get_cons]
      split
      · rename_i ht; subst ht; exact hu.symm
      · exact sub_dfr ks
    · exact sub_dfr ks
theorem StR.sub {N : Nat} {ι : Inj} {e : Env} {a : Act} (h : StR N ι e a) (ks : List Nat) : StR N ι (e.sub ks) a :=
  ⟨fun t v hv hlt => h.env t v (sub_get hv) hlt, h.dfr.of_get (sub_dfr ks), h.size⟩
end
end AM
end Go.Proofs.YtdbbkaeoinalpaaGreat
