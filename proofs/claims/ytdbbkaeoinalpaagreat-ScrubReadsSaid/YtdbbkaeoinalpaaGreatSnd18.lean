/- Drawn regions: the proof. -/
import Derived.Test.YtdbbkaeoinalpaaGreatSnd17
set_option linter.unusedVariables false
namespace Go.Proofs.YtdbbkaeoinalpaaGreat
namespace AM
section
variable {P : Program} {l : List Oper} {N : Nat} {dsts : List Nat} {e0 : Env} {ι0 : Inj} {w0 : World} {O : Orc} {res : Ex × Env × H}

def Claim (P : Program) (l : List Oper) (N : Nat) (dsts : List Nat) (e0 : Env) (ι0 : Inj) (w0 : World) (O : Orc) (res : Ex × Env × H) (f n : Nat) : Prop :=
  ∀ (r : Plan) (q : List Nat) (eo : Option Nat) (s : Seg) (ss : List Seg) (rsI : List (Nat × Nat)) (listed : Array Bool) (T : Con) (rs : List AM.Read) (M : List (Nat × Nat)) (e : Env) (σ : H) (ι : Inj) (a : Act) (w : World) (fuel : Nat),
    r.length ≤ n → SegRel P l q eo r s ss rsI → planB P l f (hitems q eo r) listed = true → onceB (hitems q eo r) = true → cnt (hitems q eo r) listed ≤ fuel →
    Inv P l N dsts e0 ι0 w0 (hitems q eo r) listed T rsI rs M e σ ι a w → runSegs O e0 dsts (s :: ss) rs e σ = some res → wpAnyT P l.toArray (Post ι0 w0 N res) fuel T listed a w

theorem once_cons {x : Bool × Nat} {items : List (Bool × Nat)} (h : onceB (x :: items) = true) : (∀ y ∈ items, y.2 ≠ x.2) ∧ onceB items = true := by
  simp only [onceB, Bool.and_eq_true, Bool.not_eq_true', List.any_eq_false] at h
  exact ⟨fun y hy e => h.1 y hy (by rw [nbeq, decide_eq_true e]), h.2⟩
theorem Inv.more {items : List (Bool × Nat)} {listed : Array Bool} {T : Con} {rsI rsF : List (Nat × Nat)} {rs : List AM.Read} {M : List (Nat × Nat)} {e : Env} {σ : H} {ι : Inj} {a : Act} {w : World} (h : Inv P l N dsts e0 ι0 w0 items listed T rsI rs M e σ ι a w) (hs : ∀ x ∈ rsI, x ∈ rsF) :
    Inv P l N dsts e0 ι0 w0 items listed T rsF rs M e σ ι a w :=
  ⟨h.r, h.x, h.env, h.env0, h.dfr, h.dfr0, h.size, h.down, fun p hp => (h.cover p hp).imp id fun ⟨r, h1, h2, h3⟩ => ⟨r, h1, hs _ h2, h3⟩, h.now, h.late, h.adv, h.early, h.inM, h.known, h.uniq⟩
def extra (i : Nat) (q : Op) : List (Nat × Nat) := match readsHeap q.p with
  | true => q.dst.toList.map (i, ·)
  | false => []
theorem reads_cons (i : Nat) (q : Op) (z : List (Nat × Op)) : reads ((i, q) :: z) = extra i q ++ reads z := by
  unfold reads extra
  rw [List.filterMap_cons]
  cases readsHeap q.p with
  | false => rfl
  | true => cases q.dst <;> rfl
theorem getD_f {listed : Array Bool} {i : Nat} (h : i < listed.size) (h2 : listed.getD i false = false) : listed.getD i true = false := by
  simp [h] at h2 ⊢; exact h2

theorem claim_step (T0 : Tables P) (hO : CallsOK P O) (hS : Slots P l N dsts) (hsel : Region.noSelect l.toArray = true)
    (hclose : ∀ (d : Option Nat) v c a w, (∀ k, d = some k → k ∈ dsts) → Post ι0 w0 N res (.panic c) (a.put d v) w → Post ι0 w0 N res (.panic c) a w)
    (f n : Nat) (hf : ∀ f' < f, ∀ n, Claim P l N dsts e0 ι0 w0 O res f' n) (hn : ∀ n' < n, Claim P l N dsts e0 ι0 w0 O res f n') : Claim P l N dsts e0 ι0 w0 O res f n := by
  intro r q eo s ss rsI listed T rs M e σ ι a w fuel hrn hseg hB honce hcnt h hrun
  have hsz : listed.size = l.toArray.size := h.down.1
  have hselS := Region.noSelect_spec hsel
  cases q with
  | cons i q =>
    -- what is quiet
    have hit : hitems (i :: q) eo r = (true, i) :: hitems q eo r := rfl
    rw [hit] at hB honce hcnt h
    cases f with
    | zero => simp [planB] at hB
    | succ f =>
      simp only [planB, Bool.and_eq_true] at hB
      obtain ⟨⟨hr, hfree⟩, hB⟩ := hB
      have hr' : i ∈ Region.ready .any l.toArray listed := by simpa using hr
      obtain ⟨hun, oi, hoi, _⟩ := mem_ready.1 hr'
      have hilt : i < listed.size := by rw [hsz]; exact (Array.getElem?_eq_some_iff.1 hoi).1
      obtain ⟨ho1, ho2⟩ := once_cons honce
      obtain ⟨sq, se, schk, smob⟩ := s
      obtain ⟨hq, hall, hrest⟩ := hseg
      obtain ⟨q0, qs, hq0, hqs, hsq⟩ := mapM_cons_some hq
      simp only at hsq hall hrest
      subst hsq
      simp only [List.all_cons, Bool.and_eq_true] at hall
      obtain ⟨o', ho', hc⟩ := one_some hq0
      have : o' = oi := by
        rw [List.getElem?_toArray] at hoi
        exact Option.some.inj (ho'.symm.trans hoi)
      subst this
      obtain ⟨hcp, hlt, hdl, hdst, hg⟩ := compOper_some hc
      have henv := h.envR
      obtain ⟨hev, hwv⟩ := h.evs (.inl rfl) hq0
      have hfu := cnt_lt (b := true) (getD_t hun) hilt (items := (true, i) :: hitems q eo r) List.mem_cons_self
      rw [cnt_skip (getD_set_self hilt)] at hfu
      dsimp only at hfu
      obtain ⟨fuel, rfl⟩ : ∃ k, fuel = k + 1 := ⟨fuel - 1, by omega⟩
      have hdd : ∀ k, o'.dst = some k → k ∈ dsts := fun k hk => hS.dst i q0 hq0 k (by rw [hdst]; exact hk)
      have hseg' : ∀ rsI', (∀ x ∈ extra i q0 ++ rsI, x ∈ rsI') → (∀ x ∈ rsI', x ∈ extra i q0 ++ rsI) → SegRel P l q eo r ⟨qs, se, schk, smob⟩ ss rsI' := by
        intro rsI' _ hsub
        have hin : ∀ x ∈ reads (q.zip qs) ++ rsI', x ∈ reads ((i :: q).zip (q0 :: qs)) ++ rsI := by
          intro x hx
          rw [List.zip_cons_cons, reads_cons]
          rcases List.mem_append.1 hx with hx | hx
          · exact List.mem_append_left _ (List.mem_append_right _ hx)
          · rcases List.mem_append.1 (hsub x hx) with hx | hx
            · exact List.mem_append_left _ (List.mem_append_left _ hx)
            · exact List.mem_append_right _ hx
        refine ⟨hqs, hall.2, ?_⟩
        rcases hrest with ⟨h1, h2, rsF, h3, h4⟩ | ⟨k, o, rsF, h1, h2, h3, h4, h5, h6⟩
        · exact .inl ⟨h1, h2, rsF, fun x hx => h3 x (hin x hx), h4⟩
        · exact .inr ⟨k, o, rsF, h1, h2, h3, h4, fun x hx => h5 x (hin x hx), h6⟩
      have hlate : ∀ jb ∈ M, waits l.toArray i jb.1 = false := fun jb hjb => waits_listed h.down (h.inM jb hjb).2 hun
      -- taken first
      have take : ∀ (S : World → Prop) (v v' : Value) (rs' : List AM.Read), YieldsIf P l.toArray S o' v' a → S w → VR ι v v' → (∀ r ∈ rs, r ∈ rs') →
          ((∀ w, S w) ∨ ∃ r ∈ rs', (i, r.d) ∈ extra i q0 ++ rsI ∧ ReadOK P l ι (i, S) r) → runSegs O e0 dsts (⟨qs, se, schk, smob⟩ :: ss) rs' (e.put q0.dst v) σ = some res → wpAnyT P l.toArray (Post ι0 w0 N res) (fuel + 1) T listed a w := by
        intro S v v' rs' hy hSw hvr hrs hcov hrun'
        refine wpAnyT_first hoi hselS (fun c a w => hclose _ _ c a w hdd) fuel T listed a w h.down (Region.free_spec hoi hfree) hr' hy hSw h.now ?_
        rw [← hdst]
        refine hf f (Nat.lt_succ_self f) r.length r q eo ⟨qs, se, schk, smob⟩ ss (extra i q0 ++ rsI) (listed.setIfInBounds i true) ((i, S) :: T) rs' M (e.put q0.dst v) σ ι (a.put q0.dst v') w fuel (Nat.le_refl _)
          (hseg' _ (fun x hx => hx) (fun x hx => hx)) hB ho2 (by omega) ?_ hrun'
        refine h.step hS ho1 (.inl rfl) hq0 (Ext.refl _ _) h.r hvr (h.down.set hr') ?_ ?_ ?_
        · intro p hp
          cases hp with
          | head => exact hcov
          | tail _ hp => exact (h.cover p hp).imp id fun ⟨r, h1, h2, h3⟩ => ⟨r, hrs r h1, List.mem_append_right _ h2, h3⟩
        · intro p hp
          cases hp with
          | head => exact hSw
          | tail _ hp => exact h.now p hp
        · intro p hp
          cases hp with
          | head => exact hlate
          | tail _ hp => exact h.late p hp
      rcases runSegs_q hrun with ⟨hw, hrun'⟩ | ⟨hw, vs, v, σx, hv, hqp, hp, hrun'⟩
      · exact take (fun _ => True) _ undef rs (.inr ⟨wanted_eq hc henv (hwv.trans hw), rfl⟩) trivial undef_VR (fun _ h => h) (.inl fun _ => trivial) hrun'
      · have hwant := wanted_eq hc henv (hwv.trans hw)
        have hv' := hev.trans hv
        cases hl : looks q0.p with
        | true =>
          obtain ⟨⟨v', h1, h2⟩, rfl⟩ := read_sound T0 hcp hl hlt henv hv' h.r hp
          rcases hrun' with ⟨hrh, hrun'⟩ | ⟨hrh, _⟩
          · refine take (fun w => (execOp a.eval o').run P w = .ok (.value v') w) v v' _ (.inl ⟨hwant, fun w hw => hw⟩) h1 h2 (fun r hr => List.mem_cons_of_mem _ hr) (.inr ⟨_, List.mem_cons_self, ?_, ?_⟩) hrun'
            · have hds := hall.1.2
              rw [hrh] at hds
              simp only [Bool.not_true, Bool.false_or] at hds
              obtain ⟨d, hd⟩ := Option.isSome_iff_exists.1 hds
              refine List.mem_append_left _ ?_
              unfold extra
              rw [hrh, hd]
              simp
            · exact ⟨o', q0.args, _, a, v', ho', hcp, hlt, henv, hv', hl, h2, fun w hw => hw⟩
          · rw [looks_eq, hl] at hrh; cases hrh
        | false =>
          obtain ⟨⟨v', h1, h2⟩, rfl⟩ := quiet_sound T0 hcp hqp hl hlt henv hv' h.r hp
          rcases hrun' with ⟨hrh, _⟩ | ⟨hrh, hrun'⟩
          · rw [looks_eq, hl] at hrh; cases hrh
          · exact take (fun _ => True) v v' rs (.inl ⟨hwant, fun w _ => h1 w⟩) trivial h2 (fun _ h => h) (.inl fun _ => trivial) hrun'
  | nil =>
    cases eo with
    | none =>
      have hit : hitems [] none r = Plan.items r := rfl
      obtain ⟨sq, se, schk, smob⟩ := s
      obtain ⟨hq, _, hrest⟩ := hseg
      simp at hq
      subst hq
      rcases hrest with ⟨_, hse, rsF, h3, h4⟩ | ⟨k, o, rsF, h1, _⟩
      case inr => cases h1
      simp only at hse
      subst hse
      have hrun := runSegs_none hrun
      cases r with
      | nil =>
        simp only [compSegs, Option.some.injEq] at h4
        subst h4
        have hit : hitems [] none [] = [] := rfl
        rw [hit] at hB h
        simp only [runSegs, Option.some.injEq] at hrun
        subst hrun
        have hr0 : Region.ready .any l.toArray listed = [] := by
          cases f <;> simpa [planB] using hB
        have hM : M = [] := by
          cases M with
          | nil => rfl
          | cons x M =>
            have := (h.inM x List.mem_cons_self).1
            cases this
        subst hM
        refine wpAnyT_done hr0 ⟨ι, h.x, h.r, trivial, ⟨fun t v hv hlt => h.env t v hv hlt (by simp [mds]), h.dfr, h.size⟩⟩ fuel T
      | cons x r =>
        obtain ⟨q, eo, r', s', ss', e1, e2, e3, _, e5⟩ := segs_next h4
        have hlt := e3 (by simp)
        rw [hit, ← e1] at hB honce hcnt h
        refine hn r'.length (by omega) r' q eo s' ss' rsF listed T rs M e σ ι a w fuel (Nat.le_refl _) e2 hB honce hcnt (h.more fun x hx => h3 x (List.mem_append_right _ hx)) (by rw [e5]; exact hrun)
    | some i =>
      have hit : hitems [] (some i) r = (false, i) :: Plan.items r := rfl
      rw [hit] at hB honce hcnt h
      have hseg0 := hseg
      obtain ⟨sq, se, schk, smob⟩ := s
      obtain ⟨hq, _, hrest⟩ := hseg
      simp at hq
      subst hq
      rcases hrest with ⟨h1, _⟩ | ⟨k, o, rsF, h1, hse, ho, hdef, h5, hchk, hmob, h6⟩
      · cases h1
      cases h1
      simp only at hse hchk hmob
      subst hse
      obtain ⟨hmobOk, x, e1, σ1, hops, hcase⟩ := runSegs_e hrun
      obtain ⟨ho1, ho2⟩ := once_cons honce
      have h5' : ∀ x ∈ rsI, waits l.toArray x.1 i = false → x ∈ rsF := fun x hx => h5 x (List.mem_append_right _ hx)
      have hkeep : ∀ p ∈ T, waits l.toArray p.1 i = false → (∀ w, p.2 w) ∨ ∃ r ∈ keepR schk rs, (p.1, r.d) ∈ rsF ∧ ReadOK P l ι p r := by
        intro p hp hw
        refine (h.cover p hp).imp id fun ⟨r, g1, g2, g3⟩ => ?_
        have := h5' _ g2 hw
        refine ⟨r, keepR_mem g1 ?_, this, g3⟩
        rw [hchk]
        exact List.mem_map.2 ⟨_, this, rfl⟩
      obtain ⟨q2, eo2, r2, s2, ss2, e1', e2', _, _, e5'⟩ := segs_next h6
      cases f with
      | zero => simp [planB] at hB
      | succ f =>
        simp only [planB] at hB
        by_cases hl : listed.getD i false = true
        · -- made early
          rw [if_pos hl] at hB
          obtain ⟨b, hb⟩ := h.known i List.mem_cons_self hl
          obtain ⟨qj, d, vs, c, c', te, elem, esz, mk, hA⟩ := h.adv (i, b) hb
          have hqo : qj = o := Option.some.inj (hA.op.symm.trans ho)
          subst hqo
          have hres : x = .normal ∧ e1 = e.put qj.dst (mk σ.next) ∧ σ1 = σ.push (.cells c elem esz .exact) := by
            rcases regs_cons hops with ⟨hw, _⟩ | ⟨hw, vs2, hv2, ⟨hk, _⟩ | ⟨hk, rr, σ2, hstep, hrest⟩⟩
            · rw [hA.guard] at hw; cases hw
            · rw [hA.kind] at hk; cases hk
            · have := hA.args.symm.trans hv2
              cases this
              simp only [step, hA.kind, sPrim, hA.prim, Option.some.injEq, Prod.mk.injEq] at hstep
              obtain ⟨rfl, rfl⟩ := hstep
              rcases hrest with ⟨v, hv, hrun2⟩ | ⟨v, hv, _⟩
              · cases hv
                simp only [runOps, Option.some.injEq, Prod.mk.injEq] at hrun2
                exact ⟨hrun2.1.symm, hrun2.2.1.symm, hrun2.2.2.symm⟩
              · cases hv
          obtain ⟨rfl, rfl, rfl⟩ := hres
          rcases hcase with ⟨_, hst, hrun2⟩ | ⟨v, hv, _⟩
          case inr => cases hv
          have hM1 : ∀ jb ∈ M.filter (fun y => y.1 != i), jb ∈ M ∧ jb.1 ≠ i := fun jb hjb => by
            obtain ⟨g1, g2⟩ := List.mem_filter.1 hjb
            exact ⟨g1, by simpa using g2⟩
          have hApos : σ.next ≠ 0 := by have := h.r.pos; omega
          have hset := Inj.set_same ι σ.next ⟨b, 0, c.length, esz, 0, false⟩
          have hsub : Sub ι (ι.set σ.next ⟨b, 0, c.length, esz, 0, false⟩) := Inj.set_sub h.r.fresh
          have hdd := hS.dst i qj ho d hA.dst
          have hInv : Inv P l N dsts e0 ι0 w0 (Plan.items r) listed T rsF (keepR schk rs) (M.filter fun y => y.1 != i) (e.put qj.dst (mk σ.next)) (σ.push (.cells c elem esz .exact)) (ι.set σ.next ⟨b, 0, c.length, esz, 0, false⟩) a w := by
            refine ⟨h.r.late hA.heap hA.cells hA.free, h.x.late h.r.fresh rfl hA.new, fun t v hv hlt hm => ?_, h.env0.mono hsub, ?_, h.dfr0.mono hsub, h.size, h.down, fun p hp => ?_, h.now, fun p hp jb hjb => h.late p hp jb (hM1 jb hjb).1, fun jb hjb => ?_, fun jb hjb => ?_, fun jb hjb => ?_, fun j hj hjl => ?_, fun x hx y hy => h.uniq x (hM1 x hx).1 y (hM1 y hy).1⟩
            · rw [Env.get_put, hA.dst] at hv
              split at hv
              · rename_i hd
                cases hd
                cases hv
                exact ⟨mk b, hA.slot, hA.mkc.vr hApos hset⟩
              · rename_i hd
                obtain ⟨v', g1, g2⟩ := h.env t v hv hlt (fun hm2 => by
                  obtain ⟨jb, k1, q3, k2, k3⟩ := mem_mds.1 hm2
                  refine hm (mem_mds.2 ⟨jb, List.mem_filter.2 ⟨k1, ?_⟩, q3, k2, k3⟩)
                  simp only [bne_iff_ne, ne_eq]
                  intro hji
                  rw [hji, ho] at k2
                  cases k2
                  rw [hA.dst] at k3
                  exact hd k3)
                exact ⟨v', g1, g2.mono hsub⟩
            · refine (h.dfr.of_get ?_).mono hsub
              rw [Env.get_put, hA.dst, if_neg]
              intro hd
              cases hd
              have := (hS.lt _ hdd).2
              omega
            · exact (hkeep p hp (h.late p hp (i, b) hb)).imp id fun ⟨r, g1, g2, g3⟩ => ⟨r, g1, g2, g3.mono hsub⟩
            · obtain ⟨hjM, hji⟩ := hM1 jb hjb
              obtain ⟨q3, d3, vs3, c3, c3', te3, el3, es3, mk3, hA3⟩ := h.adv jb hjM
              have hne : jb.2 ≠ b := fun e => hji (by have := h.uniq jb hjM (i, b) hb (.inr e); rw [this])
              obtain ⟨_, g1, g2, g3, g4⟩ := apartQ_spec (okEarly_head (b := false) (.inr (Ne.symm hji)) (h.early jb hjM) hA3.op ho)
              refine ⟨q3, d3, vs3, c3, c3', te3, el3, es3, mk3, hA3.op, hA3.guard, hA3.dst, hA3.kind, ?_, hA3.prim, hA3.mkc, hA3.slot, hA3.heap, hA3.cells.mono hsub, fun A bk hAb => ?_, hA3.new⟩
              · rw [← hA3.args]
                refine evs_congr fun t ht => ?_
                rw [Env.get_put, if_neg]
                intro hd
                exact g4 t hd (slots_args ht)
              · unfold Inj.set at hAb
                split at hAb
                · cases hAb; exact Ne.symm hne
                · exact hA3.free A bk hAb
            · obtain ⟨hjM, hji⟩ := hM1 jb hjb
              exact okEarly_tail (.inr (Ne.symm hji)) (h.early jb hjM)
            · obtain ⟨hjM, hji⟩ := hM1 jb hjb
              obtain ⟨g1, g2⟩ := h.inM jb hjM
              refine ⟨?_, g2⟩
              cases g1 with
              | head => exact absurd rfl hji
              | tail _ g => exact g
            · obtain ⟨b2, hb2⟩ := h.known j (List.mem_cons_of_mem _ hj) hjl
              exact ⟨b2, List.mem_filter.2 ⟨hb2, by simpa using ho1 _ hj⟩⟩
          rw [cnt_skip hl] at hcnt
          rw [← e1'] at hB ho2 hcnt hInv
          exact hf f (Nat.lt_succ_self f) r2.length r2 q2 eo2 s2 ss2 rsF listed T (keepR schk rs) _ _ _ _ a w fuel (Nat.le_refl _) e2' hB ho2 hcnt hInv (by rw [e5']; exact hrun2)
        · -- it is its turn, or something is made early
          rw [if_neg hl] at hB
          simp only [Bool.and_eq_true] at hB
          obtain ⟨hr, hall⟩ := hB
          have hr' : i ∈ Region.ready .any l.toArray listed := by simpa using hr
          have hl' : listed.getD i false = false := by simpa using hl
          obtain ⟨hun, oi, hoi, _⟩ := mem_ready.1 hr'
          have hilt : i < listed.size := by rw [hsz]; exact (Array.getElem?_eq_some_iff.1 hoi).1
          have hfu := cnt_lt (b := false) hl' hilt (items := (false, i) :: Plan.items r) List.mem_cons_self
          rw [cnt_skip (getD_set_self hilt)] at hfu
          dsimp only at hfu
          obtain ⟨fuel, rfl⟩ : ∃ k, fuel = k + 1 := ⟨fuel - 1, by omega⟩
          refine ⟨fun h0 => (by rw [h0] at hr'; cases hr'), fun j hj => ?_⟩
          have hallj := List.all_eq_true.1 hall j hj
          by_cases hji : j = i
          · -- the effect
            subst hji
            simp only [beq_self_eq_true, if_true] at hallj
            obtain ⟨o', ho', hc⟩ := one_some ho
            have : o' = oi := by
              rw [List.getElem?_toArray] at hoi
              exact Option.some.inj (ho'.symm.trans hoi)
            subst this
            obtain ⟨hcp, hlt, hdl, hdst, hg⟩ := compOper_some hc
            have henv := h.envR
            obtain ⟨hev, hwv⟩ := h.evs (.inr hl') ho
            have after : ∀ (v v' : Value) (ι' : Inj) (w' : World) (σ' : H), Ext ι w ι' w' → R ι' σ' w' → VR ι' v v' → still σ' (keepR schk rs) = true → runSegs O e0 dsts ss (keepR schk rs) (e.put o.dst v) σ' = some res →
                (∀ p ∈ past l.toArray j T, p.2 w') ∧ wpAnyT P l.toArray (Post ι0 w0 N res) fuel (past l.toArray j T) (listed.setIfInBounds j true) (a.put o'.dst v') w' := by
              intro v v' ι' w' σ' hx hR hvr hst hrun2
              have hnow : ∀ p ∈ past l.toArray j T, p.2 w' := fun p hp => by
                rcases hkeep p (past_sub hp) (past_not hp) with g | ⟨r, g1, g2, g3⟩
                · exact g w'
                · exact g3.still T0 hx.sub hR hst g1
              refine ⟨hnow, ?_⟩
              have hInv := h.step hS ho1 (.inr hl') ho hx hR hvr (T' := past l.toArray j T) (rsI' := rsF) (rs' := keepR schk rs) (h.down.set hr')
                (fun p hp => (hkeep p (past_sub hp) (past_not hp)).imp id fun ⟨r, g1, g2, g3⟩ => ⟨r, g1, g2, g3.mono hx.sub⟩) hnow (fun p hp => h.late p (past_sub hp))
              have hcnt2 : cnt (Plan.items r) (listed.setIfInBounds j true) ≤ fuel := by omega
              rw [← e1'] at hallj ho2 hcnt2 hInv
              rw [← hdst]
              exact hf f (Nat.lt_succ_self f) r2.length r2 q2 eo2 s2 ss2 rsF _ _ (keepR schk rs) M _ σ' ι' _ w' fuel (Nat.le_refl _) e2' hallj ho2 hcnt2 hInv (by rw [e5']; exact hrun2)
            unfold wpOp
            rw [hoi]
            simp only
            rcases regs_cons hops with ⟨hw, hrun2⟩ | ⟨hw, vs, hv, ⟨hk, _⟩ | ⟨hk, rr, σ2, hstep, hrest⟩⟩
            · rw [if_neg (by rw [wanted_eq hc henv (hwv.trans hw)]; simp)]
              simp only [runOps, Option.some.injEq, Prod.mk.injEq] at hrun2
              obtain ⟨rfl, rfl, rfl⟩ := hrun2
              rcases hcase with ⟨_, hst, hrun3⟩ | ⟨v, hv, _⟩
              · exact after _ _ ι w _ (Ext.refl _ _) h.r undef_VR hst hrun3
              · cases hv
            · unfold isDefer at hdef
              rw [hk] at hdef; cases hdef
            · rw [if_pos (wanted_eq hc henv (hwv.trans hw))]
              refine .inl (op_wp T0 hO hcp hk hlt henv (hev.trans hv) h.r hstep (fun v v' ι' w' hv1 hx hR hvr => ?_) (fun v v' ι' w' hv1 hx hR hvr => ?_))
              · subst hv1
                rcases hrest with ⟨v2, hv2, hrun2⟩ | ⟨v2, hv2, _⟩
                · cases hv2
                  simp only [runOps, Option.some.injEq, Prod.mk.injEq] at hrun2
                  obtain ⟨rfl, rfl, rfl⟩ := hrun2
                  rcases hcase with ⟨_, hst, hrun3⟩ | ⟨v, hv, _⟩
                  · exact after _ _ ι' w' _ hx hR hvr hst hrun3
                  · cases hv
                · cases hv2
              · subst hv1
                rcases hrest with ⟨v2, hv2, _⟩ | ⟨v2, hv2, hrun2⟩
                · cases hv2
                · cases hv2
                  simp only [Prod.mk.injEq] at hrun2
                  obtain ⟨rfl, rfl, rfl⟩ := hrun2
                  rcases hcase with ⟨hv, _⟩ | ⟨v2, hv, rfl⟩
                  · cases hv
                  · cases hv
                    refine ⟨ι', h.x.trans hx, hR, ⟨v', rfl, hvr⟩, ⟨h.env0.mono hx.sub, ?_, h.size⟩⟩
                    refine (h.dfr0.of_get ?_).mono hx.sub
                    rw [dropD_get, if_neg]
                    intro hd
                    have := (hS.lt _ hd).2
                    omega
          · -- memory made early
            have hje : (j == i) = false := by simpa using hji
            simp only [hje, Bool.false_eq_true, if_false, Bool.and_eq_true] at hallj
            obtain ⟨⟨⟨hmb, hcon⟩, hoke⟩, hB⟩ := hallj
            have hcon' : (false, j) ∈ Plan.items r := by simpa using hcon
            obtain ⟨oj, hoj, hgd, ⟨d, hd⟩, hop⟩ := mobile_some hmb
            obtain ⟨hjun, _, _, _⟩ := mem_ready.1 hj
            have hw0 := waits_ready h.down hj hun |> fun _ => waits_ready (i := i) h.down hj hun
            have hjm : j ∈ mobs P l i (Plan.items r) := List.mem_map.2 ⟨(false, j), List.mem_filter.2 ⟨hcon', by simp [hmb, hw0, hoke]⟩, rfl⟩
            obtain ⟨qj, hqm, hqj⟩ := mapM_mem hmob j hjm
            obtain ⟨oj', hoj', hc⟩ := one_some hqj
            have : oj' = oj := Option.some.inj (hoj'.symm.trans hoj)
            subst this
            obtain ⟨hcp, hlt, hdl, hdst, hg⟩ := compOper_some hc
            have hgq : qj.guard = none := by
              rcases hg with ⟨_, g⟩ | ⟨_, _, _, g, _⟩
              · exact g
              · rw [hgd] at g; cases g
            have hmo : still σ rs = true ∧ makes e σ smob = true := by
              cases smob with
              | nil => cases hqm
              | cons m ms => simpa [mobOk] using hmobOk
            obtain ⟨vs, v, σx, hv, hp⟩ := makes_mem hmo.2 qj hqm
            have hjl : listed.getD j false = false := getD_t hjun
            have hMj : ∀ jb ∈ M, jb.1 ≠ j := fun jb hjb e => by
              have := (h.inM jb hjb).2
              rw [e, hjl] at this; cases this
            have hev : (dropD (mds P l M) e).evs qj.args = e.evs qj.args := evs_congr fun t ht => by
              rw [dropD_get, if_neg]
              intro hm
              obtain ⟨jb, k1, q3, k2, k3⟩ := mem_mds.1 hm
              exact (okEarly_fresh hoke (h.inM jb k1).1 (hMj jb k1) hqj k2 k3).1 (slots_args ht)
            obtain ⟨hkind, c, c', te, elem, esz, mk, hprim, hmk, hrunj, hcells⟩ := mob_run (P := P) (o := oj') hop hcp hlt h.envR (hev.trans hv) hp
            unfold wpOp
            rw [List.getElem?_toArray, hoj]
            simp only
            have hwant : Region.wanted oj' (yielded l.toArray a.tmps) = true := by simp [Region.wanted, hgd]
            rw [if_pos hwant]
            refine .inl ?_
            unfold Oper.wp
            rw [hrunj w]
            simp only [Oper.upon]
            have hR1 := h.r.garbage (.cells ⟨c'⟩ te)
            have hnow : ∀ p ∈ past l.toArray j T, p.2 (w.alloc (.cells ⟨c'⟩ te)) := fun p hp => by
              rcases h.cover p (past_sub hp) with g | ⟨r, g1, g2, g3⟩
              · exact g _
              · exact g3.still T0 (Sub.refl _) hR1 hmo.1 g1
            refine ⟨hnow, ?_⟩
            have hjlt : j < listed.size := by
              rcases Nat.lt_or_ge j listed.size with h' | h'
              · exact h'
              · simp [Array.getElem?_eq_none h'] at hjun
            have hfu2 := cnt_lt (b := false) hjl hjlt (items := (false, i) :: Plan.items r) (List.mem_cons_of_mem _ hcon')
            have hdd := hS.dst j qj hqj d (by rw [hdst]; exact hd)
            have hdN := hS.lt d hdd
            have hds : d < a.tmps.size := by rw [h.size]; exact hdN.1
            have hxa := Ext.alloc ι w (.cells ⟨c'⟩ te)
            have hInv : Inv P l N dsts e0 ι0 w0 ((false, i) :: Plan.items r) (listed.setIfInBounds j true) (past l.toArray j T) rsI rs ((j, w.heap.size) :: M) e σ ι (a.put oj'.dst (mk w.heap.size)) (w.alloc (.cells ⟨c'⟩ te)) := by
              refine ⟨hR1, h.x.trans hxa, fun t v hv hlt hm => ?_, fun t u hu hlt => ?_, ?_, ?_, ?_, h.down.set hj, fun p hp => h.cover p (past_sub hp), hnow, fun p hp jb hjb => ?_, fun jb hjb => ?_, fun jb hjb => ?_, fun jb hjb => ?_, fun j2 hj2 hl2 => ?_, fun x hx y hy hxy => ?_⟩
              · obtain ⟨v', g1, g2⟩ := h.env t v hv hlt (fun hm2 => hm (by
                  obtain ⟨jb, k1, k2⟩ := mem_mds.1 hm2
                  exact mem_mds.2 ⟨jb, List.mem_cons_of_mem _ k1, k2⟩))
                refine ⟨v', ?_, g2⟩
                rw [put_tmps_ne]
                · exact g1
                · intro he
                  exact hm (mem_mds.2 ⟨_, List.mem_cons_self, qj, hqj, by rw [hdst]; exact he⟩)
              · obtain ⟨u', g1, g2⟩ := h.env0 t u hu hlt
                refine ⟨u', ?_, g2⟩
                rw [put_tmps_ne]
                · exact g1
                · intro he
                  rw [hd] at he
                  cases he
                  rw [dropD_get, if_pos hdd] at hu
                  cases hu
              · rw [Act.put_dfr]; exact h.dfr
              · rw [Act.put_dfr]; exact h.dfr0
              · rw [Act.put_size]; exact h.size
              · cases hjb with
                | head => exact past_not hp
                | tail _ hjb => exact h.late p (past_sub hp) jb hjb
              · cases hjb with
                | head =>
                  refine ⟨qj, d, vs, c, c', te, elem, esz, mk, hqj, hgq, by rw [hdst]; exact hd, hkind, hv, hprim, hmk, ?_, heap_alloc_new _ _, hcells, fun A bk hA => ?_, h.x.size⟩
                  · rw [hd]; simp [Act.put, hds]
                  · have := h.r.blt A bk hA
                    show bk.blk ≠ w.heap.size
                    omega
                | tail _ hjb =>
                  obtain ⟨q3, d3, vs3, c3, c3', te3, el3, es3, mk3, hA3⟩ := h.adv jb hjb
                  have hb : jb.2 < w.heap.size := (Array.getElem?_eq_some_iff.1 hA3.heap).1
                  obtain ⟨k1, k2⟩ := keep_free hxa hb hA3.free
                  refine ⟨q3, d3, vs3, c3, c3', te3, el3, es3, mk3, hA3.op, hA3.guard, hA3.dst, hA3.kind, hA3.args, hA3.prim, hA3.mkc, ?_, k1.trans hA3.heap, hA3.cells, k2, hA3.new⟩
                  rw [put_tmps_ne]
                  · exact hA3.slot
                  · rw [← hdst]
                    exact (okEarly_fresh hoke (h.inM jb hjb).1 (hMj jb hjb) hqj hA3.op hA3.dst).2
              · cases hjb with
                | head => exact hoke
                | tail _ hjb => exact h.early jb hjb
              · cases hjb with
                | head => exact ⟨List.mem_cons_of_mem _ hcon', getD_set_self hjlt⟩
                | tail _ hjb => exact ⟨(h.inM jb hjb).1, getD_set_true (h.inM jb hjb).2⟩
              · by_cases hj2j : j = j2
                · subst hj2j; exact ⟨_, List.mem_cons_self⟩
                · rw [getD_set_ne' hj2j] at hl2
                  obtain ⟨b, hb⟩ := h.known j2 hj2 hl2
                  exact ⟨b, List.mem_cons_of_mem _ hb⟩
              · have hlt : ∀ y ∈ M, y.2 < w.heap.size := fun y hy => by
                  obtain ⟨_, _, _, _, _, _, _, _, _, hA3⟩ := h.adv y hy
                  exact (Array.getElem?_eq_some_iff.1 hA3.heap).1
                cases hx with
                | head =>
                  cases hy with
                  | head => rfl
                  | tail _ hy =>
                    rcases hxy with e | e
                    · exact absurd e.symm (hMj y hy)
                    · have := hlt y hy
                      have e2 : w.heap.size = y.2 := e
                      omega
                | tail _ hx =>
                  cases hy with
                  | head =>
                    rcases hxy with e | e
                    · exact absurd e (hMj x hx)
                    · have := hlt x hx
                      have e2 : x.2 = w.heap.size := e
                      omega
                  | tail _ hy => exact h.uniq x hx y hy hxy
            exact hf f (Nat.lt_succ_self f) r.length r [] (some i) ⟨[], some o, schk, smob⟩ ss rsI _ _ rs _ e σ ι _ _ fuel (Nat.le_refl _) hseg0 hB honce (by rw [hit]; omega) hInv hrun
end
end AM
end Go.Proofs.YtdbbkaeoinalpaaGreat
