/- Code, whole. -/
import Derived.Test.YtdbbkaeoinalpaaGreatSnd19
set_option linter.unusedVariables false
namespace Go.Proofs.YtdbbkaeoinalpaaGreat
namespace AM
section
variable {P : Program} {O : Orc} {plan : Nat → Option Plan} {N : Nat}

theorem erase_seq {a b : AM.Code} (ha : ∀ ks, a ≠ .keep ks) (hb : ∀ ks, b ≠ .keep ks) : erase (.seq a b) = .seq (erase a) (erase b) := by
  cases a <;> cases b <;> first | rfl | exact absurd rfl (ha _) | exact absurd rfl (hb _)
theorem erase_keep_left (ks : List Nat) (b : AM.Code) : erase (.seq (.keep ks) b) = erase b := by cases b <;> rfl
theorem erase_keep_right (ks : List Nat) (a : AM.Code) (ha : ∀ ks, a ≠ .keep ks) : erase (.seq a (.keep ks)) = erase a := by
  cases a <;> first | rfl | exact absurd rfl (ha _)

/-- What the compiler makes of code. -/
inductive Comp (P : Program) (plan : Nat → Option Plan) : Go.Code → AM.Code → Prop
  | skip : Comp P plan .skip .skip
  | reg (id : Nat) (l : List Oper) (os : List Op) (h : l.mapM (compOper P l) = some os) : Comp P plan (.region id l.toArray false) (.reg os)
  | draw (id : Nat) (l : List Oper) (pl : Plan) (b : AM.Code) (segs : List Seg) (ds : List Nat) (hb : b = .draw segs ds) (h : compReg P l true (some pl) = some b) : Comp P plan (.region id l.toArray true) b
  | seq (x y : Go.Code) (a b : AM.Code) (h1 : compCode P plan x = some a) (h2 : compCode P plan y = some b) : Comp P plan (.seq x y) (.seq a b)
  | cond (c : Operand) (d : Opd) (x y : Go.Code) (a b : AM.Code) (h : opdOf c = some d) (h1 : compCode P plan x = some a) (h2 : compCode P plan y = some b) : Comp P plan (.cond c x y) (.cond d a b)
  | block (id : Nat) (x : Go.Code) (a : AM.Code) (h : compCode P plan x = some a) : Comp P plan (.block id x) (.block id a)
  | loop (x : Go.Code) (a : AM.Code) (h : compCode P plan x = some a) : Comp P plan (.loop x) (.loop [] a)
  | exit (id : Nat) : Comp P plan (.exit id) (.exit id)
  | ret : Comp P plan .ret .ret
theorem comp_of {c : Go.Code} {b : AM.Code} (h : compCode P plan c = some b) : Comp P plan c b := by
  cases c <;> simp only [compCode, reduceCtorEq, Option.some.injEq, Option.bind_eq_bind, Option.pure_def] at h
  case skip => subst h; exact .skip
  case region id ops draw =>
    cases draw with
    | false =>
      simp only [compReg, Option.bind_eq_bind] at h
      obtain ⟨os, h1, h2⟩ := Option.bind_eq_some_iff.1 h
      simp only [Option.some.injEq] at h2
      subst h2
      have := Comp.reg (P := P) (plan := plan) id ops.toList os h1
      simpa using this
    | true =>
      cases hp : plan id with
      | none => rw [hp] at h; simp [compReg] at h
      | some pl =>
        rw [hp] at h
        have hb : ∃ segs ds, b = .draw segs ds := by
          simp only [compReg] at h
          split at h
          · simp only [Option.bind_eq_bind] at h
            obtain ⟨segs, _, h2⟩ := Option.bind_eq_some_iff.1 h
            simp only [Option.some.injEq] at h2
            exact ⟨_, _, h2.symm⟩
          · cases h
        obtain ⟨segs, ds, hb⟩ := hb
        have := Comp.draw (P := P) (plan := plan) id ops.toList pl b segs ds hb h
        simpa using this
  case seq x y =>
    obtain ⟨a, h1, h2⟩ := Option.bind_eq_some_iff.1 h
    obtain ⟨b, h3, h4⟩ := Option.bind_eq_some_iff.1 h2
    simp only [Option.some.injEq] at h4
    subst h4
    exact .seq x y a b h1 h3
  case cond c x y =>
    obtain ⟨d, h0, h⟩ := Option.bind_eq_some_iff.1 h
    obtain ⟨a, h1, h2⟩ := Option.bind_eq_some_iff.1 h
    obtain ⟨b, h3, h4⟩ := Option.bind_eq_some_iff.1 h2
    simp only [Option.some.injEq] at h4
    subst h4
    exact .cond c d x y a b h0 h1 h3
  case block id x =>
    obtain ⟨a, h1, h2⟩ := Option.bind_eq_some_iff.1 h
    simp only [Option.some.injEq] at h2
    subst h2
    exact .block id x a h1
  case loop x =>
    obtain ⟨a, h1, h2⟩ := Option.bind_eq_some_iff.1 h
    simp only [Option.some.injEq] at h2
    subst h2
    exact .loop x a h1
  case exit id => subst h; exact .exit id
  case ret => subst h; exact .ret

theorem code_wp (T0 : Tables P) (hO : OrcOK P O) : ∀ (b : AM.Code) (c : Go.Code) (e : Env) (a : Act) (σ : H) (w : World) (ι : Inj) (res : Ex × Env × H), compCode P plan c = some (erase b) → okN N b = true → StR N ι e a → R ι σ w → denote O b e σ = some res → c.wp P (Post ι w N res) a w := by
  intro b
  induction b with
  | skip =>
    intro c e a σ w ι res hc hok hs hr h
    have := comp_of hc
    generalize hb : erase .skip = b at this
    cases this <;> simp only [erase, reduceCtorEq] at hb
    · simp only [denote, Option.some.injEq] at h
      subst h
      exact wp_skip ⟨ι, Ext.refl _ _, hr, trivial, hs⟩
    · rename_i hb2 h2; subst hb2; cases hb
  | reg ops =>
    intro c e a σ w ι res hc hok hs hr h
    have := comp_of hc
    generalize hb : erase (.reg ops) = b at this
    cases this <;> simp only [erase, reduceCtorEq] at hb
    · rename_i id l os hm
      cases hb
      simp only [denote] at h
      simp only [okN] at hok
      refine wp_region (wpL_ops _ _ _ ?_)
      have := regs_wp T0 hO.toCallsOK (N := N) (res := res) (Q := Post ι w N res) l 0 _ e a σ w ι (by simp) hm hok hs hr h (fun _ _ _ h => h)
      rw [List.range_eq_range']
      simpa using this
    · rename_i hb2 h2; subst hb2; cases hb
  | draw segs dsts =>
    intro c e a σ w ι res hc hok hs hr h
    have := comp_of hc
    generalize hb : erase (.draw segs dsts) = b at this
    cases this <;> simp only [erase, reduceCtorEq] at hb
    rename_i id l pl segs2 ds2 hb2 h2
    subst hb
    exact draw_wp T0 hO.toCallsOK h2 hok hs hr h
  | keep ks =>
    intro c e a σ w ι res hc hok hs hr h
    have := comp_of hc
    generalize hb : erase (.keep ks) = b at this
    cases this <;> simp only [erase, reduceCtorEq] at hb
    rename_i hb2 h2; subst hb2; cases hb
  | seq x y ihx ihy =>
    intro c e a σ w ι res hc hok hs hr h
    simp only [okN, Bool.and_eq_true] at hok
    by_cases hx : ∃ ks, x = .keep ks
    · obtain ⟨ks, rfl⟩ := hx
      rw [erase_keep_left] at hc
      simp only [denote] at h
      exact ihy c (e.sub ks) a σ w ι res hc hok.2 (hs.sub ks) hr h
    · have hx' : ∀ ks, x ≠ .keep ks := fun ks hk => hx ⟨ks, hk⟩
      by_cases hy : ∃ ks, y = .keep ks
      · obtain ⟨ks, rfl⟩ := hy
        rw [erase_keep_right _ _ hx'] at hc
        simp only [denote] at h
        split at h
        · cases h
        · rename_i ex e' σ' hd
          have h1 := ihx c e a σ w ι _ hc hok.1 hs hr hd
          refine wp_mono h1 ?_
          rintro ex2 a2 w2 ⟨ι', g1, g2, g3, g4⟩
          refine ⟨ι', g1, ?_⟩
          cases ex <;> simp only [Option.some.injEq] at h <;> subst h
          · exact ⟨g2, g3, g4.sub ks⟩
          · exact ⟨g2, g3, g4⟩
          · exact ⟨g2, g3, g4⟩
          · exact ⟨g2, g3, g4⟩
      · have hy' : ∀ ks, y ≠ .keep ks := fun ks hk => hy ⟨ks, hk⟩
        rw [erase_seq hx' hy'] at hc
        have hcomp := comp_of hc
        generalize hb : Code.seq (erase x) (erase y) = b at hcomp
        cases hcomp with
        | skip => cases hb
        | reg => cases hb
        | draw id l pl b segs ds hb2 h2 => subst hb2; cases hb
        | cond => cases hb
        | block => cases hb
        | loop => cases hb
        | exit => cases hb
        | ret => cases hb
        | seq u v b1 b2 h1 h2 =>
          cases hb
          simp only [denote] at h
          split at h
          · cases h
          · rename_i ex e' σ' hd
            refine wp_seq (wp_mono (ihx _ e a σ w ι _ h1 hok.1 hs hr hd) ?_)
            rintro ex2 a2 w2 ⟨ι', g1, g2, g3, g4⟩
            cases ex with
            | normal =>
              cases ex2 <;> simp only [ExR] at g3
              exact Post.of_ext g1 (ihy _ e' a2 σ' w2 ι' res h2 hok.2 g4 g2 h)
            | exit id =>
              simp only [Option.some.injEq] at h
              subst h
              cases ex2 <;> simp only [ExR] at g3
              exact ⟨ι', g1, g2, g3, g4⟩
            | ret =>
              simp only [Option.some.injEq] at h
              subst h
              cases ex2 <;> simp only [ExR] at g3
              exact ⟨ι', g1, g2, trivial, g4⟩
            | panic v =>
              simp only [Option.some.injEq] at h
              subst h
              cases ex2 <;> simp only [ExR] at g3
              exact ⟨ι', g1, g2, g3, g4⟩
  | cond d x y ihx ihy =>
    intro c e a σ w ι res hc hok hs hr h
    simp only [okN, Bool.and_eq_true] at hok
    have hcomp := comp_of hc
    generalize hb : erase (.cond d x y) = b at hcomp
    simp only [erase] at hb
    cases hcomp with
    | skip => cases hb
    | reg => cases hb
    | draw id l pl b segs ds hb2 h2 => subst hb2; cases hb
    | seq => cases hb
    | block => cases hb
    | loop => cases hb
    | exit => cases hb
    | ret => cases hb
    | cond c0 d0 u v b1 b2 h0 h1 h2 =>
      cases hb
      simp only [denote] at h
      split at h
      case h_2 => cases h
      rename_i t hev
      have hvr := hs.env.ev h0 hev (opdLt_t hok.1.1)
      generalize hct : a.eval c0 = v0 at hvr
      cases hvr
      cases t with
      | true => exact wp_cond_true hct (ihx u e a σ w ι res h1 hok.1.2 hs hr h)
      | false => exact wp_cond_false hct (ihy v e a σ w ι res h2 hok.2 hs hr h)
  | block id x ih =>
    intro c e a σ w ι res hc hok hs hr h
    simp only [okN] at hok
    have := comp_of hc
    generalize hb : erase (.block id x) = b at this
    cases this <;> simp only [erase, reduceCtorEq] at hb
    · rename_i hb2 h2; subst hb2; cases hb
    · rename_i id2 u b1 h1
      cases hb
      simp only [denote] at h
      split at h
      · cases h
      · rename_i ex e' σ' hd
        refine wp_block (wp_mono (ih u e a σ w ι _ h1 hok hs hr hd) ?_)
        rintro ex2 a2 w2 ⟨ι', g1, g2, g3, g4⟩
        cases ex with
        | normal =>
          simp only [Option.some.injEq] at h
          subst h
          cases ex2 <;> simp only [ExR] at g3
          exact ⟨ι', g1, g2, trivial, g4⟩
        | exit i =>
          cases ex2 <;> simp only [ExR] at g3
          subst g3
          simp only [Exit.inBlock]
          simp only [nbeq] at h
          by_cases hi : i = id
          · rw [if_pos hi]
            rw [decide_eq_true hi] at h
            simp only [Option.some.injEq] at h
            subst h
            exact ⟨ι', g1, g2, trivial, g4⟩
          · rw [if_neg hi]
            rw [decide_eq_false hi] at h
            simp only [Option.some.injEq] at h
            subst h
            exact ⟨ι', g1, g2, rfl, g4⟩
        | ret =>
          simp only [Option.some.injEq] at h
          subst h
          cases ex2 <;> simp only [ExR] at g3
          exact ⟨ι', g1, g2, trivial, g4⟩
        | panic v =>
          simp only [Option.some.injEq] at h
          subst h
          cases ex2 <;> simp only [ExR] at g3
          exact ⟨ι', g1, g2, g3, g4⟩
  | loop ks x ih =>
    intro c e a σ w ι res hc hok hs hr h
    simp only [okN] at hok
    have := comp_of hc
    generalize hb : erase (.loop ks x) = b at this
    cases this <;> simp only [erase, reduceCtorEq] at hb
    · rename_i hb2 h2; subst hb2; cases hb
    · rename_i u b1 h1
      cases hb
      simp only [denote] at h
      exact (hO.loop h1 hok h (hs.sub ks) hr).wp
  | exit id =>
    intro c e a σ w ι res hc hok hs hr h
    have := comp_of hc
    generalize hb : erase (.exit id) = b at this
    cases this <;> simp only [erase, reduceCtorEq] at hb
    · rename_i hb2 h2; subst hb2; cases hb
    · cases hb
      simp only [denote, Option.some.injEq] at h
      subst h
      exact wp_exit ⟨ι, Ext.refl _ _, hr, rfl, hs⟩
  | ret =>
    intro c e a σ w ι res hc hok hs hr h
    have := comp_of hc
    generalize hb : erase .ret = b at this
    cases this <;> simp only [erase, reduceCtorEq] at hb
    · rename_i hb2 h2; subst hb2; cases hb
    · simp only [denote, Option.some.injEq] at h
      subst h
      exact wp_ret ⟨ι, Ext.refl _ _, hr, trivial, hs⟩
end
end AM
end Go.Proofs.YtdbbkaeoinalpaaGreat
