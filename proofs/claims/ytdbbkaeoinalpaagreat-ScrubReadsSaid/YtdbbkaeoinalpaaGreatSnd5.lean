/- Equality of flat values; maps. -/
import Derived.Test.YtdbbkaeoinalpaaGreatSnd4
import Derived.Laws.StructEq
set_option linter.unusedVariables false
namespace Go.Proofs.YtdbbkaeoinalpaaGreat
namespace AM
section
variable {P : Program} {ι : Inj} {σ σ' : H} {w : World}

def cmp (bl : Bool) : Value → Value → Option Bool := match bl with | true => eqBool | false => eqInt
theorem cellT_und {bl : Bool} {t : Nat} (h : cellT P bl t = true) : (bl = true ∧ P.underlying t = some .bool) ∨ (bl = false ∧ ∃ k, P.underlying t = some (.int k)) := by
  unfold cellT at h
  cases bl
  · simp [intT] at h
    split at h
    · rename_i k hk; exact .inr ⟨rfl, k, hk⟩
    · cases h
  · simp [boolT] at h
    split at h
    · rename_i hk; exact .inl ⟨rfl, hk⟩
    · cases h
theorem cell_equal {bl : Bool} {t d : Nat} {a b : Value} {r : Bool} (ht : cellT P bl t = true) (h : cmp bl a b = some r) (w : World) : (Op.equalIn (d + 1) t a b).run P w = .ok r w := by
  rcases cellT_und ht with ⟨rfl, hu⟩ | ⟨rfl, k, hu⟩
  · cases a <;> cases b <;> simp [cmp, eqBool] at h
    subst h
    exact run_equalIn_bool' w d t _ _ hu
  · cases a <;> cases b <;> simp only [cmp, eqInt, reduceCtorEq] at h
    rename_i k1 x k2 y
    rw [sameK_eq] at h
    split at h
    · rename_i hk
      simp at hk h
      subst hk
      rw [eqI_eq] at h
      rw [run_equalIn_int w d t k1 k x y hu, ← h]
      rfl
    · cases h
theorem cell_part {bl : Bool} {t : Nat} (ht : cellT P bl t = true) (cs : Array Value) (i : Nat) (v : Value) (h : cs[i]? = some v) (w : World) : (part t cs i).run P w = .ok v w := by
  unfold part
  have : (isAgg t).run P w = .ok false w := by
    rcases cellT_und ht with ⟨rfl, hu⟩ | ⟨rfl, k, hu⟩ <;> simp [isAgg, run_underlying hu]
  simp [this, h]
theorem listEq_get {f : Value → Value → Option Bool} : ∀ (n : Nat) (x y : List Value) (r : Bool), listEq f n x y = some r → x.length = n ∧ y.length = n ∧
    (∀ (i : Nat) (a b : Value), x[i]? = some a → y[i]? = some b → ∃ c, f a b = some c)
  | 0, [], [], r, _ => ⟨rfl, rfl, fun i a b h => by simp at h⟩
  | 0, [], _ :: _, r, h => by simp [listEq] at h
  | 0, _ :: _, _, r, h => by simp [listEq] at h
  | n + 1, [], _, r, h => by simp [listEq] at h
  | n + 1, _ :: _, [], r, h => by simp [listEq] at h
  | n + 1, a :: x, b :: y, r, h => by
    simp only [listEq] at h
    have key : ∃ c r', f a b = some c ∧ listEq f n x y = some r' := by
      split at h
      · exact ⟨_, _, by assumption, h⟩
      · split at h
        · exact ⟨_, _, by assumption, by assumption⟩
        · cases h
      · cases h
    obtain ⟨c, r', h1, h2⟩ := key
    obtain ⟨l1, l2, l3⟩ := listEq_get n x y r' h2
    refine ⟨by simp [l1], by simp [l2], fun i a' b' ha hb => ?_⟩
    cases i with
    | zero => simp at ha hb; subst ha; subst hb; exact ⟨c, h1⟩
    | succ i => exact l3 i a' b' (by simpa using ha) (by simpa using hb)
theorem fields_equal {bl : Bool} {d : Nat} (xs ys : List Value) : ∀ (fs : List Field) (i : Nat) (x y : List Value) (r : Bool), fieldsB P bl fs i = true → xs.drop i = x → ys.drop i = y → listEq (cmp bl) fs.length x y = some r →
    ∀ w, (Op.eqFields (d + 1) ⟨xs⟩ ⟨ys⟩ fs).run P w = .ok r w
  | [], i, x, y, r, _, _, _, h, w => by
    cases x <;> cases y <;> simp [listEq] at h
    subst h; rfl
  | f :: fs, i, x, y, r, hf, hx, hy, h, w => by
    simp only [fieldsB, Bool.and_eq_true, bne_iff_ne, beq_iff_eq] at hf
    obtain ⟨⟨⟨f1, f2⟩, f3⟩, f4⟩ := hf
    cases x with
    | nil => simp [listEq] at h
    | cons a x =>
      cases y with
      | nil => simp [listEq] at h
      | cons b y =>
        have ha : xs[i]? = some a := by rw [← List.head?_drop, hx]; rfl
        have hb : ys[i]? = some b := by rw [← List.head?_drop, hy]; rfl
        have hx' : xs.drop (i + 1) = x := by rw [← List.drop_drop, hx]; rfl
        have hy' : ys.drop (i + 1) = y := by rw [← List.drop_drop, hy]; rfl
        have p1 := cell_part (P := P) f2 ⟨xs⟩ i a (by simpa using ha) w
        have p2 := cell_part (P := P) f2 ⟨ys⟩ i b (by simpa using hb) w
        simp only [List.length_cons, listEq] at h
        simp only [Op.eqFields]
        rw [if_pos f1, f3]
        split at h
        · rename_i hc
          have ih := fields_equal (d := d) xs ys fs (i + 1) x y r f4 hx' hy' h w
          simp [p1, p2, cell_equal (d := d) f2 hc, ih]
        · rename_i hc
          split at h
          · simp at h; subst h
            simp [p1, p2, cell_equal (d := d) f2 hc]
          · cases h
        · cases h
theorem array_equal {bl : Bool} {e : Nat} (he : cellT P bl e = true) (xs ys : List Value) (f : Nat → Option Bool × Unit → Sem (ForInStep (Option Bool × Unit)))
    (hf : ∀ i a b c, xs[i]? = some a → ys[i]? = some b → cmp bl a b = some c → ∀ w, (f i (none, ())).run P w = .ok (if c then .yield (none, ()) else .done (some false, ())) w) :
    ∀ (n i : Nat) (x y : List Value) (r : Bool), xs.drop i = x → ys.drop i = y → listEq (cmp bl) n x y = some r →
    ∀ w, (forIn (List.range' i n) ((none, ()) : Option Bool × Unit) f).run P w = .ok (if r then (none, ()) else (some false, ())) w
  | 0, i, x, y, r, _, _, h, w => by
    cases x <;> cases y <;> simp [listEq] at h
    subst h; rfl
  | n + 1, i, x, y, r, hx, hy, h, w => by
    cases x with
    | nil => simp [listEq] at h
    | cons a x =>
      cases y with
      | nil => simp [listEq] at h
      | cons b y =>
        have ha : xs[i]? = some a := by rw [← List.head?_drop, hx]; rfl
        have hb : ys[i]? = some b := by rw [← List.head?_drop, hy]; rfl
        have hx' : xs.drop (i + 1) = x := by rw [← List.drop_drop, hx]; rfl
        have hy' : ys.drop (i + 1) = y := by rw [← List.drop_drop, hy]; rfl
        simp only [listEq] at h
        rw [List.range'_succ, List.forIn_cons]
        split at h
        · rename_i hc
          have ih := array_equal he xs ys f hf n (i + 1) x y r hx' hy' h w
          simp [hf i a b _ ha hb hc, ih]
        · rename_i hc
          split at h
          · simp at h; subst h
            simp [hf i a b _ ha hb hc]
          · cases h
        · cases h
theorem flat_equal {bl : Bool} {t n d : Nat} {x y : List Value} {r : Bool} (ht : flatT P bl t = some n) (h : listEq (cmp bl) n x y = some r) (w : World) : (Op.equalIn (d + 2) t (.agg ⟨x⟩) (.agg ⟨y⟩)).run P w = .ok r w := by
  unfold flatT at ht
  split at ht
  · rename_i fs hu
    split at ht
    · rename_i hc
      simp only [Bool.and_eq_true, Bool.not_eq_true'] at hc
      simp only [Option.some.injEq] at ht
      have hfo : P.fieldsOf t = fs := by simp [Program.fieldsOf, hu]
      rw [run_equalIn_struct w (d + 1) t ⟨x⟩ ⟨y⟩ (by rw [hfo]; exact hu) hc.1.2, hfo]
      exact fields_equal (d := d) x y fs.toList 0 x y r hc.1.1 rfl rfl (by rw [← ht] at h; simpa using h) w
    · cases ht
  · rename_i len e hu
    split at ht
    · rename_i hc
      simp only [Bool.and_eq_true, beq_iff_eq] at hc
      simp only [Option.some.injEq] at ht
      subst ht
      rw [Op.equalIn]
      simp only [Sem.run_bind, run_underlying hu, Result.andThen_ok, run_sizeOf hc.1.2]
      have := array_equal hc.1.1 x y (fun i (r : Option Bool × Unit) => do
          let a ← part e ⟨x⟩ (i * 1)
          let b ← part e ⟨y⟩ (i * 1)
          let q ← Op.equalIn (d + 1) e a b
          if (!q) = true then pure (.done (some false, ())) else pure (.yield (none, ()))) (fun i a b c ha hb hcm w => by
        simp only [Nat.mul_one, Sem.run_bind, cell_part (P := P) hc.1.1 ⟨x⟩ i a (by simpa using ha) w, cell_part (P := P) hc.1.1 ⟨y⟩ i b (by simpa using hb) w, Result.andThen_ok, cell_equal (d := d) hc.1.1 hcm w]
        cases c <;> rfl) len 0 x y r rfl rfl h w
      rw [Std.Legacy.Range.forIn_eq_forIn_range']
      simp only [Std.Legacy.Range.size, Nat.sub_zero, Nat.add_sub_cancel, Nat.div_one]
      rw [this]
      cases r <;> rfl
    · cases ht
  · cases ht

theorem flat_agg {bl : Bool} {t n : Nat} (ht : flatT P bl t = some n) : P.eqGuardType P.depth t = false := by
  unfold flatT at ht
  split at ht
  · split at ht
    · rename_i hc; simp only [Bool.and_eq_true, Bool.not_eq_true'] at hc; exact hc.2
    · cases ht
  · split at ht
    · rename_i hc; simp only [Bool.and_eq_true, Bool.not_eq_true'] at hc; exact hc.2
    · cases ht
  · cases ht
theorem cmp_VR {bl : Bool} {x x' y y' : Value} {r : Bool} (h : cmp bl x y = some r) (hx : VR ι x x') (hy : VR ι y y') : x' = x ∧ y' = y := by
  cases bl <;> cases hx <;> cases hy <;> simp [cmp, eqBool, eqInt] at h <;> exact ⟨rfl, rfl⟩
theorem listEq_step {f : Value → Value → Option Bool} {n : Nat} {a b : Value} {x y : List Value} {r : Bool} (h : listEq f (n + 1) (a :: x) (b :: y) = some r) :
    ∃ c r', f a b = some c ∧ listEq f n x y = some r' ∧ r = (c && r') := by
  simp only [listEq] at h
  split at h
  · exact ⟨true, r, by assumption, h, rfl⟩
  · split at h
    · rename_i r' _
      simp at h
      exact ⟨false, r', by assumption, by assumption, by simp [h]⟩
    · cases h
  · cases h
theorem listEq_VR {bl : Bool} : ∀ (n : Nat) (x x' y y' : List Value) (r : Bool), listEq (cmp bl) n x y = some r → VRs ι x x' → VRs ι y y' → x' = x ∧ y' = y := by
  intro n
  induction n with
  | zero =>
    intro x x' y y' r h hx hy
    cases hx <;> cases hy <;> simp [listEq] at h <;> exact ⟨rfl, rfl⟩
  | succ n ih =>
    intro x x' y y' r h hx hy
    cases hx with
    | nil => simp [listEq] at h
    | cons hx hxs =>
      cases hy with
      | nil => simp [listEq] at h
      | cons hy hys =>
        obtain ⟨c, r', h1, h2, _⟩ := listEq_step h
        obtain ⟨e1, e2⟩ := cmp_VR h1 hx hy
        obtain ⟨e3, e4⟩ := ih _ _ _ _ r' h2 hxs hys
        rw [e1, e2, e3, e4]
        exact ⟨rfl, rfl⟩
theorem eqInt_true {a b : Value} (h : eqInt a b = some true) : a = b := by
  cases a <;> cases b <;> simp only [eqInt, reduceCtorEq] at h
  rw [sameK_eq] at h
  split at h
  · rename_i hs
    simp at hs h
    rw [eqI_eq] at h
    simp at h
    rw [hs, h]
  · cases h
theorem listEq_true : ∀ (n : Nat) (x y : List Value), listEq eqInt n x y = some true → x = y := by
  intro n
  induction n with
  | zero => intro x y h; cases x <;> cases y <;> simp [listEq] at h <;> rfl
  | succ n ih =>
    intro x y h
    cases x with
    | nil => simp [listEq] at h
    | cons a x =>
      cases y with
      | nil => simp [listEq] at h
      | cons b y =>
        obtain ⟨c, r', h1, h2, h3⟩ := listEq_step h
        have := h3.symm
        simp at this
        rw [this.1] at h1
        rw [this.2] at h2
        rw [eqInt_true h1, ih x y h2]
theorem good_eqAgg {bl neg : Bool} {n t : Nat} {x x' y y' v : Value} (h : pEqAgg bl n neg [x, y] σ = some (v, σ')) (hx : VR ι x x') (hy : VR ι y y') (ht : flatT P bl t = some n) (a b : Operand) :
    (eqGuard (eqOp neg) t a b x' y').run P w = .ok () w ∧ (binOp (eqOp neg) t x' y').run P w = .ok v w ∧ VR ι v v ∧ σ' = σ := by
  cases hx <;> simp only [pEqAgg] at h <;> try (cases h; done)
  cases hy <;> simp only [] at h <;> try (cases h; done)
  rename_i xs xs' hxs ys ys' hys
  split at h
  case h_2 => cases h
  rename_i r hr
  simp only [Option.some.injEq, Prod.mk.injEq] at h
  obtain ⟨rfl, rfl⟩ := h
  have hr' : listEq (cmp bl) n xs ys = some r := by cases bl <;> exact hr
  obtain ⟨rfl, rfl⟩ := listEq_VR _ _ _ _ _ _ hr' hxs hys
  refine ⟨run_eqGuard_agg w _ t a b _ _ (flat_agg ht), ?_, .bool _, rfl⟩
  cases neg
  · show (binOp .eql t _ _).run P w = _
    rw [run_eql_struct w t ⟨xs'⟩ ⟨ys'⟩, flat_equal (d := 9998) ht hr' w]
    rfl
  · show (binOp .neq t _ _).run P w = _
    rw [run_neq_struct w t ⟨xs'⟩ ⟨ys'⟩, flat_equal (d := 9998) ht hr' w]
    rfl

/-! ### Maps -/
theorem keyT_or {kt : Nat} {ks : Option Nat} (h : keyT P kt = some ks) : (ks = none ∧ ∃ k, P.underlying kt = some (.int k)) ∨ (∃ n, ks = some n ∧ flatT P false kt = some n) := by
  unfold keyT at h
  split at h
  · rename_i hi
    simp at h
    unfold intT at hi
    split at hi
    · rename_i k hk; exact .inl ⟨h.symm, k, hk⟩
    · cases hi
  · split at h
    · rename_i n hn
      simp at h
      exact .inr ⟨n, h.symm, hn⟩
    · cases h
theorem keyEq_cases {ks : Option Nat} {a b : Value} {r : Bool} (h : keyEq ks a b = some r) : (ks = none ∧ eqInt a b = some r) ∨ (∃ n x y, ks = some n ∧ a = .agg ⟨x⟩ ∧ b = .agg ⟨y⟩ ∧ listEq eqInt n x y = some r) := by
  unfold keyEq at h
  split at h
  · split at h
    · exact .inr ⟨_, _, _, rfl, rfl, rfl, h⟩
    · cases h
  · split at h
    · exact .inl ⟨rfl, h⟩
    · cases h
  · cases h
theorem keyEq_VR {ks : Option Nat} {a a' b b' : Value} {r : Bool} (h : keyEq ks a b = some r) (ha : VR ι a a') (hb : VR ι b b') : a' = a ∧ b' = b := by
  rcases keyEq_cases h with ⟨_, h1⟩ | ⟨n, x, y, _, rfl, rfl, h1⟩
  · exact cmp_VR (bl := false) h1 ha hb
  · cases ha; cases hb
    rename_i x' hx y' hy
    obtain ⟨rfl, rfl⟩ := listEq_VR (bl := false) _ _ _ _ _ _ h1 hx hy
    exact ⟨rfl, rfl⟩
theorem keyEq_true {ks : Option Nat} {a b : Value} (h : keyEq ks a b = some true) : a = b := by
  rcases keyEq_cases h with ⟨_, h1⟩ | ⟨n, x, y, _, rfl, rfl, h1⟩
  · exact eqInt_true h1
  · rw [listEq_true n x y h1]
theorem keyEq_run {ks : Option Nat} {kt : Nat} {a b : Value} {r : Bool} (hk : keyT P kt = some ks) (h : keyEq ks a b = some r) (w : World) : (Op.equal kt a b).run P w = .ok r w := by
  unfold Op.equal Op.maxDepth
  rcases keyEq_cases h with ⟨rfl, h1⟩ | ⟨n, x, y, rfl, rfl, rfl, h1⟩
  · rcases keyT_or hk with ⟨_, k, hu⟩ | ⟨n, hn, _⟩
    · exact cell_equal (bl := false) (d := 9999) (by simp [cellT, intT, hu]) h1 w
    · cases hn
  · rcases keyT_or hk with ⟨hn, _⟩ | ⟨m, hm, hf⟩
    · cases hn
    · cases hm
      exact flat_equal (bl := false) (d := 9998) hf h1 w
theorem find_run {ks : Option Nat} {kt : Nat} (hk : keyT P kt = some ks) : ∀ {es es' : List MapEntry} {k k' : Value} (i : Nat) {r : Option (Nat × Value)}, findL ks k es i = some r → EsR ι es es' → VR ι k k' →
    (k' = k ∨ es = []) → ∃ r', (Instr.findAsking kt k' es' i).run P w = .ok r' w ∧ (r = none → r' = none) ∧ (∀ j v, r = some (j, v) → ∃ v', r' = some (j, v') ∧ VR ι v v') ∧ (∀ j v, r = some (j, v) → i ≤ j ∧ ∃ e e', es[j - i]? = some e ∧ es'[j - i]? = some e' ∧ v = e.val ∧ e'.key = k' ∧ e.key = k)
  | [], es', k, k', i, r, h, he, hkv, _ => by
    cases he
    simp [findL] at h
    subst h
    exact ⟨none, rfl, fun _ => rfl, fun j v h => (by cases h), fun j v h => by cases h⟩
  | e :: es, es', k, k', i, r, h, he, hkv, hkk => by
    cases he with
    | @cons e e' l l' h1 h2 h3 h4 =>
      simp only [findL] at h
      have hk2 : k' = k := hkk.resolve_right (by simp)
      subst hk2
      split at h
      · rename_i hc
        simp at h
        subst h
        obtain ⟨e1, e2⟩ := keyEq_VR hc hkv h1
        have hrun := keyEq_run hk hc w
        refine ⟨some (i, e'.val), ?_, fun h => (by cases h), fun j v h => ?_, fun j v h => ?_⟩
        · rw [← e2] at hrun
          simp [Instr.findAsking, hrun]
        · cases h; exact ⟨_, rfl, h2⟩
        · cases h
          have : k' = e.key := keyEq_true hc
          exact ⟨Nat.le_refl _, e, e', by simp, by simp, rfl, by rw [e2, this], this.symm⟩
      · rename_i hc
        obtain ⟨e1, e2⟩ := keyEq_VR hc hkv h1
        have hrun := keyEq_run hk hc w
        obtain ⟨r', a1, a2, a3, a4⟩ := find_run hk (i + 1) h h4 hkv (.inl rfl)
        refine ⟨r', ?_, a2, a3, fun j v hj => ?_⟩
        · rw [← e2] at hrun
          simp [Instr.findAsking, hrun, a1]
        · obtain ⟨b1, f, f', b2, b3, b4⟩ := a4 j v hj
          refine ⟨by omega, f, f', ?_, ?_, b4⟩
          · rw [show j - i = (j - (i + 1)) + 1 by omega]; simpa using b2
          · rw [show j - i = (j - (i + 1)) + 1 by omega]; simpa using b3
      · cases h

theorem checkKey_int {em : Bool} {d kt : Nat} {k : IntKind} {v : Value} (hu : P.underlying kt = some (.int k)) (w : World) : (Instr.checkKey em (d + 1) kt v).run P w = .ok () w := by
  rw [Instr.checkKey]
  simp only [Sem.run_bind, run_underlying hu, Result.andThen_ok]
  cases v <;> rfl
theorem check_fields {em : Bool} {d : Nat} (xs : List Value) : ∀ (fs : List Field) (i : Nat) (x : List Value), fieldsB P false fs i = true → xs.drop i = x → x.length = fs.length →
    ∀ w, (forIn fs PUnit.unit fun (f : Field) (_ : PUnit) => (if f.name ≠ "_" then do
      let a ← part f.type ⟨xs⟩ f.offset
      Instr.checkKey em (d + 1) f.type a
      pure (ForInStep.yield PUnit.unit) else pure (ForInStep.yield PUnit.unit) : Sem (ForInStep PUnit))).run P w = .ok PUnit.unit w
  | [], i, x, _, _, _, w => rfl
  | f :: fs, i, x, hf, hx, hl, w => by
    simp only [fieldsB, Bool.and_eq_true, bne_iff_ne, beq_iff_eq] at hf
    obtain ⟨⟨⟨f1, f2⟩, f3⟩, f4⟩ := hf
    cases x with
    | nil => simp at hl
    | cons a x =>
      have ha : xs[i]? = some a := by rw [← List.head?_drop, hx]; rfl
      have hx' : xs.drop (i + 1) = x := by rw [← List.drop_drop, hx]; rfl
      have p1 := cell_part (P := P) f2 ⟨xs⟩ i a (by simpa using ha) w
      have ih := check_fields (em := em) (d := d) xs fs (i + 1) x f4 hx' (by simpa using hl) w
      obtain ⟨_, k, hu⟩ := (cellT_und f2).resolve_left (by simp)
      rw [List.forIn_cons]
      rw [if_pos f1, f3]
      simp only [Sem.run_bind, p1, Result.andThen_ok, checkKey_int (em := em) (d := d) hu, Sem.run_pure]
      exact ih
theorem check_array {em : Bool} {d e : Nat} (he : cellT P false e = true) (hs : szT P e = some 1) (xs : List Value) : ∀ (n i : Nat) (x : List Value), xs.drop i = x → x.length = n →
    ∀ w, (forIn (List.range' i n) PUnit.unit fun (i : Nat) (_ : PUnit) => (do
      let s ← sizeOf e
      let a ← part e ⟨xs⟩ (i * s)
      Instr.checkKey em (d + 1) e a
      pure (ForInStep.yield PUnit.unit) : Sem (ForInStep PUnit))).run P w = .ok PUnit.unit w
  | 0, i, x, hx, hl, w => rfl
  | n + 1, i, x, hx, hl, w => by
    cases x with
    | nil => simp at hl
    | cons a x =>
      have ha : xs[i]? = some a := by rw [← List.head?_drop, hx]; rfl
      have hx' : xs.drop (i + 1) = x := by rw [← List.drop_drop, hx]; rfl
      have p1 := cell_part (P := P) he ⟨xs⟩ i a (by simpa using ha) w
      have ih := check_array (em := em) (d := d) he hs xs n (i + 1) x hx' (by simpa using hl) w
      obtain ⟨_, k, hu⟩ := (cellT_und he).resolve_left (by simp)
      rw [List.range'_succ, List.forIn_cons]
      simp only [Sem.run_bind, run_sizeOf hs, Nat.mul_one, p1, Result.andThen_ok, checkKey_int (em := em) (d := d) hu, Sem.run_pure] at ih ⊢
      exact ih
theorem checkKey_run {em : Bool} {kt : Nat} {ks : Option Nat} {k : Value} (hk : keyT P kt = some ks) (h : keyOk ks k = true) (w : World) : (Instr.checkKey em 10000 kt k).run P w = .ok () w := by
  unfold keyOk at h
  split at h
  case h_2 => cases h
  rename_i r hr
  rcases keyEq_cases hr with ⟨rfl, h1⟩ | ⟨n, x, y, rfl, rfl, h2, h1⟩
  · rcases keyT_or hk with ⟨_, k', hu⟩ | ⟨n, hn, _⟩
    · exact checkKey_int (d := 9999) hu w
    · cases hn
  · rcases keyT_or hk with ⟨hn, _⟩ | ⟨m, hm, hf⟩
    · cases hn
    · cases hm
      obtain ⟨l1, _, _⟩ := listEq_get _ _ _ _ h1
      unfold flatT at hf
      split at hf
      · rename_i fs hu
        split at hf
        · rename_i hc
          simp only [Bool.and_eq_true, Bool.not_eq_true'] at hc
          simp only [Option.some.injEq] at hf
          rw [Instr.checkKey]
          simp only [Sem.run_bind, run_underlying hu, Result.andThen_ok]
          rw [← Array.forIn_toList]
          have := check_fields (em := em) (d := 9998) x fs.toList 0 x hc.1.1 rfl (by rw [l1, ← hf]; simp) w
          rw [this]; rfl
        · cases hf
      · rename_i len e hu
        split at hf
        · rename_i hc
          simp only [Bool.and_eq_true, beq_iff_eq] at hc
          simp only [Option.some.injEq] at hf
          rw [Instr.checkKey]
          simp only [Sem.run_bind, run_underlying hu, Result.andThen_ok]
          rw [Std.Legacy.Range.forIn_eq_forIn_range']
          simp only [Std.Legacy.Range.size, Nat.sub_zero, Nat.add_sub_cancel, Nat.div_one]
          have := check_array (em := em) (d := 9998) hc.1.1 hc.1.2 x len 0 x rfl (by rw [l1, hf]) w
          rw [this]; rfl
        · cases hf
      · cases hf

theorem findKey_run {ks : Option Nat} {kt : Nat} (hk : keyT P kt = some ks) {es es' : List MapEntry} {k k' : Value} {r : Option (Nat × Value)} (h : findL ks k es 0 = some r) (he : EsR ι es es') (hkv : VR ι k k') (hkk : k' = k) :
    ∃ r', (Instr.findKey kt k' es').run P w = .ok r' w ∧ (r = none → r' = none) ∧ (∀ j v, r = some (j, v) → ∃ v', r' = some (j, v') ∧ VR ι v v') ∧ (∀ j v, r = some (j, v) → ∃ e e', es[j]? = some e ∧ es'[j]? = some e' ∧ v = e.val ∧ e'.key = k' ∧ e.key = k) := by
  obtain ⟨r', a1, a2, a3, a4⟩ := find_run (w := w) hk 0 h he hkv (.inl hkk)
  have a4' : ∀ j v, r = some (j, v) → ∃ e e', es[j]? = some e ∧ es'[j]? = some e' ∧ v = e.val ∧ e'.key = k' ∧ e.key = k := fun j v hj => by
    obtain ⟨_, e, e', b⟩ := a4 j v hj
    exact ⟨e, e', by simpa using b⟩
  refine ⟨r', ?_, a2, a3, a4'⟩
  have hund : ∃ d, P.underlying kt = some d := by
    rcases keyT_or hk with ⟨_, k, hu⟩ | ⟨n, _, hf⟩
    · exact ⟨_, hu⟩
    · unfold flatT at hf
      split at hf
      · rename_i fs hu; exact ⟨_, hu⟩
      · rename_i fs hu; exact ⟨_, by assumption⟩
      · cases hf
  obtain ⟨d, hd⟩ := hund
  have now : ∀ (l : List MapEntry) (i : Nat) (q : Option (Nat × Value)), Instr.findNow d k' l i = some q → (Instr.findAsking kt k' l i).run P w = .ok r' w → q = r' → True := fun _ _ _ _ _ _ => trivial
  simp only [Instr.findKey, Sem.run_bind, run_underlying hd, Result.andThen_ok]
  -- what is found at once is what asking finds
  have same : ∀ (l l' : List MapEntry) (i : Nat) (q : Option (Nat × Value)) (r0 : Option (Nat × Value)), EsR ι l l' → findL ks k l i = some r0 → Instr.findNow d k' l' i = some q → (Instr.findAsking kt k' l' i).run P w = .ok q w := by
    intro l l' i q r0 hl hf hn
    induction hl generalizing i with
    | nil =>
      simp [Instr.findNow] at hn
      subst hn; rfl
    | @cons e e' l l' h1 h2 h3 h4 ih =>
      simp only [findL] at hf
      have hcase : ∃ c, keyEq ks k e.key = some c ∧ (c = false → findL ks k l (i + 1) = some r0) := by
        split at hf
        · exact ⟨true, by assumption, by simp⟩
        · exact ⟨false, by assumption, fun _ => hf⟩
        · cases hf
      obtain ⟨c, hc, hrest⟩ := hcase
      obtain ⟨e1, e2⟩ := keyEq_VR hc hkv h1
      have hrun := keyEq_run hk hc w
      rw [← e2, ← hkk] at hrun
      have hs : ∀ b, Instr.sameNow d k' e'.key = some b → b = c := by
        intro b hb
        rcases keyEq_cases hc with ⟨_, h5⟩ | ⟨n, x, y, _, h6, h7, h5⟩
        · rw [hkk, e2] at hb
          cases hk0 : k <;> cases hek : e.key <;> rw [hk0, hek] at h5 <;> simp only [eqInt, reduceCtorEq] at h5
          rw [sameK_eq] at h5
          rw [hk0, hek] at hb
          split at h5
          · rename_i hks
            simp at hks h5
            subst hks
            rw [eqI_eq] at h5
            cases d <;> simp [Instr.sameNow] at hb
            rw [← hb, ← h5]
            rfl
          · cases h5
        · rw [hkk, e2, h6, h7] at hb
          cases d <;> simp [Instr.sameNow] at hb
      simp only [Instr.findNow] at hn
      split at hn
      · rename_i hb
        have := hs _ hb
        subst this
        simp at hn
        subst hn
        simp [Instr.findAsking, hrun]
      · rename_i hb
        have := hs _ hb
        subst this
        simp only [Instr.findAsking, Sem.run_bind, hrun, Result.andThen_ok]
        exact ih (i + 1) (hrest rfl) hn
      · cases hn
  split
  · rename_i q hq
    have := same es es' 0 q r he h hq
    rw [a1] at this
    cases this
    rfl
  · exact a1
theorem R.entries {m m' : Value} {es : List MapEntry} (hr : R ι σ w) (h : entriesOf σ m = some es) (hm : VR ι m m') : (m' = .map none ∧ es = []) ∨ ∃ b es' clk bk A, m = .map (some A) ∧ ι A = some bk ∧ b = bk.blk ∧ m' = .map (some b) ∧ w.heap[b]? = some (.map es' clk) ∧ EsR ι es es'.toList ∧ σ.get A = some (.map es clk) ∧ bk.ro = false := by
  cases hm <;> simp only [entriesOf] at h <;> try (cases h; done)
  · simp at h; exact .inl ⟨rfl, h⟩
  · rename_i A bk hA
    split at h
    · rename_i es0 clk hg
      simp at h; subst h
      obtain ⟨bk', i1, es', h1, h2, h3⟩ := hr.obj _ _ hg (by simp)
      rw [hA] at i1; cases i1
      exact .inr ⟨_, es', clk, bk, A, rfl, hA, rfl, rfl, h1, h3, hg, h2⟩
    · cases h
theorem keyOk_VR {ks : Option Nat} {k k' : Value} (h : keyOk ks k = true) (hk : VR ι k k') : k' = k := by
  unfold keyOk at h
  split at h
  · rename_i r hr; exact (keyEq_VR hr hk hk).1
  · cases h
theorem run_getObj_map {b : Nat} {es : Array MapEntry} {clk : Nat} (h : w.heap[b]? = some (.map es clk)) : (getObj b).run P w = .ok (.map es clk) w := by
  simp [getObj, Sem.run, h]
theorem good_lookup {t kt e : Nat} {ks : Option Nat} {z m m' k k' v : Value} {ok : Bool} (hr : R ι σ w) (h : pLookup ks z ok [m, k] σ = some (v, σ')) (hm : VR ι m m') (hkv : VR ι k k') (ht : P.underlying t = some (.map kt e)) (hk : keyT P kt = some ks) (hz : zeroT P e = some z) :
    ∃ v', (Instr.lookup t m' k' ok).run P w = .ok v' w ∧ VR ι v v' ∧ σ' = σ := by
  simp only [pLookup] at h
  split at h
  · cases h
  rename_i hko
  have hkk := keyOk_VR hko hkv
  split at h
  · cases h
  rename_i es hes
  have hzr := run_zeroValue' hz w
  have hzv : VR ι z z := zeroVR hz
  have main : ∀ (es' : Array MapEntry), EsR ι es es'.toList → ∃ v' : Value, ((do
      Instr.checkKey es'.isEmpty 10000 kt k'
      let (v, okk) ← match ← Instr.findKey kt k' es'.toList with
        | some (_, v) => pure (v, true)
        | none => pure (← zeroValue e, false)
      pure (if ok then Value.tuple #[v, .bool okk] else v) : Sem Value)).run P w = .ok v' w ∧ VR ι v v' ∧ σ' = σ := by
    intro es' he
    have hck := checkKey_run (em := es'.isEmpty) (k := k') hk (by rw [hkk]; exact hko) w
    split at h
    · cases h
    · rename_i j u hf
      obtain ⟨r', a1, a2, a3, a4⟩ := findKey_run (w := w) hk hf he hkv hkk
      obtain ⟨v', hv1, hv2⟩ := a3 j u rfl
      simp only [Option.some.injEq, Prod.mk.injEq] at h
      obtain ⟨rfl, rfl⟩ := h
      subst hv1
      cases ok
      · exact ⟨v', by simp [hck, a1], hv2, rfl⟩
      · exact ⟨.tuple #[v', .bool true], by simp [hck, a1], .tuple (.cons hv2 (.cons (.bool _) .nil)), rfl⟩
    · rename_i hf
      obtain ⟨r', a1, a2, a3, a4⟩ := findKey_run (w := w) hk hf he hkv hkk
      have := a2 rfl
      subst this
      simp only [Option.some.injEq, Prod.mk.injEq] at h
      obtain ⟨rfl, rfl⟩ := h
      cases ok
      · exact ⟨z, by simp [hck, a1, hzr], hzv, rfl⟩
      · exact ⟨.tuple #[z, .bool false], by simp [hck, a1, hzr], .tuple (.cons hzv (.cons (.bool _) .nil)), rfl⟩
  rcases hr.entries hes hm with ⟨rfl, rfl⟩ | ⟨b, es', clk, bk, A, rfl, hA, rfl, rfl, hb, he, hg, hro⟩
  · obtain ⟨v', h1, h2⟩ := main #[] .nil
    refine ⟨v', ?_, h2⟩
    rw [← h1]
    simp only [Instr.lookup, Sem.run_bind, run_underlying ht, Result.andThen_ok, Sem.run_pure]
    rfl
  · obtain ⟨v', h1, h2⟩ := main es' he
    refine ⟨v', ?_, h2⟩
    rw [← h1]
    simp only [Instr.lookup, Sem.run_bind, run_underlying ht, Result.andThen_ok, Sem.run_pure, run_getObj_map hb]
    rfl

/-- A map's block gets other entries. -/
theorem R.putMap (hr : R ι σ w) {A clk clk2 : Nat} {es es2 : List MapEntry} {es2' : Array MapEntry} {bk : Bk} (hg : σ.get A = some (.map es clk)) (hA : ι A = some bk) (hro : bk.ro = false) (he : EsR ι es2 es2'.toList) {o : Go.Obj} (hb : w.heap[bk.blk]? = some o) :
    R ι (σ.put A (.map es2 clk2)) { w with heap := w.heap.setIfInBounds bk.blk (.map es2' clk2) } ∧ Ext ι w ι { w with heap := w.heap.setIfInBounds bk.blk (.map es2' clk2) } := by
  have hlt := (Array.getElem?_eq_some_iff.1 hb).1
  refine hr.put hg (by simp) (by simp) hA hro ⟨es2', ?_, hro, he⟩ rfl rfl rfl (by simp) (fun b hb hne => ?_)
  · show (w.heap.setIfInBounds _ _)[_]? = _
    rw [Array.getElem?_setIfInBounds_self_of_lt hlt]
  · show (w.heap.setIfInBounds _ _)[_]? = _
    rw [Array.getElem?_setIfInBounds_ne (Ne.symm hne)]
theorem run_setObj_map {b : Nat} {es : Array MapEntry} {clk : Nat} (h : w.heap[b]? = some (.map es clk)) (o : Go.Obj) : (setObj b o).run P w = .ok () { w with heap := w.heap.setIfInBounds b o } := by
  simp [setObj, Sem.run, h]
theorem EsR.snoc : ∀ {l l' : List MapEntry} {e e' : MapEntry}, EsR ι l l' → VR ι e.key e'.key → VR ι e.val e'.val → e'.born = e.born → EsR ι (l ++ [e]) (l' ++ [e'])
  | _, _, _, _, .nil, a, b, c => .cons a b c .nil
  | _, _, _, _, .cons h1 h2 h3 h, a, b, c => .cons h1 h2 h3 (h.snoc a b c)
theorem EsR.setL {k k' v v' : Value} (hk : VR ι k k') (hv : VR ι v v') : ∀ {l l' : List MapEntry} (i : Nat), EsR ι l l' → EsR ι (setL k v l i) (l'.modify i fun e => { e with key := k', val := v' })
  | _, _, i, .nil => by simp [AM.setL]; exact .nil
  | _, _, 0, .cons h1 h2 h3 h => by simp [AM.setL]; exact .cons hk hv h3 h
  | _, _, i + 1, .cons h1 h2 h3 h => by simp [AM.setL]; exact .cons h1 h2 h3 (h.setL hk hv i)
theorem EsR.dropL : ∀ {l l' : List MapEntry} (i : Nat), EsR ι l l' → EsR ι (dropL l i) (l'.eraseIdx i)
  | _, _, i, .nil => by simp [AM.dropL]; exact .nil
  | _, _, 0, .cons h1 h2 h3 h => by simp [AM.dropL]; exact h
  | _, _, i + 1, .cons h1 h2 h3 h => by simp [AM.dropL]; exact .cons h1 h2 h3 (h.dropL i)
theorem sameBits_key {ks : Option Nat} {a b : Value} (h : keyEq ks a b = some true) : Instr.sameBits 10000 b a = true := by
  have hab := keyEq_true h
  subst hab
  rcases keyEq_cases h with ⟨_, h1⟩ | ⟨n, x, y, _, rfl, h2, h1⟩
  · cases a <;> simp only [eqInt, reduceCtorEq] at h1
    simp [Instr.sameBits]
  · rw [show (10000 : Nat) = 9999 + 1 from rfl]
    simp only [Instr.sameBits, beq_self_eq_true, Bool.true_and]
    obtain ⟨_, _, h3⟩ := listEq_get _ _ _ _ h1
    cases h2
    rw [List.all_eq_true]
    intro p hp
    obtain ⟨i, hi, rfl⟩ := List.getElem_of_mem hp
    simp at hi
    obtain ⟨c, hc⟩ := h3 i x[i] x[i] (by simp) (by simp)
    simp only [List.getElem_zip]
    generalize x[i] = q at hc
    cases q <;> simp only [eqInt, reduceCtorEq] at hc
    simp [Instr.sameBits]
theorem keysEq_of {ks : Option Nat} {es : List MapEntry} {k : Value} {j i : Nat} {v : Value} (h : findL ks k es i = some (some (j, v))) : ∃ e, es[j - i]? = some e ∧ i ≤ j ∧ keyEq ks k e.key = some true := by
  induction es generalizing i with
  | nil => simp [findL] at h
  | cons e es ih =>
    simp only [findL] at h
    split at h
    · rename_i hc
      simp at h
      obtain ⟨rfl, rfl⟩ := h
      exact ⟨e, by simp, Nat.le_refl _, hc⟩
    · obtain ⟨e', h1, h2, h3⟩ := ih h
      exact ⟨e', by rw [show j - i = (j - (i + 1)) + 1 by omega]; simpa using h1, by omega, h3⟩
    · cases h
theorem good_mapSet {t kt e : Nat} {ks : Option Nat} {m m' k k' x x' v : Value} (hr : R ι σ w) (h : pMapSet ks [m, k, x] σ = some (v, σ')) (hm : VR ι m m') (hkv : VR ι k k') (hx : VR ι x x') (ht : P.underlying t = some (.map kt e)) (hk : keyT P kt = some ks) :
    v = .tuple #[] ∧ GoodU P ι σ' (Instr.mapUpdate t m' k' x') w := by
  cases hm <;> simp only [pMapSet] at h <;> try (cases h; done)
  rename_i A bk hA
  split at h
  · cases h
  rename_i hko
  have hkk := keyOk_VR hko hkv
  have hck := fun em => checkKey_run (em := em) (k := k') hk (by rw [hkk]; exact hko) w
  split at h
  case h_2 => cases h
  rename_i es clk hg
  obtain ⟨bk', i1, es', h1, h2, h3⟩ := hr.obj _ _ hg (by simp)
  rw [hA] at i1; cases i1
  split at h
  · cases h
  · rename_i j u hf
    simp only [Option.some.injEq, Prod.mk.injEq] at h
    obtain ⟨rfl, rfl⟩ := h
    obtain ⟨r', a1, a2, a3, a4⟩ := findKey_run (w := w) hk hf h3 hkv hkk
    obtain ⟨v', hv1, hv2⟩ := a3 j u rfl
    obtain ⟨e0, e0', b1, b2, b3, b4, b5⟩ := a4 j u rfl
    subst hv1
    obtain ⟨e1, c1, _, c3⟩ := keysEq_of hf
    simp only [Nat.sub_zero] at c1
    rw [b1] at c1; cases c1
    have hsb : Instr.sameBits 10000 e0'.key k' = true := by rw [b4, hkk]; rw [b5] at c3; exact sameBits_key c3
    obtain ⟨p1, p2⟩ := hr.putMap (es2 := setL k x es j) (es2' := es'.modify j fun e => { e with key := k', val := x' }) (clk2 := clk) hg hA h2 (by simpa using h3.setL hkv hx j) h1
    refine ⟨rfl, ι, _, ?_, p1, p2⟩
    have hget : es'[j]? = some e0' := by rw [← Array.getElem?_toList]; exact b2
    simp only [Instr.mapUpdate, Sem.run_bind, run_underlying ht, Result.andThen_ok, run_getObj_map h1, hck, a1, hget, Option.map_some, Option.getD_some, Instr.keyThatStays, hsb, if_true, Sem.run_pure, run_setObj_map h1]
  · rename_i hf
    simp only [Option.some.injEq, Prod.mk.injEq] at h
    obtain ⟨rfl, rfl⟩ := h
    obtain ⟨r', a1, a2, a3, a4⟩ := findKey_run (w := w) hk hf h3 hkv hkk
    have := a2 rfl
    subst this
    obtain ⟨p1, p2⟩ := hr.putMap (es2 := es ++ [⟨k, x, clk⟩]) (es2' := es'.push { key := k', val := x', born := clk }) (clk2 := clk + 1) hg hA h2 (by simpa using h3.snoc (e := ⟨k, x, clk⟩) (e' := ⟨k', x', clk⟩) hkv hx rfl) h1
    refine ⟨rfl, ι, _, ?_, p1, p2⟩
    simp only [Instr.mapUpdate, Sem.run_bind, run_underlying ht, Result.andThen_ok, run_getObj_map h1, hck, a1, run_setObj_map h1]

theorem good_delete {t kt e : Nat} {ks : Option Nat} {ts : Array Nat} {ty : Nat} {m m' k k' v : Value} (hr : R ι σ w) (h : pDelete ks [m, k] σ = some (v, σ')) (hm : VR ι m m') (hkv : VR ι k k') (ht : P.underlying t = some (.map kt e)) (hk : keyT P kt = some ks) (hts : ts[0]? = some t) :
    Good P ι σ' (Builtin.delete_ ts ty #[m', k']) w v := by
  cases hm <;> simp only [pDelete] at h <;> try (cases h; done)
  rename_i A bk hA
  split at h
  · cases h
  rename_i hko
  have hkk := keyOk_VR hko hkv
  have hck := fun em => checkKey_run (em := em) (k := k') hk (by rw [hkk]; exact hko) w
  split at h
  case h_2 => cases h
  rename_i es clk hg
  obtain ⟨bk', i1, es', h1, h2, h3⟩ := hr.obj _ _ hg (by simp)
  rw [hA] at i1; cases i1
  split at h
  · cases h
  · rename_i j u hf
    simp only [Option.some.injEq, Prod.mk.injEq] at h
    obtain ⟨rfl, rfl⟩ := h
    obtain ⟨r', a1, a2, a3, a4⟩ := findKey_run (w := w) hk hf h3 hkv hkk
    obtain ⟨v', hv1, hv2⟩ := a3 j u rfl
    obtain ⟨e0, e0', b1, b2, b3, b4, b5⟩ := a4 j u rfl
    subst hv1
    have hj : j < es'.size := by have := (List.getElem?_eq_some_iff.1 b2).1; simpa using this
    obtain ⟨p1, p2⟩ := hr.putMap (es2 := dropL es j) (es2' := es'.eraseIdxIfInBounds j) (clk2 := clk) hg hA h2 (by
      rw [Array.eraseIdxIfInBounds, dif_pos hj]; simpa using h3.dropL j) h1
    refine ⟨ι, .tuple #[], _, ?_, .tuple .nil, p1, p2⟩
    simp only [Builtin.delete_, hts, List.getElem?_toArray, List.getElem?_cons_zero, List.getElem?_cons_succ, Sem.run_bind, run_underlying ht, Result.andThen_ok, run_getObj_map h1, hck, a1, run_setObj_map h1]
    rfl
  · rename_i hf
    simp only [Option.some.injEq, Prod.mk.injEq] at h
    obtain ⟨rfl, rfl⟩ := h
    obtain ⟨r', a1, a2, a3, a4⟩ := findKey_run (w := w) hk hf h3 hkv hkk
    have := a2 rfl
    subst this
    have hlt := (Array.getElem?_eq_some_iff.1 h1)
    have hsame : ({ w with heap := w.heap.setIfInBounds bk.blk (.map es' clk) } : World) = w := by
      have : w.heap.setIfInBounds bk.blk (.map es' clk) = w.heap := by
        obtain ⟨hl, he⟩ := hlt
        rw [← he]
        apply Array.ext_getElem?
        intro i
        by_cases hi : bk.blk = i
        · subst hi; rw [Array.getElem?_setIfInBounds_self_of_lt hl, Array.getElem?_eq_getElem hl]
        · rw [Array.getElem?_setIfInBounds_ne hi]
      rw [this]
    refine Good.pure hr (v' := .tuple #[]) ?_ (.tuple .nil)
    simp only [Builtin.delete_, hts, List.getElem?_toArray, List.getElem?_cons_zero, List.getElem?_cons_succ, Sem.run_bind, run_underlying ht, Result.andThen_ok, run_getObj_map h1, hck, a1, run_setObj_map h1, hsame]
    rfl
theorem good_clearM {t kt e : Nat} {ts : Array Nat} {ty : Nat} {m m' v : Value} (hr : R ι σ w) (h : pClearM [m] σ = some (v, σ')) (hm : VR ι m m') (ht : P.underlying t = some (.map kt e)) (hts : ts[0]? = some t) : Good P ι σ' (Builtin.clear_ ts ty #[m']) w v := by
  cases hm <;> simp only [pClearM] at h <;> try (cases h; done)
  · simp only [Option.some.injEq, Prod.mk.injEq] at h
    obtain ⟨rfl, rfl⟩ := h
    refine Good.pure hr (v' := .tuple #[]) ?_ (.tuple .nil)
    simp only [Builtin.clear_, hts, List.getElem?_toArray, List.getElem?_cons_zero, Sem.run_bind, run_underlying ht, Result.andThen_ok]
    rfl
  · rename_i A bk hA
    split at h
    case h_2 => cases h
    rename_i es clk hg
    obtain ⟨bk', i1, es', h1, h2, h3⟩ := hr.obj _ _ hg (by simp)
    rw [hA] at i1; cases i1
    simp only [Option.some.injEq, Prod.mk.injEq] at h
    obtain ⟨rfl, rfl⟩ := h
    obtain ⟨p1, p2⟩ := hr.putMap (es2 := []) (es2' := #[]) (clk2 := clk) hg hA h2 .nil h1
    refine ⟨ι, .tuple #[], _, ?_, .tuple .nil, p1, p2⟩
    simp only [Builtin.clear_, hts, List.getElem?_toArray, List.getElem?_cons_zero, Sem.run_bind, run_underlying ht, Result.andThen_ok, run_getObj_map h1, run_setObj_map h1]
    rfl
theorem EsR.length : ∀ {l l' : List MapEntry}, EsR ι l l' → l'.length = l.length
  | _, _, .nil => rfl
  | _, _, .cons _ _ _ h => by simp [h.length]
theorem good_lenM {t kt e : Nat} {ts : Array Nat} {ty : Nat} {m m' v : Value} (hr : R ι σ w) (h : pLenM [m] σ = some (v, σ')) (hm : VR ι m m') (ht : P.underlying t = some (.map kt e)) (hts : ts[0]? = some t) :
    (Builtin.len_ ts ty #[m']).run P w = .ok v w ∧ VR ι v v ∧ σ' = σ := by
  cases hm <;> simp only [pLenM] at h <;> try (cases h; done)
  · simp only [Option.some.injEq, Prod.mk.injEq] at h
    obtain ⟨rfl, rfl⟩ := h
    refine ⟨?_, .int _ _, rfl⟩
    simp only [Builtin.len_, hts, List.getElem?_toArray, List.getElem?_cons_zero, Sem.run_bind, run_underlying ht, Result.andThen_ok]
    rfl
  · rename_i A bk hA
    split at h
    case h_2 => cases h
    rename_i es clk hg
    obtain ⟨bk', i1, es', h1, h2, h3⟩ := hr.obj _ _ hg (by simp)
    rw [hA] at i1; cases i1
    simp only [Option.some.injEq, Prod.mk.injEq] at h
    obtain ⟨rfl, rfl⟩ := h
    refine ⟨?_, .int _ _, rfl⟩
    have := h3.length
    simp only [Builtin.len_, hts, List.getElem?_toArray, List.getElem?_cons_zero, Sem.run_bind, run_underlying ht, Result.andThen_ok, run_getObj_map h1, Sem.run_pure, goInt]
    rw [← this]
    simp
end
end AM
end Go.Proofs.YtdbbkaeoinalpaaGreat
