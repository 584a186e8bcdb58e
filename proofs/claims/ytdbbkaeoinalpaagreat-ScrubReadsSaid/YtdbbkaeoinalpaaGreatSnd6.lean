/- Slices: cutting, appending, copying. -/
import Derived.Test.YtdbbkaeoinalpaaGreatSnd5
set_option linter.unusedVariables false
namespace Go.Proofs.YtdbbkaeoinalpaaGreat
namespace AM
section
variable {P : Program} {ι : Inj} {σ σ' : H} {w : World}

theorem good_lenS {t e : Nat} {ts : Array Nat} {ty : Nat} {x x' v : Value} (h : pLenS [x] σ = some (v, σ')) (hx : VR ι x x') (ht : P.underlying t = some (.slice e)) (hts : ts[0]? = some t) :
    (Builtin.len_ ts ty #[x']).run P w = .ok v w ∧ VR ι v v ∧ σ' = σ := by
  cases hx <;> simp only [pLenS] at h <;> try (cases h; done)
  all_goals
    simp only [Option.some.injEq, Prod.mk.injEq] at h
    obtain ⟨rfl, rfl⟩ := h
    refine ⟨?_, .int _ _, rfl⟩
    simp only [Builtin.len_, hts, List.getElem?_toArray, List.getElem?_cons_zero, Sem.run_bind, run_underlying ht, Result.andThen_ok]
    rfl
theorem good_lenC {t e n : Nat} {ts : Array Nat} {ty : Nat} {x x' v : Value} (h : pLenC n [x] σ = some (v, σ')) (ht : P.underlying t = some (.array n e)) (hts : ts[0]? = some t) (hx : VR ι x x') :
    (Builtin.len_ ts ty #[x']).run P w = .ok v w ∧ VR ι v v ∧ σ' = σ := by
  simp only [pLenC, Option.some.injEq, Prod.mk.injEq] at h
  obtain ⟨rfl, rfl⟩ := h
  refine ⟨?_, .int _ _, rfl⟩
  simp only [Builtin.len_, hts, List.getElem?_toArray, List.getElem?_cons_zero, Sem.run_bind, run_underlying ht, Result.andThen_ok]
  cases hx <;> rfl
theorem good_min {a a' b b' v : Value} {ts : Array Nat} {ty : Nat} (h : pMin [a, b] σ = some (v, σ')) (ha : VR ι a a') (hb : VR ι b b') : (Builtin.min_ ts ty #[a', b']).run P w = .ok v w ∧ VR ι v v ∧ σ' = σ := by
  cases ha <;> simp only [pMin] at h <;> try (cases h; done)
  cases hb <;> simp only [] at h <;> try (cases h; done)
  simp only [Option.some.injEq, Prod.mk.injEq] at h
  obtain ⟨rfl, rfl⟩ := h
  refine ⟨?_, .int _ _, rfl⟩
  rename_i k x k2 y
  rw [ltI_eq]
  by_cases h : y < x <;> simp [Builtin.min_, Builtin.min2, h]
theorem good_max {a a' b b' v : Value} {ts : Array Nat} {ty : Nat} (h : pMax [a, b] σ = some (v, σ')) (ha : VR ι a a') (hb : VR ι b b') : (Builtin.max_ ts ty #[a', b']).run P w = .ok v w ∧ VR ι v v ∧ σ' = σ := by
  cases ha <;> simp only [pMax] at h <;> try (cases h; done)
  cases hb <;> simp only [] at h <;> try (cases h; done)
  simp only [Option.some.injEq, Prod.mk.injEq] at h
  obtain ⟨rfl, rfl⟩ := h
  refine ⟨?_, .int _ _, rfl⟩
  rename_i k x k2 y
  rw [ltI_eq]
  by_cases h : x < y <;> simp [Builtin.max_, Builtin.max2, h]

/-- The object of a block that is bound. -/
theorem R.rowSize (hr : R ι σ w) {A s : Nat} {bk : Bk} (h : rowSize σ A = s) (hs : s ≠ 0) (hA : ι A = some bk) : ∃ c e m blk fz te, σ.get A = some (.cells c e s m) ∧ CellsIn ι w bk c te s m blk fz := by
  unfold AM.rowSize at h
  split at h
  · rename_i c e s' m hg
    subst h
    obtain ⟨bk', i1, blk, fz, te, hc⟩ := hr.obj _ _ hg (by simp)
    rw [hA] at i1; cases i1
    exact ⟨c, e, m, blk, fz, te, hg, hc⟩
  · exact absurd h.symm hs
theorem atEnd_cells {a : Addr} {c : List Value} {e s : Nat} {m : AM.Mode} (hg : σ.get a.block = some (.cells c e s m)) (cap : Nat) : atEnd σ a cap = (decide (m = .grown) && decide (a.off + cap * s = c.length)) := by
  unfold atEnd
  rw [hg]
  cases m <;> simp [nbeq]
/-- Not at the end: the capacity is what is known. -/
theorem CellsIn.capOf_eq {bk : Bk} {c : List Value} {e s : Nat} {m : AM.Mode} {blk : Array Value} {fz : Nat × Nat} (hc : CellsIn ι w bk c e s m blk fz) {o cap : Nat} (h : (decide (m = .grown) && decide (o + cap * s = c.length)) = false) : capOf bk o cap = cap := by
  unfold capOf
  rw [hc.esz, hc.len]
  split
  · rename_i he
    have : m ≠ .grown := by intro hm; simp [hm, he] at h
    rw [hc.extra this]; omega
  · rfl
theorem CellsIn.capOf_end {bk : Bk} {c : List Value} {e s : Nat} {m : AM.Mode} {blk : Array Value} {fz : Nat × Nat} (hc : CellsIn ι w bk c e s m blk fz) {o cap : Nat} (h : o + cap * s = c.length) : capOf bk o cap = cap + bk.extra := by
  unfold capOf
  rw [hc.esz, hc.len, if_pos h]

/-- A bound of a cut, as the program has it. -/
def BR (ι : Inj) (i : Option Int) (x : Option Value) : Prop := (i = none ∧ x = none) ∨ ∃ k n, i = some n ∧ x = some (.int k n)
theorem optInts_BR : ∀ (xs : List (Option Value)) (vs : List Value) (l : List (Option Int)), optInts (xs.map Option.isSome) vs = some l → VRs ι vs (xs.flatMap Option.toList) →
    ∀ (i : Nat) (li : Option Int), l[i]? = some li → ∃ x, xs[i]? = some x ∧ BR ι li x
  | [], vs, l, h, hv, i, li, hi => by
    cases vs <;> simp [optInts] at h
    subst h; simp at hi
  | none :: xs, vs, l, h, hv, i, li, hi => by
    simp only [List.map_cons, Option.isSome, optInts] at h
    split at h
    · rename_i l' hl'
      simp at h; subst h
      cases i with
      | zero => simp at hi; subst hi; exact ⟨none, rfl, .inl ⟨rfl, rfl⟩⟩
      | succ i =>
        have := optInts_BR xs vs l' (by simpa using hl') (by simpa using hv) i li (by simpa using hi)
        simpa using this
    · cases h
  | some x :: xs, vs, l, h, hv, i, li, hi => by
    simp only [List.flatMap_cons, Option.toList, List.singleton_append] at hv
    cases hv with
    | cons hv hvs =>
      simp only [List.map_cons, Option.isSome, optInts] at h
      split at h
      · cases h
      · rename_i n hn
        split at h
        · rename_i l' hl'
          simp at h; subst h
          cases i with
          | zero =>
            simp at hi; subst hi
            obtain ⟨k, rfl⟩ := intOf_VR hv hn
            exact ⟨_, rfl, .inr ⟨k, n, rfl, rfl⟩⟩
          | succ i =>
            have := optInts_BR xs _ l' (by simpa using hl') hvs i li (by simpa using hi)
            simpa using this
        · cases h
theorem bounds3 {xl xh xm : Option Value} {vs : List Value} {l h m : Option Int} (ho : optInts [xl.isSome, xh.isSome, xm.isSome] vs = some [l, h, m])
    (hv : VRs ι vs (xl.toList ++ (xh.toList ++ xm.toList))) : BR ι l xl ∧ BR ι h xh ∧ BR ι m xm := by
  have := optInts_BR [xl, xh, xm] vs [l, h, m] ho (by simpa using hv)
  refine ⟨?_, ?_, ?_⟩
  · obtain ⟨x, h1, h2⟩ := this 0 l rfl; simp at h1; subst h1; exact h2
  · obtain ⟨x, h1, h2⟩ := this 1 h rfl; simp at h1; subst h1; exact h2
  · obtain ⟨x, h1, h2⟩ := this 2 m rfl; simp at h1; subst h1; exact h2
theorem run_bounds {isS : Bool} {len cap cap' : Nat} {lo hi mx : Option Int} {xl xh xm : Option Value} {l h m : Nat} (h1 : BR ι lo xl) (h2 : BR ι hi xh) (h3 : BR ι mx xm)
    (hm : cutMax mx cap = some m) (hc : cap ≤ cap') (hh : cutHigh hi mx len m = some h) (hl : cutLow lo h = some l) :
    (Instr.sliceBounds isS len cap' xl xh xm).run P w = .ok (l, h, if mx.isSome then m else cap') w := by
  have mono : ∀ {v : Int} {a b n : Nat}, bound v a = some n → a ≤ b → bound v b = some n := by
    intro v a b n h hab
    obtain ⟨h0, h1, rfl⟩ := bound_some h
    unfold bound
    rw [ltI_eq, ltI_eq]
    have e1 : decide (v < 0) = false := by simpa using h0
    have e2 : decide ((b : Int) < v) = false := by simp; omega
    simp [e1, e2]
  rcases h1 with ⟨rfl, rfl⟩ | ⟨kl, nl, rfl, rfl⟩ <;> rcases h2 with ⟨rfl, rfl⟩ | ⟨kh, nh, rfl, rfl⟩ <;> rcases h3 with ⟨rfl, rfl⟩ | ⟨km, nm, rfl, rfl⟩ <;> simp only [cutMax] at hm <;> simp only [cutHigh] at hh <;> simp only [cutLow] at hl
  all_goals try (cases hh; done)
  · cases hm; cases hh; cases hl
    simp only [Instr.sliceBounds, Sem.run_bind, Sem.run_pure, Result.andThen_ok, Option.isSome, Bool.false_eq_true, if_false]
  · cases hm; cases hl
    simp only [Instr.sliceBounds, Sem.run_bind, Sem.run_pure, Result.andThen_ok, Option.isSome, Bool.false_eq_true, if_false, run_sliceBound (mono hh hc)]
  · cases hl
    simp only [Instr.sliceBounds, Sem.run_bind, Sem.run_pure, Result.andThen_ok, Option.isSome, if_true, run_sliceBound (mono hm hc), run_sliceBound hh]
  · cases hm; cases hh
    simp only [Instr.sliceBounds, Sem.run_bind, Sem.run_pure, Result.andThen_ok, Option.isSome, Bool.false_eq_true, if_false, run_sliceBound hl]
  · cases hm
    simp only [Instr.sliceBounds, Sem.run_bind, Sem.run_pure, Result.andThen_ok, Option.isSome, Bool.false_eq_true, if_false, run_sliceBound (mono hh hc), run_sliceBound hl]
  · simp only [Instr.sliceBounds, Sem.run_bind, Sem.run_pure, Result.andThen_ok, Option.isSome, if_true, run_sliceBound (mono hm hc), run_sliceBound hh, run_sliceBound hl]
theorem cut_le {lo hi mx : Option Int} {len cap m h l : Nat} (hm : cutMax mx cap = some m) (hh : cutHigh hi mx len m = some h) (hl : cutLow lo h = some l) : l ≤ h ∧ m ≤ cap ∧ (mx.isSome → h ≤ m) ∧ (mx = none → m = cap) ∧ (hi.isSome → h ≤ m) := by
  have b : ∀ {v : Int} {y n : Nat}, bound v y = some n → n ≤ y := fun h => by obtain ⟨_, q1, q2⟩ := bound_some h; omega
  cases mx with
  | none =>
    simp [cutMax] at hm; subst hm
    cases hi with
    | none => simp [cutHigh] at hh; cases lo with
      | none => simp [cutLow] at hl; exact ⟨by omega, Nat.le_refl _, by simp, fun _ => rfl, by simp⟩
      | some lv => exact ⟨b hl, Nat.le_refl _, by simp, fun _ => rfl, by simp⟩
    | some hv => cases lo with
      | none => simp [cutLow] at hl; exact ⟨by omega, Nat.le_refl _, by simp, fun _ => rfl, fun _ => b hh⟩
      | some lv => exact ⟨b hl, Nat.le_refl _, by simp, fun _ => rfl, fun _ => b hh⟩
  | some mv =>
    have hmc := b hm
    cases hi with
    | none => simp [cutHigh] at hh
    | some hv => cases lo with
      | none => simp [cutLow] at hl; exact ⟨by omega, hmc, fun _ => b hh, by simp, fun _ => b hh⟩
      | some lv => exact ⟨b hl, hmc, fun _ => b hh, by simp, fun _ => b hh⟩
theorem good_slice {t e esz : Nat} {xl xh xm : Option Value} {x x' v : Value} {vs : List Value} (hr : R ι σ w) (h : pSlice esz xl.isSome xh.isSome xm.isSome (x :: vs) σ = some (v, σ')) (hx : VR ι x x')
    (hv : VRs ι vs (xl.toList ++ (xh.toList ++ xm.toList))) (ht : P.underlying t = some (.slice e)) (hs : szT P e = some esz) (h0 : esz ≠ 0) : GoodQ P ι (Instr.sliceAt t x' xl xh xm) v ∧ σ' = σ := by
  have hdef : ∀ a n c l h m, (∀ w : World, (Instr.sliceBounds true n c xl xh xm).run P w = .ok (l, h, m) w) → ∀ w : World, (Instr.sliceAt t (.slice a n c) xl xh xm).run P w = .ok (.slice (if m = l then a else a.map (·.add (l * esz))) (h - l) (m - l)) w := by
    intro a n c l h m hb w
    simp only [Instr.sliceAt, Instr.slice, Sem.run_bind, run_underlying ht, Result.andThen_ok, hb, run_sizeOf hs, Sem.run_pure]
  cases x <;> simp only [pSlice] at h <;> try (cases h; done)
  rename_i a len cap
  split at h
  case h_2 => cases h
  rename_i l h' m ho
  obtain ⟨b1, b2, b3⟩ := bounds3 ho hv
  split at h
  case h_2 => cases h
  rename_i v0 hv0
  simp only [Option.some.injEq, Prod.mk.injEq] at h
  obtain ⟨rfl, rfl⟩ := h
  unfold sliceV at hv0
  split at hv0
  · cases hv0
  rename_i m' hm'
  split at hv0
  · cases hv0
  rename_i h2 hh2
  split at hv0
  · cases hv0
  rename_i l' hl'
  obtain ⟨c1, c2, c3, c4, c5⟩ := cut_le hm' hh2 hl'
  rw [nble] at hv0
  split at hv0
  · cases hv0
  rename_i hhm
  simp at hhm
  split at hv0
  · -- nil
    simp at hv0; subst hv0
    cases hx
    have hb := fun w => run_bounds (P := P) (w := w) (isS := true) (cap' := cap) b1 b2 b3 hm' (Nat.le_refl _) hh2 hl'
    have : (if m.isSome then m' else cap) = m' := by
      cases m with
      | none => simp [c4 rfl]
      | some _ => rfl
    simp only [this] at hb
    refine ⟨⟨.slice none (h2 - l') (m' - l'), fun w => ?_, .nils _ _⟩, rfl⟩
    rw [hdef _ _ _ _ _ _ hb]; simp
  rename_i a
  rw [nbeq] at hv0
  split at hv0
  · -- the void
    rename_i hblk
    simp at hblk
    rw [nbeq] at hv0
    split at hv0
    · rename_i hcap
      simp at hcap hv0
      subst hv0 hcap
      cases hx with
      | slice h0 h => exact absurd hblk h0
      | void o a' c hsp =>
        have hb := fun w => run_bounds (P := P) (w := w) (isS := true) (cap' := c) b1 b2 b3 hm' (Nat.zero_le _) hh2 hl'
        have e1 : m' = 0 := by omega
        have e2 : h2 = 0 := by omega
        have e3 : l' = 0 := by omega
        subst e2 e3
        refine ⟨⟨_, hdef _ _ _ _ _ _ hb, ?_⟩, rfl⟩
        simp only [Nat.zero_mul, Option.map_some, Addr.add, if_true, ite_self, Nat.sub_zero]
        exact .void 0 _ _ hsp
    · cases hv0
  rename_i hblk
  simp at hblk
  rw [nbeq] at hv0
  split at hv0
  · cases hv0
  rename_i hrow
  simp at hrow
  cases hx with
  | void o a' c hsp => exact absurd rfl hblk
  | @slice A o n c bk h0' hA =>
  obtain ⟨cs, e', md, blk, fz, te, hg, hc⟩ := hr.rowSize hrow h0 hA
  have hend : ∀ (o' cp : Nat), atEnd σ ⟨A, o', none⟩ cp = (decide (md = .grown) && decide (o' + cp * esz = cs.length)) := fun o' cp => atEnd_cells (σ := σ) (a := (⟨A, o', none⟩ : Addr)) (c := cs) (e := e') (s := esz) (m := md) hg cp
  have hge : cap ≤ capOf bk o cap := by unfold capOf; omega
  have hb := fun w => run_bounds (P := P) (w := w) (isS := true) (cap' := capOf bk o cap) b1 b2 b3 hm' hge hh2 hl'
  have hrun := hdef (some ⟨bk.blk, bk.base + o, none⟩) len (capOf bk o cap) l' h2 (if m.isSome then m' else capOf bk o cap) hb
  have moved : ∀ k, (⟨bk.blk, bk.base + o, none⟩ : Addr).add (k * esz) = ⟨bk.blk, bk.base + (o + k * esz), none⟩ := fun k => by rw [Addr.add_mid]; congr 1; omega
  have hmul : ∀ (k c : Nat), k ≤ c → o + k * esz + (c - k) * esz = o + c * esz := fun k c hk => by
    rw [Nat.add_assoc, ← Nat.add_mul]; congr 2; omega
  split at hv0
  · -- no max
    have hm0 := c4 rfl
    subst hm0
    simp only [Option.isSome, Bool.false_eq_true, if_false] at hrun
    rw [hend] at hv0
    split at hv0
    · rename_i he
      simp at he
      have hce := hc.capOf_end (cap := m') he.2
      rw [nbeq] at hv0
      split at hv0
      · rename_i hlm
        simp at hlm hv0
        subst hv0 hlm
        have e2 : h2 = l' := by omega
        subst e2
        refine ⟨⟨_, hrun, ?_⟩, rfl⟩
        simp only [Nat.sub_self]
        split
        · exact .void 0 _ _ rfl
        · simp only [Option.map_some, moved]; exact .void 0 _ _ rfl
      · rename_i hlm
        simp at hlm hv0
        subst hv0
        refine ⟨⟨_, hrun, ?_⟩, rfl⟩
        rw [if_neg (by omega), Option.map_some, moved]
        have e1 := hc.capOf_end (o := o + l' * esz) (cap := m' - l') (by rw [hmul l' m' (by omega)]; exact he.2)
        have : capOf bk o m' - l' = capOf bk (o + l' * esz) (m' - l') := by rw [hce, e1]; omega
        rw [this]
        exact .slice h0' hA
    · rename_i he
      have he' : (decide (md = .grown) && decide (o + m' * esz = cs.length)) = false := by simpa using he
      have hce := hc.capOf_eq (cap := m') he'
      rw [nbeq] at hv0
      split at hv0
      · rename_i hlm
        simp at hlm
        rw [hend] at hv0
        split at hv0
        · cases hv0
        · rename_i he0
          simp only [Option.some.injEq] at hv0
          subst hv0 hlm
          have he0' : (decide (md = .grown) && decide (o + 0 * esz = cs.length)) = false := by simpa using he0
          refine ⟨⟨_, hrun, ?_⟩, rfl⟩
          rw [hce, if_pos rfl, Nat.sub_self]
          have := VR.slice (n := h2 - l') (c := 0) (o := o) h0' hA
          rwa [hc.capOf_eq he0'] at this
      · rename_i hlm
        simp at hlm hv0
        subst hv0
        refine ⟨⟨_, hrun, ?_⟩, rfl⟩
        rw [hce, if_neg (by omega), Option.map_some, moved]
        have e1 := hc.capOf_eq (o := o + l' * esz) (cap := m' - l') (by rw [hmul l' m' (by omega)]; exact he')
        have := VR.slice (n := h2 - l') (c := m' - l') (o := o + l' * esz) h0' hA
        rwa [e1] at this
  · -- a max
    rename_i mv
    simp only [Option.isSome, if_true] at hrun
    rw [hend] at hv0
    split at hv0
    · cases hv0
    rename_i he
    have he' : (decide (md = .grown) && decide (o + m' * esz = cs.length)) = false := by simpa using he
    rw [nbeq] at hv0
    split at hv0
    · rename_i hlm
      simp at hlm
      rw [hend] at hv0
      split at hv0
      · cases hv0
      · rename_i he0
        simp only [Option.some.injEq] at hv0
        subst hv0 hlm
        have he0' : (decide (md = .grown) && decide (o + 0 * esz = cs.length)) = false := by simpa using he0
        refine ⟨⟨_, hrun, ?_⟩, rfl⟩
        rw [if_pos rfl, Nat.sub_self]
        have := VR.slice (n := h2 - l') (c := 0) (o := o) h0' hA
        rwa [hc.capOf_eq he0'] at this
    · rename_i hlm
      simp at hlm hv0
      subst hv0
      refine ⟨⟨_, hrun, ?_⟩, rfl⟩
      rw [if_neg (by omega), Option.map_some, moved]
      have e1 := hc.capOf_eq (o := o + l' * esz) (cap := m' - l') (by rw [hmul l' m' (by omega)]; exact he')
      have := VR.slice (n := h2 - l') (c := m' - l') (o := o + l' * esz) h0' hA
      rwa [e1] at this
end
end AM
end Go.Proofs.YtdbbkaeoinalpaaGreat
