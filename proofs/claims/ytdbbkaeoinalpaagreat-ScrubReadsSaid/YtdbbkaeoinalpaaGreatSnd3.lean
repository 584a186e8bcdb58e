/- More operations that leave the memory alone. -/
import Derived.Test.YtdbbkaeoinalpaaGreatSnd2
set_option linter.unusedVariables false
namespace Go.Proofs.YtdbbkaeoinalpaaGreat
namespace AM
section
variable {P : Program} {ι : Inj} {σ σ' : H} {w : World}

theorem good_un {op : UnOp} {x x' v : Value} (h : pUn op [x] σ = some (v, σ')) (hx : VR ι x x') : (Op.unary op x').run P w = .ok v w ∧ VR ι v v ∧ σ' = σ := by
  simp only [pUn] at h
  split at h
  case h_2 => cases h
  rename_i u hu
  simp only [Option.some.injEq, Prod.mk.injEq] at h
  obtain ⟨rfl, rfl⟩ := h
  cases op <;> cases hx <;> simp only [unV, reduceCtorEq, Option.some.injEq] at hu
  · subst hu
    refine ⟨?_, .int _ _, rfl⟩
    rw [wrapI_eq]
    simp only [Op.unary, Op.intArith]
    rfl
  rotate_left
  · rename_i b; subst hu; exact ⟨rfl, .bool _, rfl⟩
  · subst hu
    refine ⟨?_, .int _ _, rfl⟩
    rw [bitI_eq _ Nat.xor (· ^^^ ·) _ _ (fun a b n ha hb => Nat.xor_lt_two_pow ha hb) (fun a b => BitVec.toNat_xor a b)]
    simp [Op.unary, Op.intBits, Nat.xor_comm]

theorem equal_slice {t e : Nat} (x : Value) (n c : Nat) (hx : ∃ a n c, x = .slice a n c) (ht : P.underlying t = some (.slice e)) : (Op.equal t x (.slice none n c)).run P w = .ok ((isNilV .slice x).getD false) w ∧ (Op.equal t (.slice none n c) x).run P w = .ok ((isNilV .slice x).getD false) w := by
  obtain ⟨a, m, d, rfl⟩ := hx
  unfold Op.equal Op.maxDepth
  rw [show (10000 : Nat) = 9999 + 1 from rfl, Op.equalIn, Op.equalIn]
  simp only [Sem.run_bind, run_underlying ht, Result.andThen_ok]
  cases a <;> exact ⟨rfl, rfl⟩
theorem equal_map {t k e : Nat} (x : Value) (hx : ∃ a, x = .map a) (ht : P.underlying t = some (.map k e)) : (Op.equal t x (.map none)).run P w = .ok ((isNilV .map x).getD false) w ∧ (Op.equal t (.map none) x).run P w = .ok ((isNilV .map x).getD false) w := by
  obtain ⟨a, rfl⟩ := hx
  unfold Op.equal Op.maxDepth
  rw [show (10000 : Nat) = 9999 + 1 from rfl, Op.equalIn, Op.equalIn]
  simp only [Sem.run_bind, run_underlying ht, Result.andThen_ok]
  cases a <;> exact ⟨rfl, rfl⟩
theorem equal_func {t : Nat} {ps rs : Array Nat} {vr : Bool} (x : Value) (hx : x = .nilFunc ∨ ∃ f a b, x = .func f a b) (ht : P.underlying t = some (.func ps rs vr)) : (Op.equal t x .nilFunc).run P w = .ok ((isNilV .func x).getD false) w ∧ (Op.equal t .nilFunc x).run P w = .ok ((isNilV .func x).getD false) w := by
  unfold Op.equal Op.maxDepth
  rw [show (10000 : Nat) = 9999 + 1 from rfl, Op.equalIn, Op.equalIn]
  simp only [Sem.run_bind, run_underlying ht, Result.andThen_ok]
  rcases hx with rfl | ⟨f, a, b, rfl⟩ <;> exact ⟨rfl, rfl⟩
theorem equal_iface {t : Nat} {ms : Array (String × Nat)} (x : Value) (hx : x = .nilIface ∨ ∃ t v, x = .iface t v) (ht : P.underlying t = some (.interface ms)) : (Op.equal t x .nilIface).run P w = .ok ((isNilV .iface x).getD false) w ∧ (Op.equal t .nilIface x).run P w = .ok ((isNilV .iface x).getD false) w := by
  unfold Op.equal Op.maxDepth
  rw [show (10000 : Nat) = 9999 + 1 from rfl, Op.equalIn, Op.equalIn]
  simp only [Sem.run_bind, run_underlying ht, Result.andThen_ok]
  rcases hx with rfl | ⟨f, a, rfl⟩ <;> exact ⟨rfl, rfl⟩
/-- The computation of '==' or '!='. -/
def eqOp (neg : Bool) : BinOp := if neg then .neq else .eql
theorem binOp_other {t : Nat} {neg : Bool} {x y : Value} {b : Bool} (h : (Op.equal t x y).run P w = .ok b w)
    (hx : (∃ a n c, x = .slice a n c) ∨ (∃ a, x = .map a) ∨ x = .nilFunc ∨ (∃ f a b, x = .func f a b) ∨ x = .nilIface ∨ (∃ t v, x = .iface t v))
    (hy : (∃ a n c, y = .slice a n c) ∨ (∃ a, y = .map a) ∨ y = .nilFunc ∨ (∃ f a b, y = .func f a b) ∨ y = .nilIface ∨ (∃ t v, y = .iface t v)) : (binOp (eqOp neg) t x y).run P w = .ok (.bool (negB neg b)) w := by
  have : binOp (eqOp neg) t x y = (do pure (.bool (negB neg (← Op.equal t x y)))) := by
    rcases hx with ⟨_, _, _, rfl⟩ | ⟨_, rfl⟩ | rfl | ⟨_, _, _, rfl⟩ | rfl | ⟨_, _, rfl⟩ <;> rcases hy with ⟨_, _, _, rfl⟩ | ⟨_, rfl⟩ | rfl | ⟨_, _, _, rfl⟩ | rfl | ⟨_, _, rfl⟩ <;> cases neg <;> rfl
  rw [this, Sem.run_bind, h]; rfl
theorem good_isNil {k : NK} {neg : Bool} {t : Nat} {d : TypeDesc} {x x' v nl : Value} (h : pIsNil k neg [x] σ = some (v, σ')) (hx : VR ι x x') (ht : P.underlying t = some d) (hk : nkOf d = some k) (hn : nilOf k (.const nl) = true) :
    (binOp (eqOp neg) t x' nl).run P w = .ok v w ∧ (binOp (eqOp neg) t nl x').run P w = .ok v w ∧ VR ι v v ∧ σ' = σ ∧ (∀ c, x' ≠ .agg c) ∧ (∀ c, nl ≠ .agg c) := by
  simp only [pIsNil] at h
  split at h
  case h_2 => cases h
  rename_i b hb
  simp only [Option.some.injEq, Prod.mk.injEq] at h
  obtain ⟨rfl, rfl⟩ := h
  rw [← isNil_VR hx] at hb
  cases k
  · -- pointers
    cases d <;> simp [nkOf] at hk
    rename_i te
    cases nl <;> simp [nilOf] at hn
    rename_i a0
    cases a0 <;> simp at hn
    cases x' <;> simp [isNilV] at hb
    rename_i a
    subst hb
    refine ⟨?_, ?_, .bool _, rfl, by simp, by simp⟩
    · have : (Op.equal t (.pointer a) (.pointer none)).run P w = .ok a.isNone w := by rw [equal_ptr _ _ ht]; cases a <;> rfl
      cases neg
      · exact binOp_eql_ptr this
      · exact binOp_neq_ptr this
    · have : (Op.equal t (.pointer none) (.pointer a)).run P w = .ok a.isNone w := by rw [equal_ptr _ _ ht]; cases a <;> rfl
      cases neg
      · exact binOp_eql_ptr this
      · exact binOp_neq_ptr this
  · cases d <;> simp [nkOf] at hk
    cases nl <;> simp [nilOf] at hn
    rename_i a n c
    cases a <;> simp at hn
    cases x' <;> simp [isNilV] at hb
    rename_i a' n' c'
    have hs := equal_slice (w := w) (.slice a' n' c') n c ⟨_, _, _, rfl⟩ ht
    simp only [isNilV, Option.getD_some, hb] at hs
    exact ⟨binOp_other hs.1 (.inl ⟨_, _, _, rfl⟩) (.inl ⟨_, _, _, rfl⟩), binOp_other hs.2 (.inl ⟨_, _, _, rfl⟩) (.inl ⟨_, _, _, rfl⟩), .bool _, rfl, by simp, by simp⟩
  · cases d <;> simp [nkOf] at hk
    cases nl <;> simp [nilOf] at hn
    rename_i a
    cases a <;> simp at hn
    cases x' <;> simp [isNilV] at hb
    rename_i a'
    have hs := equal_map (w := w) (.map a') ⟨_, rfl⟩ ht
    simp only [isNilV, Option.getD_some, hb] at hs
    exact ⟨binOp_other hs.1 (.inr (.inl ⟨_, rfl⟩)) (.inr (.inl ⟨_, rfl⟩)), binOp_other hs.2 (.inr (.inl ⟨_, rfl⟩)) (.inr (.inl ⟨_, rfl⟩)), .bool _, rfl, by simp, by simp⟩
  · cases d <;> simp [nkOf] at hk
    cases nl <;> simp [nilOf] at hn
    have hq : x' = .nilFunc ∨ ∃ f a b, x' = .func f a b := by
      cases x' <;> simp [isNilV] at hb ⊢
    have hs := equal_func (w := w) x' hq ht
    simp only [hb, Option.getD_some] at hs
    have hq' : (∃ a n c, x' = .slice a n c) ∨ (∃ a, x' = .map a) ∨ x' = .nilFunc ∨ (∃ f a b, x' = .func f a b) ∨ x' = .nilIface ∨ (∃ t v, x' = .iface t v) := by
      rcases hq with h | h
      · exact .inr (.inr (.inl h))
      · exact .inr (.inr (.inr (.inl h)))
    exact ⟨binOp_other hs.1 hq' (.inr (.inr (.inl rfl))), binOp_other hs.2 (.inr (.inr (.inl rfl))) hq', .bool _, rfl, by rcases hq with rfl | ⟨_, _, _, rfl⟩ <;> simp, by simp⟩
  · cases d <;> simp [nkOf] at hk
    cases nl <;> simp [nilOf] at hn
    have hq : x' = .nilIface ∨ ∃ t v, x' = .iface t v := by
      cases x' <;> simp [isNilV] at hb ⊢
    have hs := equal_iface (w := w) x' hq ht
    simp only [hb, Option.getD_some] at hs
    have hq' : (∃ a n c, x' = .slice a n c) ∨ (∃ a, x' = .map a) ∨ x' = .nilFunc ∨ (∃ f a b, x' = .func f a b) ∨ x' = .nilIface ∨ (∃ t v, x' = .iface t v) := by
      rcases hq with h | h
      · exact .inr (.inr (.inr (.inr (.inl h))))
      · exact .inr (.inr (.inr (.inr (.inr h))))
    exact ⟨binOp_other hs.1 hq' (.inr (.inr (.inr (.inr (.inl rfl))))), binOp_other hs.2 (.inr (.inr (.inr (.inr (.inl rfl))))) hq', .bool _, rfl, by rcases hq with rfl | ⟨_, _, rfl⟩ <;> simp, by simp⟩
def isC : Operand → Bool
  | .const _ => true
  | _ => false
/-- The look that goes ahead of '==' lets these pass. -/
theorem eqGuard_other {op : BinOp} {t : Nat} {x y : Operand} {a b : Value} (h1 : ∀ c, a ≠ .agg c) (h2 : a = .nilIface → b = .nilIface → isC x = true ∨ isC y = true) : (eqGuard op t x y a b).run P w = .ok () w := by
  unfold eqGuard
  cases op <;> simp
  all_goals
    cases a <;> cases b <;> simp
    all_goals try exact absurd rfl (h1 _)
    rcases h2 rfl rfl with h | h
    · cases x <;> simp [isC] at h <;> simp
    · cases x <;> cases y <;> simp [isC] at h <;> simp

theorem bound_some {x : Int} {y n : Nat} (h : bound x y = some n) : 0 ≤ x ∧ x ≤ y ∧ n = x.toNat := by
  unfold bound at h
  rw [ltI_eq, ltI_eq] at h
  split at h
  · rename_i hc
    simp at hc h
    exact ⟨hc.1, hc.2, h.symm⟩
  · cases h
theorem run_sliceBound {x : Int} {k : IntKind} {y n : Nat} (h : bound x y = some n) (code : BoundsCode) : (Instr.sliceBound (.int k x) y code).run P w = .ok n w := by
  obtain ⟨h0, h1, rfl⟩ := bound_some h
  simp [Instr.sliceBound, asIntOf, h0, h1]
theorem intOf_VR {x x' : Value} {i : Int} (h : VR ι x x') (hi : intOf? x = some i) : ∃ k, x' = .int k i := by
  cases h <;> simp [intOf?] at hi
  subst hi
  exact ⟨_, rfl⟩
theorem good_fieldAddr {s i off : Nat} {fs : Array Field} {f : Field} {x x' v : Value} (hr : R ι σ w) (h : pFieldAddr off [x] σ = some (v, σ')) (hx : VR ι x x') (hs : P.underlying s = some (.struct fs)) (hf : fs[i]? = some f)
    (hz : ∃ n, szT P f.type = some n ∧ n ≠ 0) (ho : f.offset = off) : GoodQ P ι (Instr.fieldAt s x' i) v ∧ σ' = σ := by
  obtain ⟨n, hn, hn0⟩ := hz
  cases hx <;> simp only [pFieldAddr] at h <;> try (cases h; done)
  rename_i A o bk hA
  simp only [Option.some.injEq, Prod.mk.injEq] at h
  obtain ⟨rfl, rfl⟩ := h
  refine ⟨⟨.pointer (some ⟨bk.blk, bk.base + (o + off), none⟩), fun w => ?_, (.ptr hA)⟩, rfl⟩
  simp [Instr.fieldAt, run_underlying hs, hf, Instr.sureAddr, fieldPlace, run_sizeOf hn, hn0, Addr.add_mid, ho, Nat.add_assoc]
theorem good_idxAddr {t e esz : Nat} {x x' i i' v : Value} (hr : R ι σ w) (h : pIdxAddr esz [x, i] σ = some (v, σ')) (hx : VR ι x x') (hi : VR ι i i') (ht : P.underlying t = some (.slice e)) (he : szT P e = some esz) :
    GoodQ P ι (Instr.indexAt t x' i') v ∧ σ' = σ := by
  cases hx <;> simp only [pIdxAddr] at h <;> try (cases h; done)
  · rename_i A o n c bk h0 hA
    cases hi <;> simp only [] at h <;> try (cases h; done)
    rename_i k j
    rw [ltI_eq, ltI_eq] at h
    split at h
    · rename_i hc
      simp at hc h
      obtain ⟨rfl, rfl⟩ := h
      refine ⟨⟨.pointer (some ⟨bk.blk, bk.base + (o + j.toNat * esz), none⟩), fun w => ?_, (.ptr hA)⟩, rfl⟩
      simp [Instr.indexAt, asIntOf, run_underlying ht, hc, run_sizeOf he, Addr.add_mid, Nat.add_assoc]
    · cases h
  · cases hi <;> simp only [] at h <;> try (cases h; done)
    rename_i k j
    rw [ltI_eq, ltI_eq] at h
    split at h
    · rename_i hc; simp at hc
    · cases h
theorem good_idxAddrA {t e esz n : Nat} {x x' i i' v : Value} (hr : R ι σ w) (h : pIdxAddrA n esz [x, i] σ = some (v, σ')) (hx : VR ι x x') (hi : VR ι i i') (ht : P.underlying t = some (.array n e)) (he : szT P e = some esz) :
    GoodQ P ι (Instr.indexAt t x' i') v ∧ σ' = σ := by
  cases hx <;> simp only [pIdxAddrA] at h <;> try (cases h; done)
  rename_i A o bk hA
  cases hi <;> simp only [] at h <;> try (cases h; done)
  rename_i k j
  rw [ltI_eq, ltI_eq] at h
  split at h
  · rename_i hc
    simp at hc h
    obtain ⟨rfl, rfl⟩ := h
    refine ⟨⟨.pointer (some ⟨bk.blk, bk.base + (o + j.toNat * esz), none⟩), fun w => ?_, (.ptr hA)⟩, rfl⟩
    simp [Instr.indexAt, asIntOf, run_underlying ht, Instr.sureAddr, hc, run_sizeOf he, Addr.add_mid, Nat.add_assoc]
  · cases h
theorem run_part {t n : Nat} (c : List Value) (off : Nat) (ht : szT P t = some n) (hu : (P.underlying t).isSome = true) {v : Value}
    (h : (if aggT P t then (if off + n ≤ c.length then some (Value.agg ⟨(c.drop off).take n⟩) else none) else c[off]?) = some v) : (part t ⟨c⟩ off).run P w = .ok v w := by
  unfold part
  simp only [Sem.run_bind, run_isAgg ⟨n, ht⟩ hu, Result.andThen_ok]
  cases hg : aggT P t
  · rw [hg] at h
    simp at h
    simp [h]
  · rw [hg] at h
    simp only [if_true] at h
    split at h
    · rename_i hl
      simp at h
      subst h
      simp [run_sizeOf ht, List.drop_take]
    · cases h
theorem good_field {t i off n : Nat} {agg : Bool} {fs : Array Field} {f : Field} {x x' v : Value} (hr : R ι σ w) (h : pField off agg n [x] σ = some (v, σ')) (hx : VR ι x x') (ht : P.underlying t = some (.struct fs)) (hf : fs[i]? = some f)
    (ho : f.offset = off) (hn : szT P f.type = some n) (ha : aggT P f.type = agg) (hu : (P.underlying f.type).isSome = true) : GoodQ P ι (Instr.field t x' i) v ∧ σ' = σ := by
  cases hx <;> simp only [pField] at h <;> try (cases h; done)
  rename_i xs ys hl
  have hrun : ∀ v' (w : World), (part f.type ⟨ys⟩ f.offset).run P w = .ok v' w → (Instr.field t (.agg ⟨ys⟩) i).run P w = .ok v' w := by
    intro v' w hp
    simp [Instr.field, run_underlying ht, hf, asAgg, hp]
  cases agg
  · simp only [lget_eq] at h
    split at h
    · rename_i u hu2
      simp only [Option.some.injEq, Prod.mk.injEq] at h
      obtain ⟨rfl, rfl⟩ := h
      obtain ⟨u', a, b⟩ := hl.get _ _ hu2
      exact ⟨⟨u', fun w => hrun u' w (run_part _ _ hn hu (by rw [ha, ho]; simpa using a)), b⟩, rfl⟩
    · cases h
  · simp only [] at h
    split at h
    · rename_i l hl2
      simp only [Option.some.injEq, Prod.mk.injEq] at h
      obtain ⟨rfl, rfl⟩ := h
      obtain ⟨h1, rfl⟩ := lcut_some hl2
      exact ⟨⟨.agg ⟨(ys.drop off).take n⟩, fun w => hrun _ w (run_part _ _ hn hu (by rw [ha, ho]; simp [hl.length, h1])), .agg ((hl.drop _).take _)⟩, rfl⟩
    · cases h
theorem good_idx {t e len esz : Nat} {agg : Bool} {x x' i i' v : Value} (hr : R ι σ w) (h : pIdx len esz agg [x, i] σ = some (v, σ')) (hx : VR ι x x') (hi : VR ι i i') (ht : P.underlying t = some (.array len e))
    (hn : szT P e = some esz) (ha : aggT P e = agg) (hu : (P.underlying e).isSome = true) : GoodQ P ι (Instr.index t x' i') v ∧ σ' = σ := by
  cases hx <;> simp only [pIdx] at h <;> try (cases h; done)
  rename_i xs ys hl
  cases hi <;> simp only [] at h <;> try (cases h; done)
  rename_i k j
  rw [ltI_eq, ltI_eq] at h
  split at h
  · cases h
  rename_i hc
  simp at hc
  have hrun : ∀ v' (w : World), (part e ⟨ys⟩ (j.toNat * esz)).run P w = .ok v' w → (Instr.index t (.agg ⟨ys⟩) (.int k j)).run P w = .ok v' w := by
    intro v' w hp
    simp [Instr.index, asIntOf, run_underlying ht, hc, run_sizeOf hn, hp]
  cases agg
  · simp only [lget_eq] at h
    split at h
    · rename_i u hu2
      simp only [Option.some.injEq, Prod.mk.injEq] at h
      obtain ⟨rfl, rfl⟩ := h
      obtain ⟨u', a, b⟩ := hl.get _ _ hu2
      exact ⟨⟨u', fun w => hrun u' w (run_part _ _ hn hu (by rw [ha]; simpa using a)), b⟩, rfl⟩
    · cases h
  · simp only [] at h
    split at h
    · rename_i l hl2
      simp only [Option.some.injEq, Prod.mk.injEq] at h
      obtain ⟨rfl, rfl⟩ := h
      obtain ⟨h1, rfl⟩ := lcut_some hl2
      exact ⟨⟨.agg ⟨(ys.drop (j.toNat * esz)).take esz⟩, fun w => hrun _ w (run_part _ _ hn hu (by rw [ha]; simp [hl.length, h1])), .agg ((hl.drop _).take _)⟩, rfl⟩
    · cases h
theorem good_idxStr {t : Nat} {x x' i i' v : Value} (hr : R ι σ w) (h : pIdxStr [x, i] σ = some (v, σ')) (hx : VR ι x x') (hi : VR ι i i') (ht : P.underlying t = some .string) : GoodQ P ι (Instr.index t x' i') v ∧ σ' = σ := by
  cases hx <;> simp only [pIdxStr] at h <;> try (cases h; done)
  rename_i s
  cases hi <;> simp only [] at h <;> try (cases h; done)
  rename_i k j
  rw [ltI_eq] at h
  split at h
  · cases h
  rename_i hc
  simp at hc
  split at h
  · rename_i b hb
    simp only [Option.some.injEq, Prod.mk.injEq] at h
    obtain ⟨rfl, rfl⟩ := h
    refine ⟨⟨_, fun w => ?_, (.int _ _)⟩, rfl⟩
    have hb' : s[j.toNat]? = some b := by
      rw [Array.getElem?_toList] at hb
      obtain ⟨h1, h2⟩ := Array.getElem?_eq_some_iff.1 hb
      rw [getElem?_def, dif_pos (show j.toNat < s.size from h1)]
      exact congrArg some h2
    simp [Instr.index, asIntOf, run_underlying ht, hc, hb']
  · cases h
theorem good_assert {xt a : Nat} {ok : Bool} {z x x' v : Value} {d : TypeDesc} (hr : R ι σ w) (h : pAssert a z ok [x] σ = some (v, σ')) (hx : VR ι x x') (ha : P.underlying a = some d) (hn : ∀ ms, d ≠ .interface ms) (hz : zeroT P a = some z) :
    GoodQ P ι (Instr.typeAssert x' xt a ok) v ∧ σ' = σ := by
  have hzr := fun w => run_zeroValue' hz w
  have hzv : VR ι z z := zeroVR hz
  cases hx <;> simp only [pAssert] at h <;> try (cases h; done)
  · rename_i t u u' hu
    rw [nbeq] at h
    split at h
    · rename_i he
      simp at he
      subst he
      simp only [Option.some.injEq, Prod.mk.injEq] at h
      obtain ⟨rfl, rfl⟩ := h
      cases ok
      · refine ⟨⟨u', fun w => ?_, hu⟩, rfl⟩
        simp only [Instr.typeAssert, Sem.run_bind, run_underlying ha, Result.andThen_ok]
        cases d <;> simp_all
      · refine ⟨⟨.tuple #[u', .bool true], fun w => ?_, (.tuple (.cons hu (.cons (.bool _) .nil)))⟩, rfl⟩
        simp only [Instr.typeAssert, Sem.run_bind, run_underlying ha, Result.andThen_ok]
        cases d <;> simp_all
    · rename_i he
      simp at he
      cases ok <;> simp only [] at h <;> try (cases h; done)
      simp only [Option.some.injEq, Prod.mk.injEq] at h
      obtain ⟨rfl, rfl⟩ := h
      refine ⟨⟨.tuple #[z, .bool false], fun w => ?_, (.tuple (.cons hzv (.cons (.bool _) .nil)))⟩, rfl⟩
      simp only [Instr.typeAssert, Sem.run_bind, run_underlying ha, Result.andThen_ok]
      cases d <;> simp_all
  · cases ok <;> simp only [] at h <;> try (cases h; done)
    simp only [Option.some.injEq, Prod.mk.injEq] at h
    obtain ⟨rfl, rfl⟩ := h
    refine ⟨⟨.tuple #[z, .bool false], fun w => ?_, (.tuple (.cons hzv (.cons (.bool _) .nil)))⟩, rfl⟩
    simp only [Instr.typeAssert, Sem.run_bind, run_underlying ha, Result.andThen_ok]
    cases d <;> simp_all
end
end AM
end Go.Proofs.YtdbbkaeoinalpaaGreat
