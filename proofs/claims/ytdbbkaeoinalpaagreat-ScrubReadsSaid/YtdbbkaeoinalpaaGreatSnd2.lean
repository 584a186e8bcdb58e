/- Operations that touch no memory, or only make it. -/
import Derived.Test.YtdbbkaeoinalpaaGreatSnd1
import Derived.Handy
import Derived.Laws.Strings
set_option linter.unusedVariables false
namespace Go.Proofs.YtdbbkaeoinalpaaGreat
namespace AM
section
variable {P : Program} {ι : Inj} {σ σ' : H} {w : World}

/-- The program's computation answers what the machine answers. -/
def Good (P : Program) (ι : Inj) (σ' : H) (s : Sem Value) (w : World) (v : Value) : Prop :=
  ∃ ι' v' w', s.run P w = .ok v' w' ∧ VR ι' v v' ∧ R ι' σ' w' ∧ Ext ι w ι' w'
def GoodU (P : Program) (ι : Inj) (σ' : H) (s : Sem Unit) (w : World) : Prop :=
  ∃ ι' w', s.run P w = .ok () w' ∧ R ι' σ' w' ∧ Ext ι w ι' w'
/-- .. whatever the world. -/
def GoodQ (P : Program) (ι : Inj) (s : Sem Value) (v : Value) : Prop := ∃ v', (∀ w, s.run P w = .ok v' w) ∧ VR ι v v'
theorem Good.pure {v v' : Value} {s : Sem Value} (hr : R ι σ w) (hs : s.run P w = .ok v' w) (hv : VR ι v v') : Good P ι σ s w v := ⟨ι, v', w, hs, hv, hr, Ext.refl _ _⟩

theorem szT_some {t n : Nat} (h : szT P t = some n) : ∃ i, P.info? t = some i ∧ i.size = n := by
  unfold szT at h
  split at h
  rotate_left
  · cases h
  cases hi : P.info? t with
  | none => rw [hi] at h; cases h
  | some i => rw [hi] at h; exact ⟨i, rfl, by simpa using h⟩
theorem szT_lt {t n : Nat} (h : szT P t = some n) : t < P.types.size := by
  unfold szT at h
  split at h
  · rename_i hb; rw [nblt] at hb; exact of_decide_eq_true hb
  · cases h
theorem zeroT_lt {t : Nat} {z : Value} (h : zeroT P t = some z) : t < P.types.size := by
  unfold zeroT at h
  split at h
  · rename_i hb; rw [nblt] at hb; exact of_decide_eq_true hb
  · cases h
theorem run_sizeOf {t n : Nat} (h : szT P t = some n) (w : World) : (sizeOf t).run P w = .ok n w := by
  obtain ⟨i, hi, rfl⟩ := szT_some h
  simp [sizeOf, typeInfo, hi]
theorem zeroT_some {t : Nat} {z : Value} (h : zeroT P t = some z) : ∃ i, P.info? t = some i ∧ i.zero = some z ∧ (cellsOf z).all constOk = true ∧ (cellsOf z).length = i.size := by
  unfold zeroT at h
  split at h
  rotate_left
  · cases h
  cases hi : P.info? t with
  | none => rw [hi] at h; cases h
  | some i =>
    rw [hi] at h
    simp only [Option.bind_some, Option.filter] at h
    cases hz : i.zero with
    | none => rw [hz] at h; simp at h
    | some y =>
      rw [hz] at h
      simp at h
      obtain ⟨⟨h1, h2⟩, rfl⟩ := h
      exact ⟨i, rfl, hz, by rw [List.all_eq_true]; exact h1, h2⟩
theorem zeroT_size {t n : Nat} {z : Value} (h : zeroT P t = some z) (hs : szT P t = some n) : (cellsOf z).length = n := by
  obtain ⟨i, hi, _, _, hl⟩ := zeroT_some h
  obtain ⟨j, hj, rfl⟩ := szT_some hs
  rw [hi] at hj; cases hj
  exact hl
theorem run_zeroValue' {t : Nat} {z : Value} (h : zeroT P t = some z) (w : World) : (zeroValue t).run P w = .ok z w := by
  obtain ⟨i, hi, hz, _, _⟩ := zeroT_some h
  simp [zeroValue, typeInfo, hi, hz]
theorem constVR {ι : Inj} {v : Value} (h : constOk v = true) : VR ι v v := by
  cases v with
  | pointer a => cases a <;> simp [constOk] at h; exact .nilp
  | slice a n c => cases a <;> simp [constOk] at h; exact .nils _ _
  | map a => cases a <;> simp [constOk] at h; exact .nilm
  | bool b => exact .bool b
  | int k n => exact .int k n
  | float k b => exact .float k b
  | string s => exact .string s
  | nilFunc => exact .nilf
  | nilIface => exact .nili
  | _ => simp [constOk] at h
theorem constVRs {ι : Inj} : ∀ {l : List Value}, l.all constOk = true → VRs ι l l
  | [], _ => .nil
  | v :: r, h => by
    simp at h
    exact .cons (constVR h.1) (constVRs (by rw [List.all_eq_true]; exact h.2))
theorem zeroVRs {ι : Inj} {t : Nat} {z : Value} (h : zeroT P t = some z) : VRs ι z.cells.toList z.cells.toList := by
  obtain ⟨i, hi, hz, hc, _⟩ := zeroT_some h
  rw [cellsOf_eq]
  exact constVRs hc
theorem zeroVR {ι : Inj} {t : Nat} {z : Value} (h : zeroT P t = some z) : VR ι z z := by
  obtain ⟨i, hi, hz, hc, _⟩ := zeroT_some h
  cases z with
  | agg cs => exact .agg (constVRs hc)
  | _ => exact constVR (by simpa [cellsOf] using hc)
theorem run_isAgg {t : Nat} (hs : ∃ n, szT P t = some n) (hu : (P.underlying t).isSome = true) (w : World) : (isAgg t).run P w = .ok (aggT P t) w := by
  obtain ⟨d, hd⟩ := Option.isSome_iff_exists.1 hu
  simp only [isAgg, Sem.run_bind, run_underlying hd, Result.andThen_ok, aggT, hd]
  cases d <;> rfl

/-! ### Operands -/
theorem opd_const {x : Operand} {v : Value} (h : opdOf x = some (.c v)) (a : Act) : VR ι v (a.eval x) := by
  cases x with
  | tmp t => simp [opdOf] at h
  | const c =>
    simp only [opdOf] at h
    split at h
    · cases h; exact constVR (by assumption)
    · cases h
  | global g => simp [opdOf] at h
  | func f =>
    simp only [opdOf, Option.some.injEq, Opd.c.injEq] at h
    subst h
    exact .func f .nil .nil

/-! ### Pure operations -/
theorem good_pick {c a b v : Value} {c' a' b' : Value} (hr : R ι σ w) (h : pPick [c, a, b] σ = some (v, σ')) (hc : VR ι c c') (ha : VR ι a a') (hb : VR ι b b') :
    GoodQ P ι (do pure (if ← asBool c' then a' else b')) v ∧ σ' = σ := by
  cases hc <;> simp only [pPick] at h <;> try cases h
  rename_i b0
  refine ⟨⟨if b0 then a' else b', fun w => by simp [asBool], ?_⟩, rfl⟩
  cases b0 <;> simp <;> assumption
theorem good_func {f n : Nat} {vs xs ys : List Value} {v : Value} (hr : R ι σ w) (h : pFunc f n vs σ = some (v, σ')) (hv : VRs ι vs (xs ++ ys)) (hn : xs.length = n) :
    GoodQ P ι (Instr.makeFunc (.func f) ⟨xs⟩ ⟨ys⟩) v ∧ σ' = σ := by
  simp only [pFunc, Option.some.injEq, Prod.mk.injEq] at h
  obtain ⟨rfl, rfl⟩ := h
  refine ⟨⟨.func (.func f) ⟨xs⟩ ⟨ys⟩, fun w => rfl, .func f ?_ ?_⟩, rfl⟩
  · have := hv.take n; rwa [List.take_left' hn] at this
  · have := hv.drop n; rwa [List.drop_left' hn] at this
theorem good_iface {t : Nat} {x x' v : Value} {d : TypeDesc} (hr : R ι σ w) (h : pIface t [x] σ = some (v, σ')) (hx : VR ι x x') (hd : P.underlying t = some d) (hn : ∀ ms, d ≠ .interface ms) :
    GoodQ P ι (Instr.makeInterface t x') v ∧ σ' = σ := by
  simp only [pIface, Option.some.injEq, Prod.mk.injEq] at h
  obtain ⟨rfl, rfl⟩ := h
  refine ⟨⟨.iface t x', fun w => ?_, (.iface t hx)⟩, rfl⟩
  simp only [Instr.makeInterface, Sem.run_bind, run_underlying hd, Result.andThen_ok]
  cases d <;> simp_all
theorem good_extract {i : Nat} {x x' v : Value} (hr : R ι σ w) (h : pExtract i [x] σ = some (v, σ')) (hx : VR ι x x') : GoodQ P ι (Instr.extract x' i) v ∧ σ' = σ := by
  cases hx <;> simp only [pExtract] at h <;> try cases h
  rename_i xs ys hl
  rw [lget_eq] at h
  split at h
  · rename_i u hu
    simp only [Option.some.injEq, Prod.mk.injEq] at h
    obtain ⟨rfl, rfl⟩ := h
    obtain ⟨u', a, b⟩ := hl.get i u hu
    exact ⟨⟨_, fun w => (by simp [Instr.extract, a]), b⟩, rfl⟩
  · cases h
theorem good_toInt {s d : Nat} {k0 k : IntKind} {x x' v : Value} (hr : R ι σ w) (h : pToInt k [x] σ = some (v, σ')) (hx : VR ι x x') (hs : P.underlying s = some (.int k0)) (hd : P.underlying d = some (.int k)) :
    GoodQ P ι (convert s d x') v ∧ σ' = σ := by
  cases hx <;> simp only [pToInt] at h <;> try cases h
  rename_i kx n
  rw [wrapI_eq]
  refine ⟨⟨_, fun w => ?_, (.int k _)⟩, rfl⟩
  simp [convert, run_underlying hs, run_underlying hd, Conv.intToInt]
theorem good_toFloat {s d : Nat} {k0 : IntKind} {k : FloatKind} {x x' v : Value} (hr : R ι σ w) (h : pToFloat k [x] σ = some (v, σ')) (hx : VR ι x x') (hs : P.underlying s = some (.int k0)) (hd : P.underlying d = some (.float k)) :
    GoodQ P ι (convert s d x') v ∧ σ' = σ := by
  cases hx <;> simp only [pToFloat] at h <;> try cases h
  refine ⟨⟨_, fun w => ?_, (.float k _)⟩, rfl⟩
  simp [convert, run_underlying hs, run_underlying hd, Conv.intToFloat]
theorem isNil_VR {k : NK} {x x' : Value} (h : VR ι x x') : isNilV k x' = isNilV k x := by cases h <;> cases k <;> rfl
theorem good_nilCheck {x x' v : Value} {ρ : Operand → Value} {y : Operand} {dst ty pos after guard} (h : pNilCheck [x] σ = some (v, σ')) (hx : VR ι x x') (hy : ρ y = x') :
    (execOp ρ ⟨dst, .nilCheck y, ty, pos, after, guard⟩).run P w = .ok (.value x') w ∧ VR ι v x' ∧ σ' = σ := by
  cases hx <;> simp only [pNilCheck] at h <;> try (cases h; done)
  all_goals
    simp only [Option.some.injEq, Prod.mk.injEq] at h
    obtain ⟨rfl, rfl⟩ := h
    refine ⟨by simp [execOp, hy], ?_, rfl⟩
  · exact .ptr (by assumption)
  · exact .iface _ (by assumption)
theorem binI_ok {op : BinOp} {k : IntKind} {x y : Int} {v : Value} (h : binI op k x y = some v) (t : TypeId) (w : World) : (binOp op t (.int k x) (.int k y)).run P w = .ok v w := by
  cases op <;> simp only [binI, reduceCtorEq] at h
  case add => simp only [wrapI_eq, Option.some.injEq] at h; subst h; simp [binOp, Op.intArith]; try rfl
  case sub => simp only [wrapI_eq, Option.some.injEq] at h; subst h; simp [binOp, Op.intArith]; try rfl
  case mul => simp only [wrapI_eq, Option.some.injEq] at h; subst h; simp [binOp, Op.intArith]; try rfl
  case quo =>
    rw [eqI_eq] at h
    split at h
    · cases h
    · rename_i hz
      simp only [wrapI_eq, divI_eq, Option.some.injEq] at h
      simp at hz
      subst h
      simp [binOp, Op.intDiv, hz]
  case rem =>
    rw [eqI_eq] at h
    split at h
    · cases h
    · rename_i hz
      simp only [remI_eq, Option.some.injEq] at h
      simp at hz
      subst h
      simp [binOp, Op.intDiv, hz]
  case and => simp only [Option.some.injEq] at h; subst h; rw [bitI_eq k Nat.land (· &&& ·) x y (fun a b n ha hb => Nat.and_lt_two_pow a hb) (fun a b => BitVec.toNat_and a b)]; simp [binOp, Op.intBits]
  case or => simp only [Option.some.injEq] at h; subst h; rw [bitI_eq k Nat.lor (· ||| ·) x y (fun a b n ha hb => Nat.or_lt_two_pow ha hb) (fun a b => BitVec.toNat_or a b)]; simp [binOp, Op.intBits]
  case xor => simp only [Option.some.injEq] at h; subst h; rw [bitI_eq k Nat.xor (· ^^^ ·) x y (fun a b n ha hb => Nat.xor_lt_two_pow ha hb) (fun a b => BitVec.toNat_xor a b)]; simp [binOp, Op.intBits]
  all_goals
    simp only [ltI_eq, eqI_eq, Option.some.injEq] at h
    subst h
    simp [binOp, Op.intCmp]
  case eql => rfl
  case neq => rfl
  case leq => by_cases e : x ≤ y <;> simp [e] <;> omega
  case geq => by_cases e : y ≤ x <;> simp [e] <;> omega
theorem shiftI_ok {op : BinOp} {k k' : IntKind} {x y : Int} {v : Value} (hop : op = .shl ∨ op = .shr) (h : shiftI op k x y = some v) (t : TypeId) (w : World) : (binOp op t (.int k x) (.int k' y)).run P w = .ok v w := by
  simp only [shiftI, ltI_eq] at h
  split at h
  · cases h
  · rename_i hz
    simp at hz
    have hz' : ¬ y < 0 := by omega
    rcases hop with rfl | rfl
    · simp only [shlI_eq, shiftN_eq, Option.some.injEq] at h
      subst h
      simp [binOp, Op.shift, hz']
    · simp only [shrI_eq, shiftN_eq, Option.some.injEq] at h
      subst h
      simp [binOp, Op.shift, hz']
theorem binF_ok {op : BinOp} {k : FloatKind} {x y : Nat} {v : Value} (h : binF op k x y = some v) (t : TypeId) (w : World) : (binOp op t (.float k x) (.float k y)).run P w = .ok v w := by
  cases op <;> simp only [binF, reduceCtorEq, Option.map_eq_some_iff, Option.some.injEq] at h
  all_goals first
    | (obtain ⟨r, hr, rfl⟩ := h; simp [binOp, Op.floatArith, hr])
    | (subst h; simp [binOp, Op.floatCmp])

theorem live_cells {A : Nat} {bk : Bk} (hr : R ι σ w) (h : live σ A = true) (hb : ι A = some bk) : ∃ blk e, w.heap[bk.blk]? = some (.cells blk e (0, 0)) ∧ bk.ro = false ∧ ∃ o, σ.get A = some o ∧ o ≠ .dead := by
  unfold live at h
  split at h
  · cases h
  · rename_i c e s m hno hg
    obtain ⟨bk', i1, blk, fz, te, hc⟩ := hr.obj _ _ hg (by simp)
    rw [hb] at i1; cases i1
    have hm : m ≠ .ro := fun e => by subst e; simp at hno
    refine ⟨blk, te, ?_, by rw [hc.ro]; simp [hm], _, hg, by simp⟩
    rw [hc.heap, hc.fz hm]
  · cases h
theorem sameAddr_live {A B : Nat} {o1 o2 : Nat} {bA bB : Bk} (hr : R ι σ w) (hA : live σ A = true) (hB : live σ B = true) (iA : ι A = some bA) (iB : ι B = some bB) :
    (sameAddr ⟨bA.blk, bA.base + o1, none⟩ ⟨bB.blk, bB.base + o2, none⟩).run P w = .ok (A == B && o1 == o2) w := by
  obtain ⟨kA, eA, gA, rA, oA, sA, dA⟩ := live_cells hr hA iA
  obtain ⟨kB, eB, gB, rB, oB, sB, dB⟩ := live_cells hr hB iB
  by_cases he : bA.blk = bB.blk
  · have : A = B := hr.inj A B oA oB bA bB sA sB dA dB iA iB rA he
    subst this
    rw [iA] at iB; cases iB
    unfold sameAddr
    have : (({ block := bA.blk, off := bA.base + o1 } : Addr) == { block := bA.blk, off := bA.base + o2 }) = (o1 == o2) := by
      rw [Bool.eq_iff_iff]; simp
    simp [this]
  · have hne : A ≠ B := fun e => by subst e; rw [iA] at iB; cases iB; exact he rfl
    have h1 : ∀ o, w.frozen? ⟨bA.blk, o, none⟩ = false := fun o => by simp [World.frozen?, gA]
    have h2 : ∀ o, w.frozen? ⟨bB.blk, o, none⟩ = false := fun o => by simp [World.frozen?, gB]
    unfold sameAddr
    simp [he, h1, h2, noView, viewAt, World.shape?, gA, gB, mayBeOne, stringish, hne]
theorem equal_ptr {te t : Nat} (x y : Option Addr) (ht : P.underlying t = some (.pointer te)) : (Op.equal t (.pointer x) (.pointer y)).run P w =
    (match x, y with
    | none, b => pure b.isNone
    | some _, none => pure false
    | some a, some b => do
      if (← sizeOf te) ≠ 0 then sameAddr a b
      else if a == b then pure true
      else pure ((← choose .zeroSizeEq) = 1) : Sem Bool).run P w := by
  unfold Op.equal Op.maxDepth
  rw [show (10000 : Nat) = 9999 + 1 from rfl, Op.equalIn]
  simp only [Sem.run_bind, run_underlying ht, Result.andThen_ok]
  cases x <;> cases y <;> rfl
theorem binOp_eql_ptr {t : Nat} {x y : Option Addr} {b : Bool} (h : (Op.equal t (.pointer x) (.pointer y)).run P w = .ok b w) : (binOp .eql t (.pointer x) (.pointer y)).run P w = .ok (.bool b) w := by
  have : binOp .eql t (.pointer x) (.pointer y) = (do pure (.bool (← Op.equal t (.pointer x) (.pointer y)))) := by cases x <;> cases y <;> rfl
  rw [this, Sem.run_bind, h]; rfl
theorem binOp_neq_ptr {t : Nat} {x y : Option Addr} {b : Bool} (h : (Op.equal t (.pointer x) (.pointer y)).run P w = .ok b w) : (binOp .neq t (.pointer x) (.pointer y)).run P w = .ok (.bool !b) w := by
  have : binOp .neq t (.pointer x) (.pointer y) = (do pure (.bool (!(← Op.equal t (.pointer x) (.pointer y))))) := by cases x <;> cases y <;> rfl
  rw [this, Sem.run_bind, h]; rfl
theorem good_eqPtr {te : Nat} {neg : Bool} {t : Nat} {x y x' y' v : Value} {i : TypeInfo} (hr : R ι σ w) (h : pEqPtr neg [x, y] σ = some (v, σ')) (hx : VR ι x x') (hy : VR ι y y')
    (ht : P.underlying t = some (.pointer te)) (hi : P.info? te = some i) (hz : i.size ≠ 0) : (binOp (if neg then .neq else .eql) t x' y').run P w = .ok v w ∧ VR ι v v ∧ σ' = σ := by
  have hsz : (sizeOf te).run P w = .ok i.size w := by simp [sizeOf, typeInfo, hi]
  have fin : ∀ (x' y' : Option Addr) (r : Bool), (Op.equal t (.pointer x') (.pointer y')).run P w = .ok r w → (binOp (if neg then .neq else .eql) t (.pointer x') (.pointer y')).run P w = .ok (.bool (negB neg r)) w := by
    intro x' y' r h1
    cases neg
    · exact binOp_eql_ptr h1
    · exact binOp_neq_ptr h1
  cases hx <;> cases hy <;> simp only [pEqPtr, ptrEq] at h <;> try (cases h; done)
  · simp only [Option.some.injEq, Prod.mk.injEq] at h
    obtain ⟨rfl, rfl⟩ := h
    exact ⟨fin _ _ true (by rw [equal_ptr _ _ ht]; rfl), .bool _, rfl⟩
  · simp only [Option.some.injEq, Prod.mk.injEq] at h
    obtain ⟨rfl, rfl⟩ := h
    exact ⟨fin _ _ false (by rw [equal_ptr _ _ ht]; rfl), .bool _, rfl⟩
  · simp only [Option.some.injEq, Prod.mk.injEq] at h
    obtain ⟨rfl, rfl⟩ := h
    exact ⟨fin _ _ false (by rw [equal_ptr _ _ ht]; rfl), .bool _, rfl⟩
  · rename_i A o bA hA B o2 bB hB
    split at h
    · rename_i b hb
      split at hb
      · cases hb
      · rename_i hl
        simp only [Bool.and_eq_true] at hl
        simp only [Option.some.injEq, Prod.mk.injEq] at h hb
        obtain ⟨rfl, rfl⟩ := h
        subst hb
        refine ⟨fin _ _ _ ?_, .bool _, rfl⟩
        rw [equal_ptr _ _ ht]
        simp [hsz, hz, sameAddr_live (P := P) (o1 := o) (o2 := o2) hr hl.1 hl.2 hA hB, nbeq]
        rfl
    · cases h
theorem equal_bool {t : Nat} (x y : Bool) (ht : P.underlying t = some .bool) : (Op.equal t (.bool x) (.bool y)).run P w = .ok (x == y) w := by
  unfold Op.equal Op.maxDepth
  rw [show (10000 : Nat) = 9999 + 1 from rfl, Op.equalIn]
  simp only [Sem.run_bind, run_underlying ht, Result.andThen_ok]
  rfl
theorem good_eqBool {neg : Bool} {t : Nat} {x y x' y' v : Value} (h : pEqBool neg [x, y] σ = some (v, σ')) (hx : VR ι x x') (hy : VR ι y y') (ht : P.underlying t = some .bool) :
    (binOp (if neg then .neq else .eql) t x' y').run P w = .ok v w ∧ VR ι v v ∧ σ' = σ := by
  cases hx <;> cases hy <;> simp only [pEqBool] at h <;> try (cases h; done)
  rename_i a b
  simp only [Option.some.injEq, Prod.mk.injEq] at h
  obtain ⟨rfl, rfl⟩ := h
  refine ⟨?_, .bool _, rfl⟩
  cases neg
  · show (do pure (.bool (← Op.equal t (.bool a) (.bool b))) : Sem Value).run P w = _
    rw [Sem.run_bind, equal_bool _ _ ht]; rfl
  · show (do pure (.bool (!(← Op.equal t (.bool a) (.bool b)))) : Sem Value).run P w = _
    rw [Sem.run_bind, equal_bool _ _ ht]; rfl
theorem good_eqStr {neg : Bool} {t : Nat} {x y x' y' v : Value} (h : pEqStr neg [x, y] σ = some (v, σ')) (hx : VR ι x x') (hy : VR ι y y') :
    (binOp (if neg then .neq else .eql) t x' y').run P w = .ok v w ∧ VR ι v v ∧ σ' = σ := by
  cases hx <;> cases hy <;> simp only [pEqStr] at h <;> try (cases h; done)
  rename_i a b
  simp only [Option.some.injEq, Prod.mk.injEq] at h
  obtain ⟨rfl, rfl⟩ := h
  refine ⟨?_, .bool _, rfl⟩
  cases neg <;> simp [binOp, Op.stringOp, negB, ByteArray.toList_eq] <;> rfl
theorem good_bin {op : BinOp} {t : Nat} {x y x' y' v : Value} (h : pBin op [x, y] σ = some (v, σ')) (hx : VR ι x x') (hy : VR ι y y') :
    (binOp op t x' y').run P w = .ok v w ∧ VR ι v v ∧ σ' = σ ∧ (∀ c, x' ≠ .agg c) ∧ x' ≠ .nilIface := by
  simp only [pBin] at h
  split at h
  case h_2 => cases h
  rename_i u hu
  simp only [Option.some.injEq, Prod.mk.injEq] at h
  obtain ⟨rfl, rfl⟩ := h
  cases hx <;> cases hy <;> simp only [binV] at hu <;> try (cases hu; done)
  · rename_i k n k' n'
    have hv : ∀ {u}, (∃ b, u = Value.bool b) ∨ (∃ k n, u = Value.int k n) → VR ι u u := by
      rintro u (⟨b, rfl⟩ | ⟨k, n, rfl⟩)
      · exact .bool b
      · exact .int k n
    have hsh : ∀ op, shiftI op k n n' = some u → (op = .shl ∨ op = .shr) → (binOp op t (.int k n) (.int k' n')).run P w = .ok u w ∧ VR ι u u := by
      intro op h hop
      refine ⟨shiftI_ok hop h t w, hv ?_⟩
      simp only [shiftI] at h
      split at h
      · cases h
      · rcases hop with rfl | rfl <;> simp at h <;> exact .inr ⟨_, _, h.symm⟩
    have hbi : ∀ op, (match sameK k k' with | true => binI op k n n' | false => none) = some u → (binOp op t (.int k n) (.int k' n')).run P w = .ok u w ∧ VR ι u u := by
      intro op h
      rw [sameK_eq] at h
      split at h
      · rename_i hk
        simp at hk
        subst hk
        refine ⟨binI_ok h t w, hv ?_⟩
        cases op <;> simp only [binI, reduceCtorEq, Option.some.injEq] at h
        all_goals first
          | (exact .inl ⟨_, h.symm⟩)
          | (exact .inr ⟨_, _, h.symm⟩)
          | (split at h <;> simp at h; exact .inr ⟨_, _, h.symm⟩)
      · cases h
    cases op <;> simp only [] at hu
    case shl => exact ⟨(hsh _ hu (.inl rfl)).1, (hsh _ hu (.inl rfl)).2, rfl, by simp, by simp⟩
    case shr => exact ⟨(hsh _ hu (.inr rfl)).1, (hsh _ hu (.inr rfl)).2, rfl, by simp, by simp⟩
    all_goals exact ⟨(hbi _ hu).1, (hbi _ hu).2, rfl, by simp, by simp⟩
  · rename_i k b k' b'
    split at hu
    · rename_i hk
      simp at hk
      subst hk
      refine ⟨binF_ok hu t w, ?_, rfl, by simp, by simp⟩
      cases op <;> simp only [binF, reduceCtorEq, Option.map_eq_some_iff, Option.some.injEq] at hu
      all_goals first
        | (obtain ⟨r, hr, rfl⟩ := hu; exact .float _ _)
        | (subst hu; exact .bool _)
    · cases hu
end
end AM
end Go.Proofs.YtdbbkaeoinalpaaGreat
