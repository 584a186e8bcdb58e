/- append, copy and the rest, as the program has them. -/
import Derived.Test.YtdbbkaeoinalpaaGreatSnd7
import Derived.Laws.BytesString
import Derived.Laws.Externs
set_option linter.unusedVariables false
namespace Go.Proofs.YtdbbkaeoinalpaaGreat
namespace AM
section
variable {P : Program} {ι : Inj} {σ σ' : H} {w : World}

theorem good_append {t u e e2 esz bytes ty : Nat} {s s' x x' v z : Value} (hr : R ι σ w) (h : pAppend e esz bytes [s, x] σ = some (v, σ')) (hs : VR ι s s') (hx : VR ι x x') (ht : P.underlying t = some (.slice e)) (hu : P.underlying u = some (.slice e2))
    (he : szP P e = some esz) (hb : bytesT P e = some bytes) (hz : zeroT P e = some z) : Good P ι σ' (Builtin.append_ #[t, u] ty #[s', x']) w v := by
  obtain ⟨hsz, h0⟩ := szP_some he
  obtain ⟨i, hi, hib⟩ := bytesT_some hb
  cases s <;> simp only [pAppend] at h <;> try (cases h; done)
  rename_i base sLen sCap
  cases x <;> simp only [] at h <;> try (cases h; done)
  rename_i xb n xc
  split at h
  · cases h
  rename_i new hnew
  obtain ⟨hl, b, c', new', rfl, hv, hload⟩ := src_run (P := P) hr hnew hx
  refine good_tail hr h hs hv hl h0 hz hsz _ (fun b2 c2 hs2 hcond => ?_)
  subst hs2
  have hsr := run_sizeOf hsz
  have hinfo : ∀ w : World, (typeInfo e).run P w = .ok i w := fun w => by simp [typeInfo, hi]
  simp only [Builtin.append_, List.getElem?_toArray, List.getElem?_cons_zero, List.getElem?_cons_succ, Sem.run_bind, run_underlying ht, run_underlying hu, Result.andThen_ok, hsr, Sem.run_pure, Builtin.lenOf, Bool.false_eq_true, if_false]
  unfold appendTail
  by_cases hle : sLen + n ≤ c2
  · simp only [hle, if_true, Bool.not_false, Sem.run_bind, hload w rfl, Result.andThen_ok]
    cases b2 <;> simp
  · obtain ⟨k1, k2, k3, old', k4⟩ := hcond.resolve_left hle
    have hcap := nextcap_le (sLen + n) c2 k1
    have hroom : room = 140737488355328 := rfl
    have hbig : Builtin.nextslicecap (sLen + n) c2 * bytes ≤ 2 * (sLen + n) * bytes := Nat.mul_le_mul_right _ hcap
    have hbig2 : 2 * (sLen + n) * bytes = 2 * ((sLen + n) * bytes) := by rw [Nat.mul_assoc]
    have hn1 : (sLen + n) * 1 ≤ (sLen + n) * bytes := Nat.mul_le_mul_left _ k3
    have c1 : ¬ (Builtin.nextslicecap (sLen + n) c2 * bytes > 2 ^ 48) := by rw [show (2 : Nat) ^ 48 = 281474976710656 by rfl]; omega
    have c2' : ¬ bytes = 0 := by omega
    have hq : (Question.appendCap (sLen + n) c2 e).forced = false := rfl
    have hd : ({ w with drawn := w.drawn + 1 } : World) = w.drew := rfl
    have hzr := run_zeroValue' hz
    simp only [hle, if_false, hinfo, Result.andThen_ok, hib, c2', Bool.false_eq_true, false_or, and_false, Sem.run_bind, run_choose, hq, hd, run_askRoom, Bool.not_false, if_true, hzr, c1, Sem.run_pure, decide_false]
    simp only [k4, hload w.drew rfl, Result.andThen_ok]
theorem good_appendZ {t u e esz bytes ty : Nat} {k : IntKind} {s s' x x' v z : Value} (hr : R ι σ w) (h : pAppendZ e esz bytes z.cells.toList [s, x] σ = some (v, σ')) (hs : VR ι s s') (hx : VR ι x x') (ht : P.underlying t = some (.slice e)) (hu : P.underlying u = some (.int k))
    (he : szP P e = some esz) (hb : bytesT P e = some bytes) (hz : zeroT P e = some z) : Good P ι σ' (Builtin.append_ #[t, u] ty #[s', x']) w v := by
  obtain ⟨hsz, h0⟩ := szP_some he
  obtain ⟨i, hi, hib⟩ := bytesT_some hb
  cases s <;> simp only [pAppendZ] at h <;> try (cases h; done)
  rename_i base sLen sCap
  cases hx <;> simp only [] at h <;> try (cases h; done)
  rename_i k2 n
  rw [ltI_eq, ltI_eq] at h
  split at h
  case h_2 => cases h
  rename_i hn
  simp only [Bool.and_eq_true, nble, decide_eq_true_eq, Bool.not_eq_true', decide_eq_false_iff_not] at hn
  obtain ⟨m, rfl⟩ := Int.eq_ofNat_of_zero_le (show 0 ≤ n by omega)
  rw [Int.toNat_natCast] at h hn
  have hm : m < room := by omega
  have hzl := zeroT_size hz hsz
  have hzc : z.cells.size = esz := by rw [← Array.length_toList, cellsOf_eq]; exact hzl
  have hroom : room = 140737488355328 := rfl
  have hw : IntKind.i64.wrap (m : Int) = m := wrap_lt .i64 m (by show m < 9223372036854775808; omega)
  refine good_tail (new' := lrep z.cells.toList m) hr h hs (lrepVR (zeroVRs hz) m) (by rw [lrep_len, cellsOf_eq, hzl]) h0 hz hsz _ (fun b2 c2 hs2 hcond => ?_)
  subst hs2
  have hsr := run_sizeOf hsz
  have hinfo : ∀ w : World, (typeInfo e).run P w = .ok i w := fun w => by simp [typeInfo, hi]
  have hzr := run_zeroValue' hz
  have hnb : ((m : Int) < 0) = False := by simp
  have happ : ∀ w : World, ((if m * esz = 0 then pure #[] else do pure (Builtin.zeroCells (← zeroValue e).cells m) : Sem (Array Value))).run P w = .ok ⟨lrep z.cells.toList m⟩ w := by
    intro w
    split
    · rename_i hz0
      have : lrep z.cells.toList m = [] := List.eq_nil_of_length_eq_zero (by rw [lrep_len, cellsOf_eq, hzl, hz0])
      rw [this]; rfl
    · have hl : z.cells.toList.length = esz := by rw [cellsOf_eq]; exact hzl
      have := lrep_eq z.cells.toList m (by rw [hl]; omega)
      simp only [Sem.run_bind, hzr, Result.andThen_ok, Sem.run_pure]
      congr 1
      rw [← this]
      apply Array.ext'
      simp [Builtin.zeroCells]
  have hbig : ¬ (m : Int) * i.bytes > 2 ^ 48 := by
    rw [hib, show (2 : Int) ^ 48 = 281474976710656 by rfl, ← Int.natCast_mul]
    omega
  · simp only [Builtin.append_, List.getElem?_toArray, List.getElem?_cons_zero, List.getElem?_cons_succ, Sem.run_bind, run_underlying ht, run_underlying hu, Result.andThen_ok, hsr, Sem.run_pure, asInt, asIntOf, if_true, hw, hnb, if_false, hinfo, hbig, Int.toNat_natCast]
    unfold appendTail
    by_cases hle : sLen + m ≤ c2
    · simp only [hle, if_true, Bool.not_true, Bool.false_eq_true, if_false, Sem.run_bind, happ, Result.andThen_ok]
      cases b2 <;> simp
    · obtain ⟨k1, k2, k3, old', k4⟩ := hcond.resolve_left hle
      have hcap := nextcap_le (sLen + m) c2 k1
      have hbig : Builtin.nextslicecap (sLen + m) c2 * bytes ≤ 2 * (sLen + m) * bytes := Nat.mul_le_mul_right _ hcap
      have hbig2 : 2 * (sLen + m) * bytes = 2 * ((sLen + m) * bytes) := by rw [Nat.mul_assoc]
      have hn1 : (sLen + m) * 1 ≤ (sLen + m) * bytes := Nat.mul_le_mul_left _ k3
      have c1 : ¬ (Builtin.nextslicecap (sLen + m) c2 * bytes > 2 ^ 48) := by rw [show (2 : Nat) ^ 48 = 281474976710656 by rfl]; omega
      have c63 : ¬ (((sLen + m : Nat) : Int) > IntKind.i64.max) := by
        rw [show IntKind.i64.max = 9223372036854775807 by rfl]; omega
      have hq : (Question.appendCap (sLen + m) c2 e).forced = false := rfl
      have hd : ({ w with drawn := w.drawn + 1 } : World) = w.drew := rfl
      simp only [hle, if_false, hinfo, Result.andThen_ok, hib, Bool.false_eq_true, Sem.run_bind, run_choose, hq, hd, run_askRoom, Bool.not_true, hzr, c1, c63, false_and, Sem.run_pure, decide_false, k4, happ]

theorem good_copy {t u e e2 esz ty : Nat} {s s' x x' v : Value} (hr : R ι σ w) (h : pCopy esz [s, x] σ = some (v, σ')) (hs : VR ι s s') (hx : VR ι x x') (ht : P.underlying t = some (.slice e)) (he : szP P e = some esz) :
    Good P ι σ' (Builtin.copy_ #[t, u] ty #[s', x']) w v := by
  obtain ⟨hsz, h0⟩ := szP_some he
  have hsr := run_sizeOf hsz
  cases s <;> simp only [pCopy] at h <;> try (cases h; done)
  rename_i base dLen dCap
  cases x <;> simp only [] at h <;> try (cases h; done)
  rename_i xb n xc
  split at h
  · cases h
  rename_i new hnew
  obtain ⟨hl, b, c', new', rfl, hv, hload⟩ := src_run (P := P) hr hnew hx
  have hdef : ∀ b2 c2, (Builtin.copy_ #[t, u] ty #[.slice b2 dLen c2, .slice b n c']).run P w = ((do
      if let some a := b2 then storeCells a new'
      pure (goInt (Nat.min n dLen)) : Sem Value)).run P w := by
    intro b2 c2
    simp only [Builtin.copy_, List.getElem?_toArray, List.getElem?_cons_zero, List.getElem?_cons_succ, Sem.run_bind, run_underlying ht, Result.andThen_ok, Builtin.lenOf, Sem.run_pure, hsr]
    have hcells : (Builtin.firstCells esz (Nat.min n dLen) (.slice b n c')).run P w = .ok ⟨new'⟩ w := hload w rfl
    rw [hcells]
    cases b2 <;> simp
  split at h
  · simp only [Option.some.injEq, Prod.mk.injEq] at h
    obtain ⟨rfl, rfl⟩ := h
    cases hs
    exact Good.pure hr (by rw [hdef]; rfl) (.int _ _)
  · rename_i a
    split at h
    · simp only [Option.some.injEq, Prod.mk.injEq] at h
      obtain ⟨rfl, rfl⟩ := h
      cases hv
      cases hs <;> exact Good.pure hr (by rw [hdef]; rfl) (.int _ _)
    · split at h
      · rename_i σ1 hw
        simp only [Option.some.injEq, Prod.mk.injEq] at h
        obtain ⟨rfl, rfl⟩ := h
        cases hs with
        | void o a' c hsp =>
          exfalso
          unfold wrCells at hw
          simp only [] at hw
          split at hw
          · rename_i hg; exact absurd (hr.zeroGet hg) (by simp)
          · cases hw
        | @slice A o _ _ bk h0' hA =>
          obtain ⟨_, h1, h2, h3, h4⟩ := hr.write hw hv hA
          refine ⟨ι, .int .i64 (Nat.min n dLen), _, ?_, .int _ _, h3, h4⟩
          rw [hdef]
          have hrun := run_storeCells_cells (P := P) bk.blk (bk.base + o) new' 0 w (fun j hj => by simpa using (h1 j hj).1) (fun j hj => by simpa using (h1 j hj).2) h2
          rw [Nat.add_zero] at hrun
          simp [hrun, goInt]
      · cases h
theorem good_clearS {t e esz ty : Nat} {ts : Array Nat} {s s' v z : Value} (hr : R ι σ w) (h : pClearS z.cells.toList [s] σ = some (v, σ')) (hs : VR ι s s') (ht : P.underlying t = some (.slice e)) (hz : zeroT P e = some z) (hsz : szT P e = some esz) (h0 : esz ≠ 0) (hts : ts[0]? = some t) :
    Good P ι σ' (Builtin.clear_ ts ty #[s']) w v := by
  have hzl := zeroT_size hz hsz
  have hl : z.cells.toList.length = esz := by rw [cellsOf_eq]; exact hzl
  have hzr := run_zeroValue' hz
  have hdef : ∀ a n c, n ≠ 0 → (Builtin.clear_ ts ty #[.slice (some a) n c]).run P w = ((do storeCells a (lrep z.cells.toList n); pure (.tuple #[]) : Sem Value)).run P w := by
    intro a n c hn
    have := lrep_eq z.cells.toList n (by rw [hl]; omega)
    have hzc : (Builtin.zeroCells z.cells n).toList = lrep z.cells.toList n := by
      rw [← this]; simp [Builtin.zeroCells]
    simp only [Builtin.clear_, hts, List.getElem?_toArray, List.getElem?_cons_zero, Sem.run_bind, run_underlying ht, Result.andThen_ok]
    cases n with
    | zero => exact absurd rfl hn
    | succ n => simp only [Sem.run_bind, hzr, Result.andThen_ok, hzc]
  have none_ : ∀ a n c, (a = none ∨ n = 0) → (Builtin.clear_ ts ty #[.slice a n c]).run P w = .ok (.tuple #[]) w := by
    intro a n c hh
    simp only [Builtin.clear_, hts, List.getElem?_toArray, List.getElem?_cons_zero, Sem.run_bind, run_underlying ht, Result.andThen_ok]
    rcases hh with rfl | rfl
    · rfl
    · cases a <;> rfl
  cases s <;> simp only [pClearS] at h <;> try (cases h; done)
  rename_i a n c
  split at h
  · simp only [Option.some.injEq, Prod.mk.injEq] at h
    obtain ⟨rfl, rfl⟩ := h
    cases hs
    exact Good.pure hr (none_ _ _ _ (.inl rfl)) (.tuple .nil)
  · simp only [Option.some.injEq, Prod.mk.injEq] at h
    obtain ⟨rfl, rfl⟩ := h
    cases hs <;> exact Good.pure hr (none_ _ _ _ (.inr rfl)) (.tuple .nil)
  · rename_i a n hn
    split at h
    · rename_i σ1 hw
      simp only [Option.some.injEq, Prod.mk.injEq] at h
      obtain ⟨rfl, rfl⟩ := h
      cases hs with
      | void o a' c hsp => exact absurd rfl (hn)
      | @slice A o _ _ bk h0' hA =>
        obtain ⟨_, h1, h2, h3, h4⟩ := hr.write hw (lrepVR (zeroVRs hz) _) hA
        refine ⟨ι, .tuple #[], _, ?_, .tuple .nil, h3, h4⟩
        rw [hdef _ _ _ (by intro e; exact hn e)]
        have hrun := run_storeCells_cells (P := P) bk.blk (bk.base + o) _ 0 w (fun j hj => by simpa using (h1 j hj).1) (fun j hj => by simpa using (h1 j hj).2) h2
        rw [Nat.add_zero] at hrun
        simp [hrun]
    · cases h
theorem good_arrPtr {t e n : Nat} {x x' v : Value} (hr : R ι σ w) (h : pArrPtr n [x] σ = some (v, σ')) (hx : VR ι x x') (ht : P.underlying t = some (.array n e)) : GoodQ P ι (Instr.arrayAt t x') v ∧ σ' = σ := by
  cases hx <;> simp only [pArrPtr] at h <;> try (cases h; done)
  · rename_i A o m c bk h0 hA
    rw [nble, nbeq] at h
    split at h
    · rename_i hc
      simp at hc h
      obtain ⟨rfl, rfl⟩ := h
      exact ⟨⟨_, fun w => by simp [Instr.arrayAt, run_underlying ht, show ¬ m < n by omega], .ptr hA⟩, rfl⟩
    · cases h
  · rw [nble, nbeq] at h
    split at h
    · rename_i hc; simp at hc
    · cases h
theorem toBytes_eq : ∀ (l : List Value) (s r : ByteArray), toBytes l s = some r → ∃ ns : List Int, l = ns.map (Value.int .u8) ∧ r = ns.foldl (fun r n => r.push (UInt8.ofNat n.toNat)) s
  | [], s, r, h => by simp [toBytes] at h; exact ⟨[], rfl, h.symm⟩
  | v :: l, s, r, h => by
    unfold toBytes at h
    split at h
    · rename_i he; cases he
    · rename_i n r' he
      cases he
      obtain ⟨ns, h1, h2⟩ := toBytes_eq _ _ r h
      exact ⟨n :: ns, by rw [h1]; rfl, h2⟩
    · cases h
theorem good_toStr {s d e : Nat} {x x' v : Value} (hr : R ι σ w) (h : pToStr [x] σ = some (v, σ')) (hx : VR ι x x') (hs : P.underlying s = some (.slice e)) (he : P.underlying e = some (.int .u8)) (hd : P.underlying d = some .string) :
    (convert s d x').run P w = .ok v w ∧ VR ι v v ∧ σ' = σ := by
  cases x <;> simp only [pToStr] at h <;> try (cases h; done)
  rename_i a n c
  split at h
  · cases h
  rename_i l hl
  split at h
  · rename_i r hr2
    simp only [Option.some.injEq, Prod.mk.injEq] at h
    obtain ⟨rfl, rfl⟩ := h
    obtain ⟨ns, rfl, rfl⟩ := toBytes_eq _ _ _ hr2
    obtain ⟨hlen, b, c', new', rfl, hv, hload⟩ := src_run (P := P) hr hl hx
    have hnew : new' = ns.map (Value.int .u8) := by
      have : ∀ (ns : List Int) (l' : List Value), VRs ι (ns.map (Value.int .u8)) l' → l' = ns.map (Value.int .u8) := by
        intro ns
        induction ns with
        | nil => intro l' h; cases h; rfl
        | cons n ns ih => intro l' h; cases h with | cons h1 h2 => cases h1; rw [ih _ h2]; rfl
      exact this ns new' hv
    subst hnew
    refine ⟨?_, .string _, rfl⟩
    rw [run_convert_bytes_string w s d e b n c' hs he hd]
    cases b with
    | none =>
      cases hx
      have : n = 0 := by
        cases n with
        | zero => rfl
        | succ n => simp [srcCells] at hl
      subst this
      simp at hlen
      subst hlen
      rfl
    | some a' =>
      refine run_bytesToString w a' n c' ns ?_
      have := hload w rfl
      simpa [Builtin.firstCells] using this
  · cases h
theorem good_newMap {v : Value} {sem : Sem Value} (hr : R ι σ w) (h : pNewMap [] σ = some (v, σ')) (hsem : sem.run P w = .ok (.map (some w.heap.size)) (w.alloc (.map #[] 0))) : Good P ι σ' sem w v := by
  simp only [pNewMap, Option.some.injEq, Prod.mk.injEq] at h
  obtain ⟨rfl, rfl⟩ := h
  obtain ⟨h1, h2⟩ := hr.made (.map [] 0) (.map #[] 0) ⟨w.heap.size, 0, 0, 0, 0, false⟩ rfl rfl ⟨#[], heap_alloc_new _ _, rfl, .nil⟩
  exact ⟨_, _, _, hsem, .map (Inj.set_same _ _ _), h2, h1⟩
theorem good_newSlice {t e esz bytes : Nat} {l l' c c' v z : Value} (hr : R ι σ w) (h : pNewSlice e esz bytes z.cells.toList [l, c] σ = some (v, σ')) (hl : VR ι l l') (hc : VR ι c c') (ht : P.underlying t = some (.slice e)) (hsz : szT P e = some esz) (hb : bytesT P e = some bytes) (hz : zeroT P e = some z) :
    Good P ι σ' (Instr.makeSlice t l' c') w v := by
  obtain ⟨i, hi, hib⟩ := bytesT_some hb
  have hzl := zeroT_size hz hsz
  have hll : z.cells.toList.length = esz := by rw [cellsOf_eq]; exact hzl
  have hzr := run_zeroValue' hz
  simp only [pNewSlice] at h
  split at h
  case h_2 => cases h
  rename_i k1 l k2 c
  cases hl; cases hc
  split at h
  case h_2 => cases h
  rename_i hchk
  simp only [Bool.and_eq_true, Bool.not_eq_true', ltI_eq, nble, decide_eq_true_eq, decide_eq_false_iff_not] at hchk
  obtain ⟨⟨⟨q1, q2⟩, q3⟩, q4⟩ := hchk
  obtain ⟨L, rfl⟩ := Int.eq_ofNat_of_zero_le (show 0 ≤ l by omega)
  obtain ⟨C, rfl⟩ := Int.eq_ofNat_of_zero_le (show 0 ≤ c by omega)
  simp only [Int.toNat_natCast, Option.some.injEq, Prod.mk.injEq] at h q3
  obtain ⟨rfl, rfl⟩ := h
  have hroom : room = 140737488355328 := rfl
  have hC : C * 1 ≤ C * bytes := Nat.mul_le_mul_left _ q4
  have w1 : IntKind.i64.wrap (L : Int) = L := wrap_lt .i64 L (by show L < 9223372036854775808; omega)
  have w2 : IntKind.i64.wrap (C : Int) = C := wrap_lt .i64 C (by show C < 9223372036854775808; omega)
  refine good_row (v' := fun w => .slice (some ⟨w.heap.size, 0, none⟩) L C) .exact (by simp) hr (lrepVR (zeroVRs hz) C) rfl ?_ (fun ι' h => by
    have := VR.slice (o := 0) (n := L) (c := C) (by have := hr.pos; omega) h
    simpa [capOf] using this)
  have hinfo : ∀ w : World, (typeInfo e).run P w = .ok i w := fun w => by simp [typeInfo, hi]
  have d1 : (decide ((C : Int) < 0) || decide (((i.bytes : Int) * C) > 2 ^ 48)) = false := by
    rw [hib, show (2 : Int) ^ 48 = 281474976710656 by rfl, ← Int.natCast_mul, Nat.mul_comm]
    simp; omega
  have d2 : decide ((L : Int) < 0) = false := by simp
  have d3 : decide ((L : Int) > C) = false := by simp; omega
  have hcells : ((Array.range (C * esz)).map fun x => (if C * esz = 0 then #[] else z.cells)[x % (if C * esz = 0 then #[] else z.cells).size]!) = ⟨lrep z.cells.toList C⟩ := by
    by_cases h0 : C * esz = 0
    · rw [if_pos h0, h0]
      have : lrep z.cells.toList C = [] := List.eq_nil_of_length_eq_zero (by rw [lrep_len, hll, h0])
      rw [this]; simp
    · rw [if_neg h0]
      have := lrep_eq z.cells.toList C (by rw [hll]; rcases Nat.eq_zero_or_pos esz with h | h <;> first | exact h | (exact absurd (by rw [h, Nat.mul_zero]) h0))
      rw [← this, hll]
      apply Array.ext'
      simp
      intro a _
      rw [show z.cells.size = esz by simpa using hll]
  simp only [Instr.makeSlice, Sem.run_bind, run_underlying ht, Result.andThen_ok, asInt, asIntOf, Sem.run_pure, hinfo, w1, w2, d1, d2, d3, Bool.or_self, Bool.false_eq_true, if_false, run_askRoom, run_sizeOf hsz, Int.toNat_natCast]
  by_cases h0 : C * esz = 0
  · rw [if_pos h0] at hcells
    simp only [h0, if_true, Sem.run_pure, Sem.run_bind, Result.andThen_ok] at hcells ⊢
    rw [hcells]
    simp [newRow]
  · rw [if_neg h0] at hcells
    simp only [h0, if_false, Sem.run_pure, Sem.run_bind, hzr, Result.andThen_ok] at hcells ⊢
    rw [hcells]
    simp [newRow]
theorem good_cap {t e : Nat} {ts : Array Nat} {ty : Nat} {x x' v : Value} (hr : R ι σ w) (h : pCap [x] σ = some (v, σ')) (hx : VR ι x x') (ht : P.underlying t = some (.slice e)) (hts : ts[0]? = some t) :
    (Builtin.cap_ ts ty #[x']).run P w = .ok v w ∧ VR ι v v ∧ σ' = σ := by
  have hdef : ∀ a n c, (Builtin.cap_ ts ty #[.slice a n c]).run P w = .ok (.int .i64 c) w := by
    intro a n c
    simp only [Builtin.cap_, hts, List.getElem?_toArray, List.getElem?_cons_zero, Sem.run_bind, run_underlying ht, Result.andThen_ok]
    rfl
  cases hx <;> simp only [pCap] at h <;> try (cases h; done)
  · simp only [Option.some.injEq, Prod.mk.injEq] at h
    obtain ⟨rfl, rfl⟩ := h
    exact ⟨hdef _ _ _, .int _ _, rfl⟩
  · rename_i A o n c bk h0 hA
    split at h
    · cases h
    · rename_i hc
      simp only [Bool.or_eq_false_iff, nbeq] at hc
      simp only [Option.some.injEq, Prod.mk.injEq] at h
      obtain ⟨rfl, rfl⟩ := h
      have hcap : capOf bk o c = c := by
        have h2 := hc.2
        unfold atEnd at h2
        simp only [] at h2
        split at h2
        · rename_i cs e' s hg
          obtain ⟨bk', i1, blk, fz, te, hcc⟩ := hr.obj _ _ hg (by simp)
          rw [hA] at i1; cases i1
          rw [nbeq] at h2
          exact hcc.capOf_eq (by simp at h2; simp [h2])
        · rename_i cs e' s m hno hg
          obtain ⟨bk', i1, blk, fz, te, hcc⟩ := hr.obj _ _ hg (by simp)
          rw [hA] at i1; cases i1
          have hm : m ≠ .grown := fun e => by subst e; simp at hno
          exact hcc.capOf_eq (by simp [hm])
        · cases h2
      refine ⟨?_, .int _ _, rfl⟩
      rw [hdef, hcap]
theorem good_mapsClone {x x' v : Value} (hr : R ι σ w) (h : pMapsClone [x] σ = some (v, σ')) (hx : VR ι x x') : Good P ι σ' (Extern.MapsClone.clone #[x']) w v := by
  cases hx <;> simp only [pMapsClone] at h <;> try (cases h; done)
  rename_i t u u' hu
  cases hu <;> simp only [] at h <;> try (cases h; done)
  rename_i A bk hA
  split at h
  case h_2 => cases h
  rename_i es clk hg
  simp only [Option.some.injEq, Prod.mk.injEq] at h
  obtain ⟨rfl, rfl⟩ := h
  obtain ⟨bk', i1, es', g1, g2, g3⟩ := hr.obj _ _ hg (by simp)
  rw [hA] at i1; cases i1
  obtain ⟨h1, h2⟩ := hr.made (.map es clk) (.map es' clk) ⟨w.heap.size, 0, 0, 0, 0, false⟩ rfl rfl ⟨es', heap_alloc_new _ _, rfl, g3.mono (Inj.set_sub hr.fresh)⟩
  refine ⟨_, .iface t (.map (some w.heap.size)), _, ?_, .iface t (.map (Inj.set_same _ _ _)), h2, h1⟩
  show ((do
    let .map entries clock ← getObj bk.blk | stuck "maps.clone: a map expected"
    pure (.iface t (.map (some (← newObj (.map entries clock))))) : Sem Value)).run P w = _
  simp only [Sem.run_bind, run_getObj_map g1, Result.andThen_ok, run_newObj, Sem.run_pure]
  rfl
end
end AM
end Go.Proofs.YtdbbkaeoinalpaaGreat
