/- Appending and copying. -/
import Derived.Test.YtdbbkaeoinalpaaGreatSnd6
set_option linter.unusedVariables false
namespace Go.Proofs.YtdbbkaeoinalpaaGreat
namespace AM
section
variable {P : Program} {ι : Inj} {σ σ' : H} {w : World}

theorem szP_some {t n : Nat} (h : szP P t = some n) : szT P t = some n ∧ n ≠ 0 := by
  unfold szP at h
  cases hs : szT P t with
  | none => rw [hs] at h; cases h
  | some m =>
    rw [hs] at h
    simp [Option.filter] at h
    exact ⟨by rw [h.2], by rw [← h.2]; exact h.1⟩
theorem bytesT_some {t n : Nat} (h : bytesT P t = some n) : ∃ i, P.info? t = some i ∧ i.bytes = n := by
  unfold bytesT at h
  cases hi : P.info? t with
  | none => rw [hi] at h; cases h
  | some i => rw [hi] at h; exact ⟨i, rfl, by simpa using h⟩
theorem R.zeroGet (hr : R ι σ w) {o : AM.Obj} (h : σ.get 0 = some o) : o = .dead := Classical.byContradiction fun hd => by
  obtain ⟨bk, i1, _⟩ := hr.obj 0 o h hd
  rw [hr.zero] at i1; cases i1
/-- The cells of a slice that are read. -/
theorem src_run (hr : R ι σ w) {esz n m c : Nat} {x : Option Addr} {x' : Value} {new : List Value} (h : srcCells σ esz x n = some new) (hx : VR ι (.slice x m c) x') : new.length = n * esz ∧
    ∃ b c' new', x' = .slice b m c' ∧ VRs ι new new' ∧ ∀ w2 : World, w2.heap = w.heap → (Builtin.firstCells esz n x').run P w2 = .ok ⟨new'⟩ w2 := by
  unfold srcCells at h
  split at h
  · simp at h; subst h
    refine ⟨by simp, ?_⟩
    cases hx with
    | nils => exact ⟨_, _, [], rfl, .nil, fun _ _ => by simp [Builtin.firstCells]⟩
    | slice => exact ⟨_, _, [], rfl, .nil, fun _ _ => by simp [Builtin.firstCells, loadCells, loadCellsFrom]⟩
    | void => exact ⟨_, _, [], rfl, .nil, fun _ _ => by simp [Builtin.firstCells, loadCells, loadCellsFrom]⟩
  · cases x with
    | none => cases h
    | some a =>
      simp only [] at h
      cases hx with
      | void o a c hsp =>
        unfold rdCells at h
        simp only [] at h
        split at h
        · rename_i hg; exact absurd (hr.zeroGet hg) (by simp)
        · cases h
      | slice h0 hA =>
        obtain ⟨_, hl, c', hc, hcell⟩ := hr.read h hA
        refine ⟨hl, _, _, c', rfl, hc, fun w2 hw2 => ?_⟩
        have := run_loadCells_list (P := P) w2 _ c' (fun j v hv => by rw [Addr.add_mid]; have := hcell j v hv; simpa [World.cell?, hw2] using this)
        rw [hc.length, hl] at this
        simpa [Builtin.firstCells] using this
theorem nextcap_le (n c : Nat) (h : c < n) : Builtin.nextslicecap n c ≤ 2 * n := by
  have hg : ∀ (r c : Nat), c ≤ 2 * n → 256 ≤ c → Builtin.growBy n r c ≤ 2 * n := by
    intro r
    induction r with
    | zero => intro c h1 _; simpa [Builtin.growBy] using h1
    | succ r ih =>
      intro c h1 h2
      simp only [Builtin.growBy]
      split
      · exact h1
      · exact ih _ (by omega) (by omega)
  unfold Builtin.nextslicecap
  split
  · omega
  · split
    · omega
    · exact hg 4 c (by omega) (by omega)
theorem zeroCells_len (z : Array Value) (n : Nat) : (Builtin.zeroCells z n).size = n * z.size := by simp [Builtin.zeroCells]

/-- What 'append' does, once it is known what is appended. -/
def appendTail (P : Program) (e esz : Nat) (z : Value) (s' : Value) (base : Option Addr) (sLen sCap n : Nat) (new' : List Value) : Sem Value :=
  if sLen + n ≤ sCap then do
    if let some a := base then storeCells (a.add (sLen * esz)) new'
    pure (.slice base (sLen + n) sCap)
  else do
    let newCap ← choose (.appendCap (sLen + n) sCap e)
    let old ← Builtin.firstCells esz sLen s'
    pure (.slice (some (← newRow e (old ++ ⟨new'⟩ ++ Builtin.zeroCells z.cells (newCap - (sLen + n))))) (sLen + n) newCap)

theorem good_tail {e esz bytes n sLen sCap : Nat} {base : Option Addr} {z v s' : Value} {new new' : List Value} (hr : R ι σ w) (h : appendV σ e esz bytes base sLen sCap n new = some (v, σ')) (hs : VR ι (.slice base sLen sCap) s')
    (hv : VRs ι new new') (hl : new.length = n * esz) (h0 : esz ≠ 0) (hz : zeroT P e = some z) (hsz : szT P e = some esz) (sem : Sem Value)
    (hsem : ∀ b c, s' = .slice b sLen c → (sLen + n ≤ c ∨ (c < sLen + n ∧ (sLen + n) * bytes ≤ room ∧ 1 ≤ bytes ∧ ∃ old', (Builtin.firstCells esz sLen s').run P w.drew = .ok old' w.drew)) → sem.run P w = (appendTail P e esz z s' b sLen c n new').run P w) : Good P ι σ' sem w v := by
  have hzl := zeroT_size hz hsz
  have hzc : z.cells.size = esz := by rw [← Array.length_toList, cellsOf_eq]; exact hzl
  unfold appendV at h
  split at h
  · -- nothing
    rw [nble] at h
    split at h
    · rename_i hle
      simp at hle
      simp only [Option.some.injEq, Prod.mk.injEq] at h
      obtain ⟨rfl, rfl⟩ := h
      have hn : new = [] := List.eq_nil_of_length_eq_zero (by omega)
      subst hn
      cases hv
      have fin : ∀ b c, s' = .slice b sLen c → sCap ≤ c → Good P ι σ sem w (.slice base sLen sCap) := by
        intro b c hb hc
        refine Good.pure hr (v' := s') ?_ hs
        rw [hsem b c hb (.inl (by omega)), hb]
        unfold appendTail
        rw [if_pos (by omega)]
        cases b <;> simp [storeCells]
      cases hs with
      | nils => exact fin _ _ rfl (Nat.le_refl _)
      | slice h0 hA => exact fin _ _ rfl (by unfold capOf; omega)
      | void o a c hsp => exact fin _ _ rfl (Nat.zero_le _)
    · cases h
  rename_i n
  have hl' : new.length = (n + 1) * esz := hl
  clear hl
  have hl := hl'
  clear hl'
  rw [nble] at h
  split at h
  · -- in place
    rename_i hle
    simp at hle
    split at h
    · cases h
    rename_i a
    split at h
    · cases h
    rename_i σ1 hw
    simp only [Option.some.injEq, Prod.mk.injEq] at h
    obtain ⟨rfl, rfl⟩ := h
    cases hs with
    | void o a c hsp => omega
    | @slice A o _ _ bk h0' hA =>
      obtain ⟨_, h1, h2, h3, h4⟩ := hr.write hw hv hA
      refine ⟨ι, .slice (some ⟨bk.blk, bk.base + o, none⟩) (sLen + (n + 1)) (capOf bk o sCap), _, ?_, .slice h0' hA, h3, h4⟩
      rw [hsem _ _ rfl (.inl (by unfold capOf; omega))]
      unfold appendTail
      rw [if_pos (by unfold capOf; omega)]
      simp only at h1
      have hrun := run_storeCells_cells (P := P) bk.blk (bk.base + (o + sLen * esz)) new' 0 w (fun j hj => by simpa using (h1 j hj).1) (fun j hj => by simpa using (h1 j hj).2) h2
      rw [Nat.add_zero] at hrun
      simp only [Addr.add_mid, Sem.run_bind, Nat.add_assoc, hrun, Result.andThen_ok, Sem.run_pure]
  · -- it grows
    rename_i hgt
    simp at hgt
    unfold grow at h
    split at h
    · cases h
    rename_i hchk
    simp only [Bool.and_eq_true, nble, decide_eq_true_eq] at hchk
    obtain ⟨⟨⟨k1, k2⟩, k3⟩, _⟩ := hchk
    have hforced : (Question.appendCap (sLen + (n + 1)) 0 e).forced = false := rfl
    -- a new block
    have fresh : ∀ (σ1 : H) (b : Option Addr) (c : Nat) (old old' : List Value), R ι σ1 w → σ1.next = σ.next → s' = .slice b sLen c → c < sLen + (n + 1) → VRs ι old old' → old.length = sLen * esz → (Builtin.firstCells esz sLen s').run P w.drew = .ok ⟨old'⟩ w.drew →
        Good P ι (σ1.push (.cells (old ++ new) e esz .grown)) sem w (.slice (some ⟨σ1.next, 0, none⟩) (sLen + (n + 1)) (sLen + (n + 1))) := by
      intro σ1 b c old old' hr1 hn1 hb hc ho hol hold
      have hq : (Question.appendCap (sLen + (n + 1)) c e).forced = false := rfl
      obtain ⟨N, hN⟩ : ∃ N, N = (Question.appendCap (sLen + (n + 1)) c e).cut (w.tape w.drawn (.appendCap (sLen + (n + 1)) c e)) := ⟨_, rfl⟩
      have hNge : sLen + (n + 1) ≤ N := by rw [hN]; simp [Question.cut]
      have hr2 : R ι σ1 w.drew := hr1.same rfl
      obtain ⟨ι', x1, x2, x3⟩ := hr2.row (Builtin.zeroCells z.cells (N - (sLen + (n + 1)))).toList e esz .grown (by simp) (N - (sLen + (n + 1))) (by simp) (by rw [Array.length_toList, zeroCells_len, hzc]; exact Nat.le_refl _) (ho.append hv)
      have hlen : (old ++ new).length = (sLen + (n + 1)) * esz := by rw [List.length_append, hol, hl, ← Nat.add_mul]
      refine ⟨ι', .slice (some ⟨w.heap.size, 0, none⟩) (sLen + (n + 1)) N, _, ?_, ?_, x2, (Ext.same (w := w) (w' := w.drew) rfl rfl rfl rfl).trans x1⟩
      · rw [hsem b c hb (.inr ⟨hc, k1, k2, _, hold⟩)]
        unfold appendTail
        rw [if_neg (by omega)]
        have hd : ({ w with drawn := w.drawn + 1 } : World) = w.drew := rfl
        simp only [Sem.run_bind, run_choose, hq, Bool.false_eq_true, if_false, Result.andThen_ok, ← hN, hd, hold, newRow, run_newObj, Sem.run_pure]
        congr 1
        have : (⟨old'⟩ ++ ⟨new'⟩ ++ Builtin.zeroCells z.cells (N - (sLen + (n + 1))) : Array Value) = ⟨old' ++ new' ++ (Builtin.zeroCells z.cells (N - (sLen + (n + 1)))).toList⟩ := by
          apply Array.ext'; simp
        rw [this]
        rfl
      · have hpos : σ1.next ≠ 0 := by have := hr1.pos; omega
        have := VR.slice (o := 0) (n := sLen + (n + 1)) (c := sLen + (n + 1)) hpos x3
        have hcap : capOf ⟨w.heap.size, 0, (old ++ new).length, esz, N - (sLen + (n + 1)), false⟩ 0 (sLen + (n + 1)) = N := by
          unfold capOf
          simp only [hlen, Nat.zero_add, if_true]
          omega
        rw [show w.drew.heap.size = w.heap.size from rfl, hcap] at this
        exact this
    split at h
    · -- nil
      split at h
      · simp only [Option.some.injEq, Prod.mk.injEq] at h
        obtain ⟨rfl, rfl⟩ := h
        cases hs
        have := fresh σ none sCap [] [] hr rfl rfl (by omega) .nil (by simp) (by simp [Builtin.firstCells])
        simpa using this
      · cases h
    rename_i a
    rw [nbeq] at h
    split at h
    · cases h
    rename_i hrow
    simp at hrow
    split at h
    · cases h
    rename_i old hold
    cases hs with
    | void o a' c hsp =>
      exfalso
      unfold rowSize at hrow
      simp only [] at hrow
      split at hrow
      · rename_i hg; exact absurd (hr.zeroGet hg) (by simp)
      · exact h0 hrow.symm
    | @slice A o _ _ bk h0' hA =>
      obtain ⟨cs, e', md, blk, fz, te, hg, hc⟩ := hr.rowSize hrow h0 hA
      obtain ⟨_, hol, old', ho, hcell⟩ := hr.read hold hA
      simp only at hcell
      have hload : ∀ w2 : World, w2.heap = w.heap → (Builtin.firstCells esz sLen (.slice (some ⟨bk.blk, bk.base + o, none⟩) sLen (capOf bk o sCap))).run P w2 = .ok ⟨old'⟩ w2 := by
        intro w2 hw2
        have := run_loadCells_list (P := P) w2 ⟨bk.blk, bk.base + o, none⟩ old' (fun j v hv => by rw [Addr.add_mid]; have := hcell j v hv; simpa [World.cell?, hw2] using this)
        rw [ho.length, hol] at this
        simpa [Builtin.firstCells] using this
      have hae := atEnd_cells (σ := σ) (a := (⟨A, o, none⟩ : Addr)) (c := cs) (e := e') (s := esz) (m := md) hg sCap
      rw [hae] at h
      split at h
      · -- the end of a row of which more may be there
        rename_i he
        simp at he
        have hce := hc.capOf_end (cap := sCap) he.2
        split at h
        · cases h
        rename_i hlive
        simp only [Option.some.injEq, Prod.mk.injEq] at h
        obtain ⟨rfl, rfl⟩ := h
        have hro : bk.ro = false := by rw [hc.ro, he.1]; rfl
        -- the old object is dead
        have hdead : R ι (σ.put A .dead) w := by
          refine ⟨hr.pos, hr.zero, hr.dom, fun B oB hB => ?_, fun B oB hB dB => ?_, fun B C oB oC bB bC hB hC dB dC iB iC hro2 hbe => ?_, hr.blt⟩
          · rw [H.get_put] at hB
            split at hB
            · rename_i e; subst e; exact hr.lt _ _ hg
            · exact hr.lt _ _ hB
          · rw [H.get_put] at hB
            split at hB
            · cases hB; exact absurd rfl dB
            · exact hr.obj B oB hB dB
          · rw [H.get_put] at hB hC
            split at hB
            · cases hB; exact absurd rfl dB
            · split at hC
              · cases hC; exact absurd rfl dC
              · exact hr.inj B C oB oC bB bC hB hC dB dC iB iC hro2 hbe
        by_cases hfit : sLen + (n + 1) ≤ capOf bk o sCap
        · -- there is more: it stays where it is
          have hlen : (old ++ new).length = (sLen + (n + 1)) * esz := by rw [List.length_append, hol, hl, ← Nat.add_mul]
          have hsz := hc.size
          have he2 : o + sCap * esz = cs.length := he.2
          have hold2 := hold
          unfold rdCells at hold2
          simp only [hg] at hold2
          obtain ⟨q1, q2⟩ := lcut_some hold2
          have hnl := hv.length
          have hmul : (sLen + (n + 1)) * esz ≤ (sCap + bk.extra) * esz := Nat.mul_le_mul_right _ (by rw [hce] at hfit; exact hfit)
          have hm1 : (sLen + (n + 1)) * esz = sLen * esz + (n + 1) * esz := Nat.add_mul _ _ _
          have hm2 : (sCap + bk.extra) * esz = sCap * esz + bk.extra * esz := Nat.add_mul _ _ _
          obtain ⟨blk', a1, a2, a3, a4⟩ := heap_setCells bk.blk new' (bk.base + o + sLen * esz) w blk te fz hc.heap (by omega)
          obtain ⟨o1, o2, o3, o4⟩ := setCells_os bk.blk new' (bk.base + o + sLen * esz) w
          have hfz := hc.fz (by rw [he.1]; simp)
          have hother : ∀ b, b < w.heap.size → b ≠ bk.blk → (w.setCells bk.blk (bk.base + o + sLen * esz) new').heap[b]? = w.heap[b]? := fun b hb hne => World.heap_setCells_other w _ _ _ hb hne
          -- the world with the new cells, the object dead
          have hdead2 : R ι (σ.put A .dead) (w.setCells bk.blk (bk.base + o + sLen * esz) new') := by
            refine ⟨hdead.pos, hdead.zero, hdead.dom, hdead.lt, fun B oB hB dB => ?_, hdead.inj, fun B b hB => by rw [o4]; exact hr.blt B b hB⟩
            obtain ⟨b, i1, i2⟩ := hdead.obj B oB hB dB
            refine ⟨b, i1, i2.of_heap (hother _ (i2.lt dB) fun e => ?_)⟩
            have hBA : B ≠ A := fun e2 => by subst e2; rw [H.get_put, if_pos rfl] at hB; cases hB; exact dB rfl
            rw [H.get_put, if_neg (Ne.symm hBA)] at hB
            exact hBA (hr.inj A B _ oB bk b hg hB (by simp) dB hA i1 hro e.symm).symm
          let bk2 : Bk := ⟨bk.blk, bk.base + o, (old ++ new).length, esz, sCap + bk.extra - (sLen + (n + 1)), false⟩
          have hsub : Sub ι (ι.set σ.next bk2) := Inj.set_sub hr.fresh
          have hbind := hdead2.bind (.cells (old ++ new) e esz .grown) bk2 rfl (by rw [o4]; exact hr.blt A bk hA) ⟨blk', fz, te, a1, rfl, rfl, by simp [bk2], fun _ => hfz, by simp, by
              show bk.base + o + (old ++ new).length + (sCap + bk.extra - (sLen + (n + 1))) * esz ≤ blk'.size
              have : (sCap + bk.extra - (sLen + (n + 1))) * esz = (sCap + bk.extra) * esz - (sLen + (n + 1)) * esz := Nat.sub_mul _ _ _
              omega, fun i v hi => by
              show ∃ v', blk'[bk.base + o + i]? = some v' ∧ _
              by_cases h1 : i < old.length
              · rw [List.getElem?_append_left h1] at hi
                have hi2 : cs[o + i]? = some v := by
                  rw [q2, List.getElem?_take_of_lt (by omega), List.getElem?_drop] at hi
                  exact hi
                obtain ⟨v', c1, c2⟩ := hc.cells _ _ hi2
                refine ⟨v', ?_, c2.mono hsub⟩
                rw [a3 _ (by omega), ← c1]
                congr 1; omega
              · rw [List.getElem?_append_right (by omega)] at hi
                obtain ⟨v', c1, c2⟩ := hv.get _ _ hi
                refine ⟨v', ?_, c2.mono hsub⟩
                have hlt : i - old.length < new'.length := (List.getElem?_eq_some_iff.1 c1).1
                rw [← c1, ← a4 _ hlt]
                congr 1; omega, fun h => by cases h⟩ (by
            intro B oB bB hB dB iB
            have hBA : B ≠ A := fun e2 => by subst e2; rw [H.get_put, if_pos rfl] at hB; cases hB; exact dB rfl
            rw [H.get_put, if_neg (Ne.symm hBA)] at hB
            intro e2
            exact hBA (hr.inj A B _ oB bk bB hg hB (by simp) dB hA iB hro e2.symm).symm)
          have hnext : (σ.put A .dead).next = σ.next := rfl
          rw [hnext] at hbind
          have hcell? : ∀ j, j < new'.length → (w.cell? ⟨bk.blk, bk.base + o + sLen * esz + j, none⟩).isSome = true ∧ w.frozen? ⟨bk.blk, bk.base + o + sLen * esz + j, none⟩ = false := fun j hj => by
            constructor
            · simp only [World.cell?, hc.heap, Option.isSome_none, Bool.false_eq_true, if_false]
              rw [Array.getElem?_eq_getElem (by omega)]; rfl
            · simp [World.frozen?, hc.heap, hfz]
          have hone : ∀ v ∈ new', v.oneCell' = true := fun v hv2 => by
            rw [cellOk_one]
            have := hv.allOk
            rw [k3] at this
            exact List.all_eq_true.1 this v hv2
          have hrun := run_storeCells_cells (P := P) bk.blk (bk.base + o + sLen * esz) new' 0 w (fun j hj => by simpa using (hcell? j hj).1) (fun j hj => by simpa using (hcell? j hj).2) hone
          rw [Nat.add_zero] at hrun
          refine ⟨ι.set σ.next bk2, .slice (some ⟨bk.blk, bk.base + o, none⟩) (sLen + (n + 1)) (capOf bk o sCap), _, ?_, ?_, hbind, ?_⟩
          · rw [hsem _ _ rfl (.inl hfit)]
            unfold appendTail
            rw [if_pos hfit]
            simp only [Addr.add_mid, Sem.run_bind, hrun, Result.andThen_ok, Sem.run_pure]
          · have hpos : σ.next ≠ 0 := by have := hr.pos; omega
            have := VR.slice (ι := ι.set σ.next bk2) (o := 0) (n := sLen + (n + 1)) (c := sLen + (n + 1)) hpos (Inj.set_same _ _ _)
            have hcap : capOf bk2 0 (sLen + (n + 1)) = capOf bk o sCap := by
              rw [hce]
              unfold capOf
              show sLen + (n + 1) + (if 0 + (sLen + (n + 1)) * esz = (old ++ new).length then sCap + bk.extra - (sLen + (n + 1)) else 0) = _
              rw [hlen, Nat.zero_add, if_pos rfl]
              rw [hce] at hfit
              omega
            rw [hcap] at this
            exact this
          · refine ⟨hsub, o1, o2, o3, by omega, fun b hb hn2 => hother b hb (fun e2 => hn2 A bk hA hro e2.symm), fun B b h1 h2 => ?_⟩
            unfold Inj.set at h2
            split at h2
            · cases h2; exact ⟨rfl, .inr ⟨A, bk, hA, hro, rfl⟩⟩
            · rw [h1] at h2; cases h2
        · exact fresh (σ.put A .dead) _ _ old old' hdead rfl rfl (by omega) ho hol (hload _ rfl)
      · rename_i he
        have hce := hc.capOf_eq (cap := sCap) (by simpa using he)
        simp only [Option.some.injEq, Prod.mk.injEq] at h
        obtain ⟨rfl, rfl⟩ := h
        exact fresh σ _ _ old old' hr rfl rfl (by omega) ho hol (hload _ rfl)
end
end AM
end Go.Proofs.YtdbbkaeoinalpaaGreat
