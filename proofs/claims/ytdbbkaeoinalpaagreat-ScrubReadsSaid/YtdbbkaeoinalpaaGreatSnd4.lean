/- Operations on memory. -/
import Derived.Test.YtdbbkaeoinalpaaGreatSnd3
set_option linter.unusedVariables false
namespace Go.Proofs.YtdbbkaeoinalpaaGreat
namespace AM
section
variable {P : Program} {ι : Inj} {σ σ' : H} {w : World}

theorem alloc_def (w : World) (o : Go.Obj) : ({ w with heap := w.heap.push o } : World) = w.alloc o := rfl
theorem good_row {c c' : List Value} {e s : Nat} {v' : World → Value} {v : Value} {σ' : H} {sem : Sem Value} (m : AM.Mode) (hm : m ≠ .ro) (hr : R ι σ w) (hc : VRs ι c c') (hσ : σ' = σ.push (.cells c e s m))
    (hrun : sem.run P w = .ok (v' w) (w.alloc (.cells ⟨c'⟩ e))) (hv : ∀ ι', ι' σ.next = some ⟨w.heap.size, 0, c.length, s, 0, false⟩ → VR ι' v (v' w)) : Good P ι σ' sem w v := by
  obtain ⟨ι', h1, h2, h3⟩ := hr.row [] e s m hm 0 (fun _ => rfl) (by simp) hc
  rw [List.append_nil] at h1 h2
  subst hσ
  exact ⟨ι', v' w, _, hrun, hv ι' h3, h2, h1⟩
theorem good_new {e esz : Nat} {z v : Value} (hr : R ι σ w) (h : pNew e esz z.cells.toList [] σ = some (v, σ')) (hz : zeroT P e = some z) : Good P ι σ' (Instr.alloc e true (.tuple #[])) w v := by
  simp only [pNew, Option.some.injEq, Prod.mk.injEq] at h
  obtain ⟨rfl, rfl⟩ := h
  refine good_row (v' := fun w => .pointer (some ⟨w.heap.size, 0, none⟩)) .exact (by simp) hr (zeroVRs hz) rfl ?_ (fun ι' h => by simpa using VR.ptr (o := 0) h)
  simp [Instr.alloc, run_zeroValue' hz, newVar, newRow]
theorem good_box {e esz : Nat} {x x' v : Value} (hr : R ι σ w) (h : pBox e esz [x] σ = some (v, σ')) (hx : VR ι x x') : Good P ι σ' (Instr.box e x') w v := by
  simp only [pBox] at h
  split at h
  · simp only [Option.some.injEq, Prod.mk.injEq] at h
    obtain ⟨rfl, rfl⟩ := h
    refine good_row (v' := fun w => .pointer (some ⟨w.heap.size, 0, none⟩)) .exact (by simp) hr hx.cells rfl ?_ (fun ι' h => by simpa using VR.ptr (o := 0) h)
    simp [Instr.box, newVar, newRow, ← cellsOf_eq]
  · cases h

/-! ### Parts laid into cells -/
theorem foldl_set : ∀ (cs : List Value) (k off : Nat) (l : List Value), off + k + cs.length ≤ l.length →
    (cs.zipIdx k).foldl (fun (acc : Array Value) (p : Value × Nat) => acc.setIfInBounds (off + p.2) p.1) ⟨l⟩ = ⟨l.take (off + k) ++ (cs ++ l.drop (off + k + cs.length))⟩
  | [], k, off, l, h => by simp
  | c :: cs, k, off, l, h => by
    simp only [List.length_cons] at h
    simp only [List.zipIdx_cons, List.foldl_cons, List.setIfInBounds_toArray]
    rw [foldl_set cs (k + 1) off (l.set (off + k) c) (by simp; omega)]
    congr 1
    have h1 : (l.set (off + k) c).take (off + (k + 1)) = l.take (off + k) ++ [c] := by
      rw [show off + (k + 1) = (off + k) + 1 by omega, List.take_succ_eq_append_getElem (by simp; omega)]
      simp [List.take_set_of_le]
    have h2 : (l.set (off + k) c).drop (off + (k + 1) + cs.length) = l.drop (off + k + (cs.length + 1)) := by
      rw [List.drop_set_of_lt (by omega)]
      congr 1; omega
    rw [h1, h2]
    simp
theorem fill_ok {place : Nat → Option (Nat × Nat)} : ∀ (pl : List (Nat × Nat)) (idx : List Nat) (vs vs' cells cells' c : List Value), idx.map place = pl.map some → fillL cells pl vs = some c → VRs ι cells cells' → VRs ι vs vs' →
    ∃ c', Instr.fill place ⟨cells'⟩ (idx.zip vs') = some ⟨c'⟩ ∧ VRs ι c c'
  | [], idx, vs, vs', cells, cells', c, hp, h, hc, hv => by
    cases vs with
    | nil =>
      simp only [fillL, Option.some.injEq] at h
      subst h
      cases hv
      exact ⟨cells', by simp [Instr.fill], hc⟩
    | cons v vs => simp [fillL] at h
  | (off, size) :: pl, idx, vs, vs', cells, cells', c, hp, h, hc, hv => by
    cases hv with
    | nil => simp [fillL] at h
    | @cons v v' vs vs' hv hvs =>
      cases idx with
      | nil => simp at hp
      | cons i idx =>
        simp only [List.map_cons, List.cons.injEq] at hp
        simp only [fillL, nbeq] at h
        split at h
        · cases h
        rename_i hs
        simp at hs
        split at h
        · rename_i c1 hc1
          obtain ⟨h1, h2⟩ := lput_some hc1
          have hlen := hv.cells.length
          have hcl := hc.length
          have hfold := foldl_set (cellsOf v') 0 off cells' (by omega)
          obtain ⟨c', h3, h4⟩ := fill_ok pl idx vs vs' c1 (cells'.take off ++ (cellsOf v' ++ cells'.drop (off + (cellsOf v').length))) c hp.2 h (by
            rw [h2, hlen]
            exact (hc.take _).append (hv.cells.append (hc.drop _))) hvs
          refine ⟨c', ?_, h4⟩
          have e1 : v'.cells = ⟨cellsOf v'⟩ := by rw [← cellsOf_eq]
          simp only [List.zip_cons_cons, Instr.fill, hp.1]
          have hsz : v'.cells.size = size := by rw [e1]; simp; omega
          have hle : ¬ off + v'.cells.size > cells'.length := by rw [e1]; simp; omega
          simp only [hsz, ne_eq, not_true_eq_false, decide_false, Bool.false_or, List.size_toArray, decide_eq_true_eq]
          rw [if_neg (by rw [hsz] at hle; simpa using hle)]
          rw [← h3]
          congr 1
          rw [e1]
          simp only [Nat.add_zero] at hfold
          simpa using hfold
        · cases h
theorem run_places {fs : Array Field} {ps : List (Nat × Nat)} {parts : List Nat} (h : (parts.mapM fun i => (fs[i]?).bind fun f => (szT P f.type).map fun s => (f.offset, s)) = some ps)
    (hall : ∀ i (hi : i < fs.size), (szT P fs[i].type).isSome = true) : ∃ places : Array (Nat × Nat), (∀ w : World, (fs.mapM fun (f : Field) => (do pure (f.offset, ← sizeOf f.type) : Sem (Nat × Nat))).run P w = .ok places w) ∧ parts.map (places[·]?) = ps.map some := by
  have key : ∀ (w : World) (l : List Field), (∀ f ∈ l, (szT P f.type).isSome = true) → (l.mapM fun f => (do pure (f.offset, ← sizeOf f.type) : Sem (Nat × Nat))).run P w = .ok (l.map fun f => (f.offset, (szT P f.type).getD 0)) w := by
    intro w l
    induction l with
    | nil => intro _; rfl
    | cons f l ih =>
      intro hl
      obtain ⟨n, hn⟩ := Option.isSome_iff_exists.1 (hl f (by simp))
      simp only [List.mapM_cons, Sem.run_bind, run_sizeOf hn, Result.andThen_ok, Sem.run_pure, ih (fun g hg => hl g (by simp [hg]))]
      simp [hn]
  refine ⟨⟨fs.toList.map fun f => (f.offset, (szT P f.type).getD 0)⟩, ?_, ?_⟩
  · intro w
    have hk := key w fs.toList (fun f hf => by
      obtain ⟨i, hi, rfl⟩ := List.getElem_of_mem hf
      exact hall i (by simpa using hi))
    rw [Array.mapM_eq_mapM_toList, Sem.run_map, hk]
    rfl
  · clear hall key
    induction parts generalizing ps with
    | nil => simp at h; subst h; rfl
    | cons i parts ih =>
      rw [List.mapM_cons] at h
      simp only [Option.bind_eq_bind] at h
      obtain ⟨p, h1, h2⟩ := Option.bind_eq_some_iff.1 h
      obtain ⟨ps', h3, h4⟩ := Option.bind_eq_some_iff.1 h2
      simp at h4
      subst h4
      obtain ⟨f, hf, h5⟩ := Option.bind_eq_some_iff.1 h1
      obtain ⟨s, hs, rfl⟩ := Option.map_eq_some_iff.1 h5
      simp only [List.map_cons]
      rw [ih h3]
      congr 1
      simp only [List.getElem?_toArray, List.getElem?_map, Array.getElem?_toList, hf, Option.map_some, hs, Option.getD_some]
theorem good_buildStruct {t : Nat} {z v : Value} {fs : Array Field} {pl : List (Nat × Nat)} {idx : List Nat} {vs vs' : List Value} (hr : R ι σ w) (h : pBuild z.cells.toList pl vs σ = some (v, σ')) (hv : VRs ι vs vs') (hz : zeroT P t = some z)
    (ht : P.underlying t = some (.struct fs)) (hp : placesOf P t idx = some pl) (hall : ∀ i (hi : i < fs.size), (szT P fs[i].type).isSome = true) : GoodQ P ι (Instr.build t (idx.zip vs').toArray) v ∧ σ' = σ := by
  simp only [pBuild] at h
  split at h
  case h_2 => cases h
  rename_i c hc
  simp only [Option.some.injEq, Prod.mk.injEq] at h
  obtain ⟨rfl, rfl⟩ := h
  simp only [placesOf, ht] at hp
  obtain ⟨places, h1, h2⟩ := run_places hp hall
  obtain ⟨c', h3, h4⟩ := fill_ok (place := (places[·]?)) pl idx vs vs' _ _ c h2 hc (zeroVRs hz) hv
  refine ⟨⟨.agg ⟨c'⟩, fun w => ?_, (.agg h4)⟩, rfl⟩
  have h3' : Instr.fill (fun x => places[x]?) z.cells (idx.zip vs') = some ⟨c'⟩ := h3
  simp only [Instr.build, Sem.run_bind, run_zeroValue' hz, Result.andThen_ok, run_underlying ht, h1, h3']
  rfl
theorem good_buildArray {t n e s : Nat} {z v : Value} {pl : List (Nat × Nat)} {idx : List Nat} {vs vs' : List Value} (hr : R ι σ w) (h : pBuild z.cells.toList pl vs σ = some (v, σ')) (hv : VRs ι vs vs') (hz : zeroT P t = some z)
    (ht : P.underlying t = some (.array n e)) (hs : szT P e = some s) (hp : placesOf P t idx = some pl) : GoodQ P ι (Instr.build t (idx.zip vs').toArray) v ∧ σ' = σ := by
  simp only [pBuild] at h
  split at h
  case h_2 => cases h
  rename_i c hc
  simp only [Option.some.injEq, Prod.mk.injEq] at h
  obtain ⟨rfl, rfl⟩ := h
  simp only [placesOf, ht, hs, Option.map_some, Option.some.injEq] at hp
  obtain ⟨c', h3, h4⟩ := fill_ok (place := fun i => some (i * s, s)) pl idx vs vs' _ _ c (by rw [← hp]; simp) hc (zeroVRs hz) hv
  refine ⟨⟨.agg ⟨c'⟩, fun w => ?_, (.agg h4)⟩, rfl⟩
  have h3' : Instr.fill (fun i => some (i * s, s)) z.cells (idx.zip vs') = some ⟨c'⟩ := h3
  simp only [Instr.build, Sem.run_bind, run_zeroValue' hz, Result.andThen_ok, run_underlying ht, run_sizeOf hs, h3']
  rfl
theorem lrep_eq (z : List Value) (n : Nat) (hz : 0 < z.length) : (List.range (n * z.length)).map (fun i => (⟨z⟩ : Array Value)[i % z.length]!) = lrep z n := by
  induction n with
  | zero => simp [lrep]
  | succ n ih =>
    have h1 : (List.range ((n + 1) * z.length)) = List.range z.length ++ (List.range (n * z.length)).map (z.length + ·) := by
      rw [show (n + 1) * z.length = z.length + n * z.length by rw [Nat.succ_mul]; omega, List.range_add]
    rw [h1, List.map_append, List.map_map, lrep]
    congr 1
    · apply List.ext_getElem
      · simp
      · intro i h2 h3
        simp at h2
        simp [Nat.mod_eq_of_lt h2, h2]
    · rw [← ih]
      apply List.map_congr_left
      intro i _
      simp [Nat.add_mod_left]
theorem lrepVR {ι : Inj} {z z' : List Value} (h : VRs ι z z') : ∀ n, VRs ι (lrep z n) (lrep z' n)
  | 0 => .nil
  | n + 1 => h.append (lrepVR h n)
theorem lrep_len (z : List Value) : ∀ n, (lrep z n).length = n * z.length
  | 0 => by simp [lrep]
  | n + 1 => by rw [lrep, List.length_append, lrep_len z n, Nat.succ_mul]; omega
theorem buildSlice_run {t e esz n : Nat} {z : Value} {idx : List Nat} {vs' c' : List Value} (hz : zeroT P e = some z)
    (ht : P.underlying t = some (.slice e)) (hs : szT P e = some esz) (hn : n * esz ≤ 2 ^ 24) (h3' : Instr.fill (fun i => some (i * esz, esz)) ⟨lrep z.cells.toList n⟩ (idx.zip vs') = some ⟨c'⟩) (w : World) :
    (Instr.buildSlice t n (idx.zip vs').toArray).run P w = .ok (.slice (some ⟨w.heap.size, 0, none⟩) n n) (w.alloc (.cells ⟨c'⟩ e)) := by
  have hzl := zeroT_size hz hs
  have hcells : ((Array.range (n * esz)).map fun x => (if n * esz = 0 then #[] else z.cells)[x % (if n * esz = 0 then #[] else z.cells).size]!) = ⟨lrep z.cells.toList n⟩ := by
    by_cases h0 : n * esz = 0
    · rw [if_pos h0, h0]
      have : lrep z.cells.toList n = [] := List.eq_nil_of_length_eq_zero (by rw [lrep_len, cellsOf_eq, hzl, h0])
      rw [this]; simp
    · rw [if_neg h0]
      have hl : z.cells.toList.length = esz := by rw [cellsOf_eq]; exact hzl
      have := lrep_eq z.cells.toList n (by rw [hl]; rcases Nat.eq_zero_or_pos esz with h | h <;> first | exact h | (exact absurd (by rw [h, Nat.mul_zero]) h0))
      rw [← this, hl]
      apply Array.ext'
      simp [hl]
      intro a _
      rw [show z.cells.size = esz by simpa using hl]
  simp only [Instr.buildSlice, Sem.run_bind, run_underlying ht, Result.andThen_ok, run_sizeOf hs]
  rw [if_neg (by omega)]
  by_cases h0 : n * esz = 0
  · rw [if_pos h0] at hcells
    simp only [h0, if_true, Sem.run_pure, Sem.run_bind, Result.andThen_ok] at hcells ⊢
    rw [hcells]
    simp only [h3']
    simp [newRow]
  · rw [if_neg h0] at hcells
    simp only [h0, if_false, Sem.run_pure, Sem.run_bind, run_zeroValue' hz, Result.andThen_ok] at hcells ⊢
    rw [hcells]
    simp only [h3']
    simp [newRow]
theorem good_buildSlice {t e esz n : Nat} {z v : Value} {idx : List Nat} {vs vs' : List Value} (hr : R ι σ w) (h : pBuildSlice e esz n (lrep z.cells.toList n) (idx.map fun i => (i * esz, esz)) vs σ = some (v, σ')) (hv : VRs ι vs vs') (hz : zeroT P e = some z)
    (ht : P.underlying t = some (.slice e)) (hs : szT P e = some esz) (hn : n * esz ≤ 2 ^ 24) : Good P ι σ' (Instr.buildSlice t n (idx.zip vs').toArray) w v := by
  simp only [pBuildSlice] at h
  split at h
  case h_2 => cases h
  rename_i c hc
  split at h
  case h_2 => cases h
  simp only [Option.some.injEq, Prod.mk.injEq] at h
  obtain ⟨rfl, rfl⟩ := h
  obtain ⟨c', h3, h4⟩ := fill_ok (ι := ι) (place := fun i => some (i * esz, esz)) _ idx vs vs' _ (lrep z.cells.toList n) c (by simp) hc (lrepVR (zeroVRs hz) n) hv
  exact good_row (v' := fun w => .slice (some ⟨w.heap.size, 0, none⟩) n n) .exact (by simp) hr h4 rfl (buildSlice_run hz ht hs hn h3 w) (fun ι' h => by
    have := VR.slice (o := 0) (n := n) (c := n) (by have := hr.pos; omega) h
    simpa [capOf] using this)
theorem good_load {t n : Nat} {agg : Bool} {x x' v : Value} (hr : R ι σ w) (h : pLoad agg n [x] σ = some (v, σ')) (hx : VR ι x x') (hs : szT P t = some n) (ha : aggT P t = agg) (hu : (P.underlying t).isSome = true) :
    ∃ v', (Instr.loadAt t x').run P w = .ok v' w ∧ VR ι v v' ∧ σ' = σ := by
  cases hx <;> simp only [pLoad] at h <;> try (cases h; done)
  rename_i A o bk hA
  cases agg
  · simp only [] at h
    split at h
    · rename_i u hu2
      simp only [Option.some.injEq, Prod.mk.injEq] at h
      obtain ⟨rfl, rfl⟩ := h
      obtain ⟨_, _, c', hc, hcell⟩ := hr.read hu2 hA
      cases hc with
      | cons hc hn =>
        cases hn
        rename_i v'
        have := hcell 0 v' rfl
        rw [Nat.add_zero] at this
        exact ⟨v', by simp [Instr.loadAt, Instr.sureAddr, loadVar, run_isAgg ⟨n, hs⟩ hu, ha, this], hc, rfl⟩
    · cases h
  · simp only [] at h
    split at h
    · rename_i c hc0
      simp only [Option.some.injEq, Prod.mk.injEq] at h
      obtain ⟨rfl, rfl⟩ := h
      obtain ⟨_, hl, c', hc, hcell⟩ := hr.read hc0 hA
      have hlc := hc.length
      have := run_loadCells_list (P := P) w ⟨bk.blk, bk.base + o, none⟩ c' (fun j v hv => by rw [Addr.add_mid]; exact hcell j v hv)
      rw [hlc, hl] at this
      exact ⟨.agg ⟨c'⟩, by simp [Instr.loadAt, Instr.sureAddr, loadVar, run_isAgg ⟨n, hs⟩ hu, ha, run_sizeOf hs, this], .agg hc, rfl⟩
    · cases h
theorem good_store {t n : Nat} {x x' y y' v : Value} (hr : R ι σ w) (h : pStore n [x, y] σ = some (v, σ')) (hx : VR ι x x') (hy : VR ι y y') (hs : szT P t = some n) : v = .tuple #[] ∧ GoodU P ι σ' (Instr.storeAt t x' y') w := by
  cases hx <;> simp only [pStore] at h <;> try (cases h; done)
  rename_i A o bk hA
  rw [nbeq] at h
  split at h
  · cases h
  rename_i hl
  simp at hl
  split at h
  · rename_i σ1 hw
    simp only [Option.some.injEq, Prod.mk.injEq] at h
    obtain ⟨rfl, rfl⟩ := h
    obtain ⟨_, h1, h2, h3, h4⟩ := hr.write hw hy.cells hA
    refine ⟨rfl, ι, _, ?_, h3, h4⟩
    have hrun := run_storeCells_cells (P := P) bk.blk (bk.base + o) (cellsOf y') 0 w (fun j hj => by simpa using (h1 j hj).1) (fun j hj => by simpa using (h1 j hj).2) h2
    rw [Nat.add_zero] at hrun
    have hsz : y'.cells.size = n := by rw [← Array.length_toList, cellsOf_eq, hy.cells.length, hl]
    simp [Instr.storeAt, Instr.sureAddr, storeVar, run_sizeOf hs, hsz, cellsOf_eq, hrun]
  · cases h
end
end AM
end Go.Proofs.YtdbbkaeoinalpaaGreat
