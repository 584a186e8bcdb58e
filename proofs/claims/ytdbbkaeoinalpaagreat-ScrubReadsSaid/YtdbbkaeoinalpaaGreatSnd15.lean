/- Memory that is made early. -/
import Derived.Test.YtdbbkaeoinalpaaGreatSnd14
set_option linter.unusedVariables false
namespace Go.Proofs.YtdbbkaeoinalpaaGreat
namespace AM
section
variable {P : Program} {l : List Oper} {ι : Inj} {σ : H} {w : World}

def MK (mk : Nat → Value) (len esz : Nat) : Prop := (mk = fun A => .pointer (some ⟨A, 0, none⟩)) ∨ ∃ n, n * esz = len ∧ mk = fun A => .slice (some ⟨A, 0, none⟩) n n
theorem MK.vr {mk : Nat → Value} {len esz : Nat} (h : MK mk len esz) {ι : Inj} {A b : Nat} (hA : A ≠ 0) (hi : ι A = some ⟨b, 0, len, esz, 0, false⟩) : VR ι (mk A) (mk b) := by
  rcases h with rfl | ⟨n, hn, rfl⟩
  · simpa using VR.ptr (o := 0) hi
  · have := VR.slice (o := 0) (n := n) (c := n) hA hi
    simpa [capOf] using this
theorem fillL_len : ∀ (pl : List (Nat × Nat)) (vs cells c : List Value), fillL cells pl vs = some c → c.length = cells.length
  | [], [], cells, c, h => by simp only [fillL, Option.some.injEq] at h; rw [h]
  | [], _ :: _, cells, c, h => by simp [fillL] at h
  | _ :: _, [], cells, c, h => by simp [fillL] at h
  | (off, size) :: ps, v :: vs, cells, c, h => by
    simp only [fillL] at h
    split at h
    · cases h
    · split at h
      · rename_i c1 hc
        rw [fillL_len ps vs c1 c h]
        obtain ⟨h1, rfl⟩ := lput_some hc
        simp; omega
      · cases h

theorem mobile_some {i : Nat} (h : mobile l.toArray i = true) : ∃ o, l[i]? = some o ∧ o.guard = none ∧ (∃ d, o.dst = some d) ∧ ((∃ t, o.op = .alloc t) ∨ (∃ t x, o.op = .box t x) ∨ ∃ t n ps, o.op = .buildSlice t n ps) := by
  unfold mobile at h
  rw [List.getElem?_toArray] at h
  split at h
  · rename_i o ho
    simp only [Bool.and_eq_true] at h
    refine ⟨o, ho, by simpa using h.1.1, Option.isSome_iff_exists.1 h.1.2, ?_⟩
    have h2 := h.2
    split at h2
    · rename_i t he; exact .inl ⟨t, he⟩
    · rename_i t x he; exact .inr (.inl ⟨t, x, he⟩)
    · rename_i t n ps he; exact .inr (.inr ⟨t, n, ps, he⟩)
    · cases h2
  · cases h

theorem mob_run {o : Oper} {p : Prim} {args : List Opd} {e : Env} {a : Act} {vs : List Value} {v : Value} {σx : H} (hop : (∃ t, o.op = .alloc t) ∨ (∃ t x, o.op = .box t x) ∨ ∃ t n ps, o.op = .buildSlice t n ps)
    (hc : compOp P o.op = some (p, args)) (hlt : args.all opdLt = true) (he : EnvR ι e a.tmps) (hv : e.evs args = some vs) (h : prim p vs σ = some (v, σx)) :
    p.kind = .other ∧ ∃ (c c' : List Value) (te elem esz : Nat) (mk : Nat → Value), (∀ σ : H, prim p vs σ = some (mk σ.next, σ.push (.cells c elem esz .exact))) ∧ MK mk c.length esz ∧
      (∀ w, (execOp a.eval o).run P w = .ok (.value (mk w.heap.size)) (w.alloc (.cells ⟨c'⟩ te))) ∧ VRs ι c c' := by
  obtain ⟨dst, op, ty, pos, after, guard⟩ := o
  simp only at hc hop
  rcases hop with ⟨t, rfl⟩ | ⟨t, x, rfl⟩ | ⟨t, n, ps, rfl⟩ <;> simp only [compOp, Option.bind_eq_bind, Option.pure_def] at hc
  · obtain ⟨n, hn, h2⟩ := Option.bind_eq_some_iff.1 hc
    obtain ⟨z, hz, h4⟩ := Option.bind_eq_some_iff.1 h2
    simp at h4; obtain ⟨rfl, rfl⟩ := h4
    have := evs_nil hv; subst this
    refine ⟨rfl, z.cells.toList, z.cells.toList, t, t, n, fun A => .pointer (some ⟨A, 0, none⟩), fun σ => rfl, .inl rfl, fun w => ?_, zeroVRs hz⟩
    simp [execOp, Instr.alloc, run_zeroValue' hz, newVar, newRow]
  · obtain ⟨n, hn, h2⟩ := Option.bind_eq_some_iff.1 hc
    obtain ⟨rfl, u, rfl, hx⟩ := arg1 h2 he hv hlt
    simp only [prim, pBox] at h
    split at h
    case h_2 => cases h
    rename_i hchk
    refine ⟨rfl, cellsOf u, cellsOf (a.eval x), t, t, n, fun A => .pointer (some ⟨A, 0, none⟩), fun σ => ?_, .inl rfl, fun w => ?_, hx.cells⟩
    · simp only [prim, pBox, hchk]
    · simp [execOp, Instr.box, newVar, newRow, ← cellsOf_eq]
  · split at hc
    case h_2 => cases hc
    rename_i el ht
    obtain ⟨s, hs, h2⟩ := Option.bind_eq_some_iff.1 hc
    split at h2
    · cases h2
    · rename_i hle
      obtain ⟨z, hz, h4⟩ := Option.bind_eq_some_iff.1 h2
      obtain ⟨ds, hd, h6⟩ := Option.bind_eq_some_iff.1 h4
      simp at h6; obtain ⟨rfl, rfl⟩ := h6
      have hvs : VRs ι vs (ps.toList.map fun p => a.eval p.2) := by
        have := he.evs (xs := ps.toList.map (·.2)) (by rw [List.mapM_map]; exact hd) hv hlt
        simpa [Function.comp_def] using this
      have hparts : ps.map (fun (x : Nat × Operand) => (x.1, a.eval x.2)) = ((ps.toList.map (·.1)).zip (ps.toList.map fun p => a.eval p.2)).toArray := by
        apply Array.ext'
        simp [List.zip_map']
      simp only [prim, pBuildSlice] at h
      split at h
      case h_2 => cases h
      rename_i c hcf
      split at h
      case h_2 => cases h
      rename_i hok
      obtain ⟨c', h3, h4⟩ := fill_ok (ι := ι) (place := fun i => some (i * s, s)) (ps.toList.map fun p => (p.1 * s, s)) (ps.toList.map (·.1)) vs _ _ (lrep z.cells.toList n) c (by simp [List.map_map, Function.comp_def]) hcf (lrepVR (zeroVRs hz) n) hvs
      have hzl := zeroT_size hz hs
      refine ⟨rfl, c, c', el, el, s, fun A => .slice (some ⟨A, 0, none⟩) n n, fun σ => ?_, .inr ⟨n, ?_, rfl⟩, fun w => ?_, h4⟩
      · simp only [prim, pBuildSlice, hcf, hok]
      · rw [fillL_len _ _ _ _ hcf, lrep_len, cellsOf_eq, hzl]
      · have := buildSlice_run (P := P) hz ht hs (by omega) h3 w
        simp only [execOp, hparts, Sem.run_bind, this, Result.andThen_ok, Sem.run_pure]

/-! ### Environments with slots left out -/
theorem dropD_get (ds : List Nat) : ∀ (e : Env) (t : Nat), (dropD ds e).get t = if t ∈ ds then none else e.get t
  | [], t => by simp [dropD, Env.get]
  | (k, v) :: r, t => by
    have ih := dropD_get ds r t
    simp only [dropD]
    split
    · rename_i hk
      have hk' : k ∈ ds := by simpa using hk
      rw [ih, Env.get_cons]
      by_cases h : t ∈ ds
      · rw [if_pos h, if_pos h]
      · rw [if_neg h, if_neg h, if_neg (fun (he : k = t) => h (he ▸ hk'))]
    · rename_i hk
      have hk' : k ∉ ds := by simpa using hk
      rw [Env.get_cons, Env.get_cons, ih]
      by_cases h : k = t
      · subst h; rw [if_pos rfl, if_neg hk', if_pos rfl]
      · rw [if_neg h, if_neg h]
def tmpsOf (args : List Opd) : List Nat := args.filterMap fun | .t i => some i | .c _ => none
theorem evs_congr {e e' : Env} : ∀ {args : List Opd}, (∀ t ∈ tmpsOf args, e'.get t = e.get t) → e'.evs args = e.evs args
  | [], _ => rfl
  | .c v :: r, h => by
    simp only [Env.evs, Env.ev]
    rw [evs_congr (args := r) (fun t ht => h t (by simpa [tmpsOf] using ht))]
  | .t i :: r, h => by
    simp only [Env.evs, Env.ev]
    rw [h i (by simp [tmpsOf]), evs_congr (args := r) (fun t ht => h t (by simp [tmpsOf] at ht ⊢; exact .inr ht))]
theorem slots_args {q : Op} {t : Nat} (h : t ∈ tmpsOf q.args) : t ∈ slots q := List.mem_append_left _ h
theorem slots_guard {q : Op} {g : Nat × Bool} (h : q.guard = some g) : g.1 ∈ slots q := by
  refine List.mem_append_right _ ?_
  rw [h]; simp
theorem wantedV_congr {e e' : Env} {q : Op} (h : ∀ t ∈ slots q, e'.get t = e.get t) : wantedV e' q.guard = wantedV e q.guard := by
  cases hg : q.guard with
  | none => rfl
  | some g =>
    obtain ⟨j, b⟩ := g
    simp only [wantedV, h j (slots_guard hg)]
theorem apartQ_spec {qj qk : Op} (h : apartQ qj qk = true) : ∃ d, qj.dst = some d ∧ d ∉ slots qk ∧ qk.dst ≠ some d ∧ ∀ d', qk.dst = some d' → d' ∉ slots qj := by
  unfold apartQ at h
  split at h
  · cases h
  · rename_i d hd
    simp only [Bool.and_eq_true, Bool.not_eq_true', List.contains_eq_mem, decide_eq_false_iff_not] at h
    refine ⟨d, hd, h.1, ?_, ?_⟩
    · intro hk
      rw [hk] at h
      simp at h
    · intro d' hk
      rw [hk] at h
      simp at h
      exact h.2.2
end
end AM
end Go.Proofs.YtdbbkaeoinalpaaGreat
