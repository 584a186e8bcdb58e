/- Contracts: scrub.Reads, the law ScrubReads. -/
import Derived.Test.YtdbbkaeoinalpaaGreatWp5
set_option linter.unusedVariables false
namespace Go.Proofs.YtdbbkaeoinalpaaGreat
namespace AM
variable [Aw]
/-- Ranges: two ints each. -/
def prs (ls : List (Int × Int)) : List Value := ls.flatMap fun p => [.int .i64 p.1, .int .i64 p.2]
def Prs (σ : H) (v : Value) (ls : List (Int × Int)) : Prop := Sl σ 2 v (prs ls)
omit [Aw] in
theorem prs_len (ls : List (Int × Int)) : (prs ls).length = 2 * ls.length := by
  induction ls with
  | nil => rfl
  | cons p ls ih => simp [prs] at ih ⊢; omega
omit [Aw] in
theorem prs_get (ls : List (Int × Int)) (i : Nat) (h : i < ls.length) : ((prs ls).drop (i * 2)).take 2 = [.int .i64 ls[i].1, .int .i64 ls[i].2] := by
  induction ls generalizing i with
  | nil => simp at h
  | cons p ls ih =>
    cases i with
    | zero => simp [prs]
    | succ i =>
      have := ih i (by simpa using h)
      rw [show (i + 1) * 2 = i * 2 + 2 from by omega]
      simpa [prs] using this
omit [Aw] in
theorem Prs.form {σ : H} {v : Value} {ls : List (Int × Int)} (h : Prs σ v ls) : ∃ p c, v = .slice p ls.length c := by
  obtain ⟨p, n, cap, rfl, h2⟩ := Sl.form h
  rw [prs_len] at h2
  exact ⟨p, cap, by rw [show n = ls.length from by omega]⟩
omit [Aw] in
/-- The two cells of a range. -/
theorem Prs.at {σ : H} {p : Option Addr} {n c : Nat} {ls : List (Int × Int)} (h : Prs σ (.slice p n c) ls) {i : Nat} (hi : i < ls.length) :
    ∃ b o, p = some ⟨b, o, none⟩ ∧ cutAt (σ.get b) (o + i * 2) 2 = some [.int .i64 ls[i].1, .int .i64 ls[i].2] := by
  obtain ⟨p', n', cap', cc, e, h1, h2, h3⟩ := h
  cases e
  have hn : (prs ls).length = n * 2 := by
    have := congrArg List.length h3
    rw [List.length_take, h1.len] at this
    omega
  have hl := prs_len ls
  cases h1 with
  | nil => omega
  | void o => omega
  | row b o cap e c0 m hb hlt hg hl2 =>
    refine ⟨b, o, rfl, ?_⟩
    rw [hg, cutAt_cells, if_pos (by omega), ← prs_get ls i hi, h3]
    congr 1
    rw [List.drop_take, List.take_take, List.drop_take, List.take_take, List.drop_drop]
    congr 1
    omega
def readsM (ls : List (Int × Int)) (s : Int) : Bool := ls.all fun p => !(decide (p.1 ≤ s) && decide (s < p.2))
omit [Aw] in
theorem readsM_app (a b : List (Int × Int)) (s : Int) : readsM (a ++ b) s = (readsM a s && readsM b s) := by simp only [readsM, List.all_append]
omit [Aw] in
theorem readsM_one (p : Int × Int) (s : Int) : readsM [p] s = !(decide (p.1 ≤ s) && decide (s < p.2)) := by simp only [readsM, List.all_cons, List.all_nil, Bool.and_true]
theorem reads_run {σ : H} {v : Value} {ls : List (Int × Int)} (hb : Prs σ v ls) (hl : ls.length < 1000000000) (s x y : Int) (z u : Bool) :
    Ru 12 [.agg ⟨[v, .int .i64 x, .int .i64 y, .bool z, .bool u]⟩, .int .i64 s] σ fun r σ' => r = .ok (.bool (readsM ls s)) ∧ Same0 σ σ' := by
  obtain ⟨p, c, rfl⟩ := hb.form
  refine ru_fn (F := f12) rfl rfl rfl (by simp) ?_
  simp [f12, cellsOf, cellOk]
  refine wp_loop (α := Nat) (fun i e σ1 => Same0 σ σ1 ∧ i ≤ ls.length ∧ readsM (ls.take i) s = true ∧ e = [(1, .int .i64 s), (8, .slice p ls.length c), (9, .int .i64 ls.length), (10, .int .i64 i)]) (fun i => ls.length - i) 0 ?_ ?_
  · refine ⟨(Same.refl _ σ).push (.cells [.slice p ls.length c, .int .i64 x, .int .i64 y, .bool z, .bool u] 27 5 .exact), by simp, by simp [readsM], by simp⟩
  rintro i e σ1 ⟨hs, hi, hr, rfl⟩
  refine wp_of _ _ _ _ ?_
  simp [l12_0]
  refine WpB.dec (fun h => ?_) (fun h => ?_)
  · have h : i < ls.length := by omega
    obtain ⟨b, o, rfl, hc⟩ := Prs.at (hb.same0 hs) h
    simp [h, hc, cellOk]
    have hs2 : Same0 σ ((σ1.push (.cells [.int .i64 0, .int .i64 0] 31 2 .exact)).put σ1.next (.cells [.int .i64 ls[i].1, .int .i64 ls[i].2] 31 2 .exact)) := (hs.push _).put (.inl hs.le) _
    have ht : ls.take (i + 1) = ls.take i ++ [ls[i]] := by rw [List.take_succ_eq_append_getElem h]
    by_cases h1 : ls[i].1 ≤ s
    · by_cases h2 : s < ls[i].2
      · simp [h1, h2]
        refine ⟨?_, hs2⟩
        have e : ls = ls.take i ++ ([ls[i]] ++ ls.drop (i + 1)) := by
          rw [← List.append_assoc, ← ht, List.take_append_drop]
        rw [e, readsM_app, readsM_app, readsM_one, decide_eq_true h1, decide_eq_true h2]
        simp
      · simp [h1, h2]
        rw [wrap64 (by omega) (by omega)]
        refine ⟨i + 1, ⟨hs2, by omega, ?_, by simp⟩, by omega⟩
        rw [ht, readsM_app, hr, readsM_one, decide_eq_false h2]
        simp
    · simp [h1]
      rw [wrap64 (by omega) (by omega)]
      refine ⟨i + 1, ⟨hs2, by omega, ?_, by simp⟩, by omega⟩
      rw [ht, readsM_app, hr, readsM_one, decide_eq_false h1]
      simp
  · have : i = ls.length := by omega
    subst this
    simp at hr
    simp [hr, hs]

/-! ### The law -/
/-- Pairs of small numbers. -/
def p16 (xs : List (Nat × Nat)) : List Value := xs.flatMap fun p => [.int .u16 (p.1 : Int), .int .u16 (p.2 : Int)]
omit [Aw] in
theorem p16_len (ls : List (Nat × Nat)) : (p16 ls).length = 2 * ls.length := by
  induction ls with
  | nil => rfl
  | cons p ls ih => simp [p16] at ih ⊢; omega
omit [Aw] in
theorem p16_get (ls : List (Nat × Nat)) (i : Nat) (h : i < ls.length) : (p16 ls)[2 * i]? = some (.int .u16 (ls[i].1 : Int)) ∧ (p16 ls)[2 * i + 1]? = some (.int .u16 (ls[i].2 : Int)) := by
  induction ls generalizing i with
  | nil => simp at h
  | cons p ls ih =>
    cases i with
    | zero => simp [p16]
    | succ i =>
      have := ih i (by simpa using h)
      rw [show 2 * (i + 1) = 2 * i + 2 from by omega]
      simpa [p16] using this
structure PB (σ : H) (v : Value) (ls : List (Int × Int)) : Prop where
  rd : Prs σ v ls
  own : Ow σ v
  nv : ∀ o n c, v ≠ .slice (some ⟨0, o, none⟩) n c
omit [Aw] in
theorem PB.nil (σ : H) : PB σ (.slice none 0 0) [] := ⟨Sl.nil _ _, Ow.nil _, by simp⟩
omit [Aw] in
theorem PB.app {σ : H} {p : Option Addr} {n cap : Nat} {ls : List (Int × Int)} (h : PB σ (.slice p n cap) ls) (h0 : σ.next ≠ 0) (hr : ls.length ≤ 1000000) (a b : Int) :
    ∃ p' c' σ', appendV σ 31 2 16 p n cap 1 [.int .i64 a, .int .i64 b] = some (.slice p' (n + 1) c', σ') ∧ PB σ' (.slice p' (n + 1) c') (ls ++ [(a, b)]) ∧ (vblk (.slice p' (n + 1) c') = vblk (.slice p n cap) ∨ ∃ b, vblk (.slice p' (n + 1) c') = some b ∧ σ.next ≤ b) ∧ Same (fun b => vblk (.slice p n cap) = some b) σ σ' := by
  obtain ⟨p0, c0, e⟩ := h.rd.form
  cases e
  obtain ⟨p', c', σ', g1, g2, g3, g4, g5, g6, g7⟩ := append_core (elem := 31) (bytes := 16) (new := [.int .i64 a, .int .i64 b]) (k := 1) h.rd h.own (fun o e => h.nv o _ _ (by rw [e])) h0 (by decide) (by decide) (by omega) (by simp) (by simp [cellOk])
  refine ⟨p', c', σ', g1, ⟨?_, g3, fun o n c e => by cases e; exact g6 o rfl⟩, g5, g4⟩
  unfold Prs
  rw [show prs (ls ++ [(a, b)]) = prs ls ++ [.int .i64 a, .int .i64 b] from by simp [prs]]
  exact g2
def conv (xs : List (Nat × Nat)) : List (Int × Int) := xs.map fun p => (((p.1 % 600 : Nat) : Int), ((p.2 % 600 : Nat) : Int))
theorem law_run (ha : ∀ σ, Ru 11 [] σ fun r σ' => r = .ok (.bool true) ∧ σ' = σ) {σ : H} {v : Value} {xs : List (Nat × Nat)} (hb : Sl σ 2 v (p16 xs)) (hx : ∀ p ∈ xs, p.1 < 65536 ∧ p.2 < 65536) (h0 : σ.next ≠ 0) (s : Int) (hl : xs.length < 9223372036854775808) :
    Ru 3 [v, .int .i64 s] σ fun r σ' => r = .ok (.bool true) := by
  obtain ⟨p, n, c, rfl, hn⟩ := Sl.form hb
  rw [p16_len] at hn
  obtain rfl : n = xs.length := by omega
  refine ru_fn (F := f3) rfl rfl rfl (by simp) ?_
  simp [f3]
  refine (ha σ).mono ?_
  rintro r σ1 ⟨rfl, rfl⟩
  simp
  refine WpB.dec (fun h => ?_) (fun h => ?_)
  · simp
  · have hle : xs.length ≤ 100 := by omega
    simp
    refine wp_loop (α := Nat) (fun i e σ2 => ∃ u, σ2.get σ1.next = some (.cells [u, .int .i64 0, .int .i64 0, .bool false, .bool false] 27 5 .exact) ∧ PB σ2 u (conv (xs.take i)) ∧ Same0 σ1 σ2 ∧ σ1.next < σ2.next ∧ (∀ b, vblk u = some b → σ1.next < b) ∧ i ≤ xs.length ∧
      e = [(0, .slice p xs.length c), (1, .int .i64 s), (5, .pointer (some ⟨σ1.next, 0, none⟩)), (6, .bool (!(readsM (conv (xs.take i)) s))), (7, .int .i64 i)]) (fun i => xs.length - i) 0 ?_ ?_
    · refine ⟨.slice none 0 0, H.get_push_same _ _, ?_, (Same.refl _ σ1).push _, by simp, by simp [vblk], by simp, by simp [readsM, conv]⟩
      simp [conv]
      exact PB.nil _
    · rintro i e σ2 ⟨u, hg, hp, hs, hn1, hub, hi, rfl⟩
      refine wp_of _ _ _ _ ?_
      simp [l3_0]
      refine WpB.dec (fun h => ?_) (fun h => ?_)
      · have h : i < xs.length := by omega
        obtain ⟨g1, g2⟩ := p16_get xs i h
        have hb2 := hb.same0 hs
        obtain ⟨b, o, rfl, hb0, hlt, hc1⟩ := Sl.cell hb2 (i := 2 * i) (by rw [p16_len]; omega)
        obtain ⟨b', o', e, _, _, hc2⟩ := Sl.cell hb2 (i := 2 * i + 1) (by rw [p16_len]; omega)
        cases e
        rw [List.getElem?_eq_getElem (by rw [p16_len]; omega), Option.some.injEq] at g1 g2
        rw [g1] at hc1
        rw [g2] at hc2
        rw [show o + 2 * i = o + i * 2 from by omega] at hc1
        rw [show o + (2 * i + 1) = o + i * 2 + 1 from by omega] at hc2
        obtain ⟨m1, hm1⟩ : ∃ m, m = xs[i].1 % 600 := ⟨_, rfl⟩
        obtain ⟨m2, hm2⟩ : ∃ m, m = xs[i].2 % 600 := ⟨_, rfl⟩
        have t1 : ((xs[i].1 : Nat) : Int).tmod 600 = (m1 : Int) := by rw [hm1]; exact (Int.ofNat_tmod _ 600).symm
        have t2 : ((xs[i].2 : Nat) : Int).tmod 600 = (m2 : Int) := by rw [hm2]; exact (Int.ofNat_tmod _ 600).symm
        have w1 : IntKind.i64.wrap (m1 : Int) = (m1 : Int) := wrap64 (by omega) (by omega)
        have w2 : IntKind.i64.wrap (m2 : Int) = (m2 : Int) := wrap64 (by omega) (by omega)
        obtain ⟨pu, cu, rfl⟩ := hp.rd.form
        have hlen : (conv (xs.take i)).length = i := by simp [conv]; omega
        rw [hlen] at hg hp hub
        have hn2 : σ2.next ≠ 0 := by omega
        have hsrc := Sl.src (Sl.fresh (σ := σ2) hn2 [.int .i64 (m1 : Int), .int .i64 (m2 : Int)] 31 2 1 .exact rfl)
        have hpush : Same0 σ2 (σ2.push (.cells [.int .i64 (m1 : Int), .int .i64 (m2 : Int)] 31 2 .exact)) := (Same.refl _ σ2).push _
        have hpa : PB (σ2.push (.cells [.int .i64 (m1 : Int), .int .i64 (m2 : Int)] 31 2 .exact)) (.slice pu i cu) (conv (xs.take i)) :=
          ⟨hp.rd.same0 hpush, hp.own.keep fun b hb => hpush.get b (hp.rd.lt hb) (fun h => h), hp.nv⟩
        obtain ⟨p', c', σ3, q1, q2, q3, q4⟩ := hpa.app (by simp) (by omega) m1 m2
        have hlt2 : σ1.next < (σ2.push (.cells [.int .i64 (m1 : Int), .int .i64 (m2 : Int)] 31 2 .exact)).next := by simp; omega
        have hg3 : σ3.get σ1.next = some (.cells [.slice pu i cu, .int .i64 0, .int .i64 0, .bool false, .bool false] 27 5 .exact) := by
          rw [q4.get _ hlt2 (fun h => by have := hub _ h; omega), H.get_push_lt _ hn1]; exact hg
        have hub3 : ∀ b, vblk (.slice p' (i + 1) c') = some b → σ1.next < b := by
          intro b hb
          rcases q3 with q | ⟨b', q, hbb⟩
          · exact hub b (by rw [← q]; exact hb)
          · rw [q] at hb; cases hb; omega
        have hp4 : PB (σ3.put σ1.next (.cells [.slice p' (i + 1) c', .int .i64 0, .int .i64 0, .bool false, .bool false] 27 5 .exact)) (.slice p' (i + 1) c') (conv (xs.take i) ++ [((m1 : Int), (m2 : Int))]) := by
          have hsm : Same (fun x => x = σ1.next) σ3 (σ3.put σ1.next (.cells [.slice p' (i + 1) c', .int .i64 0, .int .i64 0, .bool false, .bool false] 27 5 .exact)) := (Same.refl _ σ3).put (S := fun x => x = σ1.next) (.inr rfl) _
          exact ⟨q2.rd.same hsm fun b hb e => by have := hub3 b hb; omega, q2.own.keep fun b hb => hsm.get b (q2.rd.lt hb) fun e => by have := hub3 b hb; omega, q2.nv⟩
        have hs4 : Same0 σ1 (σ3.put σ1.next (.cells [.slice p' (i + 1) c', .int .i64 0, .int .i64 0, .bool false, .bool false] 27 5 .exact)) :=
          (((hs.then0 hpush).trans q4 fun j hj e => by have := hub j e; omega).put (.inl (Nat.le_refl _)) _)
        have hcv : conv (xs.take (i + 1)) = conv (xs.take i) ++ [((m1 : Int), (m2 : Int))] := by
          rw [List.take_succ_eq_append_getElem h, conv, List.map_append, hm1, hm2]; rfl
        have hn4 : σ1.next < σ3.next := Nat.lt_of_lt_of_le hlt2 q4.le
        simp [h, prim_idxAddrA, hc1, hc2, t1, t2, w1, w2, hg, fillL, cellsOf, lput, lover, cellOk, nbeq, hlen, hsrc, q1, hg3]
        cases hR : readsM (conv (xs.take i)) s
        · simp
          refine ⟨i + 1, ⟨by rw [hcv]; exact hp4, hs4, hn4, hub3, by omega, ?_, by rw [wrap64 (by omega) (by omega)]; simp⟩, by omega⟩
          rw [hcv, readsM_app, hR]; simp
        · by_cases h1 : (m1 : Int) ≤ s
          · by_cases h2 : s < (m2 : Int)
            · simp [h1, h2]
              refine ⟨i + 1, ⟨by rw [hcv]; exact hp4, hs4, hn4, hub3, by omega, ?_, by rw [wrap64 (by omega) (by omega)]; simp⟩, by omega⟩
              rw [hcv, readsM_app, hR, readsM_one, decide_eq_true h1, decide_eq_true h2]; simp
            · simp [h1, h2]
              refine ⟨i + 1, ⟨by rw [hcv]; exact hp4, hs4, hn4, hub3, by omega, ?_, by rw [wrap64 (by omega) (by omega)]; simp⟩, by omega⟩
              rw [hcv, readsM_app, hR, readsM_one, decide_eq_false h2]; simp
          · simp [h1]
            refine ⟨i + 1, ⟨by rw [hcv]; exact hp4, hs4, hn4, hub3, by omega, ?_, by rw [wrap64 (by omega) (by omega)]; simp⟩, by omega⟩
            rw [hcv, readsM_app, hR, readsM_one, decide_eq_false h1]; simp
      · have : i = xs.length := by omega
        subst this
        simp [hg]
        obtain ⟨pu, cu, rfl⟩ := hp.rd.form
        refine (reads_run hp.rd (by simp [conv]; omega) s 0 0 false false).mono ?_
        rintro r σ3 ⟨rfl, _⟩
        simp
end AM
end Go.Proofs.YtdbbkaeoinalpaaGreat
