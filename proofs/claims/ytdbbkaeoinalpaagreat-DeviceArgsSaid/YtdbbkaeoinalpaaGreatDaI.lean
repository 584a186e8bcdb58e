/- Parts: Buf, Dev1. -/
import Derived.Test.YtdbbkaeoinalpaaGreatDaF
set_option linter.unusedVariables false
namespace Go.Proofs.YtdbbkaeoinalpaaGreat
namespace AM
variable [Aw]

/-- What waits: a sector's bytes, or that it is trimmed. -/
abbrev Pend := List (Int × Option (List UInt8))
def PV (σ : H) (v : Value) : Option (List UInt8) → Prop
  | none => v = .slice none 0 0
  | some xs => Byts σ v xs ∧ xs ≠ []
inductive PendR (σ : H) : List (Int × Value) → Pend → Prop
  | nil : PendR σ [] []
  | cons (s : Int) {v : Value} {d : Option (List UInt8)} {kv : List (Int × Value)} {p : Pend} (hv : PV σ v d) (h : PendR σ kv p) : PendR σ ((s, v) :: kv) ((s, d) :: p)
structure Bufr (σ : H) (b : Nat) (pend : Pend) (F : Foot) : Prop where
  ex : ∃ m kv tb, σ.get b = some (.cells [.int .i64 64, .map (some m)] tb 2 .exact) ∧ MapAt EI σ m kv ∧ PendR σ kv pend ∧ F m ∧ m ≠ b ∧ ∀ p ∈ kv, ∀ x, vblk p.2 = some x → F x ∧ x ≠ b ∧ x ≠ m
  fb : F b
  bnd : Bnd F σ
  rng : ∀ p ∈ pend, 0 ≤ p.1 ∧ p.1 < 512
omit [Aw]
theorem PV.keep {σ σ' : H} {v : Value} {d : Option (List UInt8)} (h : PV σ v d) (hn : σ.next ≤ σ'.next) (hk : ∀ x, vblk v = some x → σ'.get x = σ.get x) : PV σ' v d := by
  cases d with
  | none => exact h
  | some xs => exact ⟨h.1.keep hn hk, h.2⟩
theorem PendR.keep {σ σ' : H} (hn : σ.next ≤ σ'.next) : ∀ {kv : List (Int × Value)} {p : Pend}, PendR σ kv p → (∀ q ∈ kv, ∀ x, vblk q.2 = some x → σ'.get x = σ.get x) → PendR σ' kv p
  | _, _, .nil, _ => .nil
  | _, _, .cons s hv h, hk => .cons s (hv.keep hn fun x hx => hk (s, _) (List.mem_cons_self ..) x hx) (h.keep hn fun q hq => hk q (by simp [hq]))
theorem PendR.keys {σ : H} : ∀ {kv : List (Int × Value)} {p : Pend}, PendR σ kv p → kv.map Prod.fst = p.map Prod.fst
  | _, _, .nil => rfl
  | _, _, .cons s _ h => by simp [h.keys]
theorem PendR.len {σ : H} {kv : List (Int × Value)} {p : Pend} (h : PendR σ kv p) : kv.length = p.length := by simpa using congrArg List.length h.keys
theorem PendR.get {σ : H} (s : Int) : ∀ {kv : List (Int × Value)} {p : Pend}, PendR σ kv p → (kvGet kv s = none ∧ kvGet p s = none) ∨ ∃ v d, kvGet kv s = some v ∧ kvGet p s = some d ∧ PV σ v d
  | _, _, .nil => .inl ⟨rfl, rfl⟩
  | _, _, .cons s0 hv h => by
    by_cases e : s = s0
    · subst e; exact .inr ⟨_, _, by simp [kvGet], by simp [kvGet], hv⟩
    · rcases h.get s with ⟨h1, h2⟩ | ⟨v, d, h1, h2, h3⟩
      · exact .inl ⟨by simp [kvGet, e, h1], by simp [kvGet, e, h2]⟩
      · exact .inr ⟨v, d, by simp [kvGet, e, h1], by simp [kvGet, e, h2], h3⟩
theorem PendR.set {σ : H} (s : Int) {v : Value} {d : Option (List UInt8)} (hv : PV σ v d) : ∀ {kv : List (Int × Value)} {p : Pend}, PendR σ kv p → PendR σ (kvSet kv s v) (kvSet p s d)
  | _, _, .nil => .cons s hv .nil
  | _, _, .cons s0 hv0 h => by
    by_cases e : s = s0
    · subst e; simpa [kvSet] using PendR.cons s hv h
    · simpa [kvSet, e] using PendR.cons s0 hv0 (h.set s hv)
theorem kvSet_mem {κ α : Type} [DecidableEq κ] {kv : List (κ × α)} {k : κ} {v : α} {p : κ × α} (h : p ∈ kvSet kv k v) : p = (k, v) ∨ p ∈ kv := by
  induction kv with
  | nil => simpa [kvSet] using h
  | cons q r ih =>
    unfold kvSet at h
    split at h
    · rcases List.mem_cons.1 h with h | h
      · exact .inl h
      · exact .inr (List.mem_cons_of_mem _ h)
    · rcases List.mem_cons.1 h with h | h
      · exact .inr (by rw [h]; simp)
      · rcases ih h with h | h
        · exact .inl h
        · exact .inr (List.mem_cons_of_mem _ h)
theorem Bufr.same {S F : Foot} {σ σ' : H} {b : Nat} {pend : Pend} (h : Bufr σ b pend F) (hs : Same S σ σ') (hd : Disj F S) : Bufr σ' b pend F := by
  obtain ⟨m, kv, tb, h1, h2, h3, h4, h5, h6⟩ := h.ex
  exact ⟨⟨m, kv, tb, by rw [hs.off hd h.bnd h.fb]; exact h1, h2.keep (hs.off hd h.bnd h4), h3.keep hs.le fun q hq x hx => hs.off hd h.bnd (h6 q hq x hx).1, h4, h5, h6⟩, h.fb, h.bnd.mono hs.le, h.rng⟩
/-- Another entry. -/
theorem Bufr.set {F : Foot} {σ σ1 : H} {b : Nat} {pend : Pend} (h : Bufr σ b pend F) (hs : Same0 σ σ1) (s : Int) (hr : 0 ≤ s ∧ s < 512) {v : Value} {d : Option (List UInt8)} (hv : PV σ1 v d) (hf : ∀ x, vblk v = some x → σ.next ≤ x ∧ x < σ1.next) :
    ∃ m tb ob, σ1.get b = some (.cells [.int .i64 64, .map (some m)] tb 2 .exact) ∧ prim (.mapSet none) [.map (some m), .int .i64 s, v] σ1 = some (.tuple #[], σ1.put m ob) ∧ Bufr (σ1.put m ob) b (kvSet pend s d) (cup F fun x => vblk v = some x) ∧ Same F σ (σ1.put m ob) := by
  obtain ⟨m, kv, tb, h1, h2, h3, h4, h5, h6⟩ := h.ex
  have hb := h.bnd _ h.fb
  have hm := h.bnd _ h4
  have g2 := h2.keep (hs.off (Disj.none F) h.bnd h4)
  obtain ⟨ob, k1, k2⟩ := g2.iSet s v
  have hp : Same (fun x => x = m) σ1 (σ1.put m ob) := Same.put (S := fun x => x = m) (Same.refl _ _) (.inr rfl) _
  have g3 := h3.keep hs.le fun q hq x hx => hs.off (Disj.none F) h.bnd (h6 q hq x hx).1
  have hle := hs.le
  have hne : ∀ x, vblk v = some x → x ≠ m := fun x hx e => by have := hf x hx; omega
  refine ⟨m, tb, ob, by rw [hs.get b hb fun h => h]; exact h1, k1, ⟨⟨m, kvSet kv s v, tb, ?_, k2, ?_, .inl h4, h5, fun q hq x hx => ?_⟩, .inl h.fb, fun x hx => ?_, fun q hq => ?_⟩, (hs.mono (S' := F) fun _ _ h => h.elim).trans hp fun i _ e => by subst e; exact h4⟩
  · rw [hp.get b (by omega) (fun e => h5 e.symm), hs.get b hb fun h => h]; exact h1
  · refine PendR.set s (hv.keep (by simp) fun x hx => hp.get x (by have := hf x hx; omega) (hne x hx)) (g3.keep (by simp) fun q hq x hx => ?_)
    have := h6 q hq x hx
    exact hp.get x (by have := h.bnd x this.1; omega) this.2.2
  · rcases kvSet_mem hq with rfl | hq
    · have := hf x hx
      exact ⟨.inr hx, by omega, hne x hx⟩
    · have := h6 q hq x hx
      exact ⟨.inl this.1, this.2.1, this.2.2⟩
  · show x < σ1.next
    rcases hx with hx | hx
    · have := h.bnd x hx; omega
    · exact (hf x hx).2
  · rcases kvSet_mem hq with rfl | hq
    · exact hr
    · exact h.rng q hq
/-- Sectors that do not wait yet. -/
def absent (pend : Pend) (xs : List Int) : List (Int × Value) := xs.foldl (fun acc s => if (kvGet pend s).isSome then acc else kvSet acc s (.bool true)) []
def fitsM (pend : Pend) (xs : List Int) : Bool := decide (pend.length + (absent pend xs).length ≤ 64)
theorem absent_snoc (pend : Pend) (xs : List Int) (s : Int) : absent pend (xs ++ [s]) = if (kvGet pend s).isSome then absent pend xs else kvSet (absent pend xs) s (.bool true) := by simp [absent]
theorem absent_le (pend : Pend) : ∀ (xs : List Int) (acc : List (Int × Value)), (xs.foldl (fun acc s => if (kvGet pend s).isSome then acc else kvSet acc s (.bool true)) acc).length ≤ acc.length + xs.length
  | [], acc => by simp
  | s :: xs, acc => by
    simp only [List.foldl_cons, List.length_cons]
    refine Nat.le_trans (absent_le pend xs _) ?_
    split
    · omega
    · rw [kvSet_len]; split <;> omega
theorem absent_len (pend : Pend) (xs : List Int) : (absent pend xs).length ≤ xs.length := by simpa [absent] using absent_le pend xs []
variable [Aw]
theorem bmade_run {σ : H} {b : Nat} {pend : Pend} {F : Foot} (h : Bufr σ b pend F) : Ru 73 [.pointer (some ⟨b, 0, none⟩)] σ fun r σ' => r = .ok (.bool true) ∧ σ' = σ := by
  obtain ⟨m, kv, tb, h1, _⟩ := h.ex
  refine ru_fn (F := f73) rfl rfl rfl (by simp) ?_
  simp [f73, h1]
theorem fits_run {σ : H} {b : Nat} {pend : Pend} {F : Foot} {v : Value} {xs : List Int} (h : Bufr σ b pend F) (hv : Ints σ v xs) (h0 : σ.next ≠ 0) (hl : xs.length < 1000000) (hp : pend.length < 1000000) :
    Ru 42 [.pointer (some ⟨b, 0, none⟩), v] σ fun r σ' => r = .ok (.bool (fitsM pend xs)) ∧ Same0 σ σ' := by
  obtain ⟨p, c, rfl⟩ := hv.form
  refine ru_fn (F := f42) rfl rfl rfl (by simp) ?_
  simp [f42]
  refine (bmade_run h).mono ?_
  rintro r σ1 ⟨rfl, rfl⟩
  simp
  refine wp_loop (α := Nat) (fun i e σ2 => Same0 σ1 σ2 ∧ i ≤ xs.length ∧ MapAt EI σ2 σ1.next (absent pend (xs.take i)) ∧ σ1.next < σ2.next ∧ e = [(0, .pointer (some ⟨b, 0, none⟩)), (5, .map (some σ1.next)), (14, .slice p xs.length c), (15, .int .i64 xs.length), (16, .int .i64 i)]) (fun i => xs.length - i) 0 ?_ ?_
  · exact ⟨(Same.refl _ σ1).push _, by simp, MapAt.new σ1, by simp, by simp⟩
  rintro i e σ2 ⟨hs, hi, hm, hn, rfl⟩
  obtain ⟨m, kv, tb, g1, g2, g3, _⟩ := (h.same hs (Disj.none _)).ex
  refine wp_of _ _ _ _ ?_
  simp [l42_0]
  refine WpB.dec (fun hlt => ?_) (fun hlt => ?_)
  · have hlt : i < xs.length := by omega
    obtain ⟨bb, o, rfl, _, _, hx⟩ := Ints.cell (hv.same0 hs) hlt
    simp [hlt, hx, g1, g2.iLookupOk]
    have ht : xs.take (i + 1) = xs.take i ++ [xs[i]] := by rw [List.take_succ_eq_append_getElem hlt]
    rcases g3.get xs[i] with ⟨k1, k2⟩ | ⟨v, d, k1, k2, _⟩
    · obtain ⟨ob, q1, q2⟩ := hm.iSet xs[i] (.bool true)
      simp [k1, q1]
      rw [wrap64 (by omega) (by omega)]
      refine ⟨i + 1, ⟨hs.put (.inl (Nat.le_refl _)) _, by omega, ?_, by simpa using hn, by simp⟩, by omega⟩
      rw [ht, absent_snoc, k2]
      exact q2
    · simp [k1]
      rw [wrap64 (by omega) (by omega)]
      refine ⟨i + 1, ⟨hs, by omega, ?_, hn, by simp⟩, by omega⟩
      rw [ht, absent_snoc, k2]
      exact hm
  · have : i = xs.length := by omega
    subst this
    simp at hm
    have ha := absent_len pend xs
    simp [g1, g2.len, hm.len, g3.len]
    rw [wrap64 (by omega) (by omega)]
    refine ⟨?_, hs⟩
    unfold fitsM
    congr 1
    apply propext
    omega
theorem blen_run {σ : H} {b : Nat} {pend : Pend} {F : Foot} (h : Bufr σ b pend F) : Ru 44 [.pointer (some ⟨b, 0, none⟩)] σ fun r σ' => r = .ok (.int .i64 (pend.length : Int)) ∧ σ' = σ := by
  obtain ⟨m, kv, tb, h1, h2, h3, _⟩ := h.ex
  refine ru_fn (F := f44) rfl rfl rfl (by simp) ?_
  simp [f44, h1, h2.len, h3.len]
theorem bget_run {σ : H} {b : Nat} {pend : Pend} {F : Foot} (h : Bufr σ b pend F) (h0 : σ.next ≠ 0) (s : Int) (hb : ∀ p ∈ pend, ∀ xs, p.2 = some xs → xs.length ≤ 100000) :
    Ru 45 [.pointer (some ⟨b, 0, none⟩), .int .i64 s] σ fun r σ' => ∃ v, r = .ok (.tuple #[v, .bool (kvGet pend s).isSome]) ∧ PV σ' v ((kvGet pend s).getD none) ∧ Same0 σ σ' ∧ ∀ x, vblk v = some x → σ.next ≤ x := by
  obtain ⟨m, kv, tb, h1, h2, h3, _⟩ := h.ex
  refine ru_fn (F := f45) rfl rfl rfl (by simp) ?_
  simp [f45]
  refine (bmade_run h).mono ?_
  rintro r σ1 ⟨rfl, rfl⟩
  simp [h1, h2.iLookupOk]
  have key : ∀ v d, PV σ1 v d → (∀ xs, d = some xs → xs.length ≤ 100000) → Ru 74 [v] σ1 fun r σ' => ∃ v', r = .ok v' ∧ PV σ' v' d ∧ Same0 σ1 σ' ∧ ∀ x, vblk v' = some x → σ1.next ≤ x := by
    intro v d hv hd
    cases d with
    | none =>
      obtain rfl : v = .slice none 0 0 := hv
      refine (clone_run (xs := []) (Sl.nil _ _) h0 (by simp)).mono ?_
      rintro r σ2 ⟨v', ob, rfl, k1, k2, k3, k4⟩
      have : v' = .slice none 0 0 := by
        obtain ⟨p, c, rfl⟩ := k1.rd.form
        cases p with
        | some a => simp [nilS] at k4
        | none =>
          obtain ⟨p', n', cap', cc, e, q1, q2, q3⟩ := k1.rd
          cases e
          cases q1
          rfl
      subst this
      exact ⟨_, rfl, rfl, k2, by simp [vblk]⟩
    | some xs =>
      refine (clone_run hv.1 h0 (by have := hd xs rfl; omega)).mono ?_
      rintro r σ2 ⟨v', ob, rfl, k1, k2, k3, k4⟩
      exact ⟨_, rfl, ⟨k1.rd, hv.2⟩, k2, fun x hx => k3 x (by rw [← k1.blk]; exact hx)⟩
  rcases h3.get s with ⟨k1, k2⟩ | ⟨v, d, k1, k2, k3⟩
  · simp [k1, k2]
    refine (key (.slice none 0 0) none rfl (by simp)).mono ?_
    rintro r σ2 ⟨v', rfl, q1, q2, q3⟩
    simp
    exact ⟨v', ⟨rfl, by simp [k1, k2]⟩, by simpa [k2] using q1, q2, q3⟩
  · simp [k1, k2]
    refine (key v d k3 (fun xs e => hb (s, d) (kvGet_mem k2) xs e)).mono ?_
    rintro r σ2 ⟨v', rfl, q1, q2, q3⟩
    simp
    exact ⟨v', ⟨rfl, by simp [k1, k2]⟩, by simpa [k2] using q1, q2, q3⟩
theorem bput_run {σ : H} {b : Nat} {pend : Pend} {F : Foot} {v : Value} {xs : List UInt8} (h : Bufr σ b pend F) (h0 : σ.next ≠ 0) (hv : Byts σ v xs) (s : Int) (hr : 0 ≤ s ∧ s < 512) (hl : xs.length = 128) (hp : pend.length < 1000) (hf : fitsM pend [s] = true) :
    Ru 43 [.pointer (some ⟨b, 0, none⟩), .int .i64 s, v] σ fun r σ' => r = .ok (.bool true) ∧ ∃ F', Bufr σ' b (kvSet pend s (some xs)) F' ∧ Grow σ F F' ∧ Same F σ σ' := by
  obtain ⟨p, c, rfl⟩ := hv.form
  rw [hl] at hv ⊢
  refine ru_fn (F := f43) rfl rfl rfl (by simp) ?_
  have hneg : ¬ s < 0 := by omega
  simp [f43, hneg, fillL, cellsOf, lput, lover, cellOk, nbeq]
  have hs1 : Same0 σ (σ.push (.cells [.int .i64 s] 3 1 .exact)) := (Same.refl _ _).push _
  have hi : Ints (σ.push (.cells [.int .i64 s] 3 1 .exact)) (.slice (some ⟨σ.next, 0, none⟩) 1 1) [s] := Sl.fresh h0 _ _ _ _ _ (by simp)
  refine (fits_run (h.same hs1 (Disj.none _)) hi (by simp) (by simp) (by omega)).mono ?_
  rintro r σ2 ⟨rfl, hs2⟩
  simp [hf]
  have hs02 := hs1.then0 hs2
  obtain ⟨m, kv, tb, g1, g2, g3, g4, g5, g6⟩ := (h.same hs02 (Disj.none _)).ex
  simp [g1]
  refine ⟨rfl, (clone_run (hv.same0 hs02) (by have := hs02.le; omega) (by omega)).mono ?_⟩
  rintro r σ3 ⟨v', ob, rfl, k1, k2, k3, k4⟩
  have hs03 := hs02.then0 k2
  obtain ⟨m', tb', ob', q1, q2, q3, q4⟩ := h.set hs03 s hr (v := v') (d := some xs) ⟨k1.rd, by intro e; simp [e] at hl⟩ (fun x hx => ⟨by have := k3 x (by rw [← k1.blk]; exact hx); have := hs02.le; omega, k1.rd.lt hx⟩)
  have hbb := h.bnd _ h.fb
  have : m' = m := by
    have e1 := k2.get b (by have := hs02.le; omega) fun h => h
    rw [g1, q1] at e1
    cases e1; rfl
  subst this
  simp [q1, still, keepR, rigid, rigidC, same, sameC, mobOk, q2]
  exact ⟨_, q3, fun x hx => hx.elim .inl fun h => .inr (by have := k3 x (by rw [← k1.blk]; exact h); have := hs02.le; omega), q4⟩
/-- Sectors one behind another. -/
def rangeI (s : Int) (n : Nat) : List Int := (List.range n).map fun (i : Nat) => s + (i : Int)
omit [Aw] in
theorem rangeI_succ (s : Int) (n : Nat) : rangeI s (n + 1) = rangeI s n ++ [s + (n : Int)] := by simp [rangeI, List.range_succ]
omit [Aw] in
theorem rangeI_len (s : Int) (n : Nat) : (rangeI s n).length = n := by simp [rangeI]
def trimP (pend : Pend) (xs : List Int) : Pend := xs.foldl (fun p s => kvSet p s none) pend
omit [Aw] in
theorem trimP_snoc (pend : Pend) (xs : List Int) (s : Int) : trimP pend (xs ++ [s]) = kvSet (trimP pend xs) s none := by simp [trimP]
omit [Aw] in
theorem Bufr.setNil {F : Foot} {σ : H} {b : Nat} {pend : Pend} (h : Bufr σ b pend F) (s : Int) (hr : 0 ≤ s ∧ s < 512) :
    ∃ m tb ob, σ.get b = some (.cells [.int .i64 64, .map (some m)] tb 2 .exact) ∧ prim (.mapSet none) [.map (some m), .int .i64 s, .slice none 0 0] σ = some (.tuple #[], σ.put m ob) ∧ Bufr (σ.put m ob) b (kvSet pend s none) F ∧ Same F σ (σ.put m ob) := by
  obtain ⟨m, tb, ob, h1, h2, h3, h4⟩ := h.set (Same.refl _ σ) s hr (v := .slice none 0 0) (d := none) rfl (by simp [vblk])
  have : cup F (fun x => vblk (.slice none 0 0) = some x) = F := by funext x; simp [cup, vblk]
  rw [this] at h3
  exact ⟨m, tb, ob, h1, h2, h3, h4⟩
theorem btrim_run {σ : H} {b : Nat} {pend : Pend} {F : Foot} (h : Bufr σ b pend F) (h0 : σ.next ≠ 0) (s : Int) (n : Nat) (hs : 0 ≤ s) (hn : s + n ≤ 512) (hp : pend.length < 1000) :
    Ru 50 [.pointer (some ⟨b, 0, none⟩), .int .i64 s, .int .i64 n] σ fun r σ' => r = .ok (.bool (fitsM pend (rangeI s n))) ∧ Bufr σ' b (if fitsM pend (rangeI s n) then trimP pend (rangeI s n) else pend) F ∧ Same F σ σ' := by
  refine ru_fn (F := f50) rfl rfl rfl (by simp) ?_
  have h1 : ¬ (s < 0) := by omega
  have h2 : ¬ ((512 : Int) < n) := by omega
  have h3 : IntKind.i64.wrap (512 - (n : Int)) = 512 - (n : Int) := wrap64 (by omega) (by omega)
  have h4 : ¬ (512 - (n : Int) < s) := by omega
  have h5 : ¬ ((n : Int) < 0) := by omega
  simp [f50, h1, h2, h3, h4, h5]
  refine wp_loop (α := Nat) (fun i e σ1 => i ≤ n ∧ Same0 σ σ1 ∧ ∃ v ob, Vec σ1 1 v ob ((rangeI s i).map iv) ∧ (∀ x, ob = some x → σ.next ≤ x) ∧ e = [(0, .pointer (some ⟨b, 0, none⟩)), (1, .int .i64 s), (7, v), (27, .int .i64 n), (28, .int .i64 i)]) (fun i => n - i) 0 ?_ ?_
  · exact ⟨by omega, Same.refl _ _, .slice none 0 0, none, by simpa [rangeI] using Vec.nil σ 1, by simp, by simp⟩
  rintro i e σ1 ⟨hi, hsm, v, ob, hv, hob, rfl⟩
  refine wp_of _ _ _ _ ?_
  simp [l50_0]
  refine WpB.dec (fun hlt => ?_) (fun hlt => ?_)
  · have hlt : i < n := by omega
    obtain ⟨p, c, rfl⟩ := Ints.form (xs := rangeI s i) hv.rd
    rw [rangeI_len] at hv
    have hn1 : σ1.next ≠ 0 := by have := hsm.le; omega
    have hw : IntKind.i64.wrap (s + (i : Int)) = s + (i : Int) := wrap64 (by omega) (by omega)
    have hps : Same0 σ1 (σ1.push (.cells [.int .i64 (s + (i : Int))] 3 1 .exact)) := (Same.refl _ _).push _
    have hsrc := Sl.src (Sl.fresh (σ := σ1) hn1 [.int .i64 (s + (i : Int))] 3 1 1 .exact rfl)
    obtain ⟨p', c', σ2, ob', g1, g2, g3, g4, g5⟩ := (hv.same hps fun _ _ h => h).app (elem := 3) (bytes := 8) (new := [.int .i64 (s + (i : Int))]) 1 (by simp) (by decide) (by decide) (by omega) rfl (by simp [cellOk])
    simp [hlt, hw, fillL, cellsOf, lput, lover, cellOk, nbeq, hsrc, g1, rangeI_len]
    rw [wrap64 (by omega) (by omega)]
    refine ⟨i + 1, ⟨by omega, ?_, .slice p' (i + 1) c', ob', ?_, fun x hx => ?_, by simp⟩, by omega⟩
    · exact (hsm.push _).trans g4 fun x hx hS => by have := hob x hS; omega
    · rw [rangeI_succ, List.map_append]; exact g2
    · rcases g3 with rfl | ⟨y, rfl, hy⟩
      · exact hob x hx
      · cases hx
        have := hsm.le
        simp at hy; omega
  · have : i = n := by omega
    subst this
    simp
    have hB1 := h.same hsm (Disj.none _)
    have hlr := rangeI_len s i
    refine (fits_run hB1 (xs := rangeI s i) hv.rd (by have := hsm.le; omega) (by omega) (by omega)).mono ?_
    rintro r σ2 ⟨rfl, hs2⟩
    have hB2 := hB1.same hs2 (Disj.none _)
    have hsm2 := hsm.then0 hs2
    cases hf : fitsM pend (rangeI s i) with
    | false =>
      simp
      exact ⟨hB2, hsm2.mono fun _ _ h => h.elim⟩
    | true =>
      simp
      have hv2 := hv.same hs2 fun _ _ h => h
      obtain ⟨p, c, rfl⟩ := Ints.form (xs := rangeI s i) hv2.rd
      rw [rangeI_len] at hv2 ⊢
      simp
      refine wp_loop (α := Nat) (fun k e σ3 => k ≤ i ∧ Bufr σ3 b (trimP pend ((rangeI s i).take k)) F ∧ Same F σ σ3 ∧ Ints σ3 (.slice p i c) (rangeI s i) ∧ e = [(0, .pointer (some ⟨b, 0, none⟩)), (42, .slice p i c), (43, .int .i64 i), (44, .int .i64 k)]) (fun k => i - k) 0 ?_ ?_
      · exact ⟨by omega, by simpa [trimP] using hB2, hsm2.mono fun _ _ h => h.elim, hv2.rd, by simp⟩
      rintro k e σ3 ⟨hk, hB3, hs3, hI, rfl⟩
      refine wp_of _ _ _ _ ?_
      simp [l50_1]
      refine WpB.dec (fun hlt => ?_) (fun hlt => ?_)
      · have hlt : k < i := by omega
        have hget : (rangeI s i)[k]'(by rw [rangeI_len]; exact hlt) = s + (k : Int) := by simp [rangeI]
        obtain ⟨bb, o, rfl, q0, _, hx⟩ := Ints.cell hI (i := k) (by rw [rangeI_len]; exact hlt)
        rw [hget] at hx
        obtain ⟨m, tb, ob', q1, q2, q3, q4⟩ := hB3.setNil (s + (k : Int)) (by omega)
        simp [hlt, hx, q1, q2]
        rw [wrap64 (by omega) (by omega)]
        refine ⟨k + 1, ⟨by omega, ?_, hs3.trans q4 fun _ _ h => h, ?_, by simp⟩, by omega⟩
        · rw [List.take_succ_eq_append_getElem (by rw [rangeI_len]; exact hlt), hget, trimP_snoc]
          exact q3
        · refine hI.same q4 fun x hx hF => ?_
          have h5 := hob x (by rw [← hv2.blk]; exact hx)
          have := h.bnd x hF
          omega
      · have : k = i := by omega
        subst this
        simp
        rw [List.take_of_length_le (by rw [rangeI_len]; omega)] at hB3
        exact ⟨hB3, hs3⟩
end AM
end Go.Proofs.YtdbbkaeoinalpaaGreat
namespace Go.Proofs.YtdbbkaeoinalpaaGreat
namespace AM
/-- A crown. -/
structure Crn where
  gen : Int
  blocks : Int
  sectors : Int
  gain : Nat
  at_ : Int
  n : Int
  kgen : Int
  height : Int
def Crn.cells (c : Crn) : List Value := [.int .i64 c.gen, .int .i64 c.blocks, .int .i64 c.sectors, .float .f64 c.gain, .int .i64 c.at_, .int .i64 c.n, .int .i64 c.kgen, .int .i64 c.height]
/-- An engine, as far as it is asked by a device. -/
structure EngH (σ : H) (e : Nat) (c : Crn) (pp rr ss : Value) (sl : Addr) (fz : Bool) : Prop where
  get : ∃ te, σ.get e = some (.cells [pp, .int .i64 c.gen, .int .i64 c.blocks, .int .i64 c.sectors, .float .f64 c.gain, .int .i64 c.at_, .int .i64 c.n, .int .i64 c.kgen, .int .i64 c.height, rr, ss, .pointer (some sl), .bool fz] te 13 .exact)
  lt : e < σ.next
structure DevH (σ : H) (d e b : Nat) : Prop where
  get : ∃ td, σ.get d = some (.cells [.pointer (some ⟨e, 0, none⟩), .pointer (some ⟨b, 0, none⟩)] td 2 .exact)
  lt : d < σ.next
theorem EngH.same {S : Foot} {σ σ' : H} {e : Nat} {c : Crn} {pp rr ss : Value} {sl : Addr} {fz : Bool} (h : EngH σ e c pp rr ss sl fz) (hs : Same S σ σ') (hn : ¬ S e) : EngH σ' e c pp rr ss sl fz := by
  obtain ⟨te, h1⟩ := h.get
  exact ⟨⟨te, by rw [hs.get e h.lt hn]; exact h1⟩, Nat.lt_of_lt_of_le h.lt hs.le⟩
theorem DevH.same {S : Foot} {σ σ' : H} {d e b : Nat} (h : DevH σ d e b) (hs : Same S σ σ') (hn : ¬ S d) : DevH σ' d e b := by
  obtain ⟨te, h1⟩ := h.get
  exact ⟨⟨te, by rw [hs.get d h.lt hn]; exact h1⟩, Nat.lt_of_lt_of_le h.lt hs.le⟩
/-- What 'Crown' leaves on the heap. -/
def crnH (σ : H) (c : Crn) : H := (σ.push (.cells [.int .i64 0, .int .i64 0, .int .i64 0, .float .f64 0, .int .i64 0, .int .i64 0, .int .i64 0, .int .i64 0] 77 8 .exact)).put σ.next (.cells c.cells 77 8 .exact)
theorem crnH_same (σ : H) (c : Crn) : Same0 σ (crnH σ c) := ((Same.refl _ σ).push _).put (.inl (Nat.le_refl _)) _
variable [Aw]
section
variable {σ : H} {d e b : Nat} {c : Crn} {pp rr ss : Value} {sl : Addr} {fz : Bool}
theorem engine_run (hd : DevH σ d e b) : Ru 22 [.pointer (some ⟨d, 0, none⟩)] σ fun r σ' => r = .ok (.pointer (some ⟨e, 0, none⟩)) ∧ σ' = σ := by
  obtain ⟨td, h1⟩ := hd.get
  refine ru_fn (F := f22) rfl rfl rfl (by simp) ?_
  simp [f22, h1]
theorem emade_run (he : EngH σ e c pp rr ss sl fz) : Ru 55 [.pointer (some ⟨e, 0, none⟩)] σ fun r σ' => r = .ok (.bool true) ∧ σ' = σ := by
  obtain ⟨te, h1⟩ := he.get
  refine ru_fn (F := f55) rfl rfl rfl (by simp) ?_
  simp [f55, h1]
theorem crown_run (he : EngH σ e c pp rr ss sl fz) : Ru 24 [.pointer (some ⟨e, 0, none⟩)] σ fun r σ' => r = .ok (.agg ⟨c.cells⟩) ∧ σ' = crnH σ c := by
  obtain ⟨te, h1⟩ := he.get
  have hlt := he.lt
  refine ru_fn (F := f24) rfl rfl rfl (by simp) ?_
  simp [f24]
  refine (emade_run (he.same ((Same.refl (fun _ => False) σ).push _) fun h => h)).mono ?_
  rintro r σ1 ⟨rfl, rfl⟩
  simp [H.get_push_lt _ hlt, h1]
  simp [cellOk, Crn.cells, crnH, recv]
theorem sectors_run (hd : DevH σ d e b) (he : EngH σ e c pp rr ss sl fz) : Ru 37 [.pointer (some ⟨d, 0, none⟩)] σ fun r σ' => r = .ok (.int .i64 c.sectors) ∧ σ' = crnH σ c := by
  refine ru_fn (F := f37) rfl rfl rfl (by simp) ?_
  simp [f37]
  refine (engine_run hd).mono ?_
  rintro r σ1 ⟨rfl, rfl⟩
  simp
  refine (crown_run he).mono ?_
  rintro r σ1 ⟨rfl, rfl⟩
  simp [Crn.cells]
theorem frozen_run (hd : DevH σ d e b) (he : EngH σ e c pp rr ss sl fz) : Ru 28 [.pointer (some ⟨d, 0, none⟩)] σ fun r σ' => r = .ok (.bool fz) ∧ σ' = σ := by
  refine ru_fn (F := f28) rfl rfl rfl (by simp) ?_
  simp [f28]
  refine (engine_run hd).mono ?_
  rintro r σ1 ⟨rfl, rfl⟩
  simp
  refine ru_fn (F := f58) rfl rfl rfl (by simp) ?_
  simp [f58]
  refine (emade_run he).mono ?_
  rintro r σ1 ⟨rfl, rfl⟩
  obtain ⟨te, h1⟩ := he.get
  simp [h1]
/-- Are there such sectors? -/
def knownB (S s n : Int) : Bool := decide (0 ≤ n ∧ 0 ≤ s ∧ n ≤ S ∧ s ≤ S - n)
theorem known_run (hd : DevH σ d e b) (he : EngH σ e c pp rr ss sl fz) (s n : Int) (hS : 0 ≤ c.sectors ∧ c.sectors ≤ 1000000) (hn : n ≤ 9223372036854775807) :
    Ru 41 [.pointer (some ⟨d, 0, none⟩), .int .i64 s, .int .i64 n] σ fun r σ' => r = .ok (.bool (knownB c.sectors s n)) ∧ Same0 σ σ' ∧ (knownB c.sectors s n = true → σ' = crnH (crnH σ c) c) := by
  refine ru_fn (F := f41) rfl rfl rfl (by simp) ?_
  have hp : Same0 σ (crnH σ c) := crnH_same σ c
  have hp2 : Same0 σ (crnH (crnH σ c) c) := hp.then0 (crnH_same _ c)
  by_cases h1 : 0 ≤ n
  · by_cases h2 : 0 ≤ s
    · simp [f41, h1, h2]
      refine (sectors_run hd he).mono ?_
      rintro r σ1 ⟨rfl, rfl⟩
      by_cases h3 : n ≤ c.sectors
      · simp [h3]
        refine (sectors_run (hd.same hp fun h => h) (he.same hp fun h => h)).mono ?_
        rintro r σ1 ⟨rfl, rfl⟩
        simp
        rw [wrap64 (by omega) (by omega)]
        refine ⟨?_, hp2⟩
        simp [knownB, h1, h2, h3]
      · simp [h3, knownB, h1, h2]
        exact hp
    · simp [f41, h1, h2, knownB]
      exact Same.refl _ _
  · simp [f41, h1, knownB]
    exact Same.refl _ _
theorem pending_run {pend : Pend} {F : Foot} (hd : DevH σ d e b) (hB : Bufr σ b pend F) : Ru 16 [.pointer (some ⟨d, 0, none⟩)] σ fun r σ' => r = .ok (.int .i64 (pend.length : Int)) ∧ σ' = σ := by
  obtain ⟨td, h1⟩ := hd.get
  refine ru_fn (F := f16) rfl rfl rfl (by simp) ?_
  simp [f16, h1]
  refine (blen_run hB).mono ?_
  rintro r σ1 ⟨rfl, rfl⟩
  simp
theorem write_bad (hd : DevH σ d e b) (he : EngH σ e c pp rr ss sl fz) (s : Int) (hS : 0 ≤ c.sectors ∧ c.sectors ≤ 1000000) {v : Value} {xs : List UInt8} (hv : Byts σ v xs) (h : knownB c.sectors s 1 = false ∨ xs.length ≠ 128) :
    Ru 15 [.pointer (some ⟨d, 0, none⟩), .int .i64 s, v] σ fun r σ' => r = .ok (.int .i64 1) ∧ Same0 σ σ' ∧ (knownB c.sectors s 1 = true → σ' = crnH (crnH σ c) c) := by
  obtain ⟨p, cp, rfl⟩ := hv.form
  refine ru_fn (F := f15) rfl rfl rfl (by simp) ?_
  simp [f15]
  refine (known_run hd he s 1 hS (by omega)).mono ?_
  rintro r σ1 ⟨rfl, hs, hx⟩
  cases hk : knownB c.sectors s 1 with
  | false => simp; exact hs
  | true =>
    have hl : xs.length ≠ 128 := h.resolve_left (by simp [hk])
    have hl' : ¬ ((xs.length : Int) = 128) := by omega
    have hx := hx hk
    subst hx
    simp [hl']
    exact hs
theorem write_fit {pend : Pend} {F : Foot} (hd : DevH σ d e b) (he : EngH σ e c pp rr ss sl false) (hB : Bufr σ b pend F) (h0 : σ.next ≠ 0) (s : Int) (hS : 0 ≤ c.sectors ∧ c.sectors ≤ 512) {v : Value} {xs : List UInt8} (hv : Byts σ v xs) (hk : knownB c.sectors s 1 = true) (hl : xs.length = 128)
    (hp : pend.length < 1000) (hf : fitsM pend [s] = true) :
    Ru 15 [.pointer (some ⟨d, 0, none⟩), .int .i64 s, v] σ fun r σ' => r = .ok (.int .i64 0) ∧ ∃ F', Bufr σ' b (kvSet pend s (some xs)) F' ∧ Grow σ F F' ∧ Same F σ σ' := by
  obtain ⟨p, cp, rfl⟩ := hv.form
  rw [hl] at hv ⊢
  refine ru_fn (F := f15) rfl rfl rfl (by simp) ?_
  simp [f15]
  refine (known_run hd he s 1 ⟨hS.1, by omega⟩ (by omega)).mono ?_
  rintro r σ1 ⟨rfl, hs, _⟩
  simp [hk]
  have hd1 := hd.same hs fun h => h
  refine (frozen_run hd1 (he.same hs fun h => h)).mono ?_
  rintro r σ1 ⟨rfl, rfl⟩
  obtain ⟨td, g1⟩ := hd1.get
  have hn := hs.le
  have hr : 0 ≤ s ∧ s < 512 := by
    simp [knownB] at hk
    omega
  simp [g1, fillL, cellsOf, lput, lover, cellOk, nbeq]
  have hs1 : Same0 σ1 (σ1.push (.cells [.int .i64 s] 3 1 .exact)) := (Same.refl _ _).push _
  have hi : Ints (σ1.push (.cells [.int .i64 s] 3 1 .exact)) (.slice (some ⟨σ1.next, 0, none⟩) 1 1) [s] := Sl.fresh (by omega) _ _ _ _ _ (by simp)
  have hsa := hs.then0 hs1
  refine (fits_run (hB.same hsa (Disj.none _)) hi (by simp) (by simp) (by omega)).mono ?_
  rintro r σ2 ⟨rfl, hs2⟩
  simp [hf]
  have hsb := hsa.then0 hs2
  obtain ⟨td2, g2⟩ := (hd.same hsb fun h => h).get
  simp [g2]
  refine (bput_run (hB.same hsb (Disj.none _)) (by have := hsb.le; omega) (hv.same0 hsb) s hr hl hp hf).mono ?_
  rintro r σ3 ⟨rfl, F', q1, q2, q3⟩
  simp
  exact ⟨F', q1, fun x hx => (q2 x hx).imp id fun h => by have := hsb.le; omega, (hsb.mono (S' := F) fun _ _ h => h.elim).trans q3 fun _ _ h => h⟩
theorem read_bad (hd : DevH σ d e b) (he : EngH σ e c pp rr ss sl fz) (s : Int) (hS : 0 ≤ c.sectors ∧ c.sectors ≤ 1000000) (hk : knownB c.sectors s 1 = false) :
    Ru 17 [.pointer (some ⟨d, 0, none⟩), .int .i64 s] σ fun r σ' => r = .ok (.tuple #[.slice none 0 0, .int .i64 1]) ∧ Same0 σ σ' := by
  refine ru_fn (F := f17) rfl rfl rfl (by simp) ?_
  simp [f17]
  refine (known_run hd he s 1 hS (by omega)).mono ?_
  rintro r σ1 ⟨rfl, hs, hx⟩
  simp [hk]
  exact hs
theorem read_waits {pend : Pend} {F : Foot} {x : Option (List UInt8)} (hd : DevH σ d e b) (he : EngH σ e c pp rr ss sl fz) (hB : Bufr σ b pend F) (h0 : σ.next ≠ 0) (s : Int) (hS : 0 ≤ c.sectors ∧ c.sectors ≤ 1000000) (hk : knownB c.sectors s 1 = true) (hw : kvGet pend s = some x)
    (hb : ∀ p ∈ pend, ∀ xs, p.2 = some xs → xs.length = 128) :
    Ru 17 [.pointer (some ⟨d, 0, none⟩), .int .i64 s] σ fun r σ' => ∃ v, r = .ok (.tuple #[v, .int .i64 0]) ∧ Byts σ' v (x.getD (List.replicate 128 0)) ∧ Same0 σ σ' := by
  refine ru_fn (F := f17) rfl rfl rfl (by simp) ?_
  simp [f17]
  refine (known_run hd he s 1 hS (by omega)).mono ?_
  rintro r σ1 ⟨rfl, hs, _⟩
  have hn := hs.le
  have hnew := prim_newSlice (σ := σ1) (elem := 5) (esz := 1) (bytes := 1) (z := [.int .u8 0]) (n := 128) .i64 .i64 (by decide) (by decide)
  simp at hnew
  simp [hk, hnew]
  have hs1 : Same0 σ1 (σ1.push (.cells (lrep [.int .u8 0] 128) 5 1 .exact)) := (Same.refl _ _).push _
  have hsa := hs.then0 hs1
  obtain ⟨td, g1⟩ := (hd.same hsa fun h => h).get
  simp [g1]
  refine (bget_run (hB.same hsa (Disj.none _)) (by simp) s (fun p hp xs e => by have := hb p hp xs e; omega)).mono ?_
  rintro r σ2 ⟨v, rfl, q1, q2, q3⟩
  rw [hw] at q1 ⊢
  have hz : Byts σ2 (.slice (some ⟨σ1.next, 0, none⟩) 128 128) (List.replicate 128 0) := by
    have := (Sl.fresh (σ := σ1) (by omega) (lrep [.int .u8 0] 128) 5 1 128 .exact (by simp [lrep_len'])).same0 q2
    rw [lrep_one] at this
    simpa [Byts, bv] using this
  have hsb := hsa.then0 q2
  cases x with
  | none =>
    obtain rfl : v = .slice none 0 0 := q1
    simp
    exact ⟨hz, hsb⟩
  | some xs =>
    obtain ⟨q1, hne⟩ := q1
    have hp : ∃ a n cc, v = .slice (some a) n cc := by
      obtain ⟨p, cc, rfl⟩ := q1.form
      cases xs with
      | nil => exact absurd rfl hne
      | cons y ys =>
        obtain ⟨bb, o, rfl, _⟩ := q1.cell (i := 0) (by simp)
        exact ⟨_, _, _, rfl⟩
    obtain ⟨a, n, cc, rfl⟩ := hp
    simp
    exact ⟨q1, hsb⟩
theorem trim_bad (hd : DevH σ d e b) (he : EngH σ e c pp rr ss sl fz) (s n : Int) (hS : 0 ≤ c.sectors ∧ c.sectors ≤ 1000000) (hn : n ≤ 9223372036854775807) (hk : knownB c.sectors s n = false) :
    Ru 18 [.pointer (some ⟨d, 0, none⟩), .int .i64 s, .int .i64 n] σ fun r σ' => r = .ok (.int .i64 1) ∧ Same0 σ σ' := by
  refine ru_fn (F := f18) rfl rfl rfl (by simp) ?_
  simp [f18]
  refine (known_run hd he s n hS hn).mono ?_
  rintro r σ1 ⟨rfl, hs, hx⟩
  simp [hk]
  exact hs
theorem trim_fit {pend : Pend} {F : Foot} (hd : DevH σ d e b) (he : EngH σ e c pp rr ss sl false) (hB : Bufr σ b pend F) (h0 : σ.next ≠ 0) (s : Int) (n : Nat) (hS : 0 ≤ c.sectors ∧ c.sectors ≤ 512) (hk : knownB c.sectors s n = true) (hn : n ≤ 64)
    (hp : pend.length < 1000) (hf : fitsM pend (rangeI s n) = true) :
    Ru 18 [.pointer (some ⟨d, 0, none⟩), .int .i64 s, .int .i64 n] σ fun r σ' => r = .ok (.int .i64 0) ∧ Bufr σ' b (trimP pend (rangeI s n)) F ∧ Same F σ σ' := by
  refine ru_fn (F := f18) rfl rfl rfl (by simp) ?_
  simp [f18]
  refine (known_run hd he s n ⟨hS.1, by omega⟩ (by omega)).mono ?_
  rintro r σ1 ⟨rfl, hs, _⟩
  simp [hk]
  have hd1 := hd.same hs fun h => h
  refine (frozen_run hd1 (he.same hs fun h => h)).mono ?_
  rintro r σ1 ⟨rfl, rfl⟩
  have hr : 0 ≤ s ∧ s + n ≤ 512 := by
    simp [knownB] at hk
    omega
  have hle := hs.le
  simp
  refine wp_loop (α := Bool) (fun k e σ2 => (k = true ∧ n ≠ 0 ∧ σ2 = σ1 ∧ e = [(0, .pointer (some ⟨d, 0, none⟩)), (1, .int .i64 s), (2, .int .i64 (n : Int))]) ∨ (k = false ∧ Bufr σ2 b (trimP pend (rangeI s n)) F ∧ Same F σ σ2 ∧ ∃ s', e = [(0, .pointer (some ⟨d, 0, none⟩)), (1, .int .i64 s'), (2, .int .i64 0)])) (fun k => k.toNat) (decide (n ≠ 0)) ?_ ?_
  · by_cases hz : n = 0
    · subst hz
      exact .inr ⟨by simp, by simpa [rangeI, trimP] using hB.same hs (Disj.none _), hs.mono fun _ _ h => h.elim, s, by simp⟩
    · exact .inl ⟨by simp [hz], hz, rfl, by simp⟩
  rintro k e σ2 (⟨rfl, hz, rfl, rfl⟩ | ⟨rfl, hB2, hs2, s', rfl⟩)
  · refine wp_of _ _ _ _ ?_
    simp [l18_0]
    have h1 : 0 < n := by omega
    have h2 : min (n : Int) 64 = (n : Int) := by omega
    obtain ⟨td, g1⟩ := hd1.get
    simp [h1, h2, g1]
    have hB1 := hB.same hs (Disj.none _)
    refine (btrim_run hB1 (by omega) s n hr.1 hr.2 hp).mono ?_
    rintro r σ3 ⟨rfl, q1, q2⟩
    rw [if_pos hf] at q1
    simp [hf]
    exact ⟨q1, (hs.mono (S' := F) fun _ _ h => h.elim).trans q2 fun _ _ h => h, rfl⟩
  · refine wp_of _ _ _ _ ?_
    simp [l18_0]
    exact ⟨hB2, hs2⟩
end
end AM
end Go.Proofs.YtdbbkaeoinalpaaGreat
