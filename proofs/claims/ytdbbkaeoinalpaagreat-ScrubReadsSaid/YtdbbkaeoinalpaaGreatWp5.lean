/- The walk: slices, frames. -/
import Derived.Test.YtdbbkaeoinalpaaGreatWp4
set_option linter.unusedVariables false
namespace Go.Proofs.YtdbbkaeoinalpaaGreat
namespace AM

/-! ### What stays -/
structure Same (S : Nat → Prop) (σ σ' : H) : Prop where
  le : σ.next ≤ σ'.next
  get : ∀ b, b < σ.next → ¬ S b → σ'.get b = σ.get b
abbrev Same0 (σ σ' : H) : Prop := Same (fun _ => False) σ σ'
theorem Same.refl (S : Nat → Prop) (σ : H) : Same S σ σ := ⟨Nat.le_refl _, fun _ _ _ => rfl⟩
theorem Same.mono {S S' : Nat → Prop} {σ σ' : H} (h : Same S σ σ') (hs : ∀ b, b < σ.next → S b → S' b) : Same S' σ σ' := ⟨h.le, fun b hb hn => h.get b hb fun hS => hn (hs b hb hS)⟩
theorem Same.trans {S S1 : Nat → Prop} {a b c : H} (h : Same S a b) (k : Same S1 b c) (hs : ∀ i, i < a.next → S1 i → S i) : Same S a c :=
  ⟨Nat.le_trans h.le k.le, fun i hi hn => (k.get i (Nat.lt_of_lt_of_le hi h.le) fun hS => hn (hs i hi hS)).trans (h.get i hi hn)⟩
theorem Same.then0 {S : Nat → Prop} {a b c : H} (h : Same S a b) (k : Same0 b c) : Same S a c := h.trans k fun _ _ h => h.elim
theorem Same.push {S : Nat → Prop} {a b : H} (h : Same S a b) (o : Obj) : Same S a (b.push o) :=
  ⟨by simp; have := h.le; omega, fun i hi hn => by rw [H.get_push_lt _ (Nat.lt_of_lt_of_le hi h.le)]; exact h.get i hi hn⟩
theorem Same.put {S : Nat → Prop} {a b : H} (h : Same S a b) {k : Nat} (hk : a.next ≤ k ∨ S k) (o : Obj) : Same S a (b.put k o) :=
  ⟨by simpa using h.le, fun i hi hn => by
    rw [H.get_put_ne _ (by rintro rfl; exact hk.elim (by omega) hn)]; exact h.get i hi hn⟩

/-! ### Slices -/
/-- The block of a slice that has one. -/
def vblk : Value → Option Nat
  | .slice (some a) _ _ => if a.block = 0 then none else some a.block
  | _ => none
/-- What lies from a slice's first cell on, as far as it reaches. -/
inductive SlP (σ : H) (esz : Nat) : Option Addr → Nat → List Value → Prop
  | nil : SlP σ esz none 0 []
  | void (o : Nat) : SlP σ esz (some ⟨0, o, none⟩) 0 []
  | row (b o cap e : Nat) (c0 : List Value) (m : Mode) (hb : b ≠ 0) (hlt : b < σ.next) (hg : σ.get b = some (.cells c0 e esz m)) (hl : o + cap * esz ≤ c0.length) : SlP σ esz (some ⟨b, o, none⟩) cap ((c0.drop o).take (cap * esz))
/-- A slice reads as cells. -/
def Sl (σ : H) (esz : Nat) (v : Value) (cs : List Value) : Prop := ∃ p n cap cc, v = .slice p n cap ∧ SlP σ esz p cap cc ∧ n ≤ cap ∧ cs = cc.take (n * esz)
/-- Its row may be written. -/
def Ow (σ : H) (v : Value) : Prop := ∀ b, vblk v = some b → live σ b = true
def bv (b : UInt8) : Value := .int .u8 (b.toNat : Int)
def iv (n : Int) : Value := .int .i64 n
def Byts (σ : H) (v : Value) (xs : List UInt8) : Prop := Sl σ 1 v (xs.map bv)
def Ints (σ : H) (v : Value) (xs : List Int) : Prop := Sl σ 1 v (xs.map iv)

theorem SlP.len {σ : H} {esz cap : Nat} {p : Option Addr} {cc : List Value} (h : SlP σ esz p cap cc) : cc.length = cap * esz := by
  cases h with
  | nil => simp
  | void o => simp
  | row b o cap e c0 m hb hlt hg hl => simp; omega
theorem SlP.keep {σ σ' : H} {esz cap : Nat} {p : Option Addr} {cc : List Value} (h : SlP σ esz p cap cc) (hn : σ.next ≤ σ'.next) (hk : ∀ b o, p = some ⟨b, o, none⟩ → b ≠ 0 → σ'.get b = σ.get b) : SlP σ' esz p cap cc := by
  cases h with
  | nil => exact .nil
  | void o => exact .void o
  | row b o cap e c0 m hb hlt hg hl => exact .row b o cap e c0 m hb (by omega) (by rw [hk b o rfl hb]; exact hg) hl
theorem Sl.keep {σ σ' : H} {esz : Nat} {v : Value} {cs : List Value} (h : Sl σ esz v cs) (hn : σ.next ≤ σ'.next) (hk : ∀ b, vblk v = some b → σ'.get b = σ.get b) : Sl σ' esz v cs := by
  obtain ⟨p, n, cap, cc, rfl, h1, h2, h3⟩ := h
  exact ⟨p, n, cap, cc, rfl, h1.keep hn fun b o hp hb => hk b (by subst hp; simp [vblk, hb]), h2, h3⟩
theorem Sl.lt {σ : H} {esz : Nat} {v : Value} {cs : List Value} (h : Sl σ esz v cs) {b : Nat} (hb : vblk v = some b) : b < σ.next := by
  obtain ⟨p, n, cap, cc, rfl, h1, h2, h3⟩ := h
  cases h1 with
  | nil => simp [vblk] at hb
  | void o => simp [vblk] at hb
  | row b' o cap e c0 m hb' hlt hg hl => simp [vblk, hb'] at hb; omega
theorem Sl.same {S : Nat → Prop} {σ σ' : H} {esz : Nat} {v : Value} {cs : List Value} (h : Sl σ esz v cs) (hs : Same S σ σ') (hn : ∀ b, vblk v = some b → ¬ S b) : Sl σ' esz v cs :=
  h.keep hs.le fun b hb => hs.get b (h.lt hb) (hn b hb)
theorem Sl.same0 {σ σ' : H} {esz : Nat} {v : Value} {cs : List Value} (h : Sl σ esz v cs) (hs : Same0 σ σ') : Sl σ' esz v cs := h.same hs fun _ _ h => h
theorem Ow.keep {σ σ' : H} {v : Value} (h : Ow σ v) (hk : ∀ b, vblk v = some b → σ'.get b = σ.get b) : Ow σ' v := fun b hb => by
  have := h b hb
  unfold live at *
  rw [hk b hb]; exact this
theorem Sl.nil (σ : H) (esz : Nat) : Sl σ esz (.slice none 0 0) [] := ⟨none, 0, 0, [], rfl, .nil, Nat.le_refl _, by simp⟩
theorem Ow.nil (σ : H) : Ow σ (.slice none 0 0) := fun b hb => by simp [vblk] at hb
theorem Sl.form {σ : H} {esz : Nat} {v : Value} {cs : List Value} (h : Sl σ esz v cs) : ∃ p n cap, v = .slice p n cap ∧ cs.length = n * esz := by
  obtain ⟨p, n, cap, cc, rfl, h1, h2, h3⟩ := h
  refine ⟨p, n, cap, rfl, ?_⟩
  subst h3
  have := h1.len
  have h4 : n * esz ≤ cap * esz := Nat.mul_le_mul_right _ h2
  simp; omega
theorem Sl.form1 {σ : H} {v : Value} {cs : List Value} (h : Sl σ 1 v cs) : ∃ p cap, v = .slice p cs.length cap := by
  obtain ⟨p, n, cap, rfl, hl⟩ := h.form
  exact ⟨p, cap, by rw [hl]; simp⟩
/-- A cell of a slice. -/
theorem Sl.cell {σ : H} {esz : Nat} {p : Option Addr} {n cap : Nat} {cs : List Value} (h : Sl σ esz (.slice p n cap) cs) {i : Nat} (hi : i < cs.length) : ∃ b o, p = some ⟨b, o, none⟩ ∧ b ≠ 0 ∧ b < σ.next ∧ cellAt (σ.get b) (o + i) = some cs[i] := by
  obtain ⟨p', n', cap', cc, e, h1, h2, h3⟩ := h
  cases e
  subst h3
  cases h1 with
  | nil => simp at hi
  | void o => simp at hi
  | row b o cap e c0 m hb hlt hg hl =>
    refine ⟨b, o, rfl, hb, hlt, ?_⟩
    rw [hg, cellAt_cells]
    simp at hi ⊢
theorem Byts.cell {σ : H} {p : Option Addr} {n cap : Nat} {xs : List UInt8} (h : Byts σ (.slice p n cap) xs) {i : Nat} (hi : i < xs.length) : ∃ b o, p = some ⟨b, o, none⟩ ∧ b ≠ 0 ∧ b < σ.next ∧ cellAt (σ.get b) (o + i) = some (.int .u8 (xs[i].toNat : Int)) := by
  obtain ⟨b, o, h1, h2, h3, h4⟩ := Sl.cell h (i := i) (by simpa using hi)
  exact ⟨b, o, h1, h2, h3, by rw [h4]; simp [bv]⟩
theorem Byts.form {σ : H} {v : Value} {xs : List UInt8} (h : Byts σ v xs) : ∃ p cap, v = .slice p xs.length cap := by
  obtain ⟨p, cap, rfl⟩ := Sl.form1 h
  exact ⟨p, cap, by simp⟩
theorem Ints.form {σ : H} {v : Value} {xs : List Int} (h : Ints σ v xs) : ∃ p cap, v = .slice p xs.length cap := by
  obtain ⟨p, cap, rfl⟩ := Sl.form1 h
  exact ⟨p, cap, by simp⟩
theorem Ints.cell {σ : H} {p : Option Addr} {n cap : Nat} {xs : List Int} (h : Ints σ (.slice p n cap) xs) {i : Nat} (hi : i < xs.length) : ∃ b o, p = some ⟨b, o, none⟩ ∧ b ≠ 0 ∧ b < σ.next ∧ cellAt (σ.get b) (o + i) = some (.int .i64 xs[i]) := by
  obtain ⟨b, o, h1, h2, h3, h4⟩ := Sl.cell h (i := i) (by simpa using hi)
  exact ⟨b, o, h1, h2, h3, by rw [h4]; simp [iv]⟩
theorem Sl.src {σ : H} {esz : Nat} {p : Option Addr} {n cap : Nat} {cs : List Value} (h : Sl σ esz (.slice p n cap) cs) : srcCells σ esz p n = some cs := by
  obtain ⟨p', n', cap', cc, e, h1, h2, h3⟩ := h
  cases e
  subst h3
  cases n with
  | zero => simp [srcCells]
  | succ n =>
    cases h1 with
    | nil => omega
    | void o => omega
    | row b o cap e c0 m hb hlt hg hl =>
      have h4 : (n + 1) * esz ≤ cap * esz := Nat.mul_le_mul_right _ h2
      simp only [srcCells, rdCells_eq, hg, cutAt_cells]
      rw [if_pos (by omega), List.take_take, Nat.min_eq_left h4]

/-! ### Slicing -/
theorem ow_slice {σ : H} {p p' : Option Addr} {n c n' c' : Nat} (h : Ow σ (.slice p n c)) (hb : vblk (.slice p' n' c') = none ∨ vblk (.slice p' n' c') = vblk (.slice p n c)) : Ow σ (.slice p' n' c') := fun b hbb => by
  rcases hb with hb | hb
  · rw [hb] at hbb; cases hbb
  · exact h b (by rw [← hb]; exact hbb)
theorem bound_in {x : Int} {y : Nat} (h0 : 0 ≤ x) (h1 : x ≤ y) : bound x y = some x.toNat := by
  have a : ¬ x < 0 := by omega
  have b : ¬ (y : Int) < x := by omega
  simp [bound, ltI_eq, a, b]
/-- x[l:h] of what lies there. -/
theorem slice_core {σ : H} {esz : Nat} {p : Option Addr} {n cap : Nat} {cc : List Value} (h : SlP σ esz p cap cc) (hz : esz ≠ 0) {l hh : Nat} (h1 : l ≤ hh) (h2 : hh ≤ cap) (lo hi : Option Int) (hlo : cutLow lo hh = some l) (hhi : cutHigh hi none n cap = some hh) :
    ∃ p' c', sliceV σ esz p n cap lo hi none = some (.slice p' (hh - l) c') ∧ SlP σ esz p' c' (cc.drop (l * esz)) ∧ hh - l ≤ c' ∧ (vblk (.slice p' (hh - l) c') = none ∨ vblk (.slice p' (hh - l) c') = vblk (.slice p n cap)) := by
  have hle : Nat.ble hh cap = true := by rw [nble]; simpa using h2
  unfold sliceV
  simp only [cutMax, hhi, hlo, hle]
  cases h with
  | nil =>
    obtain rfl : hh = 0 := by omega
    obtain rfl : l = 0 := by omega
    exact ⟨none, 0, rfl, by simpa using SlP.nil, Nat.le_refl _, .inl rfl⟩
  | void o =>
    obtain rfl : hh = 0 := by omega
    obtain rfl : l = 0 := by omega
    refine ⟨some ⟨0, 0, none⟩, 0, by simp [nbeq], by simpa using SlP.void 0, Nat.le_refl _, .inl (by simp [vblk])⟩
  | row b o cap e c0 m hb hlt hg hl =>
    have hb0 : Nat.beq b 0 = false := by rw [nbeq, decide_eq_false hb]
    have hrow : Nat.beq (rowSize σ b) esz = true := by simp [rowSize, hg]
    simp only [hb0, hrow]
    have hlm : l * esz ≤ cap * esz := Nat.mul_le_mul_right _ (by omega)
    have hsub : (cap - l) * esz = cap * esz - l * esz := Nat.sub_mul _ _ _
    have hnew : SlP σ esz (some ⟨b, o + l * esz, none⟩) (cap - l) (((c0.drop o).take (cap * esz)).drop (l * esz)) := by
      have := SlP.row (σ := σ) (esz := esz) b (o + l * esz) (cap - l) e c0 m hb hlt hg (by omega)
      rw [List.drop_take, List.drop_drop, ← hsub]
      exact this
    have hvb : vblk (.slice (some ⟨b, o + l * esz, none⟩) (hh - l) (cap - l)) = vblk (.slice (some ⟨b, o, none⟩) n cap) := by simp [vblk]
    have hend : atEnd σ ⟨b, o, none⟩ cap = (decide (m = .grown) && decide (o + cap * esz = c0.length)) := by
      unfold atEnd
      rw [hg]
      cases m <;> simp [nbeq]
    have hend0 : atEnd σ ⟨b, o, none⟩ 0 = (decide (m = .grown) && decide (o = c0.length)) := by
      unfold atEnd
      rw [hg]
      cases m <;> simp [nbeq]
    by_cases hlc : l = cap
    · subst hlc
      obtain rfl : hh = l := by omega
      have hdz : ((c0.drop o).take (hh * esz)).drop (hh * esz) = [] := List.drop_eq_nil_of_le (by simp; omega)
      cases hE : atEnd σ ⟨b, o, none⟩ hh with
      | true =>
        refine ⟨some ⟨0, 0, none⟩, 0, by simp [nbeq], by rw [hdz]; exact SlP.void 0, by omega, .inl (by simp [vblk])⟩
      | false =>
        have hE0 : atEnd σ ⟨b, o, none⟩ 0 = false := by
          rw [hend] at hE
          rw [hend0]
          cases hm : decide (m = Mode.grown) with
          | false => simp
          | true =>
            rw [hm] at hE
            simp at hE ⊢
            intro ho
            have : hh * esz = 0 := by omega
            omega
        refine ⟨some ⟨b, o, none⟩, 0, by simp [nbeq, hE0], ?_, by omega, .inr (by simp [vblk])⟩
        rw [hdz]
        have := SlP.row (σ := σ) (esz := esz) b o 0 e c0 m hb hlt hg (by omega)
        simpa using this
    · have hlc' : Nat.beq l cap = false := by rw [nbeq, decide_eq_false hlc]
      cases hE : atEnd σ ⟨b, o, none⟩ cap with
      | true => exact ⟨_, _, by simp only [hlc'], hnew, by omega, .inr hvb⟩
      | false => exact ⟨_, _, by simp only [hlc'], hnew, by omega, .inr hvb⟩

/-- x[l:] -/
theorem slice_from {σ : H} {esz : Nat} {p : Option Addr} {n cap : Nat} {cs : List Value} (h : Sl σ esz (.slice p n cap) cs) (hz : esz ≠ 0) (k : IntKind) {l : Nat} (hl : l ≤ n) (i : Int) (hi : i = l) :
    ∃ p' c', prim (.slice esz true false false) [.slice p n cap, .int k i] σ = some (.slice p' (n - l) c', σ) ∧ Sl σ esz (.slice p' (n - l) c') (cs.drop (l * esz)) ∧ (vblk (.slice p' (n - l) c') = none ∨ vblk (.slice p' (n - l) c') = vblk (.slice p n cap)) := by
  subst hi
  obtain ⟨p0, n0, cap0, cc, e, h1, h2, rfl⟩ := h
  cases e
  obtain ⟨p', c', g1, g2, g3, g4⟩ := slice_core (n := n) h1 hz hl h2 (some (l : Int)) none (by simp [cutLow, bound_in (Int.natCast_nonneg l) (show (l : Int) ≤ n by omega)]) rfl
  refine ⟨p', c', by simp [prim, pSlice, optInts, intOf?, g1], ⟨p', n - l, c', _, rfl, g2, g3, ?_⟩, g4⟩
  rw [List.drop_take, Nat.sub_mul]
/-- x[:h] -/
theorem slice_to {σ : H} {esz : Nat} {p : Option Addr} {n cap : Nat} {cs : List Value} (h : Sl σ esz (.slice p n cap) cs) (hz : esz ≠ 0) (k : IntKind) {hh : Nat} (hl : hh ≤ n) (i : Int) (hi : i = hh) :
    ∃ p' c', prim (.slice esz false true false) [.slice p n cap, .int k i] σ = some (.slice p' hh c', σ) ∧ Sl σ esz (.slice p' hh c') (cs.take (hh * esz)) ∧ (vblk (.slice p' hh c') = none ∨ vblk (.slice p' hh c') = vblk (.slice p n cap)) := by
  subst hi
  obtain ⟨p0, n0, cap0, cc, e, h1, h2, rfl⟩ := h
  cases e
  obtain ⟨p', c', g1, g2, g3, g4⟩ := slice_core (n := n) (l := 0) (hh := hh) h1 hz (by omega) (by omega) none (some (hh : Int)) rfl (by simp [cutHigh, bound_in (Int.natCast_nonneg hh) (show (hh : Int) ≤ cap by omega)])
  rw [Nat.sub_zero] at g1 g3 g4
  refine ⟨p', c', by simp [prim, pSlice, optInts, intOf?, g1], ⟨p', hh, c', _, rfl, g2, g3, ?_⟩, g4⟩
  have h5 : hh * esz ≤ n * esz := Nat.mul_le_mul_right _ hl
  rw [List.take_take, Nat.min_eq_left h5]
  simp
/-- x[l:h] -/
theorem slice_of {σ : H} {esz : Nat} {p : Option Addr} {n cap : Nat} {cs : List Value} (h : Sl σ esz (.slice p n cap) cs) (hz : esz ≠ 0) (k k' : IntKind) {l hh : Nat} (hl : l ≤ hh) (hn : hh ≤ n) (i j : Int) (hi : i = l) (hj : j = hh) :
    ∃ p' c', prim (.slice esz true true false) [.slice p n cap, .int k i, .int k' j] σ = some (.slice p' (hh - l) c', σ) ∧ Sl σ esz (.slice p' (hh - l) c') ((cs.drop (l * esz)).take ((hh - l) * esz)) ∧ (vblk (.slice p' (hh - l) c') = none ∨ vblk (.slice p' (hh - l) c') = vblk (.slice p n cap)) := by
  subst hi hj
  obtain ⟨p0, n0, cap0, cc, e, h1, h2, rfl⟩ := h
  cases e
  obtain ⟨p', c', g1, g2, g3, g4⟩ := slice_core (n := n) h1 hz hl (by omega) (some (l : Int)) (some (hh : Int)) (by simp [cutLow, bound_in (Int.natCast_nonneg l) (show (l : Int) ≤ hh by omega)]) (by simp [cutHigh, bound_in (Int.natCast_nonneg hh) (show (hh : Int) ≤ cap by omega)])
  refine ⟨p', c', by simp [prim, pSlice, optInts, intOf?, g1], ⟨p', hh - l, c', _, rfl, g2, g3, ?_⟩, g4⟩
  have h5 : hh * esz ≤ n * esz := Nat.mul_le_mul_right _ hn
  rw [List.drop_take, List.take_take, Nat.sub_mul, Nat.min_eq_left (by omega)]

/-! ### New rows -/
theorem lrep_one (z : Value) (n : Nat) : lrep [z] n = List.replicate n z := by
  induction n with
  | zero => rfl
  | succ n ih => rw [lrep, ih, List.replicate_succ]; rfl
theorem lrep_len' (z : List Value) : ∀ n, (lrep z n).length = n * z.length
  | 0 => by simp [lrep]
  | n + 1 => by rw [lrep, List.length_append, lrep_len' z n, Nat.succ_mul]; omega
theorem prim_newSlice {σ : H} {elem esz bytes : Nat} {z : List Value} {n : Nat} (k k' : IntKind) (h1 : 1 ≤ bytes) (h2 : n * bytes ≤ 140737488355328) : prim (.newSlice elem esz bytes z) [.int k (n : Int), .int k' (n : Int)] σ = some (.slice (some ⟨σ.next, 0, none⟩) n n, σ.push (.cells (lrep z n) elem esz .exact)) := by
  have h3 : Nat.ble (n * bytes) room = true := by rw [nble]; exact decide_eq_true h2
  have h4 : Nat.ble 1 bytes = true := by rw [nble]; simpa using h1
  have h5 : ltI (n : Int) 0 = false := by rw [ltI_eq]; simp
  have h6 : ltI (n : Int) n = false := by rw [ltI_eq]; simp
  simp only [prim, pNewSlice, h5, h6, Int.toNat_natCast, h3, h4, Bool.not_false, Bool.and_self]
theorem Sl.fresh {σ : H} (h0 : σ.next ≠ 0) (c : List Value) (elem esz n : Nat) (m : Mode) (hl : n * esz = c.length) : Sl (σ.push (.cells c elem esz m)) esz (.slice (some ⟨σ.next, 0, none⟩) n n) c := by
  refine ⟨_, n, n, _, rfl, SlP.row σ.next 0 n elem c m h0 (by simp) (by simp) (by omega), Nat.le_refl _, ?_⟩
  simp [hl]

/-! ### append -/
/-- What 'append' answers. -/
theorem append_core {σ : H} {elem esz bytes : Nat} {p : Option Addr} {n cap : Nat} {cs new : List Value} {k : Nat} (h : Sl σ esz (.slice p n cap) cs) (ho : Ow σ (.slice p n cap)) (hv : ∀ o, p ≠ some ⟨0, o, none⟩) (h0 : σ.next ≠ 0) (hz : esz ≠ 0) (hb : 1 ≤ bytes) (hroom : (n + k) * bytes ≤ 140737488355328)
    (hl : new.length = k * esz) (hok : new.all cellOk = true) :
    ∃ p' c' σ', appendV σ elem esz bytes p n cap k new = some (.slice p' (n + k) c', σ') ∧ Sl σ' esz (.slice p' (n + k) c') (cs ++ new) ∧ Ow σ' (.slice p' (n + k) c') ∧ Same (fun b => vblk (.slice p n cap) = some b) σ σ' ∧
      (vblk (.slice p' (n + k) c') = vblk (.slice p n cap) ∨ ∃ b, vblk (.slice p' (n + k) c') = some b ∧ σ.next ≤ b) ∧ (∀ o, p' ≠ some ⟨0, o, none⟩) ∧ (p' = none → p = none ∧ k = 0) := by
  have h1b : Nat.ble 1 bytes = true := by rw [nble]; exact decide_eq_true hb
  have hrm : Nat.ble ((n + k) * bytes) room = true := by rw [nble]; exact decide_eq_true hroom
  have hnl : Nat.beq new.length (k * esz) = true := by rw [nbeq]; exact decide_eq_true hl
  have hsrc := h.src
  have h' := h
  obtain ⟨p0, n0, cap0, cc, e, h1, h2, h3⟩ := h
  cases e
  have hcl : cs.length = n * esz := by
    have := h1.len
    have h4 : n * esz ≤ cap * esz := Nat.mul_le_mul_right _ h2
    subst h3; simp; omega
  cases k with
  | zero =>
    have hnew : new = [] := List.eq_nil_of_length_eq_zero (by simpa using hl)
    subst hnew
    have hle : Nat.ble n cap = true := by rw [nble]; exact decide_eq_true h2
    refine ⟨p, cap, σ, by simp only [appendV, hle]; rfl, by simpa using h', ho, Same.refl _ _, .inl rfl, hv, fun h => ⟨h, rfl⟩⟩
  | succ k =>
    -- a new row
    have fresh : ∀ (σ1 : H) (m : Mode), m ≠ .ro → σ1.next = σ.next → Same (fun b => vblk (.slice p n cap) = some b) σ σ1 →
        Sl (σ1.push (.cells (cs ++ new) elem esz m)) esz (.slice (some ⟨σ.next, 0, none⟩) (n + (k + 1)) (n + (k + 1))) (cs ++ new) ∧ Ow (σ1.push (.cells (cs ++ new) elem esz m)) (.slice (some ⟨σ.next, 0, none⟩) (n + (k + 1)) (n + (k + 1))) ∧
          Same (fun b => vblk (.slice p n cap) = some b) σ (σ1.push (.cells (cs ++ new) elem esz m)) ∧ (vblk (.slice (some ⟨σ.next, 0, none⟩) (n + (k + 1)) (n + (k + 1))) = vblk (.slice p n cap) ∨ ∃ b, vblk (.slice (some ⟨σ.next, 0, none⟩) (n + (k + 1)) (n + (k + 1))) = some b ∧ σ.next ≤ b) := by
      intro σ1 m hm hnx hsame
      have hS := Sl.fresh (σ := σ1) (by rw [hnx]; exact h0) (cs ++ new) elem esz (n + (k + 1)) m (by simp only [List.length_append, hcl, hl, Nat.add_mul])
      rw [hnx] at hS
      refine ⟨hS, fun b hb => ?_, hsame.push _, .inr ⟨σ.next, by simp [vblk, h0], Nat.le_refl _⟩⟩
      simp [vblk, h0] at hb
      subst hb
      unfold live
      rw [← hnx, H.get_push_same]
      cases m <;> simp_all
    have hgrow : ¬ n + (k + 1) ≤ cap → appendV σ elem esz bytes p n cap (k + 1) new = grow σ elem esz bytes p n cap (k + 1) new := by
      intro hn
      have : Nat.ble (n + (k + 1)) cap = false := by rw [nble]; exact decide_eq_false hn
      simp only [appendV, this]
    have hchk : (Nat.ble ((n + (k + 1)) * bytes) room && Nat.ble 1 bytes && new.all cellOk && Nat.beq new.length ((k + 1) * esz)) = true := by rw [hrm, h1b, hok, hnl]; rfl
    cases h1 with
    | nil =>
      obtain rfl : n = 0 := by omega
      rw [hgrow (by omega)]
      obtain ⟨g1, g2, g3, g4⟩ := fresh σ .grown (by simp) rfl (Same.refl _ _)
      have hcs : cs = [] := List.eq_nil_of_length_eq_zero (by simpa using hcl)
      subst hcs
      simp only [List.nil_append, Nat.zero_add] at g1 g2 g3 g4 hchk ⊢
      exact ⟨_, _, _, by simp only [grow, Nat.zero_add, hchk], g1, g2, g3, g4, by simp [h0], by simp⟩
    | void o =>
      exact absurd rfl (hv o)
    | row b o cap e c0 m hb0 hlt hg hl0 =>
      have hvb : vblk (.slice (some ⟨b, o, none⟩) n cap) = some b := by simp [vblk, hb0]
      have hlive := ho b hvb
      have hmr : m ≠ .ro := by
        rintro rfl
        unfold live at hlive
        rw [hg] at hlive
        cases hlive
      by_cases hfit : n + (k + 1) ≤ cap
      · have hble : Nat.ble (n + (k + 1)) cap = true := by rw [nble]; exact decide_eq_true hfit
        have hm1 : (n + (k + 1)) * esz ≤ cap * esz := Nat.mul_le_mul_right _ hfit
        have hm2 : (n + (k + 1)) * esz = n * esz + (k + 1) * esz := Nat.add_mul _ _ _
        have hw : wrCells σ ⟨b, o + n * esz, none⟩ new = some (σ.put b (.cells (c0.take (o + n * esz) ++ (new ++ c0.drop (o + n * esz + new.length))) e esz m)) := by
          rw [wrCells_eq, hg, layAt_cells, if_pos ⟨hmr, hok, by omega⟩]; rfl
        refine ⟨some ⟨b, o, none⟩, cap, σ.put b (.cells (c0.take (o + n * esz) ++ (new ++ c0.drop (o + n * esz + new.length))) e esz m), by simp only [appendV, hble, hw], ⟨_, _, _, _, rfl, SlP.row b o cap e _ m hb0 (by simpa using hlt) (by simp; rfl) ?_, by omega, ?_⟩, ?_, (Same.refl _ _).put (.inr hvb) _, .inl rfl, by simp [hb0], by simp⟩
        · simp; omega
        · have e1 : List.take ((n + (k + 1)) * esz) (List.take (cap * esz) (List.drop o (c0.take (o + n * esz) ++ (new ++ c0.drop (o + n * esz + new.length))))) = cs ++ new := by
            rw [List.take_take, Nat.min_eq_left hm1, List.drop_append, List.drop_take]
            have hlen : (c0.take (o + n * esz)).length = o + n * esz := by simp; omega
            rw [hlen, show o - (o + n * esz) = 0 by omega, List.drop_zero, show o + n * esz - o = n * esz by omega, hm2, List.take_append, List.take_append]
            have hd : ((c0.drop o).take (n * esz)).length = n * esz := by simp; omega
            have h4 : n * esz ≤ cap * esz := Nat.mul_le_mul_right _ h2
            rw [hd, List.take_of_length_le (by omega), show n * esz + (k + 1) * esz - n * esz = (k + 1) * esz by omega, ← hl, List.take_length, Nat.sub_self, List.take_zero, List.append_nil, h3, List.take_take, Nat.min_eq_left h4]
          exact e1.symm
        · intro b' hb'
          have hb2 : vblk (.slice (some ⟨b, o, none⟩) (n + (k + 1)) cap) = some b := by simp [vblk, hb0]
          rw [hb2] at hb'
          cases hb'
          unfold live
          rw [H.get_put_same]
          cases m <;> simp_all
      · rw [hgrow hfit]
        have hrow : Nat.beq (rowSize σ b) esz = true := by simp [rowSize, hg]
        have hrd : rdCells σ ⟨b, o, none⟩ (n * esz) = some cs := by
          have h4 : n * esz ≤ cap * esz := Nat.mul_le_mul_right _ h2
          rw [rdCells_eq, hg, cutAt_cells, if_pos (by omega), h3, List.take_take, Nat.min_eq_left h4]
        cases hE : atEnd σ ⟨b, o, none⟩ cap with
        | true =>
          have hdead : Same (fun b' => vblk (.slice (some ⟨b, o, none⟩) n cap) = some b') σ (σ.put b .dead) := (Same.refl _ _).put (.inr hvb) _
          obtain ⟨g1, g2, g3, g4⟩ := fresh (σ.put b .dead) .grown (by simp) rfl hdead
          exact ⟨_, _, _, by simp only [grow, hchk, hrow, hrd, hE, hlive], g1, g2, g3, g4, by simp [h0], by simp⟩
        | false =>
          obtain ⟨g1, g2, g3, g4⟩ := fresh σ .grown (by simp) rfl (Same.refl _ _)
          exact ⟨_, _, _, by simp only [grow, hchk, hrow, hrd, hE], g1, g2, g3, g4, by simp [h0], by simp⟩

@[simp] theorem prim_append (σ : H) (elem esz bytes : Nat) (p x : Option Addr) (n cap k c : Nat) : prim (.append elem esz bytes) [.slice p n cap, .slice x k c] σ = (srcCells σ esz x k).bind fun new => appendV σ elem esz bytes p n cap k new := by
  simp only [prim, pAppend]
  cases srcCells σ esz x k <;> rfl
theorem prim_appendZ (σ : H) (elem esz bytes : Nat) (z : List Value) (p : Option Addr) (n cap k : Nat) (kk : IntKind) (h : k < 140737488355328) (h2 : k * bytes ≤ 140737488355328) :
    prim (.appendZ elem esz bytes z) [.slice p n cap, .int kk (k : Int)] σ = appendV σ elem esz bytes p n cap k (lrep z k) := by
  have a : ltI (k : Int) 0 = false := by rw [ltI_eq]; simp
  have b : ltI (k : Int) (room : Nat) = true := by rw [ltI_eq]; exact decide_eq_true (by show (k : Int) < ((140737488355328 : Nat) : Int); omega)
  have c : Nat.ble (k * bytes) room = true := by rw [nble]; exact decide_eq_true h2
  simp only [prim, pAppendZ, a, b, Int.toNat_natCast, c, Bool.not_false, Bool.and_self]

/-! ### A buffer of one's own: a slice that is appended to -/
structure Buf (σ : H) (v : Value) (ob : Option Nat) (xs : List UInt8) : Prop where
  rd : Byts σ v xs
  own : Ow σ v
  blk : vblk v = ob
  nv : ∀ o n c, v ≠ .slice (some ⟨0, o, none⟩) n c
def Fresh (σ : H) (ob : Option Nat) : Prop := ∀ b, ob = some b → σ.next ≤ b
theorem Buf.nil (σ : H) : Buf σ (.slice none 0 0) none [] := ⟨Sl.nil _ _, Ow.nil _, rfl, by simp⟩
theorem Buf.same {S : Nat → Prop} {σ σ' : H} {v : Value} {ob : Option Nat} {xs : List UInt8} (h : Buf σ v ob xs) (hs : Same S σ σ') (hn : ∀ b, ob = some b → ¬ S b) : Buf σ' v ob xs :=
  ⟨h.rd.same hs fun b hb => hn b (by rw [← h.blk]; exact hb), h.own.keep fun b hb => hs.get b (h.rd.lt hb) (hn b (by rw [← h.blk]; exact hb)), h.blk, h.nv⟩
theorem Buf.app {σ : H} {p : Option Addr} {n cap : Nat} {ob : Option Nat} {xs ys : List UInt8} (h : Buf σ (.slice p n cap) ob xs) (h0 : σ.next ≠ 0) (hr : xs.length + ys.length ≤ 1000000000) :
    ∃ p' c' σ' ob', appendV σ 5 1 1 p n cap ys.length (ys.map bv) = some (.slice p' (n + ys.length) c', σ') ∧ Buf σ' (.slice p' (n + ys.length) c') ob' (xs ++ ys) ∧ (ob' = ob ∨ ∃ b, ob' = some b ∧ σ.next ≤ b) ∧ Same (fun b => ob = some b) σ σ' ∧ (p' = none → p = none ∧ ys.length = 0) := by
  obtain ⟨p0, c0, e⟩ := h.rd.form
  cases e
  obtain ⟨p', c', σ', g1, g2, g3, g4, g5, g6, g7⟩ := append_core (elem := 5) (bytes := 1) (new := ys.map bv) (k := ys.length) h.rd h.own (fun o e => h.nv o _ _ (by rw [e])) h0 (by decide) (by decide) (by omega) (by simp) (by simp [bv, cellOk])
  rw [h.blk] at g4 g5
  refine ⟨p', c', σ', _, g1, ⟨?_, g3, rfl, fun o n c e => by cases e; exact g6 o rfl⟩, g5, g4, g7⟩
  unfold Byts
  rw [List.map_append]; exact g2
end AM
end Go.Proofs.YtdbbkaeoinalpaaGreat
