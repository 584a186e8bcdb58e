/- Parts: Wp5, C1, Ev3, Map, C2, Foot, Cmp, Ev5, Next, C3, Data. -/
import Derived.Test.YtlelihddjacplaaGreatTpE
set_option linter.unusedVariables false
namespace Go.Proofs.YtlelihddjacplaaGreat
namespace AM

/-! ### What stays -/
structure Same (S : Nat → Prop) (σ σ' : H) : Prop where
  le : σ.next ≤ σ'.next
  get : ∀ b, b < σ.next → ¬ S b → σ'.get b = σ.get b
abbrev Same0 (σ σ' : H) : Prop := Same (fun _ => False) σ σ'
theorem Same.refl (S : Nat → Prop) (σ : H) : Same S σ σ := ⟨Nat.le_refl _, fun _ _ _ => rfl⟩
theorem Same.mono {S S' : Nat → Prop} {σ σ' : H} (h : Same S σ σ') (hs : ∀ b, b < σ.next → S b → S' b) : Same S' σ σ' := ⟨h.le, fun b hb hn => h.get b hb fun hS => hn (hs b hb hS)⟩
theorem Same.trans {S S1 : Nat → Prop} {a b c : H} (h : Same S a b) (k : Same S1 b c) (hs : ∀ i, i < a.next → S1 i → S i) : Same S a c :=
  ⟨Nat.le_trans h.le k.le, fun i hi hn => (k.get i (Nat.lt_of_lt_of_le hi h.le) fun hS => hn (hs i hi hS)).trans (h.get i hi hn)⟩
theorem Same.then0 {S : Nat → Prop} {a b c : H} (h : Same S a b) (k : Same0 b c) : Same S a c := h.trans k fun _ _ h => h.elim
theorem Same.push {S : Nat → Prop} {a b : H} (h : Same S a b) (o : Obj) : Same S a (b.push o) :=
  ⟨by simp; have := h.le; omega, fun i hi hn => by rw [H.get_push_lt _ (Nat.lt_of_lt_of_le hi h.le)]; exact h.get i hi hn⟩
theorem Same.put {S : Nat → Prop} {a b : H} (h : Same S a b) {k : Nat} (hk : a.next ≤ k ∨ S k) (o : Obj) : Same S a (b.put k o) :=
  ⟨by simpa using h.le, fun i hi hn => by
    rw [H.get_put_ne _ (by rintro rfl; exact hk.elim (by omega) hn)]; exact h.get i hi hn⟩

/-! ### Slices -/
/-- The block of a slice that has one. -/
def vblk : Value → Option Nat
  | .slice (some a) _ _ => if a.block = 0 then none else some a.block
  | _ => none
/-- What lies from a slice's first cell on, as far as it reaches. -/
inductive SlP (σ : H) (esz : Nat) : Option Addr → Nat → List Value → Prop
  | nil : SlP σ esz none 0 []
  | void (o : Nat) : SlP σ esz (some ⟨0, o, none⟩) 0 []
  | row (b o cap e : Nat) (c0 : List Value) (m : Mode) (hb : b ≠ 0) (hlt : b < σ.next) (hg : σ.get b = some (.cells c0 e esz m)) (hl : o + cap * esz ≤ c0.length) : SlP σ esz (some ⟨b, o, none⟩) cap ((c0.drop o).take (cap * esz))
/-- A slice reads as cells. -/
def Sl (σ : H) (esz : Nat) (v : Value) (cs : List Value) : Prop := ∃ p n cap cc, v = .slice p n cap ∧ SlP σ esz p cap cc ∧ n ≤ cap ∧ cs = cc.take (n * esz)
/-- Its row may be written. -/
def Ow (σ : H) (v : Value) : Prop := ∀ b, vblk v = some b → live σ b = true
def bv (b : UInt8) : Value := .int .u8 (b.toNat : Int)
def iv (n : Int) : Value := .int .i64 n
def Byts (σ : H) (v : Value) (xs : List UInt8) : Prop := Sl σ 1 v (xs.map bv)
def Ints (σ : H) (v : Value) (xs : List Int) : Prop := Sl σ 1 v (xs.map iv)

theorem SlP.len {σ : H} {esz cap : Nat} {p : Option Addr} {cc : List Value} (h : SlP σ esz p cap cc) : cc.length = cap * esz := by
  cases h with
  | nil => simp
  | void o => simp
  | row b o cap e c0 m hb hlt hg hl => simp; omega
theorem SlP.keep {σ σ' : H} {esz cap : Nat} {p : Option Addr} {cc : List Value} (h : SlP σ esz p cap cc) (hn : σ.next ≤ σ'.next) (hk : ∀ b o, p = some ⟨b, o, none⟩ → b ≠ 0 → σ'.get b = σ.get b) : SlP σ' esz p cap cc := by
  cases h with
  | nil => exact .nil
  | void o => exact .void o
  | row b o cap e c0 m hb hlt hg hl => exact .row b o cap e c0 m hb (by omega) (by rw [hk b o rfl hb]; exact hg) hl
theorem Sl.keep {σ σ' : H} {esz : Nat} {v : Value} {cs : List Value} (h : Sl σ esz v cs) (hn : σ.next ≤ σ'.next) (hk : ∀ b, vblk v = some b → σ'.get b = σ.get b) : Sl σ' esz v cs := by
  obtain ⟨p, n, cap, cc, rfl, h1, h2, h3⟩ := h
  exact ⟨p, n, cap, cc, rfl, h1.keep hn fun b o hp hb => hk b (by subst hp; simp [vblk, hb]), h2, h3⟩
theorem Sl.lt {σ : H} {esz : Nat} {v : Value} {cs : List Value} (h : Sl σ esz v cs) {b : Nat} (hb : vblk v = some b) : b < σ.next := by
  obtain ⟨p, n, cap, cc, rfl, h1, h2, h3⟩ := h
  cases h1 with
  | nil => simp [vblk] at hb
  | void o => simp [vblk] at hb
  | row b' o cap e c0 m hb' hlt hg hl => simp [vblk, hb'] at hb; omega
theorem Sl.same {S : Nat → Prop} {σ σ' : H} {esz : Nat} {v : Value} {cs : List Value} (h : Sl σ esz v cs) (hs : Same S σ σ') (hn : ∀ b, vblk v = some b → ¬ S b) : Sl σ' esz v cs :=
  h.keep hs.le fun b hb => hs.get b (h.lt hb) (hn b hb)
theorem Sl.same0 {σ σ' : H} {esz : Nat} {v : Value} {cs : List Value} (h : Sl σ esz v cs) (hs : Same0 σ σ') : Sl σ' esz v cs := h.same hs fun _ _ h => h
theorem Ow.keep {σ σ' : H} {v : Value} (h : Ow σ v) (hk : ∀ b, vblk v = some b → σ'.get b = σ.get b) : Ow σ' v := fun b hb => by
  have := h b hb
  unfold live at *
  rw [hk b hb]; exact this
theorem Sl.nil (σ : H) (esz : Nat) : Sl σ esz (.slice none 0 0) [] := ⟨none, 0, 0, [], rfl, .nil, Nat.le_refl _, by simp⟩
theorem Ow.nil (σ : H) : Ow σ (.slice none 0 0) := fun b hb => by simp [vblk] at hb
theorem Sl.form {σ : H} {esz : Nat} {v : Value} {cs : List Value} (h : Sl σ esz v cs) : ∃ p n cap, v = .slice p n cap ∧ cs.length = n * esz := by
  obtain ⟨p, n, cap, cc, rfl, h1, h2, h3⟩ := h
  refine ⟨p, n, cap, rfl, ?_⟩
  subst h3
  have := h1.len
  have h4 : n * esz ≤ cap * esz := Nat.mul_le_mul_right _ h2
  simp; omega
theorem Sl.form1 {σ : H} {v : Value} {cs : List Value} (h : Sl σ 1 v cs) : ∃ p cap, v = .slice p cs.length cap := by
  obtain ⟨p, n, cap, rfl, hl⟩ := h.form
  exact ⟨p, cap, by rw [hl]; simp⟩
/-- A cell of a slice. -/
theorem Sl.cell {σ : H} {esz : Nat} {p : Option Addr} {n cap : Nat} {cs : List Value} (h : Sl σ esz (.slice p n cap) cs) {i : Nat} (hi : i < cs.length) : ∃ b o, p = some ⟨b, o, none⟩ ∧ b ≠ 0 ∧ b < σ.next ∧ cellAt (σ.get b) (o + i) = some cs[i] := by
  obtain ⟨p', n', cap', cc, e, h1, h2, h3⟩ := h
  cases e
  subst h3
  cases h1 with
  | nil => simp at hi
  | void o => simp at hi
  | row b o cap e c0 m hb hlt hg hl =>
    refine ⟨b, o, rfl, hb, hlt, ?_⟩
    rw [hg, cellAt_cells]
    simp at hi ⊢
theorem Byts.cell {σ : H} {p : Option Addr} {n cap : Nat} {xs : List UInt8} (h : Byts σ (.slice p n cap) xs) {i : Nat} (hi : i < xs.length) : ∃ b o, p = some ⟨b, o, none⟩ ∧ b ≠ 0 ∧ b < σ.next ∧ cellAt (σ.get b) (o + i) = some (.int .u8 (xs[i].toNat : Int)) := by
  obtain ⟨b, o, h1, h2, h3, h4⟩ := Sl.cell h (i := i) (by simpa using hi)
  exact ⟨b, o, h1, h2, h3, by rw [h4]; simp [bv]⟩
theorem Byts.form {σ : H} {v : Value} {xs : List UInt8} (h : Byts σ v xs) : ∃ p cap, v = .slice p xs.length cap := by
  obtain ⟨p, cap, rfl⟩ := Sl.form1 h
  exact ⟨p, cap, by simp⟩
theorem Ints.form {σ : H} {v : Value} {xs : List Int} (h : Ints σ v xs) : ∃ p cap, v = .slice p xs.length cap := by
  obtain ⟨p, cap, rfl⟩ := Sl.form1 h
  exact ⟨p, cap, by simp⟩
theorem Ints.cell {σ : H} {p : Option Addr} {n cap : Nat} {xs : List Int} (h : Ints σ (.slice p n cap) xs) {i : Nat} (hi : i < xs.length) : ∃ b o, p = some ⟨b, o, none⟩ ∧ b ≠ 0 ∧ b < σ.next ∧ cellAt (σ.get b) (o + i) = some (.int .i64 xs[i]) := by
  obtain ⟨b, o, h1, h2, h3, h4⟩ := Sl.cell h (i := i) (by simpa using hi)
  exact ⟨b, o, h1, h2, h3, by rw [h4]; simp [iv]⟩
theorem Sl.src {σ : H} {esz : Nat} {p : Option Addr} {n cap : Nat} {cs : List Value} (h : Sl σ esz (.slice p n cap) cs) : srcCells σ esz p n = some cs := by
  obtain ⟨p', n', cap', cc, e, h1, h2, h3⟩ := h
  cases e
  subst h3
  cases n with
  | zero => simp [srcCells]
  | succ n =>
    cases h1 with
    | nil => omega
    | void o => omega
    | row b o cap e c0 m hb hlt hg hl =>
      have h4 : (n + 1) * esz ≤ cap * esz := Nat.mul_le_mul_right _ h2
      simp only [srcCells, rdCells_eq, hg, cutAt_cells]
      rw [if_pos (by omega), List.take_take, Nat.min_eq_left h4]

/-! ### Slicing -/
theorem ow_slice {σ : H} {p p' : Option Addr} {n c n' c' : Nat} (h : Ow σ (.slice p n c)) (hb : vblk (.slice p' n' c') = none ∨ vblk (.slice p' n' c') = vblk (.slice p n c)) : Ow σ (.slice p' n' c') := fun b hbb => by
  rcases hb with hb | hb
  · rw [hb] at hbb; cases hbb
  · exact h b (by rw [← hb]; exact hbb)
theorem bound_in {x : Int} {y : Nat} (h0 : 0 ≤ x) (h1 : x ≤ y) : bound x y = some x.toNat := by
  have a : ¬ x < 0 := by omega
  have b : ¬ (y : Int) < x := by omega
  simp [bound, ltI_eq, a, b]
/-- x[l:h] of what lies there. -/
theorem slice_core {σ : H} {esz : Nat} {p : Option Addr} {n cap : Nat} {cc : List Value} (h : SlP σ esz p cap cc) (hz : esz ≠ 0) {l hh : Nat} (h1 : l ≤ hh) (h2 : hh ≤ cap) (lo hi : Option Int) (hlo : cutLow lo hh = some l) (hhi : cutHigh hi none n cap = some hh) :
    ∃ p' c', sliceV σ esz p n cap lo hi none = some (.slice p' (hh - l) c') ∧ SlP σ esz p' c' (cc.drop (l * esz)) ∧ hh - l ≤ c' ∧ (vblk (.slice p' (hh - l) c') = none ∨ vblk (.slice p' (hh - l) c') = vblk (.slice p n cap)) := by
  have hle : Nat.ble hh cap = true := by rw [nble]; simpa using h2
  unfold sliceV
  simp only [cutMax, hhi, hlo, hle]
  cases h with
  | nil =>
    obtain rfl : hh = 0 := by omega
    obtain rfl : l = 0 := by omega
    exact ⟨none, 0, rfl, by simpa using SlP.nil, Nat.le_refl _, .inl rfl⟩
  | void o =>
    obtain rfl : hh = 0 := by omega
    obtain rfl : l = 0 := by omega
    refine ⟨some ⟨0, 0, none⟩, 0, by simp [nbeq], by simpa using SlP.void 0, Nat.le_refl _, .inl (by simp [vblk])⟩
  | row b o cap e c0 m hb hlt hg hl =>
    have hb0 : Nat.beq b 0 = false := by rw [nbeq, decide_eq_false hb]
    have hrow : Nat.beq (rowSize σ b) esz = true := by simp [rowSize, hg]
    simp only [hb0, hrow]
    have hlm : l * esz ≤ cap * esz := Nat.mul_le_mul_right _ (by omega)
    have hsub : (cap - l) * esz = cap * esz - l * esz := Nat.sub_mul _ _ _
    have hnew : SlP σ esz (some ⟨b, o + l * esz, none⟩) (cap - l) (((c0.drop o).take (cap * esz)).drop (l * esz)) := by
      have := SlP.row (σ := σ) (esz := esz) b (o + l * esz) (cap - l) e c0 m hb hlt hg (by omega)
      rw [List.drop_take, List.drop_drop, ← hsub]
      exact this
    have hvb : vblk (.slice (some ⟨b, o + l * esz, none⟩) (hh - l) (cap - l)) = vblk (.slice (some ⟨b, o, none⟩) n cap) := by simp [vblk]
    have hend : atEnd σ ⟨b, o, none⟩ cap = (decide (m = .grown) && decide (o + cap * esz = c0.length)) := by
      unfold atEnd
      rw [hg]
      cases m <;> simp [nbeq]
    have hend0 : atEnd σ ⟨b, o, none⟩ 0 = (decide (m = .grown) && decide (o = c0.length)) := by
      unfold atEnd
      rw [hg]
      cases m <;> simp [nbeq]
    by_cases hlc : l = cap
    · subst hlc
      obtain rfl : hh = l := by omega
      have hdz : ((c0.drop o).take (hh * esz)).drop (hh * esz) = [] := List.drop_eq_nil_of_le (by simp; omega)
      cases hE : atEnd σ ⟨b, o, none⟩ hh with
      | true =>
        refine ⟨some ⟨0, 0, none⟩, 0, by simp [nbeq], by rw [hdz]; exact SlP.void 0, by omega, .inl (by simp [vblk])⟩
      | false =>
        have hE0 : atEnd σ ⟨b, o, none⟩ 0 = false := by
          rw [hend] at hE
          rw [hend0]
          cases hm : decide (m = Mode.grown) with
          | false => simp
          | true =>
            rw [hm] at hE
            simp at hE ⊢
            intro ho
            have : hh * esz = 0 := by omega
            omega
        refine ⟨some ⟨b, o, none⟩, 0, by simp [nbeq, hE0], ?_, by omega, .inr (by simp [vblk])⟩
        rw [hdz]
        have := SlP.row (σ := σ) (esz := esz) b o 0 e c0 m hb hlt hg (by omega)
        simpa using this
    · have hlc' : Nat.beq l cap = false := by rw [nbeq, decide_eq_false hlc]
      cases hE : atEnd σ ⟨b, o, none⟩ cap with
      | true => exact ⟨_, _, by simp only [hlc'], hnew, by omega, .inr hvb⟩
      | false => exact ⟨_, _, by simp only [hlc'], hnew, by omega, .inr hvb⟩

/-- x[l:] -/
theorem slice_from {σ : H} {esz : Nat} {p : Option Addr} {n cap : Nat} {cs : List Value} (h : Sl σ esz (.slice p n cap) cs) (hz : esz ≠ 0) (k : IntKind) {l : Nat} (hl : l ≤ n) (i : Int) (hi : i = l) :
    ∃ p' c', prim (.slice esz true false false) [.slice p n cap, .int k i] σ = some (.slice p' (n - l) c', σ) ∧ Sl σ esz (.slice p' (n - l) c') (cs.drop (l * esz)) ∧ (vblk (.slice p' (n - l) c') = none ∨ vblk (.slice p' (n - l) c') = vblk (.slice p n cap)) := by
  subst hi
  obtain ⟨p0, n0, cap0, cc, e, h1, h2, rfl⟩ := h
  cases e
  obtain ⟨p', c', g1, g2, g3, g4⟩ := slice_core (n := n) h1 hz hl h2 (some (l : Int)) none (by simp [cutLow, bound_in (Int.natCast_nonneg l) (show (l : Int) ≤ n by omega)]) rfl
  refine ⟨p', c', by simp [prim, pSlice, optInts, intOf?, g1], ⟨p', n - l, c', _, rfl, g2, g3, ?_⟩, g4⟩
  rw [List.drop_take, Nat.sub_mul]
/-- x[:h] -/
theorem slice_to {σ : H} {esz : Nat} {p : Option Addr} {n cap : Nat} {cs : List Value} (h : Sl σ esz (.slice p n cap) cs) (hz : esz ≠ 0) (k : IntKind) {hh : Nat} (hl : hh ≤ n) (i : Int) (hi : i = hh) :
    ∃ p' c', prim (.slice esz false true false) [.slice p n cap, .int k i] σ = some (.slice p' hh c', σ) ∧ Sl σ esz (.slice p' hh c') (cs.take (hh * esz)) ∧ (vblk (.slice p' hh c') = none ∨ vblk (.slice p' hh c') = vblk (.slice p n cap)) := by
  subst hi
  obtain ⟨p0, n0, cap0, cc, e, h1, h2, rfl⟩ := h
  cases e
  obtain ⟨p', c', g1, g2, g3, g4⟩ := slice_core (n := n) (l := 0) (hh := hh) h1 hz (by omega) (by omega) none (some (hh : Int)) rfl (by simp [cutHigh, bound_in (Int.natCast_nonneg hh) (show (hh : Int) ≤ cap by omega)])
  rw [Nat.sub_zero] at g1 g3 g4
  refine ⟨p', c', by simp [prim, pSlice, optInts, intOf?, g1], ⟨p', hh, c', _, rfl, g2, g3, ?_⟩, g4⟩
  have h5 : hh * esz ≤ n * esz := Nat.mul_le_mul_right _ hl
  rw [List.take_take, Nat.min_eq_left h5]
  simp
/-- x[l:h] -/
theorem slice_of {σ : H} {esz : Nat} {p : Option Addr} {n cap : Nat} {cs : List Value} (h : Sl σ esz (.slice p n cap) cs) (hz : esz ≠ 0) (k k' : IntKind) {l hh : Nat} (hl : l ≤ hh) (hn : hh ≤ n) (i j : Int) (hi : i = l) (hj : j = hh) :
    ∃ p' c', prim (.slice esz true true false) [.slice p n cap, .int k i, .int k' j] σ = some (.slice p' (hh - l) c', σ) ∧ Sl σ esz (.slice p' (hh - l) c') ((cs.drop (l * esz)).take ((hh - l) * esz)) ∧ (vblk (.slice p' (hh - l) c') = none ∨ vblk (.slice p' (hh - l) c') = vblk (.slice p n cap)) := by
  subst hi hj
  obtain ⟨p0, n0, cap0, cc, e, h1, h2, rfl⟩ := h
  cases e
  obtain ⟨p', c', g1, g2, g3, g4⟩ := slice_core (n := n) h1 hz hl (by omega) (some (l : Int)) (some (hh : Int)) (by simp [cutLow, bound_in (Int.natCast_nonneg l) (show (l : Int) ≤ hh by omega)]) (by simp [cutHigh, bound_in (Int.natCast_nonneg hh) (show (hh : Int) ≤ cap by omega)])
  refine ⟨p', c', by simp [prim, pSlice, optInts, intOf?, g1], ⟨p', hh - l, c', _, rfl, g2, g3, ?_⟩, g4⟩
  have h5 : hh * esz ≤ n * esz := Nat.mul_le_mul_right _ hn
  rw [List.drop_take, List.take_take, Nat.sub_mul, Nat.min_eq_left (by omega)]

/-! ### New rows -/
theorem lrep_one (z : Value) (n : Nat) : lrep [z] n = List.replicate n z := by
  induction n with
  | zero => rfl
  | succ n ih => rw [lrep, ih, List.replicate_succ]; rfl
theorem lrep_len' (z : List Value) : ∀ n, (lrep z n).length = n * z.length
  | 0 => by simp [lrep]
  | n + 1 => by rw [lrep, List.length_append, lrep_len' z n, Nat.succ_mul]; omega
theorem prim_newSlice {σ : H} {elem esz bytes : Nat} {z : List Value} {n : Nat} (k k' : IntKind) (h1 : 1 ≤ bytes) (h2 : n * bytes ≤ 140737488355328) : prim (.newSlice elem esz bytes z) [.int k (n : Int), .int k' (n : Int)] σ = some (.slice (some ⟨σ.next, 0, none⟩) n n, σ.push (.cells (lrep z n) elem esz .exact)) := by
  have h3 : Nat.ble (n * bytes) room = true := by rw [nble]; exact decide_eq_true h2
  have h4 : Nat.ble 1 bytes = true := by rw [nble]; simpa using h1
  have h5 : ltI (n : Int) 0 = false := by rw [ltI_eq]; simp
  have h6 : ltI (n : Int) n = false := by rw [ltI_eq]; simp
  simp only [prim, pNewSlice, h5, h6, Int.toNat_natCast, h3, h4, Bool.not_false, Bool.and_self]
theorem Sl.fresh {σ : H} (h0 : σ.next ≠ 0) (c : List Value) (elem esz n : Nat) (m : Mode) (hl : n * esz = c.length) : Sl (σ.push (.cells c elem esz m)) esz (.slice (some ⟨σ.next, 0, none⟩) n n) c := by
  refine ⟨_, n, n, _, rfl, SlP.row σ.next 0 n elem c m h0 (by simp) (by simp) (by omega), Nat.le_refl _, ?_⟩
  simp [hl]

/-! ### append -/
/-- What 'append' answers. -/
theorem append_core {σ : H} {elem esz bytes : Nat} {p : Option Addr} {n cap : Nat} {cs new : List Value} {k : Nat} (h : Sl σ esz (.slice p n cap) cs) (ho : Ow σ (.slice p n cap)) (hv : ∀ o, p ≠ some ⟨0, o, none⟩) (h0 : σ.next ≠ 0) (hz : esz ≠ 0) (hb : 1 ≤ bytes) (hroom : (n + k) * bytes ≤ 140737488355328)
    (hl : new.length = k * esz) (hok : new.all cellOk = true) :
    ∃ p' c' σ', appendV σ elem esz bytes p n cap k new = some (.slice p' (n + k) c', σ') ∧ Sl σ' esz (.slice p' (n + k) c') (cs ++ new) ∧ Ow σ' (.slice p' (n + k) c') ∧ Same (fun b => vblk (.slice p n cap) = some b) σ σ' ∧
      (vblk (.slice p' (n + k) c') = vblk (.slice p n cap) ∨ ∃ b, vblk (.slice p' (n + k) c') = some b ∧ σ.next ≤ b) ∧ (∀ o, p' ≠ some ⟨0, o, none⟩) ∧ (p' = none → p = none ∧ k = 0) := by
  have h1b : Nat.ble 1 bytes = true := by rw [nble]; exact decide_eq_true hb
  have hrm : Nat.ble ((n + k) * bytes) room = true := by rw [nble]; exact decide_eq_true hroom
  have hnl : Nat.beq new.length (k * esz) = true := by rw [nbeq]; exact decide_eq_true hl
  have hsrc := h.src
  have h' := h
  obtain ⟨p0, n0, cap0, cc, e, h1, h2, h3⟩ := h
  cases e
  have hcl : cs.length = n * esz := by
    have := h1.len
    have h4 : n * esz ≤ cap * esz := Nat.mul_le_mul_right _ h2
    subst h3; simp; omega
  cases k with
  | zero =>
    have hnew : new = [] := List.eq_nil_of_length_eq_zero (by simpa using hl)
    subst hnew
    have hle : Nat.ble n cap = true := by rw [nble]; exact decide_eq_true h2
    refine ⟨p, cap, σ, by simp only [appendV, hle]; rfl, by simpa using h', ho, Same.refl _ _, .inl rfl, hv, fun h => ⟨h, rfl⟩⟩
  | succ k =>
    -- a new row
    have fresh : ∀ (σ1 : H) (m : Mode), m ≠ .ro → σ1.next = σ.next → Same (fun b => vblk (.slice p n cap) = some b) σ σ1 →
        Sl (σ1.push (.cells (cs ++ new) elem esz m)) esz (.slice (some ⟨σ.next, 0, none⟩) (n + (k + 1)) (n + (k + 1))) (cs ++ new) ∧ Ow (σ1.push (.cells (cs ++ new) elem esz m)) (.slice (some ⟨σ.next, 0, none⟩) (n + (k + 1)) (n + (k + 1))) ∧
          Same (fun b => vblk (.slice p n cap) = some b) σ (σ1.push (.cells (cs ++ new) elem esz m)) ∧ (vblk (.slice (some ⟨σ.next, 0, none⟩) (n + (k + 1)) (n + (k + 1))) = vblk (.slice p n cap) ∨ ∃ b, vblk (.slice (some ⟨σ.next, 0, none⟩) (n + (k + 1)) (n + (k + 1))) = some b ∧ σ.next ≤ b) := by
      intro σ1 m hm hnx hsame
      have hS := Sl.fresh (σ := σ1) (by rw [hnx]; exact h0) (cs ++ new) elem esz (n + (k + 1)) m (by simp only [List.length_append, hcl, hl, Nat.add_mul])
      rw [hnx] at hS
      refine ⟨hS, fun b hb => ?_, hsame.push _, .inr ⟨σ.next, by simp [vblk, h0], Nat.le_refl _⟩⟩
      simp [vblk, h0] at hb
      subst hb
      unfold live
      rw [← hnx, H.get_push_same]
      cases m <;> simp_all
    have hgrow : ¬ n + (k + 1) ≤ cap → appendV σ elem esz bytes p n cap (k + 1) new = grow σ elem esz bytes p n cap (k + 1) new := by
      intro hn
      have : Nat.ble (n + (k + 1)) cap = false := by rw [nble]; exact decide_eq_false hn
      simp only [appendV, this]
    have hchk : (Nat.ble ((n + (k + 1)) * bytes) room && Nat.ble 1 bytes && new.all cellOk && Nat.beq new.length ((k + 1) * esz)) = true := by rw [hrm, h1b, hok, hnl]; rfl
    cases h1 with
    | nil =>
      obtain rfl : n = 0 := by omega
      rw [hgrow (by omega)]
      obtain ⟨g1, g2, g3, g4⟩ := fresh σ .grown (by simp) rfl (Same.refl _ _)
      have hcs : cs = [] := List.eq_nil_of_length_eq_zero (by simpa using hcl)
      subst hcs
      simp only [List.nil_append, Nat.zero_add] at g1 g2 g3 g4 hchk ⊢
      exact ⟨_, _, _, by simp only [grow, Nat.zero_add, hchk], g1, g2, g3, g4, by simp [h0], by simp⟩
    | void o =>
      exact absurd rfl (hv o)
    | row b o cap e c0 m hb0 hlt hg hl0 =>
      have hvb : vblk (.slice (some ⟨b, o, none⟩) n cap) = some b := by simp [vblk, hb0]
      have hlive := ho b hvb
      have hmr : m ≠ .ro := by
        rintro rfl
        unfold live at hlive
        rw [hg] at hlive
        cases hlive
      by_cases hfit : n + (k + 1) ≤ cap
      · have hble : Nat.ble (n + (k + 1)) cap = true := by rw [nble]; exact decide_eq_true hfit
        have hm1 : (n + (k + 1)) * esz ≤ cap * esz := Nat.mul_le_mul_right _ hfit
        have hm2 : (n + (k + 1)) * esz = n * esz + (k + 1) * esz := Nat.add_mul _ _ _
        have hw : wrCells σ ⟨b, o + n * esz, none⟩ new = some (σ.put b (.cells (c0.take (o + n * esz) ++ (new ++ c0.drop (o + n * esz + new.length))) e esz m)) := by
          rw [wrCells_eq, hg, layAt_cells, if_pos ⟨hmr, hok, by omega⟩]; rfl
        refine ⟨some ⟨b, o, none⟩, cap, σ.put b (.cells (c0.take (o + n * esz) ++ (new ++ c0.drop (o + n * esz + new.length))) e esz m), by simp only [appendV, hble, hw], ⟨_, _, _, _, rfl, SlP.row b o cap e _ m hb0 (by simpa using hlt) (by simp; rfl) ?_, by omega, ?_⟩, ?_, (Same.refl _ _).put (.inr hvb) _, .inl rfl, by simp [hb0], by simp⟩
        · simp; omega
        · have e1 : List.take ((n + (k + 1)) * esz) (List.take (cap * esz) (List.drop o (c0.take (o + n * esz) ++ (new ++ c0.drop (o + n * esz + new.length))))) = cs ++ new := by
            rw [List.take_take, Nat.min_eq_left hm1, List.drop_append, List.drop_take]
            have hlen : (c0.take (o + n * esz)).length = o + n * esz := by simp; omega
            rw [hlen, show o - (o + n * esz) = 0 by omega, List.drop_zero, show o + n * esz - o = n * esz by omega, hm2, List.take_append, List.take_append]
            have hd : ((c0.drop o).take (n * esz)).length = n * esz := by simp; omega
            have h4 : n * esz ≤ cap * esz := Nat.mul_le_mul_right _ h2
            rw [hd, List.take_of_length_le (by omega), show n * esz + (k + 1) * esz - n * esz = (k + 1) * esz by omega, ← hl, List.take_length, Nat.sub_self, List.take_zero, List.append_nil, h3, List.take_take, Nat.min_eq_left h4]
          exact e1.symm
        · intro b' hb'
          have hb2 : vblk (.slice (some ⟨b, o, none⟩) (n + (k + 1)) cap) = some b := by simp [vblk, hb0]
          rw [hb2] at hb'
          cases hb'
          unfold live
          rw [H.get_put_same]
          cases m <;> simp_all
      · rw [hgrow hfit]
        have hrow : Nat.beq (rowSize σ b) esz = true := by simp [rowSize, hg]
        have hrd : rdCells σ ⟨b, o, none⟩ (n * esz) = some cs := by
          have h4 : n * esz ≤ cap * esz := Nat.mul_le_mul_right _ h2
          rw [rdCells_eq, hg, cutAt_cells, if_pos (by omega), h3, List.take_take, Nat.min_eq_left h4]
        cases hE : atEnd σ ⟨b, o, none⟩ cap with
        | true =>
          have hdead : Same (fun b' => vblk (.slice (some ⟨b, o, none⟩) n cap) = some b') σ (σ.put b .dead) := (Same.refl _ _).put (.inr hvb) _
          obtain ⟨g1, g2, g3, g4⟩ := fresh (σ.put b .dead) .grown (by simp) rfl hdead
          exact ⟨_, _, _, by simp only [grow, hchk, hrow, hrd, hE, hlive], g1, g2, g3, g4, by simp [h0], by simp⟩
        | false =>
          obtain ⟨g1, g2, g3, g4⟩ := fresh σ .grown (by simp) rfl (Same.refl _ _)
          exact ⟨_, _, _, by simp only [grow, hchk, hrow, hrd, hE], g1, g2, g3, g4, by simp [h0], by simp⟩

@[simp] theorem prim_append (σ : H) (elem esz bytes : Nat) (p x : Option Addr) (n cap k c : Nat) : prim (.append elem esz bytes) [.slice p n cap, .slice x k c] σ = (srcCells σ esz x k).bind fun new => appendV σ elem esz bytes p n cap k new := by
  simp only [prim, pAppend]
  cases srcCells σ esz x k <;> rfl
theorem prim_appendZ (σ : H) (elem esz bytes : Nat) (z : List Value) (p : Option Addr) (n cap k : Nat) (kk : IntKind) (h : k < 140737488355328) (h2 : k * bytes ≤ 140737488355328) :
    prim (.appendZ elem esz bytes z) [.slice p n cap, .int kk (k : Int)] σ = appendV σ elem esz bytes p n cap k (lrep z k) := by
  have a : ltI (k : Int) 0 = false := by rw [ltI_eq]; simp
  have b : ltI (k : Int) (room : Nat) = true := by rw [ltI_eq]; exact decide_eq_true (by show (k : Int) < ((140737488355328 : Nat) : Int); omega)
  have c : Nat.ble (k * bytes) room = true := by rw [nble]; exact decide_eq_true h2
  simp only [prim, pAppendZ, a, b, Int.toNat_natCast, c, Bool.not_false, Bool.and_self]

/-! ### A buffer of one's own: a slice that is appended to -/
structure Buf (σ : H) (v : Value) (ob : Option Nat) (xs : List UInt8) : Prop where
  rd : Byts σ v xs
  own : Ow σ v
  blk : vblk v = ob
  nv : ∀ o n c, v ≠ .slice (some ⟨0, o, none⟩) n c
def Fresh (σ : H) (ob : Option Nat) : Prop := ∀ b, ob = some b → σ.next ≤ b
theorem Buf.nil (σ : H) : Buf σ (.slice none 0 0) none [] := ⟨Sl.nil _ _, Ow.nil _, rfl, by simp⟩
theorem Buf.same {S : Nat → Prop} {σ σ' : H} {v : Value} {ob : Option Nat} {xs : List UInt8} (h : Buf σ v ob xs) (hs : Same S σ σ') (hn : ∀ b, ob = some b → ¬ S b) : Buf σ' v ob xs :=
  ⟨h.rd.same hs fun b hb => hn b (by rw [← h.blk]; exact hb), h.own.keep fun b hb => hs.get b (h.rd.lt hb) (hn b (by rw [← h.blk]; exact hb)), h.blk, h.nv⟩
theorem Buf.app {σ : H} {p : Option Addr} {n cap : Nat} {ob : Option Nat} {xs ys : List UInt8} (h : Buf σ (.slice p n cap) ob xs) (h0 : σ.next ≠ 0) (hr : xs.length + ys.length ≤ 1000000000) :
    ∃ p' c' σ' ob', appendV σ 5 1 1 p n cap ys.length (ys.map bv) = some (.slice p' (n + ys.length) c', σ') ∧ Buf σ' (.slice p' (n + ys.length) c') ob' (xs ++ ys) ∧ (ob' = ob ∨ ∃ b, ob' = some b ∧ σ.next ≤ b) ∧ Same (fun b => ob = some b) σ σ' ∧ (p' = none → p = none ∧ ys.length = 0) := by
  obtain ⟨p0, c0, e⟩ := h.rd.form
  cases e
  obtain ⟨p', c', σ', g1, g2, g3, g4, g5, g6, g7⟩ := append_core (elem := 5) (bytes := 1) (new := ys.map bv) (k := ys.length) h.rd h.own (fun o e => h.nv o _ _ (by rw [e])) h0 (by decide) (by decide) (by omega) (by simp) (by simp [bv, cellOk])
  rw [h.blk] at g4 g5
  refine ⟨p', c', σ', _, g1, ⟨?_, g3, rfl, fun o n c e => by cases e; exact g6 o rfl⟩, g5, g4, g7⟩
  unfold Byts
  rw [List.map_append]; exact g2
end AM
end Go.Proofs.YtlelihddjacplaaGreat
namespace Go.Proofs.YtlelihddjacplaaGreat
namespace AM
variable [Aw]

/-! ### The sum -/
noncomputable def crc1 (r : Nat) : Nat := if r &&& 2147483648 ≠ 0 then md .u32 (r * 2) ^^^ 1947962583 else md .u32 (r * 2)
noncomputable def crcN : Nat → Nat → Nat
  | 0, r => r
  | n + 1, r => crc1 (crcN n r)
noncomputable def crcB (r : Nat) (b : UInt8) : Nat := crcN 8 (r ^^^ md .u32 (b.toNat * 16777216))
noncomputable def crcR (r : Nat) (xs : List UInt8) : Nat := xs.foldl crcB r
noncomputable def more (s : Nat) (xs : List UInt8) : Nat := crcR (s ^^^ 4294967295) xs ^^^ 4294967295

omit [Aw] in
theorem crc1_lt {r : Nat} : crc1 r < 4294967296 := by
  unfold crc1
  split
  · exact Nat.xor_lt_two_pow (n := 32) (md_lt32 _) (by omega)
  · exact md_lt32 _
omit [Aw] in
theorem crcN_lt {n r : Nat} (h : r < 4294967296) : crcN n r < 4294967296 := by
  cases n with
  | zero => exact h
  | succ n => exact crc1_lt
omit [Aw] in
theorem crcB_lt {r : Nat} {b : UInt8} (h : r < 4294967296) : crcB r b < 4294967296 := crcN_lt (Nat.xor_lt_two_pow (n := 32) h (md_lt32 _))
omit [Aw] in
theorem crcR_lt : ∀ {xs : List UInt8} {r : Nat}, r < 4294967296 → crcR r xs < 4294967296
  | [], _, h => h
  | b :: xs, r, h => crcR_lt (xs := xs) (crcB_lt h)
omit [Aw] in
theorem crcR_snoc (r : Nat) (xs : List UInt8) (b : UInt8) : crcR r (xs ++ [b]) = crcB (crcR r xs) b := by simp [crcR]
omit [Aw] in
theorem take_succ_get {α : Type} (xs : List α) {i : Nat} (h : i < xs.length) : xs.take (i + 1) = xs.take i ++ [xs[i]] := by
  rw [List.take_succ_eq_append_getElem h]
omit [Aw] in
theorem more_lt {s : Nat} (h : s < 4294967296) (xs : List UInt8) : more s xs < 4294967296 :=
  Nat.xor_lt_two_pow (n := 32) (crcR_lt (Nat.xor_lt_two_pow (n := 32) h (by decide))) (by decide)

theorem more_run (s : Nat) (hs : s < 4294967296) {σ : H} {v : Value} {xs : List UInt8} (hb : Byts σ v xs) (hl : xs.length < 1000000000) : Ru 221 [.int .u32 s, v] σ fun r σ' => r = .ok (.int .u32 (more s xs : Nat)) ∧ σ' = σ := by
  obtain ⟨p, c, rfl⟩ := hb.form
  have hs1 : s ^^^ 4294967295 < 4294967296 := Nat.xor_lt_two_pow (n := 32) hs (by decide)
  refine ru_fn (F := f221) rfl rfl rfl (by simp) ?_
  simp [f221, prim_compl32, hs]
  refine wp_loop (α := Nat) (fun i e σ1 => σ1 = σ ∧ i ≤ xs.length ∧ e = [(5, .int .u32 (crcR (s ^^^ 4294967295) (xs.take i) : Nat)), (11, .slice p xs.length c), (12, .int .i64 xs.length), (13, .int .i64 i)]) (fun i => xs.length - i) 0 (by simp [crcR]) ?_
  rintro i e σ1 ⟨rfl, hi, rfl⟩
  have hr : crcR (s ^^^ 4294967295) (xs.take i) < 4294967296 := crcR_lt hs1
  refine wp_of _ _ _ _ ?_
  simp [l221_1]
  refine WpB.dec (fun h => ?_) (fun h => ?_)
  · have h : i < xs.length := by omega
    obtain ⟨b, o, rfl, _, _, hx⟩ := hb.cell h
    simp [h, hx]
    generalize hrr : crcR (s ^^^ 4294967295) (xs.take i) = r at *
    simp [prim_xor, hr]
    have h3 : r ^^^ md .u32 (xs[i].toNat * 16777216) < 4294967296 := Nat.xor_lt_two_pow (n := 32) hr (md_lt32 _)
    generalize hr0 : r ^^^ md .u32 (xs[i].toNat * 16777216) = r0 at *
    refine wp_loop (α := Nat) (fun j e σ2 => σ2 = σ1 ∧ j ≤ 8 ∧ e = [(5, .int .u32 (crcN j r0 : Nat)), (11, .slice (some ⟨b, o, none⟩) xs.length c), (12, .int .i64 xs.length), (13, .int .i64 i), (22, .int .i64 j)]) (fun j => 8 - j) 0 (by simp [crcN]) ?_
    rintro j e σ2 ⟨rfl, hj, rfl⟩
    have hrj : crcN j r0 < 4294967296 := crcN_lt h3
    refine wp_of _ _ _ _ ?_
    simp [l221_0]
    refine WpB.dec (fun h8 => ?_) (fun h8 => ?_)
    · simp [hrj]
      generalize hq : crcN j r0 = q at *
      by_cases hz : q &&& 2147483648 = 0
      · simp [hz]
        rw [wrap64 (by omega) (by omega)]
        refine ⟨j + 1, ⟨by omega, ?_, by simp⟩, by omega⟩
        simp [crcN, crc1, hq, hz]
      · simp [hz]
        rw [wrap64 (by omega) (by omega)]
        refine ⟨j + 1, ⟨by omega, ?_, by simp⟩, by omega⟩
        simp [crcN, crc1, hq, hz]
    · have : j = 8 := by omega
      subst this
      simp
      rw [wrap64 (by omega) (by omega)]
      refine ⟨i + 1, ⟨by omega, ?_, by simp⟩, by omega⟩
      rw [take_succ_get _ (by omega), crcR_snoc]
      simp [crcB, hrr, hr0]
  · have : i = xs.length := by omega
    subst this
    simp at hr
    simp [more, prim_compl32, hr]
theorem sum_run {σ : H} {v : Value} {xs : List UInt8} (hb : Byts σ v xs) (hl : xs.length < 1000000000) : Ru 165 [v] σ fun r σ' => r = .ok (.int .u32 (more 0 xs : Nat)) ∧ σ' = σ := by
  refine ru_fn (F := f165) rfl rfl rfl (by simp) ?_
  simp [f165]
  refine (more_run 0 (by decide) hb hl).mono ?_
  rintro r σ' ⟨rfl, rfl⟩
  simp
end AM
end Go.Proofs.YtlelihddjacplaaGreat
namespace Go.Proofs.YtlelihddjacplaaGreat
namespace AM
variable [Aw]
noncomputable section
def cr1 (r : Nat) : Nat := @Bool.rec (fun _ => Nat) (Nat.xor ((r - 2147483648) * 2) 1947962583) (r * 2) (Nat.blt r 2147483648)
def cr8 (r : Nat) (K : Nat → Bool) : Bool :=
  fN (cr1 r) fun r => fN (cr1 r) fun r => fN (cr1 r) fun r => fN (cr1 r) fun r => fN (cr1 r) fun r => fN (cr1 r) fun r => fN (cr1 r) fun r => fN (cr1 r) K
/-- A byte. -/
def vU (v : Value) (K : Nat → Bool) : Bool := vI v (fun k n => @Bool.rec (fun _ => Bool) false (@Int.rec (fun _ => Bool) (fun n => @Bool.rec (fun _ => Bool) false (K n) (Nat.blt n 256)) (fun _ => false) n) (Nat.beq (kN k) 4)) false
def crL : List Value → Nat → (Nat → Bool) → Bool :=
  @List.rec Value (fun _ => Nat → (Nat → Bool) → Bool) (fun r K => K r) (fun v _ ih r K => vU v fun n => cr8 (Nat.xor r (n * 16777216)) fun r => ih r K)
def sumK (vs : List Value) (σ : H) (K : Res → H → Bool) : Bool :=
  match vs with
  | [.slice (some ⟨b, o, none⟩) n c] => match Nat.beq b 0 || (Nat.ble σ.next b || (Nat.blt c n || Nat.ble 1000000 n)) with
    | true => false
    | false => tget σ.t b fun ob => match ob with
      | .cells c0 e s m => match Nat.beq s 1 with
        | true => kcut c0 o c fun cc => ktake cc n fun l => crL l 4294967295 fun r => fN (Nat.xor r 4294967295) fun r => K (.ok (.int .u32 (.ofNat r))) σ
        | false => false
      | _ => false
  | _ => false
omit [Aw] in
theorem and_two (r i : Nat) : r &&& 2 ^ i = (r.testBit i).toNat * 2 ^ i := by
  apply Nat.eq_of_testBit_eq
  intro j
  rw [Nat.testBit_and, Nat.testBit_two_pow]
  by_cases h : i = j
  · subst h
    cases hb : r.testBit i <;> simp
  · cases hb : r.testBit i <;> simp [h]
omit [Aw] in
theorem top32 {r : Nat} (h : r < 4294967296) : r &&& 2147483648 = if r < 2147483648 then 0 else 2147483648 := by
  have h1 := and_two r 31
  rw [Nat.testBit_eq_decide_div_mod_eq] at h1
  rw [show (2147483648 : Nat) = 2 ^ 31 from by decide, h1]
  by_cases h2 : r < 2 ^ 31
  · rw [if_pos h2, decide_eq_false (by omega)]; rfl
  · rw [if_neg h2, decide_eq_true (by omega)]; rfl
omit [Aw] in
theorem cr1_eq {r : Nat} (h : r < 4294967296) : cr1 r = crc1 r := by
  unfold cr1 crc1
  rw [top32 h, md32, nblt]
  by_cases h2 : r < 2147483648
  · rw [decide_eq_true h2, if_pos h2, if_neg (by simp)]
    show r * 2 = _
    omega
  · rw [decide_eq_false h2, if_neg h2, if_pos (by simp)]
    show Nat.xor ((r - 2147483648) * 2) 1947962583 = _
    rw [show (r - 2147483648) * 2 = r * 2 % 4294967296 from by omega]
    rfl
omit [Aw] in
theorem cr8_eq {r : Nat} (h : r < 4294967296) (K : Nat → Bool) : cr8 r K = K (crcN 8 r) := by
  simp only [cr8, fN_eq, crcN]
  rw [cr1_eq h, cr1_eq crc1_lt, cr1_eq crc1_lt, cr1_eq crc1_lt, cr1_eq crc1_lt, cr1_eq crc1_lt, cr1_eq crc1_lt, cr1_eq crc1_lt]
omit [Aw] in
theorem vU_of {v : Value} {K : Nat → Bool} (h : vU v K = true) : ∃ b : UInt8, v = bv b ∧ K b.toNat = true := by
  unfold vU at h
  rcases vI_of h with ⟨k, n, hv, h1⟩ | h1
  · cases hk : Nat.beq (kN k) 4 with
    | false => rw [hk] at h1; cases h1
    | true =>
      rw [hk] at h1
      have e : k = .u8 := by cases k <;> first | rfl | cases hk
      subst e
      cases n with
      | negSucc n => cases h1
      | ofNat n =>
        replace h1 : @Bool.rec (fun _ => Bool) false (K n) (Nat.blt n 256) = true := h1
        cases hn : Nat.blt n 256 with
        | false => rw [hn] at h1; cases h1
        | true =>
          rw [hn] at h1
          rw [nblt] at hn
          have hn := of_decide_eq_true hn
          have e2 : (UInt8.ofNat n).toNat = n := by simp; omega
          exact ⟨UInt8.ofNat n, by rw [hv, bv, e2]; rfl, by rw [e2]; exact h1⟩
  · cases h1
omit [Aw] in
theorem crL_of : ∀ {l : List Value} {r : Nat} {K : Nat → Bool}, r < 4294967296 → crL l r K = true → ∃ xs : List UInt8, l = xs.map bv ∧ K (crcR r xs) = true
  | [], r, K, hr, h => ⟨[], rfl, h⟩
  | v :: l, r, K, hr, h => by
    obtain ⟨b, hv, h1⟩ := vU_of (v := v) (K := fun n => cr8 (Nat.xor r (n * 16777216)) fun r => crL l r K) h
    have hb := UInt8.toNat_lt b
    have e : md .u32 (b.toNat * 16777216) = b.toNat * 16777216 := by rw [md32]; omega
    have h3 : Nat.xor r (b.toNat * 16777216) < 4294967296 := Nat.xor_lt_two_pow (n := 32) hr (by omega)
    rw [cr8_eq h3] at h1
    obtain ⟨xs, h4, h5⟩ := crL_of (crcN_lt h3) h1
    refine ⟨b :: xs, by rw [hv, h4]; rfl, ?_⟩
    show K (crcR (crcB r b) xs) = true
    rw [crcB, e]
    exact h5
omit [Aw] in
theorem ktake_some : ∀ {l : List Value} {n : Nat} {r : List Value}, ltake l n = some r → n ≤ l.length ∧ r = l.take n
  | l, 0, r, h => by cases l <;> (simp [ltake] at h; subst h; simp)
  | [], n + 1, r, h => by simp [ltake] at h
  | v :: l, n + 1, r, h => by
    simp only [ltake] at h
    cases ht : ltake l n with
    | none => rw [ht] at h; cases h
    | some r' =>
      rw [ht] at h
      cases h
      obtain ⟨h1, h2⟩ := ktake_some ht
      exact ⟨by simp; omega, by simp [h2]⟩
omit [Aw] in
theorem kcut_some : ∀ {l : List Value} {o n : Nat} {r : List Value}, lcut l o n = some r → o + n ≤ l.length ∧ r = (l.drop o).take n
  | l, 0, n, r, h => by
    have h : ltake l n = some r := by cases l <;> simpa [lcut] using h
    obtain ⟨h1, h2⟩ := ktake_some h
    exact ⟨by omega, by simpa using h2⟩
  | [], o + 1, n, r, h => by cases n <;> simp [lcut] at h
  | v :: l, o + 1, n, r, h => by
    simp only [lcut] at h
    obtain ⟨h1, h2⟩ := kcut_some h
    exact ⟨by simp; omega, by simpa using h2⟩
theorem sumK_of {vs : List Value} {σ : H} {K : Res → H → Bool} (h : sumK vs σ K = true) : Ru 165 vs σ fun r σ' => K r σ' = true := by
  unfold sumK at h
  split at h
  · rename_i b o n c
    split at h
    · cases h
    · rename_i hc
      simp only [Bool.or_eq_false_iff, nbeq, nble, nblt, decide_eq_false_iff_not] at hc
      obtain ⟨hb, hlt, hn, hm⟩ := hc
      obtain ⟨ob, ho, h1⟩ := tget_of h
      split at h1
      · rename_i c0 e s m
        split at h1
        · rename_i hs
          rw [nbeq] at hs
          have hs := of_decide_eq_true hs
          subst hs
          obtain ⟨cc, h2, h3⟩ := kcut_of h1
          obtain ⟨l, h4, h5⟩ := ktake_of h3
          obtain ⟨xs, h6, h7⟩ := crL_of (by decide) h5
          obtain ⟨h8, h9⟩ := kcut_some h2
          obtain ⟨h10, h11⟩ := ktake_some h4
          rw [fN_eq] at h7
          have hl : xs.length = n := by
            have := congrArg List.length (h6.symm.trans h11)
            simp at this; omega
          have hby : Byts σ (.slice (some ⟨b, o, none⟩) n c) xs := by
            refine ⟨_, n, c, cc, rfl, ?_, by omega, by rw [← h6, h11, Nat.mul_one]⟩
            have := SlP.row (σ := σ) (esz := 1) b o c e c0 m hb (by omega) ho (by omega)
            rw [Nat.mul_one] at this
            rw [h9]; exact this
          refine (sum_run hby (by omega)).mono ?_
          rintro r σ' ⟨rfl, rfl⟩
          exact h7
        · cases h1
      · cases h1
  · cases h
/-- Sums at once. -/
def ovS : Ov := fun k => @Bool.rec (fun _ => Option (List Value → H → (Res → H → Bool) → Bool)) none (some sumK) (Nat.beq k 165)
theorem ovS_ok : OvOK ovS := by
  intro k f hf args σ K h
  unfold ovS at hf
  cases hk : Nat.beq k 165 with
  | false => rw [hk] at hf; cases hf
  | true =>
    rw [hk] at hf
    cases hf
    rw [nbeq] at hk
    have hk := of_decide_eq_true hk
    subst hk
    exact sumK_of h
end
end AM
end Go.Proofs.YtlelihddjacplaaGreat
namespace Go.Proofs.YtlelihddjacplaaGreat
namespace AM

/-- Keys of a kind, as values. -/
structure KEnc (κ : Type) [DecidableEq κ] where
  enc : κ → Value
  ks : Option Nat
  eq : ∀ a b, keyEq ks (enc a) (enc b) = some (decide (a = b))
section
variable {κ α : Type} [DecidableEq κ]
def kvGet : List (κ × α) → κ → Option α
  | [], _ => none
  | p :: r, k => if k = p.1 then some p.2 else kvGet r k
def kvSet : List (κ × α) → κ → α → List (κ × α)
  | [], k, v => [(k, v)]
  | p :: r, k, v => if k = p.1 then (k, v) :: r else p :: kvSet r k v
def kvDel : List (κ × α) → κ → List (κ × α)
  | [], _ => []
  | p :: r, k => if k = p.1 then r else p :: kvDel r k
theorem kvGet_set (kv : List (κ × α)) (k : κ) (v : α) (k' : κ) : kvGet (kvSet kv k v) k' = if k' = k then some v else kvGet kv k' := by
  induction kv with
  | nil => simp [kvSet, kvGet]
  | cons p r ih =>
    unfold kvSet
    split
    · rename_i h; subst h
      simp only [kvGet]
      split <;> simp_all
    · rename_i h
      simp only [kvGet, ih]
      by_cases h1 : k' = p.1
      · have h2 : ¬ k' = k := fun e => h (by rw [← e, h1])
        rw [if_pos h1, if_neg h2, if_pos h1]
      · rw [if_neg h1, if_neg h1]
theorem kvGet_mem {kv : List (κ × α)} {k : κ} {v : α} (h : kvGet kv k = some v) : (k, v) ∈ kv := by
  induction kv with
  | nil => cases h
  | cons p r ih =>
    unfold kvGet at h
    split at h
    · rename_i e; cases h; subst e; simp
    · exact List.mem_cons_of_mem _ (ih h)
theorem kvGet_none {kv : List (κ × α)} {k : κ} : kvGet kv k = none ↔ k ∉ kv.map Prod.fst := by
  induction kv with
  | nil => simp [kvGet]
  | cons p r ih =>
    unfold kvGet
    split
    · rename_i e; simp [e]
    · rename_i e; rw [ih]; simp [e]
theorem kvGet_of_mem {kv : List (κ × α)} (hn : (kv.map Prod.fst).Nodup) {k : κ} {v : α} (h : (k, v) ∈ kv) : kvGet kv k = some v := by
  induction kv with
  | nil => cases h
  | cons p r ih =>
    simp only [List.map_cons, List.nodup_cons] at hn
    unfold kvGet
    rcases List.mem_cons.1 h with rfl | h
    · simp
    · rw [if_neg fun e => hn.1 (by have := List.mem_map_of_mem (f := Prod.fst) h; simp only at e this; rw [e] at this; exact this), ih hn.2 h]
theorem kvSet_keys (kv : List (κ × α)) (k : κ) (v : α) : (kvSet kv k v).map Prod.fst = if k ∈ kv.map Prod.fst then kv.map Prod.fst else kv.map Prod.fst ++ [k] := by
  induction kv with
  | nil => simp [kvSet]
  | cons p r ih =>
    unfold kvSet
    split
    · rename_i e; simp [e]
    · rename_i e
      simp only [List.map_cons, ih, List.mem_cons, e, false_or]
      split <;> simp
theorem kvSet_nodup {kv : List (κ × α)} (h : (kv.map Prod.fst).Nodup) (k : κ) (v : α) : ((kvSet kv k v).map Prod.fst).Nodup := by
  rw [kvSet_keys]
  split
  · exact h
  · rename_i hk
    refine List.nodup_append.2 ⟨h, by simp, fun a ha b hb e => ?_⟩
    simp at hb; subst hb; subst e; exact hk ha
theorem kvDel_sub (kv : List (κ × α)) (k : κ) : (kvDel kv k).Sublist kv := by
  induction kv with
  | nil => exact .slnil
  | cons p r ih =>
    unfold kvDel
    split
    · exact List.sublist_cons_self _ _
    · exact ih.cons_cons _
theorem kvDel_nodup {kv : List (κ × α)} (h : (kv.map Prod.fst).Nodup) (k : κ) : ((kvDel kv k).map Prod.fst).Nodup := h.sublist ((kvDel_sub kv k).map _)
theorem kvGet_del {kv : List (κ × α)} (h : (kv.map Prod.fst).Nodup) (k k' : κ) : kvGet (kvDel kv k) k' = if k' = k then none else kvGet kv k' := by
  induction kv with
  | nil => simp [kvDel, kvGet]
  | cons p r ih =>
    simp only [List.map_cons, List.nodup_cons] at h
    unfold kvDel
    split
    · rename_i e; subst e
      split
      · rename_i e; subst e; exact kvGet_none.2 h.1
      · rename_i e; rw [kvGet, if_neg e]
    · rename_i e
      rw [kvGet, ih h.2, kvGet]
      by_cases h1 : k' = p.1
      · subst h1; rw [if_pos rfl, if_neg (fun e2 => e e2.symm), if_pos rfl]
      · rw [if_neg h1, if_neg h1]
theorem kvSet_len (kv : List (κ × α)) (k : κ) (v : α) : (kvSet kv k v).length = if (kvGet kv k).isSome then kv.length else kv.length + 1 := by
  induction kv with
  | nil => simp [kvSet, kvGet]
  | cons p r ih =>
    unfold kvSet kvGet
    split
    · simp
    · simp only [List.length_cons, ih]; split <;> rfl
theorem kvDel_len (kv : List (κ × α)) (k : κ) : (kvDel kv k).length = if (kvGet kv k).isSome then kv.length - 1 else kv.length := by
  induction kv with
  | nil => simp [kvDel, kvGet]
  | cons p r ih =>
    unfold kvDel kvGet
    split
    · simp
    · simp only [List.length_cons, ih]
      split
      · rename_i h
        cases r with
        | nil => simp [kvGet] at h
        | cons _ _ => simp
      · rfl
end

section
variable {κ : Type} [DecidableEq κ] (E : KEnc κ)
/-- Entries, in the order of their births. -/
inductive Ents : List MapEntry → List (κ × Value) → Prop
  | nil : Ents [] []
  | cons (k : κ) (v : Value) (b : Nat) {es : List MapEntry} {kv : List (κ × Value)} (h : Ents es kv) : Ents (⟨E.enc k, v, b⟩ :: es) ((k, v) :: kv)
structure MapAt (σ : H) (a : Nat) (kv : List (κ × Value)) : Prop where
  ex : ∃ es clk, σ.get a = some (.map es clk) ∧ Ents E es kv ∧ bornOk clk 0 es = true
  nodup : (kv.map Prod.fst).Nodup
variable {E}
theorem Ents.len {es : List MapEntry} {kv : List (κ × Value)} (h : Ents E es kv) : es.length = kv.length := by
  induction h with
  | nil => rfl
  | cons _ _ _ _ ih => simp [ih]
theorem Ents.find (k : κ) : ∀ {es : List MapEntry} {kv : List (κ × Value)}, Ents E es kv → ∀ i, (kvGet kv k = none ∧ findL E.ks (E.enc k) es i = some none) ∨
    ∃ v j, kvGet kv k = some v ∧ findL E.ks (E.enc k) es i = some (some (i + j, v)) ∧ (∀ v', Ents E (setL (E.enc k) v' es j) (kvSet kv k v') ∧ ∀ clk lo, bornOk clk lo (setL (E.enc k) v' es j) = bornOk clk lo es) ∧
      Ents E (dropL es j) (kvDel kv k) ∧ ∀ clk lo, bornOk clk lo es = true → bornOk clk lo (dropL es j) = true
  | _, _, .nil, i => .inl ⟨rfl, rfl⟩
  | _, _, .cons (es := es) (kv := kv) k0 v0 b h, i => by
    by_cases hk : k = k0
    · subst hk
      refine .inr ⟨v0, 0, by simp [kvGet], by simp [findL, E.eq], fun v' => ⟨by simpa [setL, kvSet] using Ents.cons k v' b h, fun clk lo => rfl⟩, by simpa [dropL, kvDel] using h, fun clk lo hb => ?_⟩
      simp only [dropL]
      unfold bornOk at hb
      split at hb
      · rename_i h1
        rw [nble] at h1
        have h1 := of_decide_eq_true h1
        have low : ∀ (es : List MapEntry) (l l' : Nat), l' ≤ l → bornOk clk l es = true → bornOk clk l' es = true := by
          intro es
          cases es with
          | nil => intro l l' hl hb; simp only [bornOk, nble, decide_eq_true_eq] at hb ⊢; omega
          | cons e es =>
            intro l l' hl hb
            simp only [bornOk, nble] at hb ⊢
            by_cases h2 : l ≤ e.born
            · rw [decide_eq_true (show l' ≤ e.born by omega)]
              rw [decide_eq_true h2] at hb
              exact hb
            · rw [decide_eq_false h2] at hb; cases hb
        exact low es _ _ (by omega) hb
      · cases hb
    · rcases h.find k (i + 1) with ⟨h1, h2⟩ | ⟨v, j, h1, h2, h3, h4, h5⟩
      · exact .inl ⟨by simp [kvGet, hk, h1], by simp [findL, E.eq, hk, h2]⟩
      · refine .inr ⟨v, j + 1, by simp [kvGet, hk, h1], by simp [findL, E.eq, hk, h2]; omega, fun v' => ⟨?_, fun clk lo => ?_⟩, ?_, fun clk lo hb => ?_⟩
        · simpa [setL, kvSet, hk] using Ents.cons k0 v0 b (h3 v').1
        · simp only [setL, bornOk, (h3 v').2]
        · simpa [dropL, kvDel, hk] using Ents.cons k0 v0 b h4
        · simp only [dropL]
          unfold bornOk at hb ⊢
          split at hb
          · exact h5 clk _ hb
          · cases hb
theorem Ents.snoc {es : List MapEntry} {kv : List (κ × Value)} (h : Ents E es kv) (k : κ) (v : Value) (b : Nat) (hn : kvGet kv k = none) : Ents E (es ++ [⟨E.enc k, v, b⟩]) (kvSet kv k v) := by
  induction h with
  | nil => exact .cons k v b .nil
  | cons k0 v0 b0 h ih =>
    unfold kvGet at hn
    split at hn
    · cases hn
    · rename_i hk
      simp only at hk
      rw [kvSet, if_neg hk]
      exact .cons k0 v0 b0 (ih hn)
theorem born_snoc {clk : Nat} {k v : Value} : ∀ {es : List MapEntry} {lo : Nat}, bornOk clk lo es = true → bornOk (clk + 1) lo (es ++ [⟨k, v, clk⟩]) = true
  | [], lo, h => by
    simp only [bornOk, nble, decide_eq_true_eq] at h
    simp [bornOk, nble, h]
  | e :: es, lo, h => by
    simp only [List.cons_append]
    unfold bornOk at h ⊢
    split at h
    · exact born_snoc h
    · cases h
theorem keyOk_enc (k : κ) : keyOk E.ks (E.enc k) = true := by simp [keyOk, E.eq]

theorem MapAt.keep {σ σ' : H} {a : Nat} {kv : List (κ × Value)} (h : MapAt E σ a kv) (hk : σ'.get a = σ.get a) : MapAt E σ' a kv := by
  obtain ⟨es, clk, h1, h2, h3⟩ := h.ex
  exact ⟨⟨es, clk, hk.trans h1, h2, h3⟩, h.nodup⟩
theorem MapAt.new (σ : H) : MapAt E (σ.push (.map [] 0)) σ.next [] := ⟨⟨[], 0, H.get_push_same _ _, .nil, rfl⟩, .nil⟩
theorem MapAt.lookup {σ : H} {a : Nat} {kv : List (κ × Value)} (h : MapAt E σ a kv) (k : κ) (zero : Value) : prim (.lookup E.ks zero false) [.map (some a), E.enc k] σ = some ((kvGet kv k).getD zero, σ) := by
  obtain ⟨es, clk, h1, h2, h3⟩ := h.ex
  simp only [prim, pLookup, keyOk_enc, entriesOf, h1]
  rcases h2.find k 0 with ⟨g1, g2⟩ | ⟨v, j, g1, g2, _⟩
  · rw [g1, g2]; rfl
  · rw [g1, g2]; rfl
theorem MapAt.lookupOk {σ : H} {a : Nat} {kv : List (κ × Value)} (h : MapAt E σ a kv) (k : κ) (zero : Value) : prim (.lookup E.ks zero true) [.map (some a), E.enc k] σ = some (.tuple #[(kvGet kv k).getD zero, .bool (kvGet kv k).isSome], σ) := by
  obtain ⟨es, clk, h1, h2, h3⟩ := h.ex
  simp only [prim, pLookup, keyOk_enc, entriesOf, h1]
  rcases h2.find k 0 with ⟨g1, g2⟩ | ⟨v, j, g1, g2, _⟩
  · rw [g1, g2]; rfl
  · rw [g1, g2]; rfl
theorem MapAt.len {σ : H} {a : Nat} {kv : List (κ × Value)} (h : MapAt E σ a kv) : prim .lenM [.map (some a)] σ = some (.int .i64 (kv.length : Int), σ) := by
  obtain ⟨es, clk, h1, h2, h3⟩ := h.ex
  simp only [prim, pLenM, h1, h2.len]
theorem MapAt.set {σ : H} {a : Nat} {kv : List (κ × Value)} (h : MapAt E σ a kv) (k : κ) (v : Value) :
    ∃ ob, prim (.mapSet E.ks) [.map (some a), E.enc k, v] σ = some (.tuple #[], σ.put a ob) ∧ MapAt E (σ.put a ob) a (kvSet kv k v) := by
  obtain ⟨es, clk, h1, h2, h3⟩ := h.ex
  simp only [prim, pMapSet, keyOk_enc, h1]
  rcases h2.find k 0 with ⟨g1, g2⟩ | ⟨v0, j, g1, g2, g3, _⟩
  · rw [g2]
    exact ⟨_, rfl, ⟨⟨_, _, H.get_put_same _ _ _, h2.snoc k v clk g1, born_snoc h3⟩, kvSet_nodup h.nodup k v⟩⟩
  · rw [g2, Nat.zero_add]
    exact ⟨_, rfl, ⟨⟨_, _, H.get_put_same _ _ _, (g3 v).1, by rw [(g3 v).2]; exact h3⟩, kvSet_nodup h.nodup k v⟩⟩
theorem MapAt.del {σ : H} {a : Nat} {kv : List (κ × Value)} (h : MapAt E σ a kv) (k : κ) :
    ∃ σ', prim (.delete E.ks) [.map (some a), E.enc k] σ = some (.tuple #[], σ') ∧ MapAt E σ' a (kvDel kv k) ∧ Same (fun b => b = a) σ σ' ∧ σ'.next = σ.next := by
  obtain ⟨es, clk, h1, h2, h3⟩ := h.ex
  simp only [prim, pDelete, keyOk_enc, h1]
  rcases h2.find k 0 with ⟨g1, g2⟩ | ⟨v0, j, g1, g2, _, g4, g5⟩
  · rw [g2]
    have hd : kvDel kv k = kv := by
      clear h h1 h2 h3 g2
      induction kv with
      | nil => rfl
      | cons p r ih =>
        unfold kvGet at g1
        split at g1
        · cases g1
        · rename_i e; rw [kvDel, if_neg e, ih g1]
    exact ⟨σ, rfl, by rw [hd]; exact h, Same.refl _ _, rfl⟩
  · rw [g2, Nat.zero_add]
    exact ⟨_, rfl, ⟨⟨_, _, H.get_put_same _ _ _, g4, g5 _ _ h3⟩, kvDel_nodup h.nodup k⟩, Same.put (S := fun b => b = a) (Same.refl _ _) (.inr rfl) _, rfl⟩
theorem MapAt.clear {σ : H} {a : Nat} {kv : List (κ × Value)} (h : MapAt E σ a kv) :
    ∃ ob, prim .clearM [.map (some a)] σ = some (.tuple #[], σ.put a ob) ∧ MapAt E (σ.put a ob) a [] := by
  obtain ⟨es, clk, h1, h2, h3⟩ := h.ex
  refine ⟨.map [] clk, by simp only [prim, pClearM, h1], ⟨⟨[], clk, H.get_put_same _ _ _, .nil, ?_⟩, .nil⟩⟩
  simp [bornOk, nble]
theorem MapAt.clone {σ : H} {a : Nat} {kv : List (κ × Value)} (h : MapAt E σ a kv) (t : Nat) :
    ∃ ob, prim .mapsClone [.iface t (.map (some a))] σ = some (.iface t (.map (some σ.next)), σ.push ob) ∧ MapAt E (σ.push ob) σ.next kv := by
  obtain ⟨es, clk, h1, h2, h3⟩ := h.ex
  exact ⟨.map es clk, by simp only [prim, pMapsClone, h1], ⟨⟨es, clk, H.get_push_same _ _, h2, h3⟩, h.nodup⟩⟩
end

/-- Keys that are ints. -/
def EI : KEnc Int where
  enc := .int .i64
  ks := none
  eq := fun a b => by simp [keyEq, eqInt, sameK_eq, eqI_eq]
/-- Keys of three ints. -/
def EK : KEnc (Int × Int × Int) where
  enc := fun k => .agg ⟨[.int .i64 k.1, .int .i64 k.2.1, .int .i64 k.2.2]⟩
  ks := some 3
  eq := fun a b => by
    obtain ⟨a1, a2, a3⟩ := a
    obtain ⟨b1, b2, b3⟩ := b
    simp only [keyEq, listEq, eqInt, sameK_eq, decide_true, eqI_eq, Prod.mk.injEq]
    by_cases h1 : a1 = b1 <;> by_cases h2 : a2 = b2 <;> by_cases h3 : a3 = b3 <;> simp [h1, h2, h3]
/-- Keys of four bytes. -/
def EB : KEnc (UInt8 × UInt8 × UInt8 × UInt8) where
  enc := fun k => .agg ⟨[bv k.1, bv k.2.1, bv k.2.2.1, bv k.2.2.2]⟩
  ks := some 4
  eq := fun a b => by
    obtain ⟨a1, a2, a3, a4⟩ := a
    obtain ⟨b1, b2, b3, b4⟩ := b
    have key : ∀ x y : UInt8, decide ((x.toNat : Int) = (y.toNat : Int)) = decide (x = y) := fun x y => by
      congr 1
      apply propext
      constructor
      · intro h; exact UInt8.toNat_inj.1 (by omega)
      · intro h; rw [h]
    simp only [keyEq, listEq, bv, eqInt, sameK_eq, decide_true, eqI_eq, key, Prod.mk.injEq]
    by_cases h1 : a1 = b1 <;> by_cases h2 : a2 = b2 <;> by_cases h3 : a3 = b3 <;> by_cases h4 : a4 = b4 <;> simp [h1, h2, h3, h4]
end AM
end Go.Proofs.YtlelihddjacplaaGreat
namespace Go.Proofs.YtlelihddjacplaaGreat
namespace AM
variable [Aw]

/-- Is a slice nil? -/
def nilS : Value → Bool
  | .slice none _ _ => true
  | _ => false
/-- bytes.Clone. -/
theorem clone_run {σ : H} {v : Value} {xs : List UInt8} (hb : Byts σ v xs) (h0 : σ.next ≠ 0) (hl : xs.length ≤ 100000000) : Ru 50 [v] σ fun r σ' => ∃ v' ob, r = .ok v' ∧ Buf σ' v' ob xs ∧ Same0 σ σ' ∧ Fresh σ ob ∧ nilS v' = nilS v := by
  obtain ⟨p, c, rfl⟩ := hb.form
  refine ru_fn (F := f50) rfl rfl rfl (by simp) ?_
  simp [f50]
  cases p with
  | none =>
    have hx : xs = [] := by
      cases xs with
      | nil => rfl
      | cons x xs => obtain ⟨b, o, h, _⟩ := hb.cell (i := 0) (by simp); cases h
    subst hx
    simp
    exact ⟨none, Buf.nil _, Same.refl _ _, (fun b hb => by cases hb), rfl⟩
  | some a =>
    have hsrc := Sl.src (hb.same0 ((Same.refl _ σ).push (.cells [] 5 1 .exact)))
    have hbuf : Buf (σ.push (.cells [] 5 1 .exact)) (.slice (some ⟨σ.next, 0, none⟩) 0 0) (some σ.next) [] := by
      refine ⟨Sl.fresh h0 [] 5 1 0 .exact rfl, fun b hb => ?_, by simp [vblk, h0], by simp [h0]⟩
      simp [vblk, h0] at hb
      subst hb
      unfold live
      rw [H.get_push_same]
    obtain ⟨p', c', σ', ob', g1, g2, g3, g4, g5⟩ := hbuf.app (ys := xs) (by simp) (by simp; omega)
    simp [fillL, hsrc, g1]
    simp at g1 g2
    refine ⟨ob', g2, ((Same.refl _ _).push _).trans g4 (fun i hi e => by simp at e; omega), fun b hb => ?_, ?_⟩
    · rcases g3 with rfl | ⟨b', rfl, h⟩
      · cases hb; exact Nat.le_refl _
      · cases hb; simp at h; omega
    · cases p' with
      | none => simp at g5
      | some a' => rfl

/-! ### The writer -/
structure Wrt (σ : H) (w : Nat) (ob : Option Nat) (xs : List UInt8) : Prop where
  ex : ∃ v el, σ.get w = some (.cells [v] el 1 .exact) ∧ Buf σ v ob xs
  pos : w ≠ 0
  lt : w < σ.next
  ne : ob ≠ some w
/-- A buffer's block is as it was, or new. -/
def Grew (σ : H) (ob ob' : Option Nat) : Prop := ob' = ob ∨ ∃ b, ob' = some b ∧ σ.next ≤ b
omit [Aw] in
theorem Grew.refl (σ : H) (ob : Option Nat) : Grew σ ob ob := .inl rfl
omit [Aw] in
theorem Grew.trans {σ σ' : H} {a b c : Option Nat} (h : Grew σ a b) (hn : σ.next ≤ σ'.next) (k : Grew σ' b c) : Grew σ a c := by
  rcases k with rfl | ⟨x, rfl, hx⟩
  · exact h
  · exact .inr ⟨x, rfl, by omega⟩
/-- Objects w and the buffer's block. -/
def WB (w : Nat) (ob : Option Nat) : Nat → Prop := fun b => b = w ∨ ob = some b
omit [Aw] in
theorem WB.step {a b c : H} {w : Nat} {ob ob' : Option Nat} (h : Same (WB w ob) a b) (hg : Grew a ob ob') (k : Same (WB w ob') b c) : Same (WB w ob) a c :=
  h.trans k fun i hi hS => by
    rcases hS with rfl | hS
    · exact .inl rfl
    · rcases hg with rfl | ⟨x, hx, hle⟩
      · exact .inr hS
      · rw [hx] at hS; cases hS; omega
omit [Aw] in
theorem Wrt.same {S : Nat → Prop} {σ σ' : H} {w : Nat} {ob : Option Nat} {xs : List UInt8} (h : Wrt σ w ob xs) (hs : Same S σ σ') (hn : ∀ b, WB w ob b → ¬ S b) : Wrt σ' w ob xs := by
  obtain ⟨v, el, h1, h2⟩ := h.ex
  exact ⟨⟨v, el, by rw [hs.get w h.lt (hn w (.inl rfl))]; exact h1, h2.same hs fun b hb => hn b (.inr hb)⟩, h.pos, Nat.lt_of_lt_of_le h.lt hs.le, h.ne⟩
omit [Aw] in
/-- Bytes are written: the row grows, the writer holds the new slice. -/
theorem Wrt.app {σ σ1 : H} {w : Nat} {ob : Option Nat} {xs ys : List UInt8} (h : Wrt σ w ob xs) (hs : Same0 σ σ1) (hr : xs.length + ys.length ≤ 1000000000) :
    ∃ p cap el p' c' σ2 ob', σ1.get w = some (.cells [.slice p xs.length cap] el 1 .exact) ∧ appendV σ1 5 1 1 p xs.length cap ys.length (ys.map bv) = some (.slice p' (xs.length + ys.length) c', σ2) ∧ σ2.get w = some (.cells [.slice p xs.length cap] el 1 .exact) ∧
      Wrt (σ2.put w (.cells [.slice p' (xs.length + ys.length) c'] el 1 .exact)) w ob' (xs ++ ys) ∧ Grew σ ob ob' ∧ Same (WB w ob) σ (σ2.put w (.cells [.slice p' (xs.length + ys.length) c'] el 1 .exact)) := by
  obtain ⟨v, el, h1, h2⟩ := h.ex
  obtain ⟨p, cap, rfl⟩ := h2.rd.form
  have hpos := h.pos
  have hlt := h.lt
  have h2' := h2.same hs (fun _ _ h => h)
  obtain ⟨p', c', σ2, ob', g1, g2, g3, g4, g5⟩ := h2'.app (ys := ys) (by have := hs.le; omega) hr
  have hw1 : σ1.get w = some (.cells [.slice p xs.length cap] el 1 .exact) := by rw [hs.get w hlt (fun h => h)]; exact h1
  have hw2 : σ2.get w = some (.cells [.slice p xs.length cap] el 1 .exact) := by rw [g4.get w (by have := hs.le; omega) h.ne]; exact hw1
  have hne : ob' ≠ some w := by
    rcases g3 with rfl | ⟨b, rfl, hb⟩
    · exact h.ne
    · intro e; cases e; have := hs.le; omega
  have hsame : Same (fun b => b = w) σ2 (σ2.put w (.cells [.slice p' (xs.length + ys.length) c'] el 1 .exact)) := Same.put (S := fun b => b = w) (Same.refl _ _) (.inr rfl) _
  refine ⟨p, cap, el, p', c', σ2, ob', hw1, g1, hw2, ⟨⟨_, el, H.get_put_same _ _ _, g2.same hsame (fun b hb e => hne (by rw [hb, e]))⟩, hpos, by have := hs.le; have := g4.le; simp; omega, hne⟩, ?_, ?_⟩
  · rcases g3 with rfl | ⟨b, rfl, hb⟩
    · exact .inl rfl
    · exact .inr ⟨b, rfl, by have := hs.le; omega⟩
  · refine ((hs.mono (S' := WB w ob) fun _ _ h => h.elim).trans (g4.mono (S' := WB w ob) fun b _ h => .inr h) fun _ _ h => h).trans hsame fun b _ h => .inl h

omit [Aw] in
/-- One byte is written. -/
theorem Wrt.app1 {σ : H} {w : Nat} {ob : Option Nat} {xs : List UInt8} (h : Wrt σ w ob xs) (b : UInt8) {val : Value} (hval : bv b = val) (hr : xs.length ≤ 900000000) :
    ∃ p cap el p' c' σ2 ob', σ.get w = some (.cells [.slice p xs.length cap] el 1 .exact) ∧ (σ.push (.cells [val] 5 1 .exact)).get w = some (.cells [.slice p xs.length cap] el 1 .exact) ∧ srcCells (σ.push (.cells [val] 5 1 .exact)) 1 (some ⟨σ.next, 0, none⟩) 1 = some [val] ∧
      appendV (σ.push (.cells [val] 5 1 .exact)) 5 1 1 p xs.length cap 1 [val] = some (.slice p' (xs.length + 1) c', σ2) ∧ σ2.get w = some (.cells [.slice p xs.length cap] el 1 .exact) ∧
      Wrt (σ2.put w (.cells [.slice p' (xs.length + 1) c'] el 1 .exact)) w ob' (xs ++ [b]) ∧ Grew σ ob ob' ∧ Same (WB w ob) σ (σ2.put w (.cells [.slice p' (xs.length + 1) c'] el 1 .exact)) := by
  subst hval
  obtain ⟨p, cap, el, p', c', σ2, ob', k1, k2, k3, k4, k5, k6⟩ := h.app (ys := [b]) ((Same.refl _ σ).push (.cells [bv b] 5 1 .exact)) (by simp; omega)
  refine ⟨p, cap, el, p', c', σ2, ob', by rw [← k1, H.get_push_lt _ h.lt], k1, Sl.src (Sl.fresh (by have := h.lt; omega) [bv b] 5 1 1 .exact rfl), k2, k3, k4, k5, k6⟩

/-- A number's bytes. -/
def numB (x : Nat) : List UInt8 := if x < 128 then [UInt8.ofNat x] else UInt8.ofNat (x % 128 + 128) :: numB (x / 128)
omit [Aw] in
theorem numB_lt {x : Nat} (h : x < 128) : numB x = [UInt8.ofNat x] := by rw [numB, if_pos h]
omit [Aw] in
theorem numB_ge {x : Nat} (h : ¬ x < 128) : numB x = UInt8.ofNat (x % 128 + 128) :: numB (x / 128) := by rw [numB, if_neg h]
omit [Aw] in
theorem numB_len : ∀ (k x : Nat), x < 128 ^ (k + 1) → (numB x).length ≤ k + 1
  | 0, x, h => by rw [numB_lt (by simpa using h)]; simp
  | k + 1, x, h => by
    by_cases hx : x < 128
    · rw [numB_lt hx]; simp
    · rw [numB_ge hx, List.length_cons]
      have : x / 128 < 128 ^ (k + 1) := by
        rw [Nat.div_lt_iff_lt_mul (by decide), ← Nat.pow_succ]; exact h
      have := numB_len k (x / 128) this
      omega
omit [Aw] in
theorem bv_ofNat (n : Nat) : bv (UInt8.ofNat n) = .int .u8 ((n % 256 : Nat) : Int) := by simp [bv, UInt8.toNat_ofNat']

omit [Aw] in
theorem or128 (z : Nat) (h : z < 256) : (z ||| 128) = z % 128 + 128 := by
  have key : ∀ r, r < 128 → (128 ||| r) = 128 + r := fun r hr => by
    have := Nat.two_pow_add_eq_or_of_lt (i := 7) (b := r) hr 1
    simp at this; omega
  by_cases h1 : z < 128
  · rw [Nat.or_comm, key z h1]; omega
  · have h2 : z = (128 ||| (z - 128)) := by rw [key _ (by omega)]; omega
    rw [h2, Nat.or_comm, ← Nat.or_assoc, Nat.or_self, key _ (by omega)]; omega
theorem num_run {σ : H} {w : Nat} {ob : Option Nat} {xs : List UInt8} (h : Wrt σ w ob xs) (x : Nat) (hx : x < 268435456) (hl : xs.length ≤ 800000000) :
    Ru 126 [.pointer (some ⟨w, 0, none⟩), .int .i64 (x : Int)] σ fun r σ' => r = .ok (.tuple #[]) ∧ ∃ ob', Wrt σ' w ob' (xs ++ numB x) ∧ Grew σ ob ob' ∧ Same (WB w ob) σ σ' := by
  refine ru_fn (F := f126) rfl rfl rfl (by simp) ?_
  have h1 : ¬ ((x : Int) < 0) := by omega
  have h2 : ¬ (268435456 ≤ (x : Int)) := by omega
  simp [f126, h1, h2]
  refine wp_loop (α := Nat × List UInt8) (fun y e σ1 => e = [(0, .pointer (some ⟨w, 0, none⟩)), (1, .int .i64 (y.1 : Int))] ∧ y.1 < 268435456 ∧ y.2 ++ numB y.1 = xs ++ numB x ∧ ∃ ob', Wrt σ1 w ob' y.2 ∧ Grew σ ob ob' ∧ Same (WB w ob) σ σ1) (fun y => y.1) (x, xs) ⟨by simp, hx, rfl, ob, h, .refl _ _, .refl _ _⟩ ?_
  rintro ⟨y, ys⟩ e σ1 ⟨rfl, hy, hyx, ob1, hw, hg, hsm⟩
  simp only at hy hyx hw ⊢
  have hlen := numB_len 3 x (by omega)
  have hlen2 : (ys ++ numB y).length = (xs ++ numB x).length := by rw [hyx]
  simp only [List.length_append] at hlen2
  refine wp_of _ _ _ _ ?_
  simp [l126_0]
  refine WpB.dec (fun h128 => ?_) (fun h128 => ?_)
  · have hb : ¬ y < 128 := by omega
    have hby : bv (UInt8.ofNat (y % 128 + 128)) = .int .u8 (md .u8 y ||| 128 : Nat) := by
      rw [bv_ofNat, md8]
      have := or128 (y % 256) (by omega)
      congr 1
      omega
    obtain ⟨p, cap, el, p', c', σ2, ob2, k0, k1, k2, k3, k4, k5, k6, k7⟩ := hw.app1 _ hby (by omega)
    simp [k0, fillL, cellsOf, lput, lover, cellOk, k2, nbeq, k3, k4]
    refine ⟨y / 128, ⟨by simp, by omega, ys ++ [UInt8.ofNat (y % 128 + 128)], ?_, ob2, k5, hg.trans hsm.le k6, WB.step hsm hg k7⟩, by omega⟩
    rw [← hyx, numB_ge hb]; simp
  · have hb : y < 128 := by omega
    have hby : bv (UInt8.ofNat y) = .int .u8 (y : Nat) := by rw [bv_ofNat, Nat.mod_eq_of_lt (by omega)]
    have hmd : md .u8 y = y := by rw [md8]; omega
    obtain ⟨p, cap, el, p', c', σ2, ob2, k0, k1, k2, k3, k4, k5, k6, k7⟩ := hw.app1 _ hby (by omega)
    simp [hmd, k0, fillL, cellsOf, lput, lover, cellOk, k2, nbeq, k3, k4]
    refine ⟨ob2, ?_, hg.trans hsm.le k6, WB.step hsm hg k7⟩
    rw [← hyx, numB_lt hb]; exact k5

theorem bytes_run {σ : H} {w : Nat} {ob : Option Nat} {xs ys : List UInt8} {v : Value} (h : Wrt σ w ob xs) (hv : Byts σ v ys) (hd : ∀ b, vblk v = some b → ¬ WB w ob b) (hl : xs.length ≤ 700000000) (hl2 : ys.length ≤ 10000000) :
    Ru 127 [.pointer (some ⟨w, 0, none⟩), v] σ fun r σ' => r = .ok (.tuple #[]) ∧ ∃ ob', Wrt σ' w ob' (xs ++ (numB ys.length ++ ys)) ∧ Grew σ ob ob' ∧ Same (WB w ob) σ σ' := by
  obtain ⟨p, c, rfl⟩ := hv.form
  refine ru_fn (F := f127) rfl rfl rfl (by simp) ?_
  simp [f127]
  refine (num_run h ys.length (by omega) (by omega)).mono ?_
  rintro r σ1 ⟨rfl, ob1, hw, hg, hs⟩
  have hlen := numB_len 3 ys.length (by omega)
  have hv1 : Byts σ1 (.slice p ys.length c) ys := hv.same hs hd
  obtain ⟨p2, cap, el, p', c', σ2, ob2, k1, k2, k3, k4, k5, k6⟩ := hw.app (ys := ys) (Same.refl _ σ1) (by simp; omega)
  simp at k1 k2 k3 k4 k6
  simp [k1, Sl.src hv1, k2, k3, cellOk]
  exact ⟨ob2, by simpa using k4, hg.trans hs.le k5, WB.step hs hg k6⟩
theorem out_run {σ : H} {w : Nat} {ob : Option Nat} {xs : List UInt8} (h : Wrt σ w ob xs) (hl : xs.length ≤ 100000000) :
    Ru 129 [.pointer (some ⟨w, 0, none⟩)] σ fun r σ' => ∃ v' ob', r = .ok v' ∧ Buf σ' v' ob' xs ∧ Same0 σ σ' ∧ Fresh σ ob' := by
  obtain ⟨v, el, h1, h2⟩ := h.ex
  refine ru_fn (F := f129) rfl rfl rfl (by simp) ?_
  simp [f129, h1]
  refine (clone_run h2.rd (by have := h.lt; omega) hl).mono ?_
  rintro r σ1 ⟨v', ob', rfl, hb, hs, hf, _⟩
  simp
  exact ⟨ob', hb, hs, hf⟩

/-! ### bytes.Equal -/
omit [Aw] in
theorem toBytes_bv : ∀ (xs : List UInt8) (s : ByteArray), toBytes (xs.map bv) s = some ⟨s.data ++ xs.toArray⟩
  | [], s => by simp [toBytes]
  | x :: xs, s => by
    simp only [List.map_cons, bv, toBytes]
    have := toBytes_bv xs (s.push (UInt8.ofNat (x.toNat : Int).toNat))
    refine Eq.trans this ?_
    congr 2
    have : (s.push (UInt8.ofNat (x.toNat : Int).toNat)).data = s.data.push x := by
      show s.data.push _ = _
      congr 1
      exact UInt8.ofNat_toNat
    rw [this]
    apply Array.ext'
    simp
omit [Aw] in
theorem prim_toStr {σ : H} {p : Option Addr} {n c : Nat} {xs : List UInt8} (h : Byts σ (.slice p n c) xs) : prim .toStr [.slice p n c] σ = some (.string ⟨xs.toArray⟩, σ) := by
  simp only [prim, pToStr, Sl.src h, toBytes_bv]
  congr 3
  refine congrArg ByteArray.mk (Array.ext' ?_)
  rw [Array.toList_append]
  rfl
theorem equal_run {σ : H} {v u : Value} {xs ys : List UInt8} (hx : Byts σ v xs) (hy : Byts σ u ys) : Ru 168 [v, u] σ fun r σ' => r = .ok (.bool (decide (xs = ys))) ∧ σ' = σ := by
  obtain ⟨p, c, rfl⟩ := hx.form
  obtain ⟨p2, c2, rfl⟩ := hy.form
  refine ru_fn (F := f168) rfl rfl rfl (by simp) ?_
  simp [f168, prim_toStr hx, prim_toStr hy]
  by_cases h : xs = ys <;> simp [h]
end AM
end Go.Proofs.YtlelihddjacplaaGreat
namespace Go.Proofs.YtlelihddjacplaaGreat
namespace AM

/-! ### Objects that a structure has -/
abbrev Foot := Nat → Prop
def Disj (F G : Foot) : Prop := ∀ x, F x → ¬ G x
def Bnd (F : Foot) (σ : H) : Prop := ∀ x, F x → x < σ.next
def Grow (σ : H) (F F' : Foot) : Prop := ∀ x, F' x → F x ∨ σ.next ≤ x
def cup (F G : Foot) : Foot := fun x => F x ∨ G x
theorem Disj.symm {F G : Foot} (h : Disj F G) : Disj G F := fun x hx hy => h x hy hx
theorem Grow.refl (σ : H) (F : Foot) : Grow σ F F := fun _ h => .inl h
theorem Grow.trans {a b : H} {F G K : Foot} (h : Grow a F G) (hn : a.next ≤ b.next) (k : Grow b G K) : Grow a F K := fun x hx => by
  rcases k x hx with h1 | h1
  · exact h x h1
  · exact .inr (Nat.le_trans hn h1)
theorem Grow.disj {σ : H} {F F' G : Foot} (h : Grow σ F F') (hd : Disj F G) (hb : Bnd G σ) : Disj F' G := fun x hx hg => by
  rcases h x hx with h1 | h1
  · exact hd x h1 hg
  · have := hb x hg; omega
theorem Bnd.mono {F : Foot} {σ σ' : H} (h : Bnd F σ) (hn : σ.next ≤ σ'.next) : Bnd F σ' := fun x hx => Nat.lt_of_lt_of_le (h x hx) hn
theorem Same.foot {F G : Foot} {a b c : H} (h : Same F a b) (hg : Grow a F G) (k : Same G b c) : Same F a c := h.trans k fun i hi hx => (hg i hx).resolve_right (by omega)
/-- What does not change a structure's objects leaves it alone. -/
theorem Same.off {S F : Foot} {σ σ' : H} (h : Same S σ σ') (hd : Disj F S) (hb : Bnd F σ) {x : Nat} (hx : F x) : σ'.get x = σ.get x := h.get x (hb x hx) (hd x hx)
theorem Disj.none (F : Foot) : Disj F fun _ => False := fun _ _ h => h

/-! ### A slice of one's own: it is appended to -/
structure Vec (σ : H) (esz : Nat) (v : Value) (ob : Option Nat) (cs : List Value) : Prop where
  rd : Sl σ esz v cs
  own : Ow σ v
  blk : vblk v = ob
  nv : ∀ o n c, v ≠ .slice (some ⟨0, o, none⟩) n c
theorem Vec.nil (σ : H) (esz : Nat) : Vec σ esz (.slice none 0 0) none [] := ⟨Sl.nil _ _, Ow.nil _, rfl, by simp⟩
theorem Vec.lt {σ : H} {esz : Nat} {v : Value} {ob : Option Nat} {cs : List Value} (h : Vec σ esz v ob cs) {b : Nat} (hb : ob = some b) : b < σ.next := h.rd.lt (by rw [h.blk]; exact hb)
theorem Vec.same {S : Nat → Prop} {σ σ' : H} {esz : Nat} {v : Value} {ob : Option Nat} {cs : List Value} (h : Vec σ esz v ob cs) (hs : Same S σ σ') (hn : ∀ b, ob = some b → ¬ S b) : Vec σ' esz v ob cs :=
  ⟨h.rd.same hs fun b hb => hn b (by rw [← h.blk]; exact hb), h.own.keep fun b hb => hs.get b (h.rd.lt hb) (hn b (by rw [← h.blk]; exact hb)), h.blk, h.nv⟩
theorem Vec.app {σ : H} {elem esz bytes : Nat} {p : Option Addr} {n cap : Nat} {ob : Option Nat} {cs new : List Value} (k : Nat) (h : Vec σ esz (.slice p n cap) ob cs) (h0 : σ.next ≠ 0) (hz : esz ≠ 0) (hb : 1 ≤ bytes) (hroom : (n + k) * bytes ≤ 140737488355328) (hl : new.length = k * esz) (hok : new.all cellOk = true) :
    ∃ p' c' σ' ob', appendV σ elem esz bytes p n cap k new = some (.slice p' (n + k) c', σ') ∧ Vec σ' esz (.slice p' (n + k) c') ob' (cs ++ new) ∧ (ob' = ob ∨ ∃ b, ob' = some b ∧ σ.next ≤ b) ∧ Same (fun b => ob = some b) σ σ' ∧ (p' = none → p = none ∧ k = 0) := by
  obtain ⟨p', c', σ', g1, g2, g3, g4, g5, g6, g7⟩ := append_core (elem := elem) (bytes := bytes) (new := new) (k := k) h.rd h.own (fun o e => h.nv o _ _ (by rw [e])) h0 hz hb hroom hl hok
  rw [h.blk] at g4 g5
  exact ⟨p', c', σ', _, g1, ⟨g2, g3, rfl, fun o n c e => by cases e; exact g6 o rfl⟩, g5, g4, g7⟩
theorem Vec.fresh {σ : H} (h0 : σ.next ≠ 0) (c : List Value) (elem esz n : Nat) (m : Mode) (hm : m ≠ .ro) (hl : n * esz = c.length) : Vec (σ.push (.cells c elem esz m)) esz (.slice (some ⟨σ.next, 0, none⟩) n n) (some σ.next) c := by
  refine ⟨Sl.fresh h0 c elem esz n m hl, fun b hb => ?_, by simp [vblk, h0], by simp [h0]⟩
  simp [vblk, h0] at hb
  subst hb
  unfold live
  rw [H.get_push_same]
  cases m <;> simp_all

@[simp] theorem prim_idxAddrZ {σ : H} {k : IntKind} (esz bl o n c : Nat) (h1 : 0 < n) : prim (.idxAddr esz) [.slice (some ⟨bl, o, none⟩) n c, .int k 0] σ = some (.pointer (some ⟨bl, o, none⟩), σ) := by
  have : (0 : Int) < n := by omega
  simp [prim, pIdxAddr, ltI_eq, this, h1]
@[simp] theorem prim_idxAddrO {σ : H} {k : IntKind} (esz bl o n c : Nat) (h1 : 1 < n) : prim (.idxAddr esz) [.slice (some ⟨bl, o, none⟩) n c, .int k 1] σ = some (.pointer (some ⟨bl, o + esz, none⟩), σ) := by
  have : (1 : Int) < n := by omega
  simp [prim, pIdxAddr, ltI_eq, this, h1]
/-! ### Maps by ints -/
section
variable {σ : H} {a : Nat} {kv : List (Int × Value)}
theorem MapAt.iLookup (h : MapAt EI σ a kv) (k : Int) (zero : Value) : prim (.lookup none zero false) [.map (some a), .int .i64 k] σ = some ((kvGet kv k).getD zero, σ) := h.lookup k zero
theorem MapAt.iLookupOk (h : MapAt EI σ a kv) (k : Int) (zero : Value) : prim (.lookup none zero true) [.map (some a), .int .i64 k] σ = some (.tuple #[(kvGet kv k).getD zero, .bool (kvGet kv k).isSome], σ) := h.lookupOk k zero
theorem MapAt.iSet (h : MapAt EI σ a kv) (k : Int) (v : Value) : ∃ ob, prim (.mapSet none) [.map (some a), .int .i64 k, v] σ = some (.tuple #[], σ.put a ob) ∧ MapAt EI (σ.put a ob) a (kvSet kv k v) := h.set k v
theorem MapAt.iDel (h : MapAt EI σ a kv) (k : Int) : ∃ σ', prim (.delete none) [.map (some a), .int .i64 k] σ = some (.tuple #[], σ') ∧ MapAt EI σ' a (kvDel kv k) ∧ Same (fun b => b = a) σ σ' ∧ σ'.next = σ.next := h.del k
end
theorem MapAt.same {κ : Type} [DecidableEq κ] {E : KEnc κ} {S : Foot} {σ σ' : H} {a : Nat} {kv : List (κ × Value)} (h : MapAt E σ a kv) (hs : Same S σ σ') (hn : ¬ S a) (ha : a < σ.next) : MapAt E σ' a kv := h.keep (hs.get a ha hn)
end AM
end Go.Proofs.YtlelihddjacplaaGreat
namespace Go.Proofs.YtlelihddjacplaaGreat
namespace AM
variable [Aw]
def cmpI (x y : Int) : Int := if x < y then -1 else if y < x then 1 else 0
theorem isNaN_run (x : Int) (σ : H) : Ru 216 [.int .i64 x] σ fun r σ' => r = .ok (.bool false) ∧ σ' = σ := by
  refine ru_fn (F := f216) rfl rfl rfl (by simp) ?_
  simp [f216]
theorem cmp_run (x y : Int) (σ : H) : Ru 154 [.int .i64 x, .int .i64 y] σ fun r σ' => r = .ok (.int .i64 (cmpI x y)) ∧ σ' = σ := by
  refine ru_fn (F := f154) rfl rfl rfl (by simp) ?_
  simp [f154]
  refine (isNaN_run x σ).mono ?_
  rintro r σ1 ⟨rfl, rfl⟩
  simp
  refine (isNaN_run y σ1).mono ?_
  rintro r σ1 ⟨rfl, rfl⟩
  by_cases h1 : x < y
  · simp [h1, cmpI]
  · by_cases h2 : y < x
    · simp [h1, h2, cmpI]
    · simp [h1, h2, cmpI]
theorem or_run {σ : H} {v : Value} {a b : Int} (hv : Ints σ v [a, b]) : Ru 355 [v] σ fun r σ' => r = .ok (.int .i64 (if a = 0 then b else a)) ∧ σ' = σ := by
  obtain ⟨p, c, rfl⟩ := hv.form
  refine ru_fn (F := f355) rfl rfl rfl (by simp) ?_
  simp [f355]
  refine wp_loop (α := Nat) (fun i e σ1 => σ1 = σ ∧ i ≤ 2 ∧ (0 < i → a = 0) ∧ (1 < i → b = 0) ∧ e = [(3, .int .i64 0), (6, .slice p 2 c), (7, .int .i64 2), (8, .int .i64 i)]) (fun i => 2 - i) 0 (by simp) ?_
  rintro i e σ1 ⟨rfl, hi, ha, hb, rfl⟩
  refine wp_of _ _ _ _ ?_
  simp [l355_0]
  refine WpB.dec (fun hlt => ?_) (fun hlt => ?_)
  · have hlt : i < 2 := by omega
    obtain ⟨bb, o, rfl, _, _, hx⟩ := Ints.cell hv (i := i) (by simpa using hlt)
    simp [hlt, hx]
    obtain ⟨x, hxx⟩ : ∃ x, x = [a, b][i] := ⟨_, rfl⟩
    rw [← hxx]
    have hcase : (i = 0 ∧ x = a) ∨ (i = 1 ∧ x = b) := by
      rcases (show i = 0 ∨ i = 1 by omega) with rfl | rfl
      · exact .inl ⟨rfl, hxx⟩
      · exact .inr ⟨rfl, hxx⟩
    by_cases h0 : x = 0
    · simp [h0]
      rw [wrap64 (by omega) (by omega)]
      refine ⟨i + 1, ⟨by omega, fun _ => ?_, fun _ => ?_, by simp⟩, by omega⟩
      · rcases hcase with ⟨rfl, rfl⟩ | ⟨rfl, rfl⟩
        · exact h0
        · exact ha (by omega)
      · rcases hcase with ⟨rfl, rfl⟩ | ⟨rfl, rfl⟩
        · omega
        · exact h0
    · simp [h0]
      rcases hcase with ⟨rfl, rfl⟩ | ⟨rfl, rfl⟩
      · simp [h0]
      · simp [ha (by omega)]
  · have : i = 2 := by omega
    subst this
    simp [ha (by omega), hb (by omega)]
theorem less_run {σ : H} {b o n c i k : Nat} {w1 w2 c1 c2 : Int} (h0 : σ.next ≠ 0) (hb : b < σ.next) (hi : i < n) (hk : k < n) (g1 : cellAt (σ.get b) (o + i * 3) = some (.int .i64 w1)) (g2 : cellAt (σ.get b) (o + k * 3) = some (.int .i64 w2))
    (g3 : cellAt (σ.get b) (o + i * 3 + 1) = some (.int .i64 c1)) (g4 : cellAt (σ.get b) (o + k * 3 + 1) = some (.int .i64 c2)) :
    Ru 351 [.slice (some ⟨b, o, none⟩) n c, .int .i64 i, .int .i64 k] σ fun r σ' => r = .ok (.bool (decide (w1 < w2 ∨ w1 = w2 ∧ c1 < c2))) ∧ σ' = σ.push (.cells [.int .i64 (cmpI w1 w2), .int .i64 (cmpI c1 c2)] 3 1 .exact) := by
  refine ru_fn (F := f351) rfl rfl rfl (by simp) ?_
  simp [f351, hi, hk, g1, g2, g3, g4]
  refine ⟨rfl, (cmp_run w1 w2 σ).mono ?_⟩
  rintro r σ1 ⟨rfl, rfl⟩
  simp [still, keepR, mobOk, rigid, rigidC, same, sameC, g3, g4]
  refine (cmp_run c1 c2 σ1).mono ?_
  rintro r σ1 ⟨rfl, rfl⟩
  simp [still, keepR, mobOk, fillL, cellsOf, lput, lover, cellOk, nbeq]
  have hI : Ints (σ1.push (.cells [.int .i64 (cmpI w1 w2), .int .i64 (cmpI c1 c2)] 3 1 .exact)) (.slice (some ⟨σ1.next, 0, none⟩) 2 2) [cmpI w1 w2, cmpI c1 c2] := Sl.fresh h0 _ _ _ _ _ (by simp)
  refine (or_run hI).mono ?_
  rintro r σ1 ⟨rfl, rfl⟩
  simp [still, keepR]
  unfold cmpI
  by_cases e1 : w1 < w2
  · simp [e1]
  · by_cases e2 : w2 < w1
    · have : ¬ w1 = w2 := by omega
      simp [e1, e2, this]
    · have : w1 = w2 := by omega
      by_cases e3 : c1 < c2
      · simp [e1, e2, e3, this]
      · by_cases e4 : c2 < c1 <;> simp [e1, e2, e3, e4, this]
end AM
end Go.Proofs.YtlelihddjacplaaGreat
namespace Go.Proofs.YtlelihddjacplaaGreat
namespace AM
variable [Aw]
noncomputable section
def cmpK (x y : Int) : Int := @Bool.rec (fun _ => Int) (@Bool.rec (fun _ => Int) 0 1 (ltI y x)) (-1) (ltI x y)
omit [Aw] in
theorem cmpK_eq (x y : Int) : cmpK x y = cmpI x y := by
  unfold cmpK cmpI
  rw [ltI_eq, ltI_eq]
  by_cases h1 : x < y
  · rw [decide_eq_true h1, if_pos h1]
  · rw [decide_eq_false h1, if_neg h1]
    by_cases h2 : y < x
    · rw [decide_eq_true h2, if_pos h2]
    · rw [decide_eq_false h2, if_neg h2]
/-- An int. -/
def vZ (v : Value) (K : Int → Bool) : Bool := vI v (fun k n => @Bool.rec (fun _ => Bool) false (K n) (Nat.beq (kN k) 3)) false
omit [Aw] in
theorem vZ_of {v : Value} {K : Int → Bool} (h : vZ v K = true) : ∃ n, v = .int .i64 n ∧ K n = true := by
  unfold vZ at h
  rcases vI_of h with ⟨k, n, hv, h1⟩ | h1
  · cases hk : Nat.beq (kN k) 3 with
    | false => rw [hk] at h1; cases h1
    | true =>
      rw [hk] at h1
      have e : k = .i64 := by cases k <;> first | rfl | cases hk
      subst e
      exact ⟨n, hv, h1⟩
  · cases h1
def nZ (v : Value) (K : Nat → Bool) : Bool := vZ v fun n => @Int.rec (fun _ => Bool) K (fun _ => false) n
omit [Aw] in
theorem nZ_of {v : Value} {K : Nat → Bool} (h : nZ v K = true) : ∃ n : Nat, v = .int .i64 (n : Int) ∧ K n = true := by
  obtain ⟨n, rfl, h⟩ := vZ_of h
  cases n with
  | negSucc n => cases h
  | ofNat n => exact ⟨n, rfl, h⟩
def pair2 (c : List Value) (K : Int → Int → Bool) : Bool := match c with
  | [a, b] => vZ a fun a => vZ b fun b => K a b
  | _ => false
def sl3 (vs : List Value) (K : Nat → Nat → Nat → Nat → Value → Value → Bool) : Bool := match vs with
  | [.slice (some ⟨b, o, none⟩) n c, i, k] => K b o n c i k
  | _ => false
omit [Aw] in
theorem sl3_of {vs : List Value} {K : Nat → Nat → Nat → Nat → Value → Value → Bool} (h : sl3 vs K = true) : ∃ b o n c i k, vs = [.slice (some ⟨b, o, none⟩) n c, i, k] ∧ K b o n c i k = true := by
  unfold sl3 at h
  split at h
  · exact ⟨_, _, _, _, _, _, rfl, h⟩
  · cases h
def lessK (vs : List Value) (σ : H) (K : Res → H → Bool) : Bool :=
  sl3 vs fun b o n c i k => nZ i fun i => nZ k fun k => match Nat.blt i n && (Nat.blt k n && (Nat.blt b σ.next)) with
    | true => tget σ.t b fun ob => match ob with
      | .cells c0 e s m => kcut c0 (o + i * 3) 2 fun x => kcut c0 (o + k * 3) 2 fun y => pair2 x fun w1 c1 => pair2 y fun w2 c2 => fI (cmpK w1 w2) fun u => fI (cmpK c1 c2) fun v =>
          fR (.ok (.bool (@Bool.rec (fun _ => Bool) (ltI u 0) (ltI v 0) (eqI u 0)))) fun r => fH 0 σ.next (σ.push (.cells [.int .i64 u, .int .i64 v] 3 1 .exact)) fun σ' => K r σ'
      | _ => false
    | false => false
theorem lessK_of {vs : List Value} {σ : H} {K : Res → H → Bool} (h : lessK vs σ K = true) : Ru 351 vs σ fun r σ' => K r σ' = true := by
  unfold lessK at h
  obtain ⟨b, o, n, c, iv_, kv_, rfl, a1⟩ := sl3_of h
  obtain ⟨i, rfl, a2⟩ := nZ_of a1
  obtain ⟨k, rfl, a3⟩ := nZ_of a2
  clear h a1 a2
  split at a3
  case h_2 => cases a3
  rename_i hc
  simp only [Bool.and_eq_true, nblt, decide_eq_true_eq] at hc
  obtain ⟨hi, hk, hb⟩ := hc
  obtain ⟨ob, ho, a4⟩ := tget_of a3
  split at a4
  case h_2 => cases a4
  rename_i c0 e s m
  obtain ⟨x, hx, a5⟩ := kcut_of a4
  obtain ⟨y, hy, a6⟩ := kcut_of a5
  have pr : ∀ {c : List Value} {K : Int → Int → Bool}, pair2 c K = true → ∃ a b, c = [.int .i64 a, .int .i64 b] ∧ K a b = true := by
    intro c K h
    unfold pair2 at h
    split at h
    · obtain ⟨a, ha, h1⟩ := vZ_of h
      obtain ⟨b, hb, h2⟩ := vZ_of h1
      exact ⟨a, b, by rw [ha, hb], h2⟩
    · cases h
  obtain ⟨w1, c1, hx', a7⟩ := pr a6
  obtain ⟨w2, c2, hy', h⟩ := pr a7
  rw [hx'] at hx
  rw [hy'] at hy
  rw [fI_eq, fI_eq, fR_eq, fH_eq, cmpK_eq, cmpK_eq] at h
  obtain ⟨h1, h2⟩ := kcut_some hx
  obtain ⟨h3, h4⟩ := kcut_some hy
  have hg : σ.get b = some (.cells c0 e s m) := ho
  have get : ∀ {q : Nat} {u v : Value}, [u, v] = (c0.drop q).take 2 → c0[q]? = some u ∧ c0[q + 1]? = some v := by
    intro q u v h
    have e0 := congrArg (fun l => l[0]?) h
    have e1 := congrArg (fun l => l[1]?) h
    simp [List.getElem?_take, List.getElem?_drop] at e0 e1
    exact ⟨e0.symm, e1.symm⟩
  obtain ⟨q1, q2⟩ := get h2
  obtain ⟨q3, q4⟩ := get h4
  have ca : ∀ j, cellAt (σ.get b) j = c0[j]? := fun j => by rw [hg, cellAt_cells]
  refine (less_run (w1 := w1) (w2 := w2) (c1 := c1) (c2 := c2) (by omega) hb hi hk (by rw [ca]; exact q1) (by rw [ca]; exact q3) (by rw [ca]; exact q2) (by rw [ca]; exact q4)).mono ?_
  rintro r σ' ⟨rfl, rfl⟩
  have hd : (@Bool.rec (fun _ => Bool) (ltI (cmpI w1 w2) 0) (ltI (cmpI c1 c2) 0) (eqI (cmpI w1 w2) 0)) = decide (w1 < w2 ∨ w1 = w2 ∧ c1 < c2) := by
    rw [eqI_eq, ltI_eq, ltI_eq]
    unfold cmpI
    by_cases e1 : w1 < w2
    · simp [e1]
    · by_cases e2 : w2 < w1
      · have : ¬ w1 = w2 := by omega
        simp [e1, e2, this]
      · have : w1 = w2 := by omega
        by_cases e3 : c1 < c2
        · simp [e1, e2, e3, this]
        · by_cases e4 : c2 < c1 <;> simp [e1, e2, e3, e4, this]
  rw [hd] at h
  exact h
/-- Sums and orders at once. -/
def ovT : Ov := fun k => @Bool.rec (fun _ => Option (List Value → H → (Res → H → Bool) → Bool)) (@Bool.rec (fun _ => Option (List Value → H → (Res → H → Bool) → Bool)) none (some lessK) (Nat.beq k 351)) (some sumK) (Nat.beq k 165)
theorem ovT_ok : OvOK ovT := by
  intro k f hf args σ K h
  unfold ovT at hf
  cases hk : Nat.beq k 165 with
  | true =>
    rw [hk] at hf
    cases hf
    rw [nbeq] at hk
    have hk := of_decide_eq_true hk
    subst hk
    exact sumK_of h
  | false =>
    rw [hk] at hf
    cases hk2 : Nat.beq k 351 with
    | false => rw [hk2] at hf; cases hf
    | true =>
      rw [hk2] at hf
      cases hf
      rw [nbeq] at hk2
      have hk2 := of_decide_eq_true hk2
      subst hk2
      exact lessK_of h
end
end AM
end Go.Proofs.YtlelihddjacplaaGreat
namespace Go.Proofs.YtlelihddjacplaaGreat
namespace AM
variable [Aw]
theorem wmust_run (e : Int) (σ : H) : Ru 298 [.bool true, .int .i64 e] σ fun r σ' => r = .ok (.tuple #[]) ∧ σ' = σ := by
  refine ru_fn (F := f298) rfl rfl rfl (by simp) ?_
  simp [f298]
theorem next_exact {σ : H} {rr b o n c e v bit : Nat} (hr : rr < σ.next) (hg : σ.get rr = some (.cells [.slice (some ⟨b, o, none⟩) n c, .int .i64 (bit : Int)] e 2 .exact)) (hn : 0 < n) (hv : cellAt (σ.get b) (o + 0) = some (.int .u8 (v : Int))) (hv8 : v < 256) (hb : bit < 7) :
    Ru 300 [.pointer (some ⟨rr, 0, none⟩)] σ fun r σ' => r = .ok (.int .i64 ((v / 2 ^ (7 - bit) % 2 : Nat) : Int)) ∧ σ' = σ.put rr (.cells [.slice (some ⟨b, o, none⟩) n c, .int .i64 ((bit + 1 : Nat) : Int)] e 2 .exact) := by
  refine ru_fn (F := f300) rfl rfl rfl (by simp) ?_
  simp [f300, hg, hn]
  refine (wmust_run 2 σ).mono ?_
  rintro r σ1 ⟨rfl, rfl⟩
  have h7 : IntKind.i64.wrap (7 - (bit : Int)) = ((7 - bit : Nat) : Int) := by rw [wrap64 (by omega) (by omega)]; omega
  have hw : IntKind.i64.wrap ((bit : Int) + 1) = ((bit + 1 : Nat) : Int) := by rw [wrap64 (by omega) (by omega)]; omega
  have hv0 : cellAt (σ1.get b) o = some (.int .u8 (v : Int)) := by simpa using hv
  have hb8 : 7 - bit ≤ IntKind.u8.bits := by show 7 - bit ≤ 8; omega
  obtain ⟨q, hq⟩ : ∃ q, q = v / 2 ^ (7 - bit) := ⟨_, rfl⟩
  have hshr := prim_shrV (σ := σ1) (k := .u8) (k' := .i64) (a := v) (b := 7 - bit) hb8
  rw [← hq] at hshr
  have hq8 : q ≤ v := by rw [hq]; exact Nat.div_le_self _ _
  have hwq : IntKind.i64.wrap (q : Int) = (q : Int) := wrap64 (by omega) (by omega)
  have h8 : ¬ ((bit : Int) + 1 = 8) := by omega
  have hql : q < limit .i64 := by show q < 9223372036854775808; omega
  have hand := prim_andL (σ := σ1) (k := .i64) (a := q) 1 hql (by decide) (by decide)
  simp only [Int.toNat_one, Nat.and_one_is_mod] at hand
  have hb7 : ¬ (bit : Int) = 7 := by omega
  simp [hg, hn, hv0, h7, hshr, hwq, hw, hand, hr, cellOk, h8, hb7]
  rw [hq]; simp
theorem next_last {σ : H} {rr b o n c e v : Nat} {p' : Option Addr} {n' c' : Nat} (hr : rr < σ.next) (hg : σ.get rr = some (.cells [.slice (some ⟨b, o, none⟩) n c, .int .i64 7] e 2 .exact)) (hn : 0 < n) (hv : cellAt (σ.get b) (o + 0) = some (.int .u8 (v : Int))) (hv8 : v < 256)
    (hsl : prim (.slice 1 true false false) [.slice (some ⟨b, o, none⟩) n c, .int .i64 1] (σ.put rr (.cells [.slice (some ⟨b, o, none⟩) n c, .int .i64 8] e 2 .exact)) = some (.slice p' n' c', σ.put rr (.cells [.slice (some ⟨b, o, none⟩) n c, .int .i64 8] e 2 .exact))) :
    Ru 300 [.pointer (some ⟨rr, 0, none⟩)] σ fun r σ' => r = .ok (.int .i64 ((v % 2 : Nat) : Int)) ∧ σ' = ((σ.put rr (.cells [.slice (some ⟨b, o, none⟩) n c, .int .i64 8] e 2 .exact)).put rr (.cells [.slice p' n' c', .int .i64 8] e 2 .exact)).put rr (.cells [.slice p' n' c', .int .i64 0] e 2 .exact) := by
  refine ru_fn (F := f300) rfl rfl rfl (by simp) ?_
  simp [f300, hg, hn]
  refine (wmust_run 2 σ).mono ?_
  rintro r σ1 ⟨rfl, rfl⟩
  have hv0 : cellAt (σ1.get b) o = some (.int .u8 (v : Int)) := by simpa using hv
  have hshr := prim_shrV (σ := σ1) (k := .u8) (k' := .i64) (a := v) (b := 0) (show 0 ≤ 8 by omega)
  simp only [Nat.pow_zero, Nat.div_one, Int.natCast_zero] at hshr
  have hwq : IntKind.i64.wrap (v : Int) = (v : Int) := wrap64 (by omega) (by omega)
  have hql : v < limit .i64 := by show v < 9223372036854775808; omega
  have hand := prim_andL (σ := σ1) (k := .i64) (a := v) 1 hql (by decide) (by decide)
  simp only [Int.toNat_one, Nat.and_one_is_mod] at hand
  have hw0 : IntKind.i64.wrap 0 = 0 := wrap64 (by omega) (by omega)
  have hw8 : IntKind.i64.wrap 8 = 8 := wrap64 (by omega) (by omega)
  simp [hg, hn, hv0, hshr, hwq, hand, hr, cellOk, hsl, hw0, hw8]
noncomputable section
def ptr1 (vs : List Value) (K : Nat → Bool) : Bool := match vs with
  | [.pointer (some ⟨b, 0, none⟩)] => K b
  | _ => false
omit [Aw] in
theorem ptr1_of {vs : List Value} {K : Nat → Bool} (h : ptr1 vs K = true) : ∃ b, vs = [.pointer (some ⟨b, 0, none⟩)] ∧ K b = true := by
  unfold ptr1 at h
  split at h
  · exact ⟨_, rfl, h⟩
  · cases h
def rdr2 (o : Obj) (K : Nat → Nat → Nat → Nat → Value → Nat → Bool) : Bool := match o with
  | .cells [.slice (some ⟨b, o, none⟩) n c, bit] e s m => match m with
    | .exact => match Nat.beq s 2 with
      | true => K b o n c bit e
      | false => false
    | _ => false
  | _ => false
omit [Aw] in
theorem rdr2_of {o : Obj} {K : Nat → Nat → Nat → Nat → Value → Nat → Bool} (h : rdr2 o K = true) : ∃ b oo n c bit e, o = .cells [.slice (some ⟨b, oo, none⟩) n c, bit] e 2 .exact ∧ K b oo n c bit e = true := by
  unfold rdr2 at h
  split at h
  case h_2 => cases h
  split at h
  case h_2 => cases h
  split at h
  case h_2 => cases h
  rename_i hs
  rw [nbeq] at hs
  have hs := of_decide_eq_true hs
  subst hs
  exact ⟨_, _, _, _, _, _, rfl, h⟩
def one1 (c : List Value) (K : Nat → Bool) : Bool := match c with
  | [v] => vU v K
  | _ => false
omit [Aw] in
theorem one1_of {c : List Value} {K : Nat → Bool} (h : one1 c K = true) : ∃ b : UInt8, c = [bv b] ∧ K b.toNat = true := by
  unfold one1 at h
  split at h
  · obtain ⟨b, hb, h1⟩ := vU_of h
    exact ⟨b, by rw [hb], h1⟩
  · cases h
def sl1 (x : Option (Value × H)) (K : Option Addr → Nat → Nat → Bool) : Bool := match x with
  | some (.slice p n c, _) => K p n c
  | _ => false
def nextK (vs : List Value) (σ : H) (K : Res → H → Bool) : Bool :=
  ptr1 vs fun rr => @Bool.rec (fun _ => Bool) false (tget σ.t rr fun ob => rdr2 ob fun b o n c bit e => nZ bit fun bit => @Bool.rec (fun _ => Bool) false (tget σ.t b fun ob2 => match ob2 with
    | .cells c0 _ _ _ => kcut c0 o 1 fun l => one1 l fun v => @Bool.rec (fun _ => Bool)
        (@Bool.rec (fun _ => Bool) false
          (sl1 (pSlice 1 true false false [.slice (some ⟨b, o, none⟩) n c, .int .i64 1] σ) fun p' n' c' => fN (v % 2) fun r => fV (.slice p' n' c') fun s' => fH rr 0 (σ.put rr (.cells [s', .int .i64 0] e 2 .exact)) fun σ' => K (.ok (.int .i64 (.ofNat r))) σ')
          (Nat.beq bit 7))
        (fN (v / 2 ^ (7 - bit) % 2) fun r => fN (bit + 1) fun b1 => fH rr 0 (σ.put rr (.cells [.slice (some ⟨b, o, none⟩) n c, .int .i64 (.ofNat b1)] e 2 .exact)) fun σ' => K (.ok (.int .i64 (.ofNat r))) σ')
        (Nat.blt bit 7)
    | _ => false) (Nat.blt 0 n && !(Nat.beq rr b))) (Nat.blt rr σ.next)
omit [Aw] in
theorem Tr.set_set {α : Type} (a b : α) : ∀ (t : Tr α) (i : Nat), (t.set i a).set i b = t.set i b := by
  have one : ∀ (f i : Nat), i ≤ f → (Tr.one a f i).set i b = Tr.one b f i := by
    intro f
    induction f with
    | zero =>
      intro i h
      obtain rfl : i = 0 := by omega
      rfl
    | succ f ih =>
      intro i h
      cases i with
      | zero => rfl
      | succ i =>
        rw [Tr.one_succ, Tr.one_succ]
        by_cases hi : i % 2 = 0
        · rw [if_pos hi, if_pos hi, Tr.set_succ, if_pos hi, ih _ (by omega)]
        · rw [if_neg hi, if_neg hi, Tr.set_succ, if_neg hi, ih _ (by omega)]
  intro t
  induction t with
  | leaf => intro i; exact one i i (Nat.le_refl _)
  | node l v r il ir =>
    intro i
    cases i with
    | zero => rfl
    | succ i =>
      rw [Tr.set_succ, Tr.set_succ]
      by_cases hi : i % 2 = 0
      · rw [if_pos hi, if_pos hi, Tr.set_succ, if_pos hi, il]
      · rw [if_neg hi, if_neg hi, Tr.set_succ, if_neg hi, ir]
omit [Aw] in
theorem H.put_put (σ : H) (i : Nat) (a b : Obj) : (σ.put i a).put i b = σ.put i b := by simp only [H.put, Tr.set_set]
omit [Aw] in
/-- Slicing looks at its own row alone. -/
theorem pSlice_put {σ : H} {b o n c rr : Nat} {x : Obj} (hne : rr ≠ b) {v : Value} {σ2 : H} (h : pSlice 1 true false false [.slice (some ⟨b, o, none⟩) n c, .int .i64 1] σ = some (v, σ2)) :
    pSlice 1 true false false [.slice (some ⟨b, o, none⟩) n c, .int .i64 1] (σ.put rr x) = some (v, σ.put rr x) := by
  have hb : (σ.put rr x).get b = σ.get b := H.get_put_ne _ hne _
  have hs : ∀ lo hi mx, sliceV (σ.put rr x) 1 (some ⟨b, o, none⟩) n c lo hi mx = sliceV σ 1 (some ⟨b, o, none⟩) n c lo hi mx := by
    intro lo hi mx
    unfold sliceV
    simp only [rowSize, atEnd, hb]
  simp only [pSlice, optInts, intOf?, hs] at h ⊢
  split at h
  · rename_i v' hv
    cases h
    rfl
  · cases h
omit [Aw] in
theorem sl1_of {x : Option (Value × H)} {K : Option Addr → Nat → Nat → Bool} (h : sl1 x K = true) : ∃ p n c σ, x = some (.slice p n c, σ) ∧ K p n c = true := by
  unfold sl1 at h
  split at h
  · exact ⟨_, _, _, _, rfl, h⟩
  · cases h
theorem nextK_of {vs : List Value} {σ : H} {K : Res → H → Bool} (h : nextK vs σ K = true) : Ru 300 vs σ fun r σ' => K r σ' = true := by
  unfold nextK at h
  obtain ⟨rr, rfl, a1⟩ := ptr1_of h
  clear h
  cases hlt : Nat.blt rr σ.next with
  | false => rw [hlt] at a1; cases a1
  | true =>
  rw [hlt] at a1
  rw [nblt] at hlt
  have hlt := of_decide_eq_true hlt
  obtain ⟨ob, ho, a2⟩ := tget_of a1
  obtain ⟨b, o, n, c, bit0, e, rfl, a3⟩ := rdr2_of a2
  obtain ⟨bit, rfl, a4⟩ := nZ_of a3
  clear a1 a2 a3
  cases hn : Nat.blt 0 n && !(Nat.beq rr b) with
  | false => rw [hn] at a4; cases a4
  | true =>
  rw [hn] at a4
  simp only [Bool.and_eq_true, nblt, nbeq, decide_eq_true_eq, Bool.not_eq_true', decide_eq_false_iff_not] at hn
  obtain ⟨hn, hne⟩ := hn
  obtain ⟨ob2, ho2, a5⟩ := tget_of a4
  clear a4
  cases ob2 with
  | map _ _ => cases a5
  | dead => cases a5
  | cells c0 e0 s0 m0 =>
  obtain ⟨l, hl, a6⟩ := kcut_of a5
  obtain ⟨v, hv, a7⟩ := one1_of a6
  clear a5 a6
  obtain ⟨q1, q2⟩ := kcut_some hl
  rw [hv] at q2
  have hcell : cellAt (σ.get b) (o + 0) = some (.int .u8 (v.toNat : Int)) := by
    have hg : σ.get b = some (.cells c0 e0 s0 m0) := ho2
    rw [hg, cellAt_cells]
    have e0 := congrArg (fun l => l[0]?) q2
    simp [List.getElem?_take, List.getElem?_drop] at e0
    rw [Nat.add_zero, ← e0]; rfl
  have hv8 : v.toNat < 256 := v.toNat_lt
  cases hb7 : Nat.blt bit 7 with
  | true =>
    rw [hb7] at a7
    simp only [fN_eq, fH_eq] at a7
    rw [nblt] at hb7
    refine (next_exact hlt ho hn hcell hv8 (of_decide_eq_true hb7)).mono ?_
    rintro r σ' ⟨rfl, rfl⟩
    exact a7
  | false =>
    rw [hb7] at a7
    cases hb8 : Nat.beq bit 7 with
    | false => rw [hb8] at a7; cases a7
    | true =>
      rw [hb8] at a7
      rw [nbeq] at hb8
      have hb8 := of_decide_eq_true hb8
      subst hb8
      obtain ⟨p', n', c', σ2, hsl, a8⟩ := sl1_of a7
      simp only [fN_eq, fH_eq, fV_eq] at a8
      refine (next_last hlt ho hn hcell hv8 (pSlice_put hne hsl)).mono ?_
      rintro r σ' ⟨rfl, rfl⟩
      rw [H.put_put, H.put_put]
      exact a8
/-- Sums, orders and bits at once. -/
def ovN : Ov := fun k => @Bool.rec (fun _ => Option (List Value → H → (Res → H → Bool) → Bool)) (ovT k) (some nextK) (Nat.beq k 300)
theorem ovN_ok : OvOK ovN := by
  intro k f hf args σ K h
  unfold ovN at hf
  cases hk : Nat.beq k 300 with
  | false => rw [hk] at hf; exact ovT_ok hf h
  | true =>
    rw [hk] at hf
    cases hf
    rw [nbeq] at hk
    have hk := of_decide_eq_true hk
    subst hk
    exact nextK_of h
end
end AM
end Go.Proofs.YtlelihddjacplaaGreat
namespace Go.Proofs.YtlelihddjacplaaGreat
namespace AM

/-! ### Slices of a row, exactly -/
theorem slice_at {σ : H} {esz b o n cap e : Nat} {c0 : List Value} {m : Mode} (hg : σ.get b = some (.cells c0 e esz m)) (hb : b ≠ 0) {l hh : Nat} (h1 : l ≤ hh) (h2 : hh ≤ cap) (h3 : l < cap) (lo hi : Option Int) (hlo : cutLow lo hh = some l) (hhi : cutHigh hi none n cap = some hh) :
    sliceV σ esz (some ⟨b, o, none⟩) n cap lo hi none = some (.slice (some ⟨b, o + l * esz, none⟩) (hh - l) (cap - l)) := by
  have hle : Nat.ble hh cap = true := by rw [nble]; simpa using h2
  have hb0 : Nat.beq b 0 = false := by rw [nbeq, decide_eq_false hb]
  have hrow : Nat.beq (rowSize σ b) esz = true := by simp [rowSize, hg]
  have hlc : Nat.beq l cap = false := by rw [nbeq, decide_eq_false (by omega)]
  unfold sliceV
  simp only [cutMax, hhi, hlo, hle, hb0, hrow]
  cases hE : atEnd σ ⟨b, o, none⟩ cap <;> simp only [hlc]
theorem sl_from {σ : H} {esz b o n cap e : Nat} {c0 : List Value} {m : Mode} (hg : σ.get b = some (.cells c0 e esz m)) (hb : b ≠ 0) (k : IntKind) {l : Nat} (h1 : l ≤ n) (h2 : n ≤ cap) (h3 : l < cap) (i : Int) (hi : i = l) :
    prim (.slice esz true false false) [.slice (some ⟨b, o, none⟩) n cap, .int k i] σ = some (.slice (some ⟨b, o + l * esz, none⟩) (n - l) (cap - l), σ) := by
  subst hi
  have := slice_at (o := o) (n := n) hg hb h1 h2 h3 (some (l : Int)) none (by simp [cutLow, bound_in (Int.natCast_nonneg l) (show (l : Int) ≤ n by omega)]) rfl
  simp [prim, pSlice, optInts, intOf?, this]
theorem sl_to {σ : H} {esz b o n cap e : Nat} {c0 : List Value} {m : Mode} (hg : σ.get b = some (.cells c0 e esz m)) (hb : b ≠ 0) (k : IntKind) {hh : Nat} (h2 : hh ≤ cap) (h3 : 0 < cap) (i : Int) (hi : i = hh) :
    prim (.slice esz false true false) [.slice (some ⟨b, o, none⟩) n cap, .int k i] σ = some (.slice (some ⟨b, o, none⟩) hh cap, σ) := by
  subst hi
  have := slice_at (o := o) (n := n) (l := 0) hg hb (Nat.zero_le hh) h2 h3 none (some (hh : Int)) rfl (by simp [cutHigh, bound_in (Int.natCast_nonneg hh) (show (hh : Int) ≤ cap by omega)])
  rw [Nat.zero_mul, Nat.add_zero, Nat.sub_zero, Nat.sub_zero] at this
  simp [prim, pSlice, optInts, intOf?, this]
theorem sl_of {σ : H} {esz b o n cap e : Nat} {c0 : List Value} {m : Mode} (hg : σ.get b = some (.cells c0 e esz m)) (hb : b ≠ 0) (k k' : IntKind) {l hh : Nat} (h1 : l ≤ hh) (h2 : hh ≤ cap) (h3 : l < cap) (i j : Int) (hi : i = l) (hj : j = hh) :
    prim (.slice esz true true false) [.slice (some ⟨b, o, none⟩) n cap, .int k i, .int k' j] σ = some (.slice (some ⟨b, o + l * esz, none⟩) (hh - l) (cap - l), σ) := by
  subst hi hj
  have := slice_at (o := o) (n := n) hg hb h1 h2 h3 (some (l : Int)) (some (hh : Int)) (by simp [cutLow, bound_in (Int.natCast_nonneg l) (show (l : Int) ≤ hh by omega)]) (by simp [cutHigh, bound_in (Int.natCast_nonneg hh) (show (hh : Int) ≤ cap by omega)])
  simp [prim, pSlice, optInts, intOf?, this]

/-! ### A row of bytes that may be written -/
structure Rowb (σ : H) (b : Nat) (xs : List UInt8) : Prop where
  ex : ∃ e m, σ.get b = some (.cells (xs.map bv) e 1 m) ∧ m ≠ .ro
  lt : b < σ.next
  pos : b ≠ 0
theorem Rowb.same {S : Nat → Prop} {σ σ' : H} {b : Nat} {xs : List UInt8} (h : Rowb σ b xs) (hs : Same S σ σ') (hn : ¬ S b) : Rowb σ' b xs := by
  obtain ⟨e, m, h1, h2⟩ := h.ex
  exact ⟨⟨e, m, by rw [hs.get b h.lt hn]; exact h1, h2⟩, Nat.lt_of_lt_of_le h.lt hs.le, h.pos⟩
theorem Rowb.byts {σ : H} {b : Nat} {xs : List UInt8} (h : Rowb σ b xs) {o n c : Nat} (hn : n ≤ c) (hc : o + c ≤ xs.length) : Byts σ (.slice (some ⟨b, o, none⟩) n c) ((xs.drop o).take n) := by
  obtain ⟨e, m, h1, h2⟩ := h.ex
  refine ⟨_, n, c, _, rfl, SlP.row b o c e _ m h.pos h.lt h1 (by simpa using hc), hn, ?_⟩
  simp [List.map_drop, List.map_take, List.take_take, Nat.min_eq_left hn]
/-- A byte is stored. -/
theorem Rowb.put {σ : H} {b : Nat} {xs : List UInt8} (h : Rowb σ b xs) (i : Nat) (hi : i < xs.length) (k : Nat) (y : UInt8) (hk : k = y.toNat) :
    ∃ ob, setAt (σ.get b) i (.int .u8 (k : Int)) = some ob ∧ Rowb (σ.put b ob) b (xs.set i y) ∧ Same (fun x => x = b) σ (σ.put b ob) := by
  obtain ⟨e, m, h1, h2⟩ := h.ex
  refine ⟨.cells ((xs.set i y).map bv) e 1 m, ?_, ⟨⟨e, m, H.get_put_same _ _ _, h2⟩, by simpa using h.lt, h.pos⟩, Same.put (S := fun x => x = b) (Same.refl _ _) (.inr rfl) _⟩
  rw [h1, setAt_cells, if_pos ⟨h2, rfl, by simpa using hi⟩, List.map_set, hk]
  rfl
theorem Rowb.new {σ : H} (h0 : σ.next ≠ 0) (n : Nat) : Rowb (σ.push (.cells (lrep [.int .u8 0] n) 5 1 .exact)) σ.next (List.replicate n 0) :=
  ⟨⟨5, .exact, by rw [H.get_push_same, lrep_one]; simp [bv], by simp⟩, by simp, h0⟩
def le4 (x : Nat) : List UInt8 := [UInt8.ofNat x, UInt8.ofNat (x / 256), UInt8.ofNat (x / 65536), UInt8.ofNat (x / 16777216)]
def overw (xs : List UInt8) (o : Nat) (ys : List UInt8) : List UInt8 := xs.take o ++ (ys ++ xs.drop (o + ys.length))
theorem overw_len {xs : List UInt8} {o : Nat} {ys : List UInt8} (h : o + ys.length ≤ xs.length) : (overw xs o ys).length = xs.length := by simp [overw]; omega
theorem overw_set {xs : List UInt8} {o : Nat} {ys : List UInt8} {y : UInt8} (h : o + ys.length < xs.length) : (overw xs o ys).set (o + ys.length) y = overw xs o (ys ++ [y]) := by
  unfold overw
  have h1 : (xs.take o).length = o := by simp; omega
  rw [List.set_append_right _ _ (by omega), h1, show o + ys.length - o = ys.length by omega, List.set_append_right _ _ (Nat.le_refl _), Nat.sub_self]
  rw [List.drop_eq_getElem_cons h, List.set_cons_zero, List.length_append, List.length_cons, List.length_nil]
  simp [Nat.add_assoc]
/-- A number of four bytes. -/
def num4 (xs : List UInt8) : Nat := (xs.getD 0 0).toNat + (xs.getD 1 0).toNat * 256 + (xs.getD 2 0).toNat * 65536 + (xs.getD 3 0).toNat * 16777216
theorem num4_lt (xs : List UInt8) : num4 xs < 4294967296 := by
  unfold num4
  have h0 := (xs.getD 0 0).toNat_lt
  have h1 := (xs.getD 1 0).toNat_lt
  have h2 := (xs.getD 2 0).toNat_lt
  have h3 := (xs.getD 3 0).toNat_lt
  omega
theorem num4_le4 {x : Nat} (h : x < 4294967296) (r : List UInt8) : num4 (le4 x ++ r) = x := by
  simp [num4, le4, UInt8.toNat_ofNat']
  omega
theorem tdiv_nat (a : Nat) (b : Nat) : ((a : Int)).tdiv (b : Int) = ((a / b : Nat) : Int) := (Int.ofNat_tdiv a b).symm
def blocksN (n : Nat) : Nat := if n ≤ 4096 then (16 + n + 63) / 64 else 0
variable [Aw]
theorem blocks_run (n : Nat) (hn : n < 1000000000000) (σ : H) : Ru 170 [.int .i64 (n : Int)] σ fun r σ' => r = .ok (.int .i64 (blocksN n : Nat)) ∧ σ' = σ := by
  refine ru_fn (F := f170) rfl rfl rfl (by simp) ?_
  have h1 : ¬ ((n : Int) < 0) := by omega
  by_cases h2 : n ≤ 4096
  · have h3 : ¬ ((4096 : Int) < n) := by omega
    have h4 : IntKind.i64.wrap (16 + (n : Int)) = ((16 + n : Nat) : Int) := by rw [wrap64 (by omega) (by omega)]; omega
    have h5 : IntKind.i64.wrap (((16 + n : Nat) : Int) + 64) = ((16 + n + 64 : Nat) : Int) := by rw [wrap64 (by omega) (by omega)]; omega
    have h6 : IntKind.i64.wrap (((16 + n + 64 : Nat) : Int) - 1) = ((16 + n + 63 : Nat) : Int) := by rw [wrap64 (by omega) (by omega)]; omega
    have h7 := tdiv_nat (16 + n + 63) 64
    have h8 : IntKind.i64.wrap ((((16 + n + 63) / 64 : Nat)) : Int) = (((16 + n + 63) / 64 : Nat) : Int) := wrap64 (by omega) (by omega)
    simp only [Int.natCast_add, Int.cast_ofNat_Int] at h4 h5 h6 h7 h8
    simp [f170, h1, h3, h4, h5, h6, h7, h8, blocksN, h2]
    exact wrap64 (by omega) (by omega)
  · have h3 : (4096 : Int) < n := by omega
    simp [f170, h1, h3, blocksN, h2]
theorem lay_run {σ : H} {b : Nat} {xs : List UInt8} (h : Rowb σ b xs) (o n c x : Nat) (ho : o + 4 ≤ xs.length) (hn : 4 ≤ n) (hx : x < 4294967296) :
    Ru 190 [.slice (some ⟨b, o, none⟩) n c, .int .u32 (x : Int)] σ fun r σ' => r = .ok (.tuple #[]) ∧ Rowb σ' b (overw xs o (le4 x)) ∧ Same (fun k => k = b) σ σ' := by
  refine ru_fn (F := f190) rfl rfl rfl (by simp) ?_
  simp [f190]
  refine wp_loop (α := Nat) (fun i e σ1 => i ≤ 4 ∧ e = [(0, .slice (some ⟨b, o, none⟩) n c), (1, .int .u32 (x : Int)), (5, .int .i64 (i : Int))] ∧ Rowb σ1 b (overw xs o ((le4 x).take i)) ∧ Same (fun k => k = b) σ σ1) (fun i => 4 - i) 0 ⟨by omega, by simp, by simpa [overw] using h, .refl _ _⟩ ?_
  rintro i e σ1 ⟨hi, rfl, hr, hs⟩
  refine wp_of _ _ _ _ ?_
  simp [l190_0]
  refine WpB.dec (fun h4 => ?_) (fun h4 => ?_)
  · have h4' : i < 4 := by omega
    have hlen : ((le4 x).take i).length = i := by simp [le4]; omega
    obtain ⟨s8, hs8⟩ : ∃ s8, s8 = 8 * i := ⟨_, rfl⟩
    have h8 : IntKind.i64.wrap (8 * (i : Int)) = (s8 : Int) := by rw [wrap64 (by omega) (by omega)]; omega
    have hin : i < n := by omega
    have hw1 : IntKind.i64.wrap ((i : Int) + 1) = ((i + 1 : Nat) : Int) := by rw [wrap64 (by omega) (by omega)]; omega
    obtain ⟨q, hq⟩ : ∃ q, q = x / 2 ^ s8 := ⟨_, rfl⟩
    have hshr := prim_shrV (σ := σ1) (k := .u32) (k' := .i64) (a := x) (b := s8) (show s8 ≤ 32 by omega)
    rw [← hq] at hshr
    obtain ⟨ob, k1, k2, k3⟩ := hr.put (o + i) (by rw [overw_len (by rw [hlen]; omega)]; omega) (md .u8 q) (UInt8.ofNat q) (by rw [md8]; simp [UInt8.toNat_ofNat'])
    have hset : (overw xs o ((le4 x).take i)).set (o + i) (UInt8.ofNat q) = overw xs o ((le4 x).take (i + 1)) := by
      have := overw_set (xs := xs) (o := o) (ys := (le4 x).take i) (y := UInt8.ofNat q) (by rw [hlen]; omega)
      rw [hlen] at this
      rw [this]
      congr 1
      rw [hq, hs8]
      rcases (show i = 0 ∨ i = 1 ∨ i = 2 ∨ i = 3 by omega) with rfl | rfl | rfl | rfl <;> simp [le4]
    rw [hset] at k2
    simp [h8, hshr, hin, k1, hw1]
    exact ⟨i + 1, ⟨by omega, by simp, k2, hs.trans k3 fun _ _ h => h⟩, by omega⟩
  · have : i = 4 := by omega
    subst this
    simp
    exact ⟨by simpa [le4] using hr, hs⟩
omit [Aw] in
theorem or_sh (i a b : Nat) (h : a < 2 ^ i) : (a ||| b * 2 ^ i) = a + b * 2 ^ i := by
  have := Nat.two_pow_add_eq_or_of_lt h b
  rw [Nat.or_comm, Nat.mul_comm b, ← this, Nat.add_comm]
theorem number_run {σ : H} {v : Value} {xs : List UInt8} (hv : Byts σ v xs) (hl : 4 ≤ xs.length) : Ru 171 [v] σ fun r σ' => r = .ok (.int .u32 (num4 xs : Nat)) ∧ σ' = σ := by
  obtain ⟨p, c, rfl⟩ := hv.form
  obtain ⟨b, o, rfl, hb, hlt, h0⟩ := hv.cell (i := 0) (by omega)
  obtain ⟨b', o', e, _, _, h1⟩ := hv.cell (i := 1) (by omega)
  cases e
  obtain ⟨b', o', e, _, _, h2⟩ := hv.cell (i := 2) (by omega)
  cases e
  obtain ⟨b', o', e, _, _, h3⟩ := hv.cell (i := 3) (by omega)
  cases e
  obtain ⟨x0, e0⟩ : ∃ x, x = xs[0].toNat := ⟨_, rfl⟩
  obtain ⟨x1, e1⟩ : ∃ x, x = xs[1].toNat := ⟨_, rfl⟩
  obtain ⟨x2, e2⟩ : ∃ x, x = xs[2].toNat := ⟨_, rfl⟩
  obtain ⟨x3, e3⟩ : ∃ x, x = xs[3].toNat := ⟨_, rfl⟩
  have l0 : x0 < 256 := by rw [e0]; exact xs[0].toNat_lt
  have l1 : x1 < 256 := by rw [e1]; exact xs[1].toNat_lt
  have l2 : x2 < 256 := by rw [e2]; exact xs[2].toNat_lt
  have l3 : x3 < 256 := by rw [e3]; exact xs[3].toNat_lt
  rw [← e0] at h0
  rw [← e1] at h1
  rw [← e2] at h2
  rw [← e3] at h3
  have hnum : num4 xs = x0 + x1 * 256 + x2 * 65536 + x3 * 16777216 := by
    unfold num4
    rw [e0, e1, e2, e3]
    simp [List.getD_eq_getElem?_getD, List.getElem?_eq_getElem (show 0 < xs.length by omega), List.getElem?_eq_getElem (show 1 < xs.length by omega), List.getElem?_eq_getElem (show 2 < xs.length by omega), List.getElem?_eq_getElem (show 3 < xs.length by omega)]
  have lim : ∀ x : Nat, x < 4294967296 → x < 4294967296 := fun x h => h
  have w : ∀ x : Nat, x < 4294967296 → md .u32 x = x := fun x h => by rw [md32]; omega
  obtain ⟨y1, f1⟩ : ∃ y, y = x1 * 256 := ⟨_, rfl⟩
  obtain ⟨y2, f2⟩ : ∃ y, y = x2 * 65536 := ⟨_, rfl⟩
  obtain ⟨y3, f3⟩ : ∃ y, y = x3 * 16777216 := ⟨_, rfl⟩
  have m1 : md .u32 (x1 * 256) = y1 := by rw [md32]; omega
  have m2 : md .u32 (x2 * 65536) = y2 := by rw [md32]; omega
  have m3 : md .u32 (x3 * 16777216) = y3 := by rw [md32]; omega
  obtain ⟨z1, g1⟩ : ∃ z, z = x0 + y1 := ⟨_, rfl⟩
  obtain ⟨z2, g2⟩ : ∃ z, z = z1 + y2 := ⟨_, rfl⟩
  obtain ⟨z3, g3⟩ : ∃ z, z = z2 + y3 := ⟨_, rfl⟩
  have o1 : (x0 ||| y1) = z1 := by rw [g1, f1]; exact or_sh 8 x0 x1 (by omega)
  have o2 : (z1 ||| y2) = z2 := by rw [g2, f2]; exact or_sh 16 _ x2 (by omega)
  have o3 : (z2 ||| y3) = z3 := by rw [g3, f3]; exact or_sh 24 _ x3 (by omega)
  have hz : num4 xs = z3 := by rw [hnum, g3, g2, g1, f1, f2, f3]
  rw [hz]
  refine ru_fn (F := f171) rfl rfl rfl (by simp) ?_
  have hn0 : 0 < xs.length := by omega
  have hn1 : 1 < xs.length := by omega
  simp only [Nat.add_zero] at h0
  have q2 : (2 : Int) < (xs.length : Int) := by omega
  have q3 : (3 : Int) < (xs.length : Int) := by omega
  simp [f171, hn0, hn1, prim_idxAddr, q2, q3, h0, h1, h2, h3, w x0 (by omega), w x1 (by omega), w x2 (by omega), w x3 (by omega), m1, m2, m3, lim x0 (by omega), lim y1 (by omega), lim y2 (by omega), lim y3 (by omega), o1, o2, o3, lim z1 (by omega), lim z2 (by omega)]
theorem leafsum_run {σ : H} {v u : Value} {xs ys : List UInt8} (hv : Byts σ v xs) (hu : Byts σ u ys) (hl : 12 ≤ xs.length) (hy : ys.length < 1000000000) :
    Ru 172 [v, u] σ fun r σ' => r = .ok (.int .u32 (more (more 0 (xs.take 12)) ys : Nat)) ∧ σ' = σ := by
  obtain ⟨p, c, rfl⟩ := hv.form
  refine ru_fn (F := f172) rfl rfl rfl (by simp) ?_
  obtain ⟨p', c', g1, g2, _⟩ := slice_to hv (by decide) .i64 hl 12 rfl
  simp [f172, g1]
  have g3 : Byts σ (.slice p' 12 c') (xs.take 12) := by
    unfold Byts
    rw [List.map_take]
    exact g2
  refine (sum_run g3 (by simp; omega)).mono ?_
  rintro r σ1 ⟨rfl, rfl⟩
  simp
  refine (more_run _ (more_lt (by decide) _) hu hy).mono ?_
  rintro r σ1 ⟨rfl, rfl⟩
  simp
omit [Aw] in
/-- Bytes are copied into a row. -/
theorem Rowb.copy {σ : H} {b : Nat} {xs : List UInt8} (h : Rowb σ b xs) {o n c : Nat} {v : Value} {ys : List UInt8} (hv : Byts σ v ys) (ho : o + ys.length ≤ xs.length) (hn : ys.length ≤ n) :
    ∃ σ', prim (.copy 1) [.slice (some ⟨b, o, none⟩) n c, v] σ = some (.int .i64 (ys.length : Int), σ') ∧ Rowb σ' b (overw xs o ys) ∧ Same (fun x => x = b) σ σ' := by
  obtain ⟨p, cp, rfl⟩ := hv.form
  obtain ⟨e, m, h1, h2⟩ := h.ex
  have hm : Nat.min ys.length n = ys.length := Nat.min_eq_left hn
  have hsrc := Sl.src hv
  simp only [prim, pCopy, hm, hsrc]
  cases ys with
  | nil => exact ⟨σ, rfl, by simpa [overw] using h, Same.refl _ _⟩
  | cons y ys =>
    have hw : wrCells σ ⟨b, o, none⟩ (bv y :: ys.map bv) = some (σ.put b (.cells ((overw xs o (y :: ys)).map bv) e 1 m)) := by
      rw [wrCells_eq, h1, layAt_cells, if_pos ⟨h2, by simp [bv, cellOk], by simpa using ho⟩]
      simp [overw, List.map_take, List.map_drop]
    simp only [List.map_cons, hw]
    exact ⟨_, rfl, ⟨⟨e, m, H.get_put_same _ _ _, h2⟩, by simpa using h.lt, h.pos⟩, Same.put (S := fun x => x = b) (Same.refl _ _) (.inr rfl) _⟩
/-- What a frame says ahead of its sum. -/
def hdr (kind : UInt8) (gen n : Nat) : List UInt8 := [0xc5, 0x7e, kind, 0] ++ (le4 gen ++ le4 n)
noncomputable def fsum (kind : UInt8) (gen : Nat) (ys : List UInt8) : Nat := more (more 0 (hdr kind gen ys.length)) ys
/-- A frame. -/
noncomputable def frame (kind : UInt8) (gen : Nat) (ys : List UInt8) : List UInt8 := hdr kind gen ys.length ++ (le4 (fsum kind gen ys) ++ (ys ++ List.replicate (64 * blocksN ys.length - 16 - ys.length) 0))
omit [Aw] in
theorem frame_len (kind : UInt8) (gen : Nat) (ys : List UInt8) (h : ys.length ≤ 4096) : (frame kind gen ys).length = 64 * blocksN ys.length := by
  have : 16 + ys.length ≤ 64 * blocksN ys.length := by unfold blocksN; rw [if_pos h]; omega
  simp [frame, hdr, le4]; omega
omit [Aw] in
theorem Rowb.store {σ : H} {b : Nat} {xs : List UInt8} (h : Rowb σ b xs) (i : Nat) (hi : i < xs.length) (z : Int) (y : UInt8) (hz : z = (y.toNat : Int)) :
    ∃ σ', prim (.store 1) [.pointer (some ⟨b, i, none⟩), .int .u8 z] σ = some (.tuple #[], σ') ∧ Rowb σ' b (xs.set i y) ∧ Same (fun x => x = b) σ σ' := by
  obtain ⟨ob, k1, k2, k3⟩ := h.put i hi y.toNat y rfl
  subst hz
  exact ⟨_, by rw [prim_store_int, k1]; rfl, k2, k3⟩
omit [Aw] in
theorem Rowb.from {σ : H} {b : Nat} {xs : List UInt8} (h : Rowb σ b xs) (k : IntKind) {l n c : Nat} (h1 : l ≤ n) (h2 : n ≤ c) (h3 : l < c) (o : Nat) (i : Int) (hi : i = l) :
    prim (.slice 1 true false false) [.slice (some ⟨b, o, none⟩) n c, .int k i] σ = some (.slice (some ⟨b, o + l, none⟩) (n - l) (c - l), σ) := by
  obtain ⟨e, m, g, _⟩ := h.ex
  have := sl_from (o := o) g h.pos k h1 h2 h3 i hi
  rwa [Nat.mul_one] at this
omit [Aw] in
theorem Same.fresh {a s t : H} {b : Nat} (h : Same0 a s) (k : Same (fun x => x = b) s t) (hb : a.next ≤ b) : Same0 a t := h.trans k fun i hi e => by omega
omit [Aw] in
theorem frame_eq (kind : UInt8) (gen s : Nat) (ys : List UInt8) (N : Nat) (hN : 16 + ys.length ≤ N) :
    overw (overw (overw (overw ((((List.replicate N (0 : UInt8)).set 0 0xc5).set 1 0x7e).set 2 kind) 4 (le4 gen)) 8 (le4 ys.length)) 12 (le4 s)) 16 ys = hdr kind gen ys.length ++ (le4 s ++ (ys ++ List.replicate (N - 16 - ys.length) 0)) ∧
    (overw (overw ((((List.replicate N (0 : UInt8)).set 0 0xc5).set 1 0x7e).set 2 kind) 4 (le4 gen)) 8 (le4 ys.length)).take 12 = hdr kind gen ys.length := by
  obtain ⟨M, rfl⟩ : ∃ M, N = M + 16 := ⟨N - 16, by omega⟩
  have hrep : List.replicate (M + 16) (0 : UInt8) = 0 :: 0 :: 0 :: 0 :: 0 :: 0 :: 0 :: 0 :: 0 :: 0 :: 0 :: 0 :: 0 :: 0 :: 0 :: 0 :: List.replicate M 0 := by
    simp [List.replicate_succ]
  rw [hrep]
  constructor
  · simp [overw, le4, hdr]
    rw [← List.drop_drop]
    simp
  · simp [overw, le4, hdr]
theorem make_run {σ : H} {v : Value} {ys : List UInt8} (h0 : σ.next ≠ 0) (kind : UInt8) (gen : Nat) (hg : gen < 2147483648) (hv : Byts σ v ys) (hl : ys.length ≤ 4096) :
    Ru 128 [.int .u8 (kind.toNat : Int), .int .i64 (gen : Int), v] σ fun r σ' => ∃ b n, r = .ok (.tuple #[.slice (some ⟨b, 0, none⟩) n n, .int .i64 0]) ∧ Rowb σ' b (frame kind gen ys) ∧ n = 64 * blocksN ys.length ∧ σ.next ≤ b ∧ Same0 σ σ' := by
  obtain ⟨p, c, rfl⟩ := hv.form
  refine ru_fn (F := f128) rfl rfl rfl (by simp) ?_
  have h1 : ¬ ((gen : Int) < 0) := by omega
  have h2 : ¬ ((2147483647 : Int) < gen) := by omega
  have h3 : ¬ ((4096 : Int) < ys.length) := by omega
  simp [f128, h1, h2, h3]
  refine (blocks_run ys.length (by omega) σ).mono ?_
  rintro r σ1 ⟨rfl, rfl⟩
  obtain ⟨N, hN⟩ : ∃ N, N = 64 * blocksN ys.length := ⟨_, rfl⟩
  have hNb : 16 + ys.length ≤ N ∧ N ≤ 10000 := by rw [hN]; unfold blocksN; rw [if_pos hl]; omega
  have hw : IntKind.i64.wrap (64 * (blocksN ys.length : Int)) = (N : Int) := by rw [wrap64 (by omega) (by omega)]; omega
  have hnew := prim_newSlice (σ := σ1) (elem := 5) (esz := 1) (bytes := 1) (z := [.int .u8 0]) (n := N) .i64 .i64 (by decide) (by omega)
  have hb0 : σ1.next ≠ 0 := h0
  have R0 := Rowb.new h0 N
  have hs0 : Same0 σ1 (σ1.push (.cells (lrep [.int .u8 0] N) 5 1 .exact)) := (Same.refl _ _).push _
  obtain ⟨b, hb⟩ : ∃ b, b = σ1.next := ⟨_, rfl⟩
  obtain ⟨σ2, hσ2⟩ : ∃ σ2, σ2 = σ1.push (.cells (lrep [.int .u8 0] N) 5 1 .exact) := ⟨_, rfl⟩
  rw [← hσ2] at hnew R0 hs0
  rw [← hb] at hnew R0
  have hbl : σ1.next ≤ b := by omega
  obtain ⟨σ3, k3, R3, s3⟩ := R0.store 0 (by simp; omega) 197 0xc5 rfl
  obtain ⟨σ4, k4, R4, s4⟩ := R3.store 1 (by simp; omega) 126 0x7e rfl
  obtain ⟨σ5, k5, R5, s5⟩ := R4.store 2 (by simp; omega) (kind.toNat : Int) kind rfl
  have hs5 : Same0 σ1 σ5 := ((hs0.fresh s3 hbl).fresh s4 hbl).fresh s5 hbl
  have hN0 : 0 < N := by omega
  have hN1 : 1 < N := by omega
  have hN2 : (2 : Int) < (N : Int) := by omega
  have f4 := R5.from .i64 (l := 4) (n := N) (c := N) (by omega) (Nat.le_refl _) (by omega) 0 4 rfl
  have hgw : md .u32 gen = gen := by rw [md32]; omega
  simp only [Nat.zero_add] at f4
  simp [-prim_store_int, hw, hnew, hN0, hN1, prim_idxAddr, hN2, k3, k4, k5, f4, hgw]
  refine (lay_run R5 4 (N - 4) (N - 4) gen (by simp; omega) (by omega) (by omega)).mono ?_
  rintro r σ6 ⟨rfl, R6, s6⟩
  have hs6 := hs5.fresh s6 hbl
  have g8 := R6.from .i64 (l := 8) (n := N) (c := N) (by omega) (Nat.le_refl _) (by omega) 0 8 rfl
  simp only [Nat.zero_add] at g8
  have hlw : md .u32 ys.length = ys.length := by rw [md32]; omega
  simp [g8, hlw]
  have hlen5 : (overw (((List.replicate N (0 : UInt8)).set 0 0xc5).set 1 0x7e |>.set 2 kind) 4 (le4 gen)).length = N := by rw [overw_len (by simp [le4]; omega)]; simp
  refine (lay_run R6 8 (N - 8) (N - 8) ys.length (by rw [hlen5]; omega) (by omega) (by omega)).mono ?_
  rintro r σ7 ⟨rfl, R7, s7⟩
  have hs7 := hs6.fresh s7 hbl
  obtain ⟨L7, hL7⟩ : ∃ L, L = overw (overw (((List.replicate N (0 : UInt8)).set 0 0xc5).set 1 0x7e |>.set 2 kind) 4 (le4 gen)) 8 (le4 ys.length) := ⟨_, rfl⟩
  rw [← hL7] at R7
  have hlen7 : L7.length = N := by rw [hL7, overw_len (by rw [hlen5]; simp [le4]; omega), hlen5]
  have ht12 : L7.take 12 = hdr kind gen ys.length := by rw [hL7]; exact (frame_eq kind gen 0 ys N (by omega)).2
  have g12 := R7.from .i64 (l := 12) (n := N) (c := N) (by omega) (Nat.le_refl _) (by omega) 0 12 rfl
  simp only [Nat.zero_add] at g12
  have hB7 := R7.byts (o := 0) (n := N) (c := N) (Nat.le_refl _) (by omega)
  rw [List.drop_zero, List.take_of_length_le (by omega)] at hB7
  have hv7 := hv.same0 hs7
  simp [g12]
  refine ⟨rfl, (leafsum_run hB7 hv7 (by omega) (by omega)).mono ?_⟩
  rintro r σ8 ⟨rfl, rfl⟩
  rw [ht12]
  simp [still, keepR, mobOk]
  refine (lay_run R7 12 (N - 12) (N - 12) _ (by omega) (by omega) (more_lt (more_lt (by decide) _) _)).mono ?_
  rintro r σ9 ⟨rfl, R9, s9⟩
  have hs9 := hs7.fresh s9 hbl
  simp [still, keepR]
  have g16 := R9.from .i64 (l := 16) (n := N) (c := N) (by omega) (Nat.le_refl _) (by omega) 0 16 rfl
  simp only [Nat.zero_add] at g16
  have hlen9 : (overw L7 12 (le4 (more (more 0 (hdr kind gen ys.length)) ys))).length = N := by rw [overw_len (by rw [hlen7]; simp [le4]; omega), hlen7]
  obtain ⟨σ10, k10, R10, s10⟩ := R9.copy (o := 16) (n := N - 16) (c := N - 16) (hv.same0 hs9) (by omega) (by omega)
  simp [g16, k10]
  refine ⟨b, N, by simp, ?_, hN, hbl, hs9.fresh s10 hbl⟩
  have hfr : frame kind gen ys = overw (overw L7 12 (le4 (more (more 0 (hdr kind gen ys.length)) ys))) 16 ys := by
    rw [hL7, (frame_eq kind gen _ ys N (by omega)).1, frame, fsum, hN]
  rw [hfr]
  exact R10
end AM
end Go.Proofs.YtlelihddjacplaaGreat
namespace Go.Proofs.YtlelihddjacplaaGreat
namespace AM

/-! ### What is stored twice -/
theorem Tr.set_one {α : Type} (a a' : α) : ∀ (f i : Nat), i ≤ f → (Tr.one a f i).set i a' = Tr.one a' f i
  | 0, i, h => by
    obtain rfl : i = 0 := by omega
    simp [Tr.one, Tr.set]
  | f + 1, 0, h => by simp [Tr.one, Tr.set]
  | f + 1, i + 1, h => by
    rw [Tr.one_succ, Tr.one_succ]
    by_cases hi : i % 2 = 0
    · rw [if_pos hi, if_pos hi, Tr.set_succ, if_pos hi, Tr.set_one a a' f (i / 2) (by omega)]
    · rw [if_neg hi, if_neg hi, Tr.set_succ, if_neg hi, Tr.set_one a a' f (i / 2) (by omega)]
theorem Tr.set_twice {α : Type} (a a' : α) : ∀ (t : Tr α) (i : Nat), (t.set i a).set i a' = t.set i a'
  | .leaf, i => by
    show (Tr.one a i i).set i a' = Tr.one a' i i
    exact Tr.set_one a a' i i (Nat.le_refl _)
  | .node l v r, 0 => by simp [Tr.set]
  | .node l v r, i + 1 => by
    rw [Tr.set_succ, Tr.set_succ]
    by_cases hi : i % 2 = 0
    · rw [if_pos hi, if_pos hi, Tr.set_succ, if_pos hi, Tr.set_twice a a' l (i / 2)]
    · rw [if_neg hi, if_neg hi, Tr.set_succ, if_neg hi, Tr.set_twice a a' r (i / 2)]
theorem H.put_push (σ : H) (o o' : Obj) : (σ.push o).put σ.next o' = σ.push o' := by
  simp only [H.push, H.put, Tr.set_twice]

/-! ### The data -/
def dv (b m j : Nat) : UInt8 := UInt8.ofNat (b + j * m / 16)
def dl (b m i : Nat) : List UInt8 := (List.range 128).map fun j => if j < i then dv b m j else 0
theorem dl_len (b m i : Nat) : (dl b m i).length = 128 := by simp [dl]
theorem dl_zero (b m : Nat) : dl b m 0 = List.replicate 128 0 := by
  apply List.ext_getElem
  · simp [dl]
  · intro j h1 h2
    simp only [dl, List.getElem_map, List.getElem_range, List.getElem_replicate, Nat.not_lt_zero, if_false]
theorem dl_set (b m i : Nat) (h : i < 128) : (dl b m i).set i (dv b m i) = dl b m (i + 1) := by
  apply List.ext_getElem
  · simp [dl]
  · intro j h1 h2
    simp only [dl, List.getElem_set, List.getElem_map, List.getElem_range]
    by_cases e : i = j
    · subst e; simp
    · by_cases hl : j < i
      · rw [if_neg e, if_pos hl, if_pos (by omega)]
      · rw [if_neg e, if_neg hl, if_neg (by omega)]
def rowD (b m i : Nat) : Obj := .cells ((dl b m i).map bv) 5 1 .exact
/-- The lower sixteen bits. -/
theorem and16 (n : Int) : ∃ m : Nat, m < 65536 ∧ ∀ σ : H, prim (.bin .and) [.int .i64 n, .int .i64 65535] σ = some (.int .i64 (m : Int), σ) := by
  have key : ∀ x : BitVec 64, (x &&& BitVec.ofInt 64 (Int.ofNat 65535)).toNat < 65536 := fun x => by
    have h := Nat.and_le_right (n := x.toNat) (m := (BitVec.ofInt 64 (Int.ofNat 65535)).toNat)
    have h2 : (BitVec.ofInt 64 (Int.ofNat 65535)).toNat = 65535 := by decide
    rw [BitVec.toNat_and]
    omega
  have fin : ∀ y : Nat, y < 65536 → IntKind.i64.wrap (y : Int) = (y : Int) := fun y hy => wrap64 (by omega) (by omega)
  have h3 : ∀ σ : H, prim (.bin .and) [.int .i64 n, .int .i64 65535] σ = some (.int .i64 (bitI .i64 Nat.land (· &&& ·) n (Int.ofNat 65535)), σ) := fun σ => by
    simp [prim, pBin, binV, sameK_self, binI]
  cases n with
  | ofNat a =>
    by_cases ha : a < limit .i64
    · refine ⟨a &&& 65535, by have := Nat.and_le_right (n := a) (m := 65535); omega, fun σ => ?_⟩
      rw [h3]
      have hb : (65535 : Nat) < limit .i64 := by decide
      simp only [bitI, nblt, ha, hb, decide_true, Bool.and_self]
      rfl
    · refine ⟨_, key (BitVec.ofInt 64 (Int.ofNat a)), fun σ => ?_⟩
      rw [h3]
      simp only [bitI, nblt, ha, decide_false, Bool.false_and]
      exact congrArg (fun z => some (Value.int .i64 z, σ)) (fin _ (key _))
  | negSucc a =>
    refine ⟨_, key (BitVec.ofInt 64 (Int.negSucc a)), fun σ => ?_⟩
    rw [h3]
    exact congrArg (fun z => some (Value.int .i64 z, σ)) (fin _ (key _))
theorem rowD_put (σ : H) (b m i : Nat) (h : i < 128) (x : Nat) (hx : x = (dv b m i).toNat) : ∃ ob, setAt (some (rowD b m i)) i (.int .u8 (x : Int)) = some ob ∧ (σ.push (rowD b m i)).put σ.next ob = σ.push (rowD b m (i + 1)) := by
  refine ⟨rowD b m (i + 1), ?_, H.put_push _ _ _⟩
  rw [rowD, setAt_cells, if_pos ⟨by simp, rfl, by simp [dl_len]; exact h⟩]
  rw [rowD, ← dl_set b m i h, List.map_set, hx]
  rfl
variable [Aw]
theorem refdata_run {σ : H} (h0 : σ.next ≠ 0) (n : Int) (m b : Nat) (hb : b < 256) (hm : m < 65536) (ha : ∀ σ : H, prim (.bin .and) [.int .i64 n, .int .i64 65535] σ = some (.int .i64 (m : Int), σ)) :
    Ru 6 [.int .i64 n, .int .u8 (b : Int)] σ fun r σ' => r = .ok (.slice (some ⟨σ.next, 0, none⟩) 128 128) ∧ σ' = σ.push (rowD b m 128) := by
  refine ru_fn (F := f6) rfl rfl rfl (by simp) ?_
  have hnew := prim_newSlice (σ := σ) (elem := 5) (esz := 1) (bytes := 1) (z := [.int .u8 0]) (n := 128) .i64 .i64 (by decide) (by omega)
  have hrow : Obj.cells (lrep [.int .u8 0] 128) 5 1 .exact = rowD b m 0 := by
    rw [rowD, dl_zero, lrep_one, List.map_replicate]; rfl
  rw [hrow] at hnew
  simp at hnew
  simp [f6, hnew]
  refine wp_loop (α := Nat) (fun i e σ1 => i ≤ 128 ∧ e = [(0, .int .i64 n), (1, .int .u8 (b : Int)), (5, .slice (some ⟨σ.next, 0, none⟩) 128 128), (6, .int .i64 (i : Int))] ∧ σ1 = σ.push (rowD b m i)) (fun i => 128 - i) 0 ⟨by omega, by simp, rfl⟩ ?_
  rintro i e σ1 ⟨hi, rfl, rfl⟩
  refine wp_of _ _ _ _ ?_
  simp [l6_0]
  refine WpB.dec (fun h4 => ?_) (fun h4 => ?_)
  · have h4' : i < 128 := by omega
    have hmul : i * m ≤ 127 * 65535 := Nat.mul_le_mul (by omega) (by omega)
    obtain ⟨p, hp⟩ : ∃ p, p = i * m := ⟨_, rfl⟩
    rw [← hp] at hmul
    have w1 : IntKind.i64.wrap ((i : Int) * (m : Int)) = (p : Int) := by rw [← Int.natCast_mul, ← hp]; exact wrap64 (by omega) (by omega)
    obtain ⟨q, hq⟩ : ∃ q, q = p / 16 := ⟨_, rfl⟩
    have w2 : ((p : Nat) : Int).tdiv 16 = (q : Int) := by rw [hq]; exact tdiv_nat p 16
    have w3 : IntKind.i64.wrap (q : Int) = (q : Int) := wrap64 (by omega) (by omega)
    obtain ⟨x, hx⟩ : ∃ x, x = (b + q) % 256 := ⟨_, rfl⟩
    have w4 : IntKind.u8.wrap ((b : Int) + ((md .u8 q : Nat) : Int)) = (x : Int) := by rw [md8, wrapU8]; omega
    have w5 : IntKind.i64.wrap ((i : Int) + 1) = ((i + 1 : Nat) : Int) := by rw [wrap64 (by omega) (by omega)]; omega
    obtain ⟨ob, k1, k2⟩ := rowD_put σ b m i h4' x (by rw [hx, hq, hp]; simp [dv, UInt8.toNat_ofNat'])
    simp [ha, w1, w2, w3, w4, w5, h4', k1, k2]
    exact ⟨i + 1, ⟨by omega, by simp, rfl⟩, by omega⟩
  · have : i = 128 := by omega
    subst this
    simp
end AM
end Go.Proofs.YtlelihddjacplaaGreat
