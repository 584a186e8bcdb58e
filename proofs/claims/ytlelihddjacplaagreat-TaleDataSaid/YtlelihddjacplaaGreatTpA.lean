/- The abstract machine: a deterministic reading of the program over a heap of numbered objects. -/
import GoSem.Dispatch
import Derived.Control
set_option linter.unusedVariables false
namespace Go.Proofs.YtlelihddjacplaaGreat
namespace AM

/-! ### A map from numbers, as a binary trie -/
inductive Tr (α : Type) where
  | leaf
  | node (l : Tr α) (v : Option α) (r : Tr α)

def Tr.get {α : Type} : Tr α → Nat → Option α
  | .leaf, _ => none
  | .node l v r, i =>
    match i with
    | 0 => v
    | i + 1 => match Nat.beq (i % 2) 0 with
      | true => l.get (i / 2)
      | false => r.get (i / 2)

/-- A path to i alone. -/
def Tr.one {α : Type} (a : α) : Nat → Nat → Tr α
  | 0, _ => .node .leaf (some a) .leaf
  | f + 1, i =>
    match i with
    | 0 => .node .leaf (some a) .leaf
    | i + 1 => match Nat.beq (i % 2) 0 with
      | true => .node (Tr.one a f (i / 2)) none .leaf
      | false => .node .leaf none (Tr.one a f (i / 2))

def Tr.set {α : Type} : Tr α → Nat → α → Tr α
  | .leaf, i, a => Tr.one a i i
  | .node l v r, i, a =>
    match i with
    | 0 => .node l (some a) r
    | i + 1 => match Nat.beq (i % 2) 0 with
      | true => .node (l.set (i / 2) a) v r
      | false => .node l v (r.set (i / 2) a)

theorem Nat.beq_eq_false_iff_ne' {a b : Nat} : Nat.beq a b = false ↔ a ≠ b := by
  constructor
  · intro h e; subst e; rw [Nat.beq_refl] at h; cases h
  · intro h; cases hb : Nat.beq a b with
    | false => rfl
    | true => exact absurd (Nat.eq_of_beq_eq_true hb) h
theorem beq0 (i : Nat) : Nat.beq (i % 2) 0 = decide (i % 2 = 0) := by
  by_cases h : i % 2 = 0
  · rw [h]; rfl
  · rw [decide_eq_false h]; exact Nat.beq_eq_false_iff_ne'.2 h
theorem Tr.get_succ {α : Type} (l r : Tr α) (v : Option α) (j : Nat) : (Tr.node l v r).get (j + 1) = if j % 2 = 0 then l.get (j / 2) else r.get (j / 2) := by
  simp only [Tr.get, beq0]
  by_cases h : j % 2 = 0 <;> simp [h]
theorem Tr.get_zero {α : Type} (l r : Tr α) (v : Option α) : (Tr.node l v r).get 0 = v := by simp [Tr.get]
theorem Tr.get_leaf {α : Type} (j : Nat) : (Tr.leaf : Tr α).get j = none := by simp [Tr.get]
theorem Tr.one_succ {α : Type} (a : α) (f i : Nat) : Tr.one a (f + 1) (i + 1) = if i % 2 = 0 then .node (Tr.one a f (i / 2)) none .leaf else .node .leaf none (Tr.one a f (i / 2)) := by
  simp only [Tr.one, beq0]
  by_cases h : i % 2 = 0 <;> simp [h]
theorem Tr.set_succ {α : Type} (l r : Tr α) (v : Option α) (i : Nat) (a : α) : (Tr.node l v r).set (i + 1) a = if i % 2 = 0 then .node (l.set (i / 2) a) v r else .node l v (r.set (i / 2) a) := by
  simp only [Tr.set, beq0]
  by_cases h : i % 2 = 0 <;> simp [h]
theorem half_ne {i j : Nat} (h : i % 2 = j % 2) : (i / 2 = j / 2) ↔ i = j := by omega
theorem Tr.get_one {α : Type} (a : α) : ∀ (f i j : Nat), i ≤ f → (Tr.one a f i).get j = if i = j then some a else none
  | 0, i, j, h => by
    obtain rfl : i = 0 := by omega
    cases j <;> simp [Tr.one, Tr.get_succ, Tr.get_zero, Tr.get_leaf]
  | f + 1, 0, j, h => by cases j <;> simp [Tr.one, Tr.get_succ, Tr.get_zero, Tr.get_leaf]
  | f + 1, i + 1, j, h => by
    have ih := fun j => Tr.get_one a f (i / 2) j (by omega)
    rw [Tr.one_succ]
    by_cases hi : i % 2 = 0
    · rw [if_pos hi]
      cases j with
      | zero => simp [Tr.get_zero]
      | succ j =>
        rw [Tr.get_succ, ih, Tr.get_leaf]
        by_cases hj : j % 2 = 0
        · rw [if_pos hj]; have := half_ne (i := i) (j := j) (by omega); simp [this]
        · rw [if_neg hj, if_neg (by omega)]
    · rw [if_neg hi]
      cases j with
      | zero => simp [Tr.get_zero]
      | succ j =>
        rw [Tr.get_succ, ih, Tr.get_leaf]
        by_cases hj : j % 2 = 0
        · rw [if_pos hj, if_neg (by omega)]
        · rw [if_neg hj]; have := half_ne (i := i) (j := j) (by omega); simp [this]
theorem Tr.get_set {α : Type} (a : α) : ∀ (t : Tr α) (i j : Nat), (t.set i a).get j = if i = j then some a else t.get j
  | .leaf, i, j => by simp [Tr.set, Tr.get_one a i i j (Nat.le_refl _), Tr.get_leaf]
  | .node l v r, 0, j => by cases j <;> simp [Tr.set, Tr.get_succ, Tr.get_zero]
  | .node l v r, i + 1, j => by
    have il := fun j => Tr.get_set a l (i / 2) j
    have ir := fun j => Tr.get_set a r (i / 2) j
    rw [Tr.set_succ]
    by_cases hi : i % 2 = 0
    · rw [if_pos hi]
      cases j with
      | zero => simp [Tr.get_zero]
      | succ j =>
        rw [Tr.get_succ, Tr.get_succ, il]
        by_cases hj : j % 2 = 0
        · rw [if_pos hj, if_pos hj]; have := half_ne (i := i) (j := j) (by omega); simp [this]
        · rw [if_neg hj, if_neg hj, if_neg (by omega)]
    · rw [if_neg hi]
      cases j with
      | zero => simp [Tr.get_zero]
      | succ j =>
        rw [Tr.get_succ, Tr.get_succ, ir]
        by_cases hj : j % 2 = 0
        · rw [if_pos hj, if_pos hj, if_neg (by omega)]
        · rw [if_neg hj, if_neg hj]; have := half_ne (i := i) (j := j) (by omega); simp [this]

/-! ### Objects and the heap -/
/-- exact: the row's capacity is what is known of it; grown: there may be more behind it; ro: it is never written. -/
inductive Mode where
  | exact
  | grown
  | ro
  deriving DecidableEq

inductive Obj where
  | cells (c : List Value) (elem esz : Nat) (m : Mode)
  | map (es : List MapEntry) (clock : Nat)
  | dead

structure H where
  next : Nat
  t : Tr Obj

def H.get (σ : H) (a : Nat) : Option Obj := σ.t.get a
def H.put (σ : H) (a : Nat) (o : Obj) : H := ⟨σ.next, σ.t.set a o⟩
def H.push (σ : H) (o : Obj) : H := ⟨σ.next + 1, σ.t.set σ.next o⟩
theorem H.get_put (σ : H) (a b : Nat) (o : Obj) : (σ.put a o).get b = if a = b then some o else σ.get b := Tr.get_set o σ.t a b
theorem H.get_push (σ : H) (b : Nat) (o : Obj) : (σ.push o).get b = if σ.next = b then some o else σ.get b := Tr.get_set o σ.t σ.next b

/-! ### Operations -/
inductive Opd where
  | t (i : Nat)
  | c (v : Value)

/-- What a nil is nil of. -/
inductive NK where
  | ptr | slice | map | func | iface

inductive Prim where
  | move | pick
  | new (elem esz : Nat) (zero : List Value)
  | box (elem esz : Nat)
  | build (zero : List Value) (pl : List (Nat × Nat))
  | buildSlice (elem esz len : Nat) (zero : List Value) (pl : List (Nat × Nat))
  | load (agg : Bool) (n : Nat)
  | store (n : Nat)
  | nilCheck
  | isNil (k : NK) (neg : Bool)
  | bin (op : BinOp) | eqBool (neg : Bool) | eqStr (neg : Bool) | eqPtr (neg : Bool)
  | eqAgg (bl : Bool) (n : Nat) (neg : Bool)
  | un (op : UnOp)
  | toInt (k : IntKind) | toFloat (k : FloatKind) | toStr
  | iface (t : Nat)
  | func (f first : Nat)
  | newMap
  | newSlice (elem esz bytes : Nat) (zero : List Value)
  | slice (esz : Nat) (lo hi mx : Bool)
  | fieldAddr (off : Nat)
  | idxAddr (esz : Nat) | idxAddrA (n esz : Nat)
  | field (off : Nat) (agg : Bool) (n : Nat)
  | idx (len esz : Nat) (agg : Bool) | idxStr
  | lookup (ks : Option Nat) (zero : Value) (ok : Bool)
  | mapSet (ks : Option Nat)
  | assert (t : Nat) (zero : Value) (ok : Bool)
  | extract (i : Nat)
  | lenS | lenM | lenC (n : Nat) | cap
  | append (elem esz bytes : Nat)
  | appendZ (elem esz bytes : Nat) (zero : List Value)
  | copy (esz : Nat) | min | max | clearM | clearS (zero : List Value) | delete (ks : Option Nat)
  | arrPtr (n : Nat)
  | f64bits | f64from | overlaps | mapsClone
  | call | invoke (name : String) | defer | panic | recover

/-- What a cell may hold. -/
def cellOk : Value → Bool
  | .agg _ => false
  | .tuple _ => false
  | _ => true

def cellsOf : Value → List Value
  | .agg ⟨cs⟩ => cs
  | v => [v]

def lget : List Value → Nat → Option Value
  | [], _ => none
  | v :: r, i => match i with
    | 0 => some v
    | i + 1 => lget r i

/-- n of a list, from a place on; none: there are not so many. -/
def ltake : List Value → Nat → Option (List Value)
  | _, 0 => some []
  | [], _ + 1 => none
  | v :: r, n + 1 => match ltake r n with
    | some l => some (v :: l)
    | none => none
def lcut : List Value → Nat → Nat → Option (List Value)
  | l, 0, n => ltake l n
  | [], _ + 1, n => match n with
    | 0 => none
    | _ + 1 => none
  | _ :: r, o + 1, n => lcut r o n

/-- A list with some of it overwritten; none: it does not reach. -/
def lover : List Value → List Value → Option (List Value)
  | l, [] => some l
  | [], _ :: _ => none
  | _ :: r, v :: vs => match lover r vs with
    | some l => some (v :: l)
    | none => none
def lput : List Value → Nat → List Value → Option (List Value)
  | l, 0, vs => lover l vs
  | [], _ + 1, _ => none
  | v :: r, o + 1, vs => match lput r o vs with
    | some l => some (v :: l)
    | none => none

def lrep (z : List Value) : Nat → List Value
  | 0 => []
  | n + 1 => z ++ lrep z n

def rdCells (σ : H) (a : Addr) (n : Nat) : Option (List Value) :=
  match a.spot with
  | some _ => none
  | none => match σ.get a.block with
    | some (.cells c _ _ _) => lcut c a.off n
    | _ => none

def wrCells (σ : H) (a : Addr) (vs : List Value) : Option H :=
  match a.spot with
  | some _ => none
  | none => match σ.get a.block with
    | some (.cells c e s m) => match m with
      | .ro => none
      | _ => match vs.all cellOk with
        | false => none
        | true => match lput c a.off vs with
          | some c' => some (σ.put a.block (.cells c' e s m))
          | none => none
    | _ => none

/-- Parts laid into cells: places (offset, size). -/
def fillL (cells : List Value) : List (Nat × Nat) → List Value → Option (List Value)
  | [], [] => some cells
  | (off, size) :: ps, v :: vs => match Nat.beq (cellsOf v).length size with
    | false => none
    | true => match lput cells off (cellsOf v) with
      | some c => fillL c ps vs
      | none => none
  | _, _ => none

/-- Does a slice that ends there end at the end of a row of which more may be there? -/
def atEnd (σ : H) (a : Addr) (cap : Nat) : Bool :=
  match σ.get a.block with
  | some (.cells c _ s .grown) => Nat.beq (a.off + cap * s) c.length
  | some (.cells ..) => false
  | _ => true

def intOf? : Value → Option Int
  | .int _ n => some n
  | _ => none

/-! Integers, quick for the kernel: what each is stands behind it. -/
def ltI : Int → Int → Bool
  | .ofNat a, .ofNat b => Nat.blt a b
  | .ofNat _, .negSucc _ => false
  | .negSucc _, .ofNat _ => true
  | .negSucc a, .negSucc b => Nat.blt b a
theorem nble (a b : Nat) : Nat.ble a b = decide (a ≤ b) := by
  by_cases h : a ≤ b
  · rw [decide_eq_true h]; exact Nat.ble_eq ▸ h
  · rw [decide_eq_false h]
    cases hb : Nat.ble a b with
    | false => rfl
    | true => exact absurd (Nat.ble_eq ▸ hb) h
theorem nblt (a b : Nat) : Nat.blt a b = decide (a < b) := nble (a + 1) b
theorem ltI_eq (a b : Int) : ltI a b = decide (a < b) := by
  cases a <;> cases b <;> simp only [ltI, nblt, Int.ofNat_eq_natCast]
  · congr 1; apply propext; omega
  · symm; simp; omega
  · symm; simp; omega
  · congr 1; apply propext; omega
def eqI : Int → Int → Bool
  | .ofNat a, .ofNat b => Nat.beq a b
  | .negSucc a, .negSucc b => Nat.beq a b
  | _, _ => false
theorem nbeq (a b : Nat) : Nat.beq a b = decide (a = b) := by
  by_cases h : a = b
  · subst h; simp
  · rw [decide_eq_false h]; exact Nat.beq_eq_false_iff_ne'.2 h
theorem eqI_eq (a b : Int) : eqI a b = decide (a = b) := by
  cases a <;> cases b <;> simp only [eqI, nbeq, Int.ofNat_eq_natCast]
  · congr 1; apply propext; omega
  · symm; simp
  · symm; simp
  · congr 1; apply propext; omega
/-- The numbers below which a kind's numbers are themselves, from nought on. -/
def limit : IntKind → Nat
  | .i8 => 128
  | .i16 => 32768
  | .i32 => 2147483648
  | .i64 => 9223372036854775808
  | .u8 => 256
  | .u16 => 65536
  | .u32 => 4294967296
  | .u64 => 18446744073709551616
def wrapI (k : IntKind) (x : Int) : Int :=
  match x with
  | .ofNat n => match Nat.blt n (limit k) with
    | true => .ofNat n
    | false => k.wrap (.ofNat n)
  | x => k.wrap x
theorem wrapI_eq (k : IntKind) (x : Int) : wrapI k x = k.wrap x := by
  cases x with
  | negSucc n => rfl
  | ofNat n =>
    simp only [wrapI]
    split
    · rename_i h
      have hn : n < limit k := by simpa [nblt] using h
      cases k <;> simp [limit] at hn <;> simp [IntKind.wrap, IntKind.bits, IntKind.signed] <;> (try split) <;> omega
    · rfl
/-- Bits of numbers that are not below nought. -/
def bitI (k : IntKind) (f : Nat → Nat → Nat) (g : BitVec k.bits → BitVec k.bits → BitVec k.bits) (x y : Int) : Int :=
  match x, y with
  | .ofNat a, .ofNat b => match Nat.blt a (limit k) && Nat.blt b (limit k) with
    | true => .ofNat (f a b)
    | false => k.wrap (g (BitVec.ofInt k.bits (.ofNat a)) (BitVec.ofInt k.bits (.ofNat b))).toNat
  | x, y => k.wrap (g (BitVec.ofInt k.bits x) (BitVec.ofInt k.bits y)).toNat
theorem limit_two (k : IntKind) : ∃ n, limit k = 2 ^ n ∧ n ≤ k.bits := by
  cases k
  · exact ⟨7, rfl, by decide⟩
  · exact ⟨15, rfl, by decide⟩
  · exact ⟨31, rfl, by decide⟩
  · exact ⟨63, rfl, by decide⟩
  · exact ⟨8, rfl, by decide⟩
  · exact ⟨16, rfl, by decide⟩
  · exact ⟨32, rfl, by decide⟩
  · exact ⟨64, rfl, by decide⟩
theorem wrap_lt (k : IntKind) (n : Nat) (h : n < limit k) : k.wrap (n : Int) = n := by
  rw [← wrapI_eq]
  show wrapI k (.ofNat n) = _
  simp only [wrapI]
  rw [show Nat.blt n (limit k) = true from by simp [nblt, h]]
  rfl
theorem bitI_eq (k : IntKind) (f : Nat → Nat → Nat) (g : BitVec k.bits → BitVec k.bits → BitVec k.bits) (x y : Int)
    (hf : ∀ a b n, a < 2 ^ n → b < 2 ^ n → f a b < 2 ^ n) (hg : ∀ a b : BitVec k.bits, (g a b).toNat = f a.toNat b.toNat) :
    bitI k f g x y = k.wrap (g (BitVec.ofInt k.bits x) (BitVec.ofInt k.bits y)).toNat := by
  unfold bitI
  split
  · rename_i a b
    split
    · rename_i h
      simp only [Bool.and_eq_true] at h
      obtain ⟨n, hl, hn⟩ := limit_two k
      have ha : a < limit k := by simpa [nblt] using h.1
      have hb : b < limit k := by simpa [nblt] using h.2
      have hp : 2 ^ n ≤ 2 ^ k.bits := Nat.pow_le_pow_right (by omega) hn
      have ea : (BitVec.ofInt k.bits (Int.ofNat a)).toNat = a := by
        have : BitVec.ofInt k.bits (Int.ofNat a) = BitVec.ofNat k.bits a := BitVec.ofInt_natCast k.bits a
        rw [this, BitVec.toNat_ofNat, Nat.mod_eq_of_lt (by omega)]
      have eb : (BitVec.ofInt k.bits (Int.ofNat b)).toNat = b := by
        have : BitVec.ofInt k.bits (Int.ofNat b) = BitVec.ofNat k.bits b := BitVec.ofInt_natCast k.bits b
        rw [this, BitVec.toNat_ofNat, Nat.mod_eq_of_lt (by omega)]
      rw [hg, ea, eb, wrap_lt k _ (by rw [hl] at *; exact hf a b n ha hb)]
      rfl
    · rfl
  · rfl
def shlI (k : IntKind) (x : Int) (n : Nat) : Int :=
  match x with
  | .ofNat a => wrapI k (.ofNat (Nat.shiftLeft a n))
  | x => k.wrap (x * 2 ^ n)
theorem shlI_eq (k : IntKind) (x : Int) (n : Nat) : shlI k x n = k.wrap (x * 2 ^ n) := by
  unfold shlI
  split
  · rename_i a
    rw [wrapI_eq]
    congr 1
    show ((Nat.shiftLeft a n : Nat) : Int) = (a : Int) * 2 ^ n
    rw [show Nat.shiftLeft a n = a <<< n from rfl, Nat.shiftLeft_eq]
    simp
  · rfl
def shrI (x : Int) (n : Nat) : Int :=
  match x with
  | .ofNat a => .ofNat (Nat.shiftRight a n)
  | x => x.fdiv (2 ^ n)
theorem shrI_eq (x : Int) (n : Nat) : shrI x n = x.fdiv (2 ^ n) := by
  unfold shrI
  split
  · rename_i a
    show ((Nat.shiftRight a n : Nat) : Int) = (a : Int).fdiv (2 ^ n)
    rw [show Nat.shiftRight a n = a >>> n from rfl, Nat.shiftRight_eq_div_pow, Int.fdiv_eq_ediv_of_nonneg _ (by exact Int.pow_nonneg (by decide))]
    simp
  · rfl
def divI (x y : Int) : Int :=
  match x, y with
  | .ofNat a, .ofNat b => .ofNat (a / b)
  | x, y => x.tdiv y
theorem divI_eq (x y : Int) : divI x y = x.tdiv y := by
  unfold divI; split <;> rfl
def remI (x y : Int) : Int :=
  match x, y with
  | .ofNat a, .ofNat b => .ofNat (a % b)
  | x, y => x.tmod y
theorem remI_eq (x y : Int) : remI x y = x.tmod y := by
  unfold remI; split <;> rfl
def bitsN : IntKind → Nat
  | .i8 => 8 | .i16 => 16 | .i32 => 32 | .i64 => 64 | .u8 => 8 | .u16 => 16 | .u32 => 32 | .u64 => 64
theorem bitsN_eq (k : IntKind) : bitsN k = k.bits := by cases k <;> rfl
def shiftN (k : IntKind) (y : Int) : Nat :=
  match Nat.ble y.toNat (bitsN k) with
  | true => y.toNat
  | false => bitsN k
theorem shiftN_eq (k : IntKind) (y : Int) : shiftN k y = Nat.min y.toNat k.bits := by
  unfold shiftN
  rw [← bitsN_eq, nble]
  by_cases h : y.toNat ≤ bitsN k
  · rw [decide_eq_true h]; simp only []; exact (Nat.min_eq_left h).symm
  · rw [decide_eq_false h]; simp only []; exact (Nat.min_eq_right (by omega)).symm
def kindN : IntKind → Nat
  | .i8 => 0 | .i16 => 1 | .i32 => 2 | .i64 => 3 | .u8 => 4 | .u16 => 5 | .u32 => 6 | .u64 => 7
def sameK (a b : IntKind) : Bool := Nat.beq (kindN a) (kindN b)
theorem sameK_eq (a b : IntKind) : sameK a b = decide (a = b) := by cases a <;> cases b <;> rfl
/-- Basic values that '==' compares. -/
def eqInt : Value → Value → Option Bool
  | .int k a, .int k' b => match sameK k k' with
    | true => some (eqI a b)
    | false => none
  | _, _ => none
def eqBool : Value → Value → Option Bool
  | .bool a, .bool b => some (a == b)
  | _, _ => none
def listEq (f : Value → Value → Option Bool) : Nat → List Value → List Value → Option Bool
  | 0, [], [] => some true
  | n + 1, a :: x, b :: y => match f a b with
    | some true => listEq f n x y
    | some false => match listEq f n x y with
      | some _ => some false
      | none => none
    | none => none
  | _, _, _ => none
/-- Keys: ints, or so many ints. -/
def keyEq (ks : Option Nat) : Value → Value → Option Bool
  | .agg ⟨x⟩, .agg ⟨y⟩ => match ks with
    | some n => listEq eqInt n x y
    | none => none
  | .int k a, .int k' b => match ks with
    | none => eqInt (.int k a) (.int k' b)
    | some _ => none
  | _, _ => none
def findL (ks : Option Nat) (k : Value) : List MapEntry → Nat → Option (Option (Nat × Value))
  | [], _ => some none
  | e :: es, i => match keyEq ks k e.key with
    | some true => some (some (i, e.val))
    | some false => findL ks k es (i + 1)
    | none => none
/-- May it be a key? -/
def keyOk (ks : Option Nat) (k : Value) : Bool :=
  match keyEq ks k k with
  | some _ => true
  | none => false
def setL (k v : Value) : List MapEntry → Nat → List MapEntry
  | [], _ => []
  | e :: es, 0 => ⟨k, v, e.born⟩ :: es
  | e :: es, i + 1 => e :: setL k v es i
def dropL : List MapEntry → Nat → List MapEntry
  | [], _ => []
  | _ :: es, 0 => es
  | e :: es, i + 1 => e :: dropL es i

def shiftI (op : BinOp) (k : IntKind) (x y : Int) : Option Value :=
  match ltI y 0 with
  | true => none
  | false =>
    match op with
    | .shl => some (.int k (shlI k x (shiftN k y)))
    | .shr => some (.int k (shrI x (shiftN k y)))
    | _ => none
def binI (op : BinOp) (k : IntKind) (x y : Int) : Option Value :=
  match op with
  | .add => some (.int k (wrapI k (Int.add x y)))
  | .sub => some (.int k (wrapI k (Int.sub x y)))
  | .mul => some (.int k (wrapI k (Int.mul x y)))
  | .quo => match eqI y 0 with
    | true => none
    | false => some (.int k (wrapI k (divI x y)))
  | .rem => match eqI y 0 with
    | true => none
    | false => some (.int k (remI x y))
  | .and => some (.int k (bitI k Nat.land (· &&& ·) x y))
  | .or => some (.int k (bitI k Nat.lor (· ||| ·) x y))
  | .xor => some (.int k (bitI k Nat.xor (· ^^^ ·) x y))
  | .eql => some (.bool (eqI x y))
  | .neq => some (.bool (!(eqI x y)))
  | .lss => some (.bool (ltI x y))
  | .leq => some (.bool (!(ltI y x)))
  | .gtr => some (.bool (ltI y x))
  | .geq => some (.bool (!(ltI x y)))
  | _ => none
def binF (op : BinOp) (k : FloatKind) (x y : Nat) : Option Value :=
  match op with
  | .add => (k.format.add x y).map (.float k)
  | .sub => (k.format.sub x y).map (.float k)
  | .mul => (k.format.mul x y).map (.float k)
  | .quo => (k.format.div x y).map (.float k)
  | .eql => some (.bool (k.format.order x y == some .eq))
  | .neq => some (.bool (k.format.order x y != some .eq))
  | .lss => some (.bool (k.format.order x y == some .lt))
  | .leq => some (.bool (k.format.order x y == some .lt || k.format.order x y == some .eq))
  | .gtr => some (.bool (k.format.order x y == some .gt))
  | .geq => some (.bool (k.format.order x y == some .gt || k.format.order x y == some .eq))
  | _ => none
def live (σ : H) (a : Nat) : Bool :=
  match σ.get a with
  | some (.cells _ _ _ .ro) => false
  | some (.cells ..) => true
  | _ => false
def binV (op : BinOp) : Value → Value → Option Value
  | .int k x, .int k' y =>
    match op with
    | .shl => shiftI .shl k x y
    | .shr => shiftI .shr k x y
    | op => match sameK k k' with
      | true => binI op k x y
      | false => none
  | .float k x, .float k' y => match decide (k = k') with
    | true => binF op k x y
    | false => none
  | _, _ => none
def negB (neg : Bool) (b : Bool) : Bool := match neg with | true => !b | false => b
def ptrEq (σ : H) : Option Addr → Option Addr → Option Bool
  | some a, some b => match live σ a.block && live σ b.block with
    | false => none
    | true => some (Nat.beq a.block b.block && Nat.beq a.off b.off)
  | none, some _ => some false
  | some _, none => some false
  | none, none => some true
def unV : UnOp → Value → Option Value
  | .neg, .int k n => some (.int k (wrapI k (Int.sub 0 n)))
  | .xor, .int k n => some (.int k (bitI k Nat.xor (· ^^^ ·) n (if k.signed then -1 else k.max)))
  | .not, .bool b => some (.bool !b)
  | _, _ => none
def isNilV : NK → Value → Option Bool
  | .ptr, .pointer a => some a.isNone
  | .slice, .slice a _ _ => some a.isNone
  | .map, .map r => some r.isNone
  | .func, .nilFunc => some true
  | .func, .func .. => some false
  | .iface, .nilIface => some true
  | .iface, .iface .. => some false
  | _, _ => none

def toBytes : List Value → ByteArray → Option ByteArray
  | [], s => some s
  | .int .u8 n :: r, s => toBytes r (s.push (UInt8.ofNat n.toNat))
  | _, _ => none

def room : Nat := 140737488355328

/-- The cells that 'append' and 'copy' read: n elements of a slice. -/
def srcCells (σ : H) (esz : Nat) (x : Option Addr) (n : Nat) : Option (List Value) :=
  match n with
  | 0 => some []
  | n + 1 => match x with
    | some a => rdCells σ a ((n + 1) * esz)
    | none => none

def rowSize (σ : H) (a : Nat) : Nat :=
  match σ.get a with
  | some (.cells _ _ s _) => s
  | _ => 0
/-- 'append': need is more than the slice's capacity. -/
def grow (σ : H) (elem esz bytes : Nat) (base : Option Addr) (sLen sCap : Nat) (n : Nat) (new : List Value) : Option (Value × H) :=
  match Nat.ble ((sLen + n) * bytes) room && Nat.ble 1 bytes && new.all cellOk && Nat.beq new.length (n * esz) with
  | false => none
  | true => match base with
    | none => match sLen with
      | 0 => some (.slice (some ⟨σ.next, 0, none⟩) n n, σ.push (.cells new elem esz .grown))
      | _ + 1 => none
    | some a => match Nat.beq (rowSize σ a.block) esz with
      | false => none
      | true => match rdCells σ a (sLen * esz) with
        | none => none
        | some old => match atEnd σ a sCap with
          | true => match live σ a.block with
            | false => none
            | true => some (.slice (some ⟨σ.next, 0, none⟩) (sLen + n) (sLen + n), (σ.put a.block .dead).push (.cells (old ++ new) elem esz .grown))
          | false => some (.slice (some ⟨σ.next, 0, none⟩) (sLen + n) (sLen + n), σ.push (.cells (old ++ new) elem esz .grown))

def appendV (σ : H) (elem esz bytes : Nat) (base : Option Addr) (sLen sCap : Nat) (n : Nat) (new : List Value) : Option (Value × H) :=
  match n with
  | 0 => match Nat.ble sLen sCap with
    | true => some (.slice base sLen sCap, σ)
    | false => none
  | n + 1 => match Nat.ble (sLen + (n + 1)) sCap with
    | true => match base with
      | none => none
      | some a => match wrCells σ ⟨a.block, a.off + sLen * esz, a.spot⟩ new with
        | none => none
        | some σ' => some (.slice base (sLen + (n + 1)) sCap, σ')
    | false => grow σ elem esz bytes base sLen sCap (n + 1) new

def bound (x : Int) (y : Nat) : Option Nat :=
  match !(ltI x 0) && !(ltI y x) with
  | true => some x.toNat
  | false => none
def cutMax (mx : Option Int) (cap : Nat) : Option Nat :=
  match mx with
  | some v => bound v cap
  | none => some cap
def cutHigh (hi mx : Option Int) (len m : Nat) : Option Nat :=
  match hi with
  | some v => bound v m
  | none => match mx with
    | none => some len
    | some _ => none
def cutLow (lo : Option Int) (h : Nat) : Option Nat :=
  match lo with
  | some v => bound v h
  | none => some 0
def sliceV (σ : H) (esz : Nat) (a : Option Addr) (len cap : Nat) (lo hi mx : Option Int) : Option Value :=
  match cutMax mx cap with
  | none => none
  | some m => match cutHigh hi mx len m with
    | none => none
    | some h => match cutLow lo h with
      | none => none
      | some l => match Nat.ble h m with
       | false => none
       | true => match a with
        | none => some (.slice none (h - l) (m - l))
        | some a => match Nat.beq a.block 0 with
          | true => match Nat.beq cap 0 with
            | true => some (.slice (some ⟨0, 0, none⟩) 0 0)
            | false => none
          | false => match Nat.beq (rowSize σ a.block) esz with
            | false => none
            | true => match mx with
              | none => match atEnd σ a cap with
                | true => match Nat.beq l m with
                  | true => some (.slice (some ⟨0, 0, none⟩) 0 0)
                  | false => some (.slice (some ⟨a.block, a.off + l * esz, a.spot⟩) (h - l) (m - l))
                | false => match Nat.beq l m with
                  | true => match atEnd σ a 0 with
                    | true => none
                    | false => some (.slice (some a) (h - l) (m - l))
                  | false => some (.slice (some ⟨a.block, a.off + l * esz, a.spot⟩) (h - l) (m - l))
              | some _ => match atEnd σ a m with
                | true => none
                | false => match Nat.beq l m with
                  | true => match atEnd σ a 0 with
                    | true => none
                    | false => some (.slice (some a) (h - l) (m - l))
                  | false => some (.slice (some ⟨a.block, a.off + l * esz, a.spot⟩) (h - l) (m - l))

def optInts (flags : List Bool) (vs : List Value) : Option (List (Option Int)) :=
  match flags, vs with
  | [], [] => some []
  | false :: fs, vs => match optInts fs vs with
    | some l => some (none :: l)
    | none => none
  | true :: fs, v :: vs => match intOf? v with
    | none => none
    | some i => match optInts fs vs with
      | some l => some (some i :: l)
      | none => none
  | _, _ => none

/-! Operations that are no calls: what each answers, and the heap. -/
def pMove (vs : List Value) (σ : H) : Option (Value × H) :=
  match vs with
  | [x] => some (x, σ)
  | _ => none
def pPick (vs : List Value) (σ : H) : Option (Value × H) :=
  match vs with
  | [.bool c, a, b] => some (match c with | true => a | false => b, σ)
  | _ => none
def pNew (elem : Nat) (esz : Nat) (zero : List Value) (vs : List Value) (σ : H) : Option (Value × H) :=
  match vs with
  | [] => some (.pointer (some ⟨σ.next, 0, none⟩), σ.push (.cells zero elem esz .exact))
  | _ => none
def pBox (elem : Nat) (esz : Nat) (vs : List Value) (σ : H) : Option (Value × H) :=
  match vs with
  | [x] => match Nat.beq (cellsOf x).length esz && (cellsOf x).all cellOk with
    | true => some (.pointer (some ⟨σ.next, 0, none⟩), σ.push (.cells (cellsOf x) elem esz .exact))
    | false => none
  | _ => none
def pBuild (zero : List Value) (pl : List (Nat × Nat)) (vs : List Value) (σ : H) : Option (Value × H) :=
  match fillL zero pl vs with
    | some c => some (.agg ⟨c⟩, σ)
    | none => none
def pBuildSlice (elem : Nat) (esz : Nat) (len : Nat) (zero : List Value) (pl : List (Nat × Nat)) (vs : List Value) (σ : H) : Option (Value × H) :=
  match fillL zero pl vs with
    | some c => match c.all cellOk with
      | true => some (.slice (some ⟨σ.next, 0, none⟩) len len, σ.push (.cells c elem esz .exact))
      | false => none
    | none => none
def pLoad (agg : Bool) (n : Nat) (vs : List Value) (σ : H) : Option (Value × H) :=
  match vs with
  | [.pointer (some a)] => match agg with
    | true => match rdCells σ a n with
      | some c => some (.agg ⟨c⟩, σ)
      | none => none
    | false => match rdCells σ a 1 with
      | some [v] => some (v, σ)
      | _ => none
  | _ => none
def pStore (n : Nat) (vs : List Value) (σ : H) : Option (Value × H) :=
  match vs with
  | [.pointer (some a), x] => match Nat.beq (cellsOf x).length n with
    | false => none
    | true => match wrCells σ a (cellsOf x) with
      | some σ' => some (.tuple #[], σ')
      | none => none
  | _ => none
def pNilCheck (vs : List Value) (σ : H) : Option (Value × H) :=
  match vs with
  | [.pointer (some a)] => some (.pointer (some a), σ)
  | [.iface t v] => some (.iface t v, σ)
  | _ => none
def pIsNil (k : NK) (neg : Bool) (vs : List Value) (σ : H) : Option (Value × H) :=
  match vs with
  | [x] => match isNilV k x with
    | some b => some (.bool (negB neg b), σ)
    | none => none
  | _ => none
def pBin (op : BinOp) (vs : List Value) (σ : H) : Option (Value × H) :=
  match vs with
  | [x, y] => match binV op x y with
    | some v => some (v, σ)
    | none => none
  | _ => none
def pEqBool (neg : Bool) (vs : List Value) (σ : H) : Option (Value × H) :=
  match vs with
  | [.bool x, .bool y] => some (.bool (negB neg (x == y)), σ)
  | _ => none
def pEqStr (neg : Bool) (vs : List Value) (σ : H) : Option (Value × H) :=
  match vs with
  | [.string x, .string y] => some (.bool (negB neg (x.data.toList == y.data.toList)), σ)
  | _ => none
def pEqPtr (neg : Bool) (vs : List Value) (σ : H) : Option (Value × H) :=
  match vs with
  | [.pointer x, .pointer y] => match ptrEq σ x y with
    | some b => some (.bool (negB neg b), σ)
    | none => none
  | _ => none
def pEqAgg (bl : Bool) (n : Nat) (neg : Bool) (vs : List Value) (σ : H) : Option (Value × H) :=
  match vs with
  | [.agg ⟨x⟩, .agg ⟨y⟩] => match listEq (match bl with | true => eqBool | false => eqInt) n x y with
    | some b => some (.bool (negB neg b), σ)
    | none => none
  | _ => none
def pUn (op : UnOp) (vs : List Value) (σ : H) : Option (Value × H) :=
  match vs with
  | [x] => match unV op x with
    | some v => some (v, σ)
    | none => none
  | _ => none
def pToInt (k : IntKind) (vs : List Value) (σ : H) : Option (Value × H) :=
  match vs with
  | [.int _ n] => some (.int k (wrapI k n), σ)
  | _ => none
def pToFloat (k : FloatKind) (vs : List Value) (σ : H) : Option (Value × H) :=
  match vs with
  | [.int _ n] => some (.float k (k.nearest n), σ)
  | _ => none
def pToStr (vs : List Value) (σ : H) : Option (Value × H) :=
  match vs with
  | [.slice a n _] => match srcCells σ 1 a n with
    | none => none
    | some l => match toBytes l .empty with
      | some s => some (.string s, σ)
      | none => none
  | _ => none
def pIface (t : Nat) (vs : List Value) (σ : H) : Option (Value × H) :=
  match vs with
  | [x] => some (.iface t x, σ)
  | _ => none
def pFunc (f : Nat) (n : Nat) (vs : List Value) (σ : H) : Option (Value × H) :=
  some (.func (.func f) ⟨vs.take n⟩ ⟨vs.drop n⟩, σ)
def pNewMap (vs : List Value) (σ : H) : Option (Value × H) :=
  match vs with
  | [] => some (.map (some σ.next), σ.push (.map [] 0))
  | _ => none
def pNewSlice (elem : Nat) (esz : Nat) (bytes : Nat) (zero : List Value) (vs : List Value) (σ : H) : Option (Value × H) :=
  match vs with
  | [l, c] => match l, c with
    | .int _ l, .int _ c => match !(ltI l 0) && !(ltI c l) && Nat.ble (c.toNat * bytes) room && Nat.ble 1 bytes with
      | true => some (.slice (some ⟨σ.next, 0, none⟩) l.toNat c.toNat, σ.push (.cells (lrep zero c.toNat) elem esz .exact))
      | false => none
    | _, _ => none
  | _ => none
def pSlice (esz : Nat) (lo : Bool) (hi : Bool) (mx : Bool) (vs : List Value) (σ : H) : Option (Value × H) :=
  match vs with
  | .slice a len cap :: r => match optInts [lo, hi, mx] r with
    | some [l, h, m] => match sliceV σ esz a len cap l h m with
      | some v => some (v, σ)
      | none => none
    | _ => none
  | _ => none
def pFieldAddr (off : Nat) (vs : List Value) (σ : H) : Option (Value × H) :=
  match vs with
  | [.pointer (some a)] => some (.pointer (some ⟨a.block, a.off + off, a.spot⟩), σ)
  | _ => none
def pIdxAddr (esz : Nat) (vs : List Value) (σ : H) : Option (Value × H) :=
  match vs with
  | [.slice (some a) n _, .int _ i] => match !(ltI i 0) && ltI i n with
    | true => some (.pointer (some ⟨a.block, a.off + i.toNat * esz, a.spot⟩), σ)
    | false => none
  | _ => none
def pIdxAddrA (n : Nat) (esz : Nat) (vs : List Value) (σ : H) : Option (Value × H) :=
  match vs with
  | [.pointer (some a), .int _ i] => match !(ltI i 0) && ltI i n with
    | true => some (.pointer (some ⟨a.block, a.off + i.toNat * esz, a.spot⟩), σ)
    | false => none
  | _ => none
def pField (off : Nat) (agg : Bool) (n : Nat) (vs : List Value) (σ : H) : Option (Value × H) :=
  match vs with
  | [.agg ⟨c⟩] => match agg with
    | true => match lcut c off n with
      | some l => some (.agg ⟨l⟩, σ)
      | none => none
    | false => match lget c off with
      | some v => some (v, σ)
      | none => none
  | _ => none
def pIdx (len : Nat) (esz : Nat) (agg : Bool) (vs : List Value) (σ : H) : Option (Value × H) :=
  match vs with
  | [.agg ⟨c⟩, .int _ i] => match !(ltI i 0) && ltI i len with
    | false => none
    | true => match agg with
      | true => match lcut c (i.toNat * esz) esz with
        | some l => some (.agg ⟨l⟩, σ)
        | none => none
      | false => match lget c (i.toNat * esz) with
        | some v => some (v, σ)
        | none => none
  | _ => none
def pIdxStr (vs : List Value) (σ : H) : Option (Value × H) :=
  match vs with
  | [.string s, .int _ i] => match ltI i 0 with
    | true => none
    | false => match s.data.toList[i.toNat]? with
      | some b => some (.int .u8 b.toNat, σ)
      | none => none
  | _ => none
def entriesOf (σ : H) : Value → Option (List MapEntry)
  | .map none => some []
  | .map (some r) => match σ.get r with
    | some (.map es _) => some es
    | _ => none
  | _ => none
def pLookup (ks : Option Nat) (zero : Value) (ok : Bool) (vs : List Value) (σ : H) : Option (Value × H) :=
  match vs with
  | [m, k] => match keyOk ks k with
    | false => none
    | true => match entriesOf σ m with
      | none => none
      | some es => match findL ks k es 0 with
        | none => none
        | some (some (_, v)) => some (match ok with | true => .tuple #[v, .bool true] | false => v, σ)
        | some none => some (match ok with | true => .tuple #[zero, .bool false] | false => zero, σ)
  | _ => none
def pMapSet (ks : Option Nat) (vs : List Value) (σ : H) : Option (Value × H) :=
  match vs with
  | [.map (some r), k, v] => match keyOk ks k with
    | false => none
    | true => match σ.get r with
      | some (.map es clock) => match findL ks k es 0 with
        | none => none
        | some (some (i, _)) => some (.tuple #[], σ.put r (.map (setL k v es i) clock))
        | some none => some (.tuple #[], σ.put r (.map (es ++ [⟨k, v, clock⟩]) (clock + 1)))
      | _ => none
  | _ => none
def pAssert (t : Nat) (zero : Value) (ok : Bool) (vs : List Value) (σ : H) : Option (Value × H) :=
  match vs with
  | [x] => match x with
    | .iface u v => match Nat.beq u t with
      | true => some (match ok with | true => .tuple #[v, .bool true] | false => v, σ)
      | false => match ok with
        | true => some (.tuple #[zero, .bool false], σ)
        | false => none
    | .nilIface => match ok with
      | true => some (.tuple #[zero, .bool false], σ)
      | false => none
    | _ => none
  | _ => none
def pExtract (i : Nat) (vs : List Value) (σ : H) : Option (Value × H) :=
  match vs with
  | [.tuple ⟨vs⟩] => match lget vs i with
    | some v => some (v, σ)
    | none => none
  | _ => none
def pLenS (vs : List Value) (σ : H) : Option (Value × H) :=
  match vs with
  | [.slice _ n _] => some (.int .i64 n, σ)
  | _ => none
def pLenM (vs : List Value) (σ : H) : Option (Value × H) :=
  match vs with
  | [m] => match m with
    | .map none => some (.int .i64 0, σ)
    | .map (some r) => match σ.get r with
      | some (.map es _) => some (.int .i64 es.length, σ)
      | _ => none
    | _ => none
  | _ => none
def pLenC (n : Nat) (vs : List Value) (σ : H) : Option (Value × H) :=
  match vs with
  | [_] => some (.int .i64 n, σ)
  | _ => none
def pCap (vs : List Value) (σ : H) : Option (Value × H) :=
  match vs with
  | [.slice a _ c] => match a with
    | none => some (.int .i64 c, σ)
    | some a => match Nat.beq a.block 0 || atEnd σ a c with
      | true => none
      | false => some (.int .i64 c, σ)
  | _ => none
def pAppend (elem : Nat) (esz : Nat) (bytes : Nat) (vs : List Value) (σ : H) : Option (Value × H) :=
  match vs with
  | [.slice base sLen sCap, .slice x n _] => match srcCells σ esz x n with
    | none => none
    | some new => appendV σ elem esz bytes base sLen sCap n new
  | _ => none
def pAppendZ (elem : Nat) (esz : Nat) (bytes : Nat) (zero : List Value) (vs : List Value) (σ : H) : Option (Value × H) :=
  match vs with
  | [.slice base sLen sCap, .int _ n] => match !(ltI n 0) && ltI n room && Nat.ble (n.toNat * bytes) room with
    | true => appendV σ elem esz bytes base sLen sCap n.toNat (lrep zero n.toNat)
    | false => none
  | _ => none
def pCopy (esz : Nat) (vs : List Value) (σ : H) : Option (Value × H) :=
  match vs with
  | [.slice base dLen _, .slice x n _] => match srcCells σ esz x (Nat.min n dLen) with
    | none => none
    | some new => match base with
      | none => some (.int .i64 (Nat.min n dLen), σ)
      | some a => match new with
        | [] => some (.int .i64 (Nat.min n dLen), σ)
        | v :: new => match wrCells σ a (v :: new) with
          | some σ' => some (.int .i64 (Nat.min n dLen), σ')
          | none => none
  | _ => none
def pMin (vs : List Value) (σ : H) : Option (Value × H) :=
  match vs with
  | [.int k x, .int _ y] => some (.int k (match ltI y x with | true => y | false => x), σ)
  | _ => none
def pMax (vs : List Value) (σ : H) : Option (Value × H) :=
  match vs with
  | [.int k x, .int _ y] => some (.int k (match ltI x y with | true => y | false => x), σ)
  | _ => none
def pClearM (vs : List Value) (σ : H) : Option (Value × H) :=
  match vs with
  | [.map r] => match r with
    | none => some (.tuple #[], σ)
    | some r => match σ.get r with
      | some (.map _ clock) => some (.tuple #[], σ.put r (.map [] clock))
      | _ => none
  | _ => none
def pClearS (zero : List Value) (vs : List Value) (σ : H) : Option (Value × H) :=
  match vs with
  | [.slice a n _] => match a, n with
    | none, _ => some (.tuple #[], σ)
    | _, 0 => some (.tuple #[], σ)
    | some a, n => match wrCells σ a (lrep zero n) with
      | some σ' => some (.tuple #[], σ')
      | none => none
  | _ => none
def pDelete (ks : Option Nat) (vs : List Value) (σ : H) : Option (Value × H) :=
  match vs with
  | [.map (some r), k] => match keyOk ks k with
    | false => none
    | true => match σ.get r with
      | some (.map es clock) => match findL ks k es 0 with
        | none => none
        | some (some (i, _)) => some (.tuple #[], σ.put r (.map (dropL es i) clock))
        | some none => some (.tuple #[], σ)
      | _ => none
  | _ => none
def pArrPtr (n : Nat) (vs : List Value) (σ : H) : Option (Value × H) :=
  match vs with
  | [.slice (some a) len _] => match Nat.ble n len && !(Nat.beq n 0) with
    | true => some (.pointer (some a), σ)
    | false => none
  | _ => none
def pF64bits (vs : List Value) (σ : H) : Option (Value × H) :=
  match vs with
  | [.float .f64 b] => some (.int .u64 b, σ)
  | _ => none
def pF64from (vs : List Value) (σ : H) : Option (Value × H) :=
  match vs with
  | [.int .u64 n] => some (.float .f64 n.toNat, σ)
  | _ => none
def pMapsClone (vs : List Value) (σ : H) : Option (Value × H) :=
  match vs with
  | [.iface t (.map (some r))] => match σ.get r with
    | some (.map es clock) => some (.iface t (.map (some σ.next)), σ.push (.map es clock))
    | _ => none
  | _ => none
def pNone (_ : List Value) (_ : H) : Option (Value × H) := none
def prim (p : Prim) : List Value → H → Option (Value × H) :=
  match p with
  | .move => pMove
  | .pick => pPick
  | .new elem esz zero => pNew elem esz zero
  | .box elem esz => pBox elem esz
  | .build zero pl => pBuild zero pl
  | .buildSlice elem esz len zero pl => pBuildSlice elem esz len zero pl
  | .load agg n => pLoad agg n
  | .store n => pStore n
  | .nilCheck => pNilCheck
  | .isNil k neg => pIsNil k neg
  | .bin op => pBin op
  | .eqBool neg => pEqBool neg
  | .eqStr neg => pEqStr neg
  | .eqPtr neg => pEqPtr neg
  | .eqAgg bl n neg => pEqAgg bl n neg
  | .un op => pUn op
  | .toInt k => pToInt k
  | .toFloat k => pToFloat k
  | .toStr => pToStr
  | .iface t => pIface t
  | .func f n => pFunc f n
  | .newMap => pNewMap
  | .newSlice elem esz bytes zero => pNewSlice elem esz bytes zero
  | .slice esz lo hi mx => pSlice esz lo hi mx
  | .fieldAddr off => pFieldAddr off
  | .idxAddr esz => pIdxAddr esz
  | .idxAddrA n esz => pIdxAddrA n esz
  | .field off agg n => pField off agg n
  | .idx len esz agg => pIdx len esz agg
  | .idxStr => pIdxStr
  | .lookup ks zero ok => pLookup ks zero ok
  | .mapSet ks => pMapSet ks
  | .assert t zero ok => pAssert t zero ok
  | .extract i => pExtract i
  | .lenS => pLenS
  | .lenM => pLenM
  | .lenC n => pLenC n
  | .cap => pCap
  | .append elem esz bytes => pAppend elem esz bytes
  | .appendZ elem esz bytes zero => pAppendZ elem esz bytes zero
  | .copy esz => pCopy esz
  | .min => pMin
  | .max => pMax
  | .clearM => pClearM
  | .clearS zero => pClearS zero
  | .delete ks => pDelete ks
  | .arrPtr n => pArrPtr n
  | .f64bits => pF64bits
  | .f64from => pF64from
  | .mapsClone => pMapsClone
  | .overlaps => pNone
  | .call => pNone
  | .defer => pNone
  | .panic => pNone
  | .recover => pNone
  | .invoke _ => pNone

/-! ### Code -/
structure Op where
  dst : Option Nat
  p : Prim
  args : List Opd
  guard : Option (Nat × Bool) := none

/-- Quiet operations, an effect behind them; chk: the slots of earlier reads that may still come behind the effect. -/
structure Seg where
  q : List Op
  e : Option Op
  chk : List Nat
  /-- memory that may be made ahead of the effect -/
  mob : List Op

inductive Code where
  | skip
  | reg (ops : List Op)
  | draw (segs : List Seg) (dsts : List Nat)
  | keep (ks : List Nat)
  | seq (a b : Code)
  | cond (c : Opd) (a b : Code)
  | block (id : Nat) (b : Code)
  | loop (ks : List Nat) (b : Code)
  | exit (id : Nat)
  | ret

abbrev Env := List (Nat × Value)
def Env.get : Env → Nat → Option Value
  | [], _ => none
  | (k, v) :: r, i => match Nat.beq k i with
    | true => some v
    | false => Env.get r i
def dk : Nat := 1000000
def rk : Nat := 1000001
def Env.sub (e : Env) : List Nat → Env
  | [] => match e.get 1000000 with
    | some v => [(1000000, v)]
    | none => []
  | k :: ks => match e.get k with
    | some v => (k, v) :: Env.sub e ks
    | none => Env.sub e ks
def Env.put (e : Env) (d : Option Nat) (v : Value) : Env :=
  match d with
  | some d => (d, v) :: e
  | none => e
def Env.ev (e : Env) : Opd → Option Value
  | .t i => e.get i
  | .c v => some v
def Env.evs (e : Env) : List Opd → Option (List Value)
  | [] => some []
  | o :: os => match e.ev o with
    | none => none
    | some v => match e.evs os with
      | some vs => some (v :: vs)
      | none => none
def wantedV (e : Env) : Option (Nat × Bool) → Option Bool
  | none => some true
  | some (j, want) => match e.get j with
    | some (.bool b) => some (b == want)
    | some _ => some false
    | none => none

inductive Ex where
  | normal
  | exit (id : Nat)
  | ret
  | panic (v : Value)

inductive Res where
  | ok (v : Value)
  | panic (v : Value)

/-- How functions and loops are answered. -/
structure Orc where
  call : Nat → List Value → H → Option (Res × H)
  loop : List Nat → Code → Env → H → Option (Ex × Env × H)
  meth : Nat → String → Option (Nat × Option (Bool × Nat))

/-- Whom a function value calls. -/
def callee : Value → List Value → Option (Nat × List Value)
  | .func (.func f) ⟨first⟩ ⟨cap⟩, args => some (f, first ++ (args ++ cap))
  | _, _ => none
def recv (σ : H) (v : Value) : Option (Bool × Nat) → Option Value
  | none => some v
  | some (agg, n) => match prim (.load agg n) [v] σ with
    | some (x, _) => some x
    | none => none

def sCall (O : Orc) (vs : List Value) (σ : H) : Option (Res × H) :=
  match vs with
  | f :: args => match callee f args with
    | some (f, args) => O.call f args σ
    | none => none
  | [] => none
def sInvoke (O : Orc) (name : String) (vs : List Value) (σ : H) : Option (Res × H) :=
  match vs with
  | .iface t v :: args => match O.meth t name with
    | none => none
    | some (f, how) => match recv σ v how with
      | none => none
      | some x => O.call f (x :: args) σ
  | _ => none
def sPanic (vs : List Value) (σ : H) : Option (Res × H) :=
  match vs with
  | [.iface t v] => some (.panic (.iface t v), σ)
  | _ => none
def sPrim (p : Prim) (vs : List Value) (σ : H) : Option (Res × H) :=
  match prim p vs σ with
  | some (v, σ') => some (.ok v, σ')
  | none => none
inductive PKind where
  | call | invoke (name : String) | panic | defer | other
def Prim.kind : Prim → PKind
  | .call => .call
  | .invoke n => .invoke n
  | .panic => .panic
  | .defer => .defer
  | _ => .other
def step (O : Orc) (p : Prim) : List Value → H → Option (Res × H) :=
  match p.kind with
  | .call => sCall O
  | .invoke n => sInvoke O n
  | .panic => sPanic
  | .defer => fun _ _ => none
  | .other => sPrim p

def addDefer (e : Env) (f : Value) : Option Env :=
  match f with
  | .func (.func _) ⟨[]⟩ _ => match e.get 1000000 with
    | none => some ((1000000, f) :: e)
    | some _ => none
  | _ => none

def deferV (e : Env) (vs : List Value) : Option Env :=
  match vs with
  | [f] => addDefer e f
  | _ => none

def runOps (O : Orc) : List Op → Env → H → Option (Ex × Env × H)
  | [], e, σ => some (.normal, e, σ)
  | o :: os, e, σ => match wantedV e o.guard with
    | none => none
    | some false => runOps O os (e.put o.dst (.tuple #[])) σ
    | some true => match e.evs o.args with
      | none => none
      | some vs => match o.p.kind with
        | .defer => match deferV e vs with
          | some e' => runOps O os (e'.put o.dst (.tuple #[])) σ
          | none => none
        | _ => match step O o.p vs σ with
          | none => none
          | some (r, σ') => match r with
            | .ok v => runOps O os (e.put o.dst v) σ'
            | .panic v => some (.panic v, e, σ')

/-- Is an operation's answer of the heap? -/
def readsHeap : Prim → Bool
  | .load .. | .toStr | .lookup .. | .lenM | .eqPtr _ => true
  | _ => false
/-- Operations that leave the heap alone. -/
def quietP : Prim → Bool
  | .move | .pick | .build .. | .load .. | .nilCheck | .isNil .. | .bin _ | .eqBool _ | .eqStr _ | .eqPtr _ | .eqAgg .. | .un _ | .toInt _ | .toFloat _ | .toStr | .iface _ | .func .. | .slice .. | .fieldAddr _ | .idxAddr _
  | .idxAddrA .. | .field .. | .idx .. | .idxStr | .lookup .. | .assert .. | .extract _ | .lenS | .lenM | .lenC _ | .min | .max | .f64bits | .f64from | .arrPtr _ => true
  | _ => false
def rigidC : Value → Bool
  | .bool _ | .int .. | .float .. | .string _ | .pointer _ | .map _ | .nilIface | .nilFunc => true
  | .slice none _ _ => true
  | .slice (some a) _ _ => !(Nat.beq a.block 0)
  | .iface _ v => match v with
    | .pointer _ | .map _ | .int .. | .bool _ => true
    | _ => false
  | .func (.func _) ⟨[]⟩ _ => false
  | _ => false
def rigid : Value → Bool
  | .agg ⟨c⟩ => c.all rigidC
  | .tuple ⟨c⟩ => c.all rigidC
  | v => rigidC v
/-- Do two answers agree, surely? -/
def sameC : Value → Value → Bool
  | .bool a, .bool b => a == b
  | .int k a, .int k' b => decide (k = k') && a == b
  | .float k a, .float k' b => decide (k = k') && a == b
  | .string a, .string b => a.data.toList == b.data.toList
  | .pointer a, .pointer b => decide (a = b)
  | .slice a n c, .slice a' n' c' => decide (a = a') && n == n' && c == c'
  | .map a, .map b => a == b
  | .nilIface, .nilIface => true
  | .nilFunc, .nilFunc => true
  | .iface t v, .iface t' v' => t == t' && (match v, v' with
    | .pointer a, .pointer b => decide (a = b)
    | .map a, .map b => a == b
    | .int k a, .int k' b => decide (k = k') && a == b
    | .bool a, .bool b => a == b
    | _, _ => false)
  | _, _ => false
def sameL : List Value → List Value → Bool
  | [], [] => true
  | a :: x, b :: y => sameC a b && sameL x y
  | _, _ => false
def same : Value → Value → Bool
  | .agg ⟨a⟩, .agg ⟨b⟩ => sameL a b
  | .tuple ⟨a⟩, .tuple ⟨b⟩ => sameL a b
  | a, b => sameC a b

structure Read where
  d : Nat
  p : Prim
  vs : List Value
  v : Value
/-- Do earlier reads answer the same now? -/
def still (σ : H) : List Read → Bool
  | [] => true
  | r :: rs => match prim r.p r.vs σ with
    | some (v, _) => rigid r.v && same r.v v && still σ rs
    | none => false

def runQ (rs : List Read) : List Op → Env → H → Option (List Read × Env)
  | [], e, _ => some (rs, e)
  | o :: os, e, σ => match wantedV e o.guard with
    | none => none
    | some false => runQ rs os (e.put o.dst (.tuple #[])) σ
    | some true => match e.evs o.args with
      | none => none
      | some vs => match quietP o.p with
        | false => none
        | true => match prim o.p vs σ with
          | none => none
          | some (v, _) => match readsHeap o.p with
            | true => runQ (⟨o.dst.getD 0, o.p, vs, v⟩ :: rs) os (e.put o.dst v) σ
            | false => runQ rs os (e.put o.dst v) σ

def dropD (dsts : List Nat) : Env → Env
  | [] => []
  | (k, v) :: r => match dsts.contains k with
    | true => dropD dsts r
    | false => (k, v) :: dropD dsts r
def keepR (ks : List Nat) : List Read → List Read
  | [] => []
  | r :: rs => match ks.contains r.d with
    | true => r :: keepR ks rs
    | false => keepR ks rs

/-- Can memory be made of what there is? -/
def makes (e : Env) (σ : H) : List Op → Bool
  | [] => true
  | o :: os => match e.evs o.args with
    | none => false
    | some vs => match prim o.p vs σ with
      | none => false
      | some _ => makes e σ os
def mobOk (e : Env) (σ : H) (rs : List Read) : List Op → Bool
  | [] => true
  | o :: os => still σ rs && makes e σ (o :: os)

def runSegs (O : Orc) (e0 : Env) (dsts : List Nat) : List Seg → List Read → Env → H → Option (Ex × Env × H)
  | [], _, e, σ => some (.normal, e, σ)
  | s :: ss, rs, e, σ => match runQ rs s.q e σ with
    | none => none
    | some (rs, e) => match s.e with
      | none => runSegs O e0 dsts ss rs e σ
      | some o => match mobOk e σ rs s.mob with
        | false => none
        | true => match runOps O [o] e σ with
          | none => none
          | some (x, e', σ') => match x with
            | .normal => match still σ' (keepR s.chk rs) with
              | true => runSegs O e0 dsts ss (keepR s.chk rs) e' σ'
              | false => none
            | .panic v => some (.panic v, dropD dsts e0, σ')
            | _ => none

def denote (O : Orc) : Code → Env → H → Option (Ex × Env × H)
  | .skip, e, σ => some (.normal, e, σ)
  | .reg ops, e, σ => runOps O ops e σ
  | .draw segs dsts, e, σ => runSegs O e dsts segs [] e σ
  | .keep ks, e, σ => some (.normal, e.sub ks, σ)
  | .seq a b, e, σ => match denote O a e σ with
    | none => none
    | some (x, e', σ') => match x with
      | .normal => denote O b e' σ'
      | x => some (x, e', σ')
  | .cond c a b, e, σ => match e.ev c with
    | some (.bool t) => match t with
      | true => denote O a e σ
      | false => denote O b e σ
    | _ => none
  | .block id b, e, σ => match denote O b e σ with
    | none => none
    | some (x, e', σ') => match x with
      | .exit i => match Nat.beq i id with
        | true => some (.normal, e', σ')
        | false => some (.exit i, e', σ')
      | x => some (x, e', σ')
  | .loop ks b, e, σ => O.loop ks b (e.sub ks) σ
  | .exit id, e, σ => some (.exit id, e, σ)
  | .ret, e, σ => some (.ret, e, σ)

/-- A result: a slot, or the cells behind one. -/
inductive RVar where
  | tmp (t : Nat)
  | cell (t : Nat) (agg : Bool) (n : Nat)

structure Func where
  body : Code
  results : List RVar
  /-- a deferred function that recovers: the slot that it lays it in -/
  rcv : Option Nat := none

def result (e : Env) (σ : H) : RVar → Option Value
  | .tmp t => e.get t
  | .cell t agg n => match e.get t with
    | some v => recv σ v (some (agg, n))
    | none => none
def resultL (e : Env) (σ : H) : List RVar → Option (List Value)
  | [] => some []
  | r :: rs => match result e σ r with
    | none => none
    | some v => match resultL e σ rs with
      | some vs => some (v :: vs)
      | none => none
def results (e : Env) (σ : H) (rs : List RVar) : Option (Res × H) :=
  match resultL e σ rs with
  | some [v] => some (.ok v, σ)
  | some vs => some (.ok (.tuple ⟨vs⟩), σ)
  | none => none

def params : Nat → List Value → Env
  | _, [] => []
  | i, v :: vs => (i, v) :: params (i + 1) vs

/-- A deferred function: it is called where its caller panics with p, or returns. True: it took the panic. -/
def deferred (O : Orc) (fs : Nat → Option Func) (f : Value) (p : Option Value) (σ : H) : Option (Bool × H) :=
  match f with
  | .func (.func k) _ ⟨cap⟩ => match fs k with
    | some ⟨b, [], some r⟩ => match Nat.ble cap.length 1000 with
      | false => none
      | true => match denote O b ((r, p.getD .nilIface) :: params 0 cap) σ with
        | some (x, e', σ') => match e'.get 1000000 with
          | some _ => none
          | none => match x with
            | .normal | .ret => some (p.isSome, σ')
            | _ => none
        | none => none
    | _ => none
  | _ => none

def callF (O : Orc) (fs : Nat → Option Func) (k : Nat) (args : List Value) (σ : H) : Option (Res × H) :=
  match fs k with
  | none => none
  | some fn => match fn.rcv with
    | some _ => none
    | none => match Nat.ble args.length 1000 with
     | false => none
     | true => match denote O fn.body (params 0 args) σ with
      | none => none
      | some (x, e, σ') => match e.get 1000000 with
        | none => match x with
          | .normal | .ret => results e σ' fn.results
          | .panic v => some (.panic v, σ')
          | .exit _ => none
        | some d => match x with
          | .normal | .ret => match deferred O fs d none σ' with
            | some (_, σ2) => results e σ2 fn.results
            | none => none
          | .panic v => match deferred O fs d (some v) σ' with
            | some (true, σ2) => results e σ2 fn.results
            | _ => none
          | .exit _ => none

/-! ### Functions that are answered by contracts of their own -/
/-- The elements of a slice of one object, whole. -/
def elems (σ : H) (esz : Nat) (base : Option Addr) (n : Nat) : Option (List Value) := srcCells σ esz base n
/-- A slice gets new content c of tot elements, of which those ahead of i are as they were; rest: what is laid behind them, in place. -/
def refit (σ : H) (elem esz bytes : Nat) (base : Option Addr) (cap i tot : Nat) (c rest : List Value) : Option (Value × H) :=
  match Nat.ble (tot * bytes) room && c.all cellOk && rest.all cellOk && Nat.beq c.length (tot * esz) with
  | false => none
  | true => match base with
    | none => none
    | some a => match Nat.beq (rowSize σ a.block) esz && live σ a.block with
      | false => none
      | true => match Nat.ble tot cap with
        | true => match wrCells σ ⟨a.block, a.off + i * esz, a.spot⟩ (c.drop (i * esz) ++ rest) with
          | some σ' => some (.slice base tot cap, σ')
          | none => none
        | false => match atEnd σ a cap with
          | true => some (.slice (some ⟨σ.next, 0, none⟩) tot tot, (σ.put a.block .dead).push (.cells c elem esz .grown))
          | false => some (.slice (some ⟨σ.next, 0, none⟩) tot tot, σ.push (.cells c elem esz .grown))
def apartFrom (a b : Option Addr) : Bool :=
  match a, b with
  | some a, some b => !(Nat.beq a.block b.block)
  | _, _ => true
def insertV (elem esz bytes : Nat) (vs : List Value) (σ : H) : Option (Res × H) :=
  match vs with
  | [.slice base n cap, .int .i64 i, .slice vb m _] =>
    match decide (0 ≤ i) && decide (i ≤ n) && apartFrom base vb with
    | false => none
    | true => match m with
      | 0 => some (.ok (.slice base n cap), σ)
      | m + 1 => match srcCells σ esz vb (m + 1), elems σ esz base n with
        | some new, some old => match Nat.beq i.toNat n with
          | true => match appendV σ elem esz bytes base n cap (m + 1) new with
            | some (v, σ') => some (.ok v, σ')
            | none => none
          | false => match refit σ elem esz bytes base cap i.toNat (n + (m + 1)) (old.take (i.toNat * esz) ++ (new ++ old.drop (i.toNat * esz))) [] with
            | some (v, σ') => some (.ok v, σ')
            | none => none
        | _, _ => none
  | _ => none
def replaceV (elem esz bytes : Nat) (zero : List Value) (vs : List Value) (σ : H) : Option (Res × H) :=
  match vs with
  | [.slice base n cap, .int .i64 i, .int .i64 j, .slice vb m c] =>
    match decide (0 ≤ i) && decide (i ≤ j) && decide (j ≤ n) && apartFrom base vb with
    | false => none
    | true => match decide (i = j) with
      | true => insertV elem esz bytes [.slice base n cap, .int .i64 i, .slice vb m c] σ
      | false => match srcCells σ esz vb m, elems σ esz base n with
        | some new, some old =>
          match refit σ elem esz bytes base cap i.toNat (i.toNat + (m + (n - j.toNat))) (old.take (i.toNat * esz) ++ (new ++ old.drop (j.toNat * esz))) (lrep zero (n - (i.toNat + (m + (n - j.toNat))))) with
          | some (v, σ') => some (.ok v, σ')
          | none => none
        | _, _ => none
  | _ => none
def insI (x : Int) : List Int → List Int
  | [] => [x]
  | y :: r => match decide (x ≤ y) with
    | true => x :: y :: r
    | false => y :: insI x r
def sortI : List Int → List Int
  | [] => []
  | x :: r => insI x (sortI r)
def keysI : List MapEntry → Option (List Int)
  | [] => some []
  | e :: es => match e.key with
    | .int .i64 n => match keysI es with
      | some l => some (n :: l)
      | none => none
    | _ => none
/-- Births rise, and lie below the clock. -/
def bornOk (clk : Nat) : Nat → List MapEntry → Bool
  | lo, [] => Nat.ble lo clk
  | lo, e :: es => match Nat.ble lo e.born with
    | true => bornOk clk (e.born + 1) es
    | false => false
def hasI (x : Int) : List Int → Bool
  | [] => false
  | y :: r => match eqI x y with
    | true => true
    | false => hasI x r
/-- No number twice, and each one is an int. -/
def freshI : List Int → Bool
  | [] => true
  | x :: r => match hasI x r || (ltI x (-9223372036854775808) || ltI 9223372036854775807 x) with
    | true => false
    | false => freshI r
/-- 'slices.Sorted(maps.Keys(m))': fs: the numbers of the functions that maps.Keys hands over. -/
def sortedV (elem : Nat) (fs : List Nat) (vs : List Value) (σ : H) : Option (Res × H) :=
  match vs with
  | [.func (.func f) ⟨[]⟩ ⟨[.pointer (some ⟨a, 0, none⟩)]⟩] => match fs.contains f with
    | false => none
    | true => match σ.get a with
      | some (.cells [.map r] _ _ .exact) => match r with
        | none => some (.ok (.slice none 0 0), σ)
        | some r => match σ.get r with
          | some (.map es clk) => match keysI es with
            | none => none
            | some [] => some (.ok (.slice none 0 0), σ)
            | some (k :: ks) => match Nat.ble ((k :: ks).length * 8) room && (bornOk clk 0 es && freshI (k :: ks)) with
              | true => some (.ok (.slice (some ⟨σ.next, 0, none⟩) (k :: ks).length (k :: ks).length), σ.push (.cells ((sortI (k :: ks)).map (.int .i64)) elem 1 .grown))
              | false => none
          | _ => none
      | _ => none
  | _ => none

/-- 'bytes.Join(l, nil)'. -/
def joinL (σ : H) : List Value → Option (List Value)
  | [] => some []
  | .slice a n _ :: r => match srcCells σ 1 a n with
    | none => none
    | some c => match joinL σ r with
      | none => none
      | some l => some (c ++ l)
  | _ => none
def joinV (elem : Nat) (vs : List Value) (σ : H) : Option (Res × H) :=
  match vs with
  | [.slice base n _, .slice none _ _] => match srcCells σ 1 base n with
    | none => none
    | some ss => match joinL σ ss with
      | none => none
      | some c => match Nat.ble c.length room with
        | false => none
        | true => match n with
          | 0 => some (.ok (.slice (some ⟨σ.next, 0, none⟩) 0 0), σ.push (.cells [] elem 1 .exact))
          | 1 => match c with
            | [] => some (.ok (.slice none 0 0), σ)
            | c => some (.ok (.slice (some ⟨σ.next, 0, none⟩) c.length c.length), σ.push (.cells c elem 1 .grown))
          | _ => some (.ok (.slice (some ⟨σ.next, 0, none⟩) c.length c.length), σ.push (.cells c elem 1 .exact))
  | _ => none

structure Prog where
  fs : Nat → Option Func
  meth : Nat → String → Option (Nat × Option (Bool × Nat))
  /-- functions that are answered by a contract of their own -/
  own : Nat → Option (List Value → H → Option (Res × H))

def answer (O : Orc) (P : Prog) (k : Nat) (args : List Value) (σ : H) : Option (Res × H) :=
  match P.own k with
  | some f => f args σ
  | none => callF O P.fs k args σ

def again (O : Orc) (ks : List Nat) (b : Code) (e : Env) (σ : H) : Option (Ex × Env × H) :=
  match denote O b e σ with
  | none => none
  | some (x, e', σ') => match x with
    | .normal => O.loop ks b (e'.sub ks) σ'
    | x => some (x, e', σ')

/-- So many steps deep. -/
def orc (P : Prog) : Nat → Orc
  | 0 => ⟨fun _ _ _ => none, fun _ _ _ _ => none, P.meth⟩
  | n + 1 => ⟨answer (orc P n) P, again (orc P n), P.meth⟩

/-! Short words for the printed code. -/
def oA (d : Nat) (p : Prim) (a : List Opd) : Op := ⟨some d, p, a, none⟩
def oN (p : Prim) (a : List Opd) : Op := ⟨none, p, a, none⟩
def oG (d : Option Nat) (p : Prim) (a : List Opd) (j : Nat) (b : Bool) : Op := ⟨d, p, a, some (j, b)⟩
def oM (d s : Nat) : Op := ⟨some d, .move, [.t s], none⟩
def cR (ops : List Op) (ks : List Nat) : Code := .seq (.reg ops) (.keep ks)
def cD (ss : List Seg) (ds ks : List Nat) : Code := .seq (.draw ss ds) (.keep ks)

end AM
end Go.Proofs.YtlelihddjacplaaGreat
