/- The abstract machine and the world: how a heap lies in a world. -/
import Derived.Test.YtdbbkaeoinalpaaGreatAmComp
import Derived.Laws.Cells
import Derived.Laws.IdiomCopy
import Derived.Deep.MidRow
import Derived.Deep.Upon
set_option linter.unusedVariables false
namespace Go.Proofs.YtdbbkaeoinalpaaGreat
namespace AM

/-- Where an object lies: its block, the offset, its cells, the cells of an element, the elements that there are besides, and whether it is never written. -/
structure Bk where
  blk : Nat
  base : Nat
  len : Nat
  esz : Nat
  extra : Nat
  ro : Bool
abbrev Inj := Nat → Option Bk
def capOf (b : Bk) (off cap : Nat) : Nat := cap + if off + cap * b.esz = b.len then b.extra else 0

mutual
inductive VR (ι : Inj) : Value → Value → Prop
  | bool (b : Bool) : VR ι (.bool b) (.bool b)
  | int (k : IntKind) (n : Int) : VR ι (.int k n) (.int k n)
  | float (k : FloatKind) (b : Nat) : VR ι (.float k b) (.float k b)
  | string (s : ByteArray) : VR ι (.string s) (.string s)
  | nilp : VR ι (.pointer none) (.pointer none)
  | ptr {A o : Nat} {bk : Bk} (h : ι A = some bk) : VR ι (.pointer (some ⟨A, o, none⟩)) (.pointer (some ⟨bk.blk, bk.base + o, none⟩))
  | nils (n c : Nat) : VR ι (.slice none n c) (.slice none n c)
  | slice {A o n c : Nat} {bk : Bk} (h0 : A ≠ 0) (h : ι A = some bk) : VR ι (.slice (some ⟨A, o, none⟩) n c) (.slice (some ⟨bk.blk, bk.base + o, none⟩) n (capOf bk o c))
  | void (o : Nat) (a : Addr) (c : Nat) (h : a.spot = none) : VR ι (.slice (some ⟨0, o, none⟩) 0 0) (.slice (some a) 0 c)
  | nilm : VR ι (.map none) (.map none)
  | map {A : Nat} {bk : Bk} (h : ι A = some bk) : VR ι (.map (some A)) (.map (some bk.blk))
  | nilf : VR ι .nilFunc .nilFunc
  | func (f : Nat) {xs ys us vs : List Value} (h1 : VRs ι xs us) (h2 : VRs ι ys vs) : VR ι (.func (.func f) ⟨xs⟩ ⟨ys⟩) (.func (.func f) ⟨us⟩ ⟨vs⟩)
  | iface (t : Nat) {v v' : Value} (h : VR ι v v') : VR ι (.iface t v) (.iface t v')
  | nili : VR ι .nilIface .nilIface
  | agg {xs ys : List Value} (h : VRs ι xs ys) : VR ι (.agg ⟨xs⟩) (.agg ⟨ys⟩)
  | tuple {xs ys : List Value} (h : VRs ι xs ys) : VR ι (.tuple ⟨xs⟩) (.tuple ⟨ys⟩)
inductive VRs (ι : Inj) : List Value → List Value → Prop
  | nil : VRs ι [] []
  | cons {v v' : Value} {l l' : List Value} (h : VR ι v v') (hs : VRs ι l l') : VRs ι (v :: l) (v' :: l')
end

def Sub (ι ι' : Inj) : Prop := ∀ A bk, ι A = some bk → ι' A = some bk
theorem Sub.refl (ι : Inj) : Sub ι ι := fun _ _ h => h
theorem Sub.trans {a b c : Inj} (h : Sub a b) (k : Sub b c) : Sub a c := fun A bk e => k A bk (h A bk e)

mutual
theorem VR.mono {ι ι' : Inj} (hs : Sub ι ι') : ∀ {v v' : Value}, VR ι v v' → VR ι' v v'
  | _, _, .bool b => .bool b
  | _, _, .int k n => .int k n
  | _, _, .float k b => .float k b
  | _, _, .string s => .string s
  | _, _, .nilp => .nilp
  | _, _, .ptr h => .ptr (hs _ _ h)
  | _, _, .nils n c => .nils n c
  | _, _, .slice h0 h => .slice h0 (hs _ _ h)
  | _, _, .void o a c h => .void o a c h
  | _, _, .nilm => .nilm
  | _, _, .map h => .map (hs _ _ h)
  | _, _, .nilf => .nilf
  | _, _, .func f h1 h2 => .func f (VRs.mono hs h1) (VRs.mono hs h2)
  | _, _, .iface t h => .iface t (VR.mono hs h)
  | _, _, .nili => .nili
  | _, _, .agg h => .agg (VRs.mono hs h)
  | _, _, .tuple h => .tuple (VRs.mono hs h)
theorem VRs.mono {ι ι' : Inj} (hs : Sub ι ι') : ∀ {l l' : List Value}, VRs ι l l' → VRs ι' l l'
  | _, _, .nil => .nil
  | _, _, .cons h hr => .cons (VR.mono hs h) (VRs.mono hs hr)
end

theorem VRs.length {ι : Inj} : ∀ {l l' : List Value}, VRs ι l l' → l'.length = l.length
  | _, _, .nil => rfl
  | _, _, .cons _ h => by simp [VRs.length h]
theorem VRs.get {ι : Inj} : ∀ {l l' : List Value}, VRs ι l l' → ∀ (i : Nat) (v : Value), l[i]? = some v → ∃ v', l'[i]? = some v' ∧ VR ι v v'
  | _, _, .nil, i, v, h => by simp at h
  | _, _, .cons h hr, 0, v, e => by simp at e; subst e; exact ⟨_, rfl, h⟩
  | _, _, .cons h hr, i + 1, v, e => by simpa using hr.get i v (by simpa using e)
theorem VRs.of_get {ι : Inj} : ∀ (l l' : List Value), l'.length = l.length → (∀ (i : Nat) (v : Value), l[i]? = some v → ∃ v', l'[i]? = some v' ∧ VR ι v v') → VRs ι l l'
  | [], [], _, _ => .nil
  | [], _ :: _, h, _ => by simp at h
  | _ :: _, [], h, _ => by simp at h
  | v :: l, v' :: l', h, hg => by
    obtain ⟨u, hu, hv⟩ := hg 0 v rfl
    simp at hu
    subst hu
    exact .cons hv (VRs.of_get l l' (by simpa using h) fun i w hw => by simpa using hg (i + 1) w (by simpa using hw))
theorem VRs.append {ι : Inj} : ∀ {a a' b b' : List Value}, VRs ι a a' → VRs ι b b' → VRs ι (a ++ b) (a' ++ b')
  | _, _, _, _, .nil, h => h
  | _, _, _, _, .cons h hr, k => .cons h (hr.append k)
theorem VRs.take {ι : Inj} : ∀ {a a' : List Value}, VRs ι a a' → ∀ n, VRs ι (a.take n) (a'.take n)
  | _, _, .nil, n => by simp; exact .nil
  | _, _, .cons h hr, 0 => by simp; exact .nil
  | _, _, .cons h hr, n + 1 => by simp; exact .cons h (hr.take n)
theorem VRs.drop {ι : Inj} : ∀ {a a' : List Value}, VRs ι a a' → ∀ n, VRs ι (a.drop n) (a'.drop n)
  | _, _, .nil, n => by simp; exact .nil
  | _, _, .cons h hr, 0 => by simp; exact .cons h hr
  | _, _, .cons h hr, n + 1 => by simp; exact hr.drop n
theorem VR.cells {ι : Inj} {v v' : Value} (h : VR ι v v') : VRs ι (cellsOf v) (cellsOf v') := by
  cases h <;> first | assumption | (exact .cons (by constructor <;> assumption) .nil) | skip
theorem cellsOf_eq (v : Value) : v.cells.toList = cellsOf v := by cases v <;> rfl
theorem VR.cellOk {ι : Inj} {v v' : Value} (h : VR ι v v') : cellOk v' = cellOk v := by cases h <;> rfl
theorem VRs.allOk {ι : Inj} : ∀ {l l' : List Value}, VRs ι l l' → l'.all AM.cellOk = l.all AM.cellOk
  | _, _, .nil => rfl
  | _, _, .cons h hr => by simp [h.cellOk, hr.allOk]
theorem cellOk_one (v : Value) : v.oneCell' = cellOk v := by cases v <;> rfl

/-! ### Lists -/
theorem lget_eq : ∀ (l : List Value) (i : Nat), lget l i = l[i]?
  | [], i => by simp [lget]
  | v :: r, 0 => rfl
  | v :: r, i + 1 => by simp [lget, lget_eq r i]
theorem ltake_eq : ∀ (l : List Value) (n : Nat), ltake l n = if n ≤ l.length then some (l.take n) else none
  | l, 0 => by simp [ltake]
  | [], n + 1 => by simp [ltake]
  | v :: r, n + 1 => by
    simp only [ltake, ltake_eq r n, List.length_cons, Nat.add_le_add_iff_right, List.take_succ_cons]
    split <;> rename_i h <;> split at h <;> simp_all
theorem lcut_eq : ∀ (l : List Value) (o n : Nat), lcut l o n = if o + n ≤ l.length then some ((l.drop o).take n) else none
  | l, 0, n => by simp [lcut, ltake_eq]
  | [], o + 1, n => by cases n <;> simp [lcut]
  | v :: r, o + 1, n => by
    simp only [lcut, lcut_eq r o n, List.length_cons, List.drop_succ_cons]
    by_cases h : o + n ≤ r.length
    · rw [if_pos h, if_pos (by omega)]
    · rw [if_neg h, if_neg (by omega)]
theorem lover_eq : ∀ (l vs : List Value), lover l vs = if vs.length ≤ l.length then some (vs ++ l.drop vs.length) else none
  | l, [] => by cases l <;> simp [lover]
  | [], v :: vs => by simp [lover]
  | u :: r, v :: vs => by
    simp only [lover, lover_eq r vs, List.length_cons, Nat.add_le_add_iff_right, List.cons_append, List.drop_succ_cons]
    split <;> rename_i h <;> split at h <;> simp_all
theorem lput_eq : ∀ (l : List Value) (o : Nat) (vs : List Value), lput l o vs = if o + vs.length ≤ l.length then some (l.take o ++ (vs ++ l.drop (o + vs.length))) else none
  | l, 0, vs => by simp [lput, lover_eq]
  | [], o + 1, vs => by simp [lput]
  | u :: r, o + 1, vs => by
    simp only [lput, lput_eq r o vs, List.length_cons, List.take_succ_cons]
    by_cases h : o + vs.length ≤ r.length
    · rw [if_pos h, if_pos (by omega)]
      simp [show o + 1 + vs.length = o + vs.length + 1 by omega]
    · rw [if_neg h, if_neg (by omega)]
theorem lput_some {l vs c : List Value} {o : Nat} (h : lput l o vs = some c) : o + vs.length ≤ l.length ∧ c = l.take o ++ (vs ++ l.drop (o + vs.length)) := by
  rw [lput_eq] at h
  split at h
  · exact ⟨by assumption, by simpa using h.symm⟩
  · cases h
theorem lcut_some {l c : List Value} {o n : Nat} (h : lcut l o n = some c) : o + n ≤ l.length ∧ c = (l.drop o).take n := by
  rw [lcut_eq] at h
  split at h
  · exact ⟨by assumption, by simpa using h.symm⟩
  · cases h

/-! ### The heap in the world -/
def cellsR (ι : Inj) (blk : Array Value) (base : Nat) (c : List Value) : Prop := ∀ i v, c[i]? = some v → ∃ v', blk[base + i]? = some v' ∧ VR ι v v'
inductive EsR (ι : Inj) : List MapEntry → List MapEntry → Prop
  | nil : EsR ι [] []
  | cons {e e' : MapEntry} {l l' : List MapEntry} (hk : VR ι e.key e'.key) (hv : VR ι e.val e'.val) (hb : e'.born = e.born) (h : EsR ι l l') : EsR ι (e :: l) (e' :: l')
theorem EsR.mono {ι ι' : Inj} (hs : Sub ι ι') : ∀ {l l' : List MapEntry}, EsR ι l l' → EsR ι' l l'
  | _, _, .nil => .nil
  | _, _, .cons hk hv hb h => .cons (hk.mono hs) (hv.mono hs) hb (h.mono hs)
theorem cellsR.mono {ι ι' : Inj} (hs : Sub ι ι') {blk : Array Value} {base : Nat} {c : List Value} (h : cellsR ι blk base c) : cellsR ι' blk base c :=
  fun i v hv => let ⟨v', a, b⟩ := h i v hv; ⟨v', a, b.mono hs⟩

structure CellsIn (ι : Inj) (w : World) (bk : Bk) (c : List Value) (e s : Nat) (m : AM.Mode) (blk : Array Value) (fz : Nat × Nat) : Prop where
  heap : w.heap[bk.blk]? = some (.cells blk e fz)
  len : bk.len = c.length
  esz : bk.esz = s
  ro : bk.ro = decide (m = .ro)
  fz : m ≠ .ro → fz = (0, 0)
  extra : m ≠ .grown → bk.extra = 0
  size : bk.base + c.length + bk.extra * s ≤ blk.size
  cells : cellsR ι blk bk.base c
  base0 : m = .exact → bk.base = 0

def ObjR (ι : Inj) (w : World) (bk : Bk) : AM.Obj → Prop
  | .cells c _ s m => ∃ blk fz te, CellsIn ι w bk c te s m blk fz
  | .map es clk => ∃ es', w.heap[bk.blk]? = some (.map es' clk) ∧ bk.ro = false ∧ EsR ι es es'.toList
  | .dead => True

structure R (ι : Inj) (σ : H) (w : World) : Prop where
  pos : 1 ≤ σ.next
  zero : ι 0 = none
  dom : ∀ A bk, ι A = some bk → A < σ.next
  lt : ∀ A o, σ.get A = some o → A < σ.next
  obj : ∀ A o, σ.get A = some o → o ≠ .dead → ∃ bk, ι A = some bk ∧ ObjR ι w bk o
  inj : ∀ A B oA oB bA bB, σ.get A = some oA → σ.get B = some oB → oA ≠ .dead → oB ≠ .dead → ι A = some bA → ι B = some bB → bA.ro = false → bA.blk = bB.blk → A = B
  blt : ∀ A bk, ι A = some bk → bk.blk < w.heap.size

structure Ext (ι : Inj) (w : World) (ι' : Inj) (w' : World) : Prop where
  sub : Sub ι ι'
  os : w'.os = w.os
  tape : w'.tape = w.tape
  output : w'.output = w.output
  size : w.heap.size ≤ w'.heap.size
  keep : ∀ b, b < w.heap.size → (∀ A bk, ι A = some bk → bk.ro = false → bk.blk ≠ b) → w'.heap[b]? = w.heap[b]?
  new : ∀ A bk, ι A = none → ι' A = some bk → bk.ro = false ∧ (w.heap.size ≤ bk.blk ∨ ∃ B bB, ι B = some bB ∧ bB.ro = false ∧ bB.blk = bk.blk)

theorem Ext.refl (ι : Inj) (w : World) : Ext ι w ι w := ⟨Sub.refl _, rfl, rfl, rfl, Nat.le_refl _, fun _ _ _ => rfl, fun A bk h1 h2 => by rw [h1] at h2; cases h2⟩
theorem Ext.trans {ι ι1 ι2 : Inj} {w w1 w2 : World} (h : Ext ι w ι1 w1) (k : Ext ι1 w1 ι2 w2) : Ext ι w ι2 w2 := by
  refine ⟨h.sub.trans k.sub, k.os.trans h.os, k.tape.trans h.tape, k.output.trans h.output, Nat.le_trans h.size k.size, fun b hb hn => ?_, fun A bk h0 h2 => ?_⟩
  · refine (k.keep b (Nat.lt_of_lt_of_le hb h.size) fun A bk hA hro e => ?_).trans (h.keep b hb hn)
    cases h0 : ι A with
    | some bk0 =>
      have := h.sub A bk0 h0
      rw [hA] at this
      cases this
      exact hn A bk h0 hro e
    | none =>
      obtain ⟨_, h1 | ⟨B, bB, h1, h2, h3⟩⟩ := h.new A bk h0 hA
      · omega
      · exact hn B bB h1 h2 (h3.trans e)
  · cases h1 : ι1 A with
    | some bk1 =>
      have := k.sub A bk1 h1
      rw [h2] at this
      cases this
      exact h.new A bk h0 h1
    | none =>
      obtain ⟨hro, hx | ⟨B, bB, hB, hBro, hBe⟩⟩ := k.new A bk h1 h2
      · exact ⟨hro, .inl (Nat.le_trans h.size hx)⟩
      · refine ⟨hro, ?_⟩
        cases hB0 : ι B with
        | some b0 =>
          have := h.sub B b0 hB0
          rw [hB] at this
          cases this
          exact .inr ⟨B, bB, hB0, hBro, hBe⟩
        | none =>
          obtain ⟨_, hx | ⟨C, bC, h4, h5, h6⟩⟩ := h.new B bB hB0 hB
          · exact .inl (by omega)
          · exact .inr ⟨C, bC, h4, h5, h6.trans hBe⟩

theorem ObjR.of_heap {ι : Inj} {w w' : World} {bk : Bk} {o : AM.Obj} (h : ObjR ι w bk o) (he : w'.heap[bk.blk]? = w.heap[bk.blk]?) : ObjR ι w' bk o := by
  cases o with
  | cells c e s m => obtain ⟨blk, fz, te, h⟩ := h; exact ⟨blk, fz, te, he.trans h.heap, h.len, h.esz, h.ro, h.fz, h.extra, h.size, h.cells, h.base0⟩
  | map es clk => obtain ⟨es', a, b, c⟩ := h; exact ⟨es', he.trans a, b, c⟩
  | dead => trivial
theorem ObjR.mono {ι ι' : Inj} {w : World} {bk : Bk} {o : AM.Obj} (h : ObjR ι w bk o) (hs : Sub ι ι') : ObjR ι' w bk o := by
  cases o with
  | cells c e s m => obtain ⟨blk, fz, te, h⟩ := h; exact ⟨blk, fz, te, h.heap, h.len, h.esz, h.ro, h.fz, h.extra, h.size, h.cells.mono hs, h.base0⟩
  | map es clk => obtain ⟨es', a, b, c⟩ := h; exact ⟨es', a, b, c.mono hs⟩
  | dead => trivial
theorem ObjR.lt {ι : Inj} {w : World} {bk : Bk} {o : AM.Obj} (h : ObjR ι w bk o) (ho : o ≠ .dead) : bk.blk < w.heap.size := by
  cases o with
  | cells c e s m => obtain ⟨blk, fz, te, h⟩ := h; exact (Array.getElem?_eq_some_iff.1 h.heap).1
  | map es clk => obtain ⟨es', a, b, c⟩ := h; exact (Array.getElem?_eq_some_iff.1 a).1
  | dead => exact absurd rfl ho

/-- The world's drawn answers don't count. -/
theorem R.same {ι : Inj} {σ : H} {w w' : World} (h : R ι σ w) (he : w'.heap = w.heap) : R ι σ w' :=
  ⟨h.pos, h.zero, h.dom, h.lt, fun A o hA ho => let ⟨bk, a, b⟩ := h.obj A o hA ho; ⟨bk, a, b.of_heap (by rw [he])⟩, h.inj, fun A bk hA => by rw [he]; exact h.blt A bk hA⟩
theorem Ext.same {ι : Inj} {w w' : World} (he : w'.heap = w.heap) (ho : w'.os = w.os) (ht : w'.tape = w.tape) (hp : w'.output = w.output) : Ext ι w ι w' :=
  ⟨Sub.refl _, ho, ht, hp, by rw [he]; exact Nat.le_refl _, fun _ _ _ => by rw [he], fun A bk h1 h2 => by rw [h1] at h2; cases h2⟩

def Inj.set (ι : Inj) (A : Nat) (bk : Bk) : Inj := fun B => if B = A then some bk else ι B
theorem Inj.set_sub {ι : Inj} {A : Nat} {bk : Bk} (h : ι A = none) : Sub ι (ι.set A bk) := fun B b hb => by
  unfold Inj.set
  split
  · rename_i e; subst e; rw [h] at hb; cases hb
  · exact hb
theorem Inj.set_same (ι : Inj) (A : Nat) (bk : Bk) : ι.set A bk A = some bk := by simp [Inj.set]
theorem R.fresh {ι : Inj} {σ : H} {w : World} (h : R ι σ w) : ι σ.next = none := by
  cases e : ι σ.next with
  | none => rfl
  | some bk => exact absurd (h.dom _ _ e) (Nat.lt_irrefl _)

/-- A new object in a block that lies in the world already, and that no object has. -/
theorem R.bind {ι : Inj} {σ : H} {w : World} (h : R ι σ w) (o : AM.Obj) (bk : Bk) (hro : bk.ro = false) (hblt : bk.blk < w.heap.size) (ho : ObjR (ι.set σ.next bk) w bk o)
    (hfree : ∀ A oA bA, σ.get A = some oA → oA ≠ .dead → ι A = some bA → bA.blk ≠ bk.blk) : R (ι.set σ.next bk) (σ.push o) w := by
  have hs : Sub ι (ι.set σ.next bk) := Inj.set_sub h.fresh
  refine ⟨by show 1 ≤ σ.next + 1; omega, ?_, fun A b hA => ?_, fun A oA hA => ?_, fun A oA hA hd => ?_, fun A B oA oB bA bB hA hB dA dB iA iB hr he => ?_, fun A b hA => by
    unfold Inj.set at hA
    split at hA
    · cases hA; exact hblt
    · exact h.blt A b hA⟩
  · unfold Inj.set; rw [if_neg (by have := h.pos; omega)]; exact h.zero
  · show A < σ.next + 1
    unfold Inj.set at hA
    split at hA
    · omega
    · have := h.dom A b hA; omega
  · show A < σ.next + 1
    rw [H.get_push] at hA
    split at hA
    · omega
    · have := h.lt A oA hA; omega
  · rw [H.get_push] at hA
    split at hA
    · rename_i e; subst e; cases hA; exact ⟨bk, Inj.set_same _ _ _, ho⟩
    · rename_i e
      obtain ⟨b, i1, i2⟩ := h.obj A oA hA hd
      exact ⟨b, hs _ _ i1, i2.mono hs⟩
  · rw [H.get_push] at hA hB
    unfold Inj.set at iA iB
    split at hA <;> split at hB
    · omega
    · rename_i e1 e2
      rw [if_pos e1.symm] at iA; rw [if_neg (fun e => e2 e.symm)] at iB
      cases iA
      exact absurd he.symm (hfree B oB bB hB dB iB)
    · rename_i e1 e2
      rw [if_pos e2.symm] at iB; rw [if_neg (fun e => e1 e.symm)] at iA
      cases iB
      exact absurd he (hfree A oA bA hA dA iA)
    · rename_i e1 e2
      rw [if_neg (fun e => e2 e.symm)] at iB; rw [if_neg (fun e => e1 e.symm)] at iA
      exact h.inj A B oA oB bA bB hA hB dA dB iA iB hr he

theorem heap_alloc_old (w : World) (o : Go.Obj) {b : Nat} (h : b < w.heap.size) : (w.alloc o).heap[b]? = w.heap[b]? := by
  show (w.heap.push o)[b]? = _
  rw [Array.getElem?_push, if_neg (by omega)]
theorem heap_alloc_new (w : World) (o : Go.Obj) : (w.alloc o).heap[w.heap.size]? = some o := by
  show (w.heap.push o)[w.heap.size]? = _
  simp
/-- The world has a block more that no object has. -/
theorem R.garbage {ι : Inj} {σ : H} {w : World} (h : R ι σ w) (o : Go.Obj) : R ι σ (w.alloc o) :=
  ⟨h.pos, h.zero, h.dom, h.lt, fun A oA hA ho => let ⟨bk, a, b⟩ := h.obj A oA hA ho; ⟨bk, a, b.of_heap (heap_alloc_old w o (b.lt ho))⟩, h.inj, fun A bk hA => by have := h.blt A bk hA; simp only [World.alloc, Array.size_push]; omega⟩
theorem Ext.alloc (ι : Inj) (w : World) (o : Go.Obj) : Ext ι w ι (w.alloc o) :=
  ⟨Sub.refl _, rfl, rfl, rfl, by simp, fun b hb _ => heap_alloc_old w o hb, fun A bk h1 h2 => by rw [h1] at h2; cases h2⟩
theorem Ext.set {ι : Inj} {w : World} {A : Nat} {bk : Bk} (h0 : ι A = none) (hro : bk.ro = false) (hb : w.heap.size ≤ bk.blk ∨ ∃ B bB, ι B = some bB ∧ bB.ro = false ∧ bB.blk = bk.blk) : Ext ι w (ι.set A bk) w :=
  ⟨Inj.set_sub h0, rfl, rfl, rfl, Nat.le_refl _, fun _ _ _ => rfl, fun B b h1 h2 => by
    unfold Inj.set at h2
    split at h2
    · cases h2; exact ⟨hro, hb⟩
    · rw [h1] at h2; cases h2⟩
/-- A new block that is an object's. -/
theorem R.made {ι : Inj} {σ : H} {w : World} (h : R ι σ w) (o : AM.Obj) (g : Go.Obj) (bk : Bk) (hb : bk.blk = w.heap.size) (hro : bk.ro = false) (ho : ObjR (ι.set σ.next bk) (w.alloc g) bk o) :
    Ext ι w (ι.set σ.next bk) (w.alloc g) ∧ R (ι.set σ.next bk) (σ.push o) (w.alloc g) := by
  have hs : Sub ι (ι.set σ.next bk) := Inj.set_sub h.fresh
  refine ⟨⟨hs, rfl, rfl, rfl, by simp, fun b hb _ => heap_alloc_old w g hb, fun B b h1 h2 => ?_⟩, (h.garbage g).bind o bk hro (by rw [hb]; simp) ho ?_⟩
  · unfold Inj.set at h2
    split at h2
    · cases h2; exact ⟨hro, .inl (by omega)⟩
    · rw [h1] at h2; cases h2
  · intro A oA bA hA dA iA
    obtain ⟨b, i1, i2⟩ := h.obj A oA hA dA
    rw [iA] at i1; cases i1
    have := i2.lt dA
    omega
/-- A new row. -/
theorem R.row {ι : Inj} {σ : H} {w : World} (h : R ι σ w) {c c' : List Value} (more : List Value) (e s : Nat) (m : AM.Mode) (hm : m ≠ .ro) (x : Nat) (hx : m ≠ .grown → x = 0) (hsz : x * s ≤ more.length)
    (hc : VRs ι c c') : ∃ ι', Ext ι w ι' (w.alloc (.cells ⟨c' ++ more⟩ e)) ∧ R ι' (σ.push (.cells c e s m)) (w.alloc (.cells ⟨c' ++ more⟩ e)) ∧ ι' σ.next = some ⟨w.heap.size, 0, c.length, s, x, false⟩ := by
  obtain ⟨h1, h2⟩ := h.made (.cells c e s m) (.cells ⟨c' ++ more⟩ e) ⟨w.heap.size, 0, c.length, s, x, false⟩ rfl rfl
    ⟨⟨c' ++ more⟩, (0, 0), e, heap_alloc_new _ _, rfl, rfl, by simp [hm], fun _ => rfl, hx, by
      show 0 + c.length + x * s ≤ (c' ++ more).length
      rw [List.length_append, hc.length]; omega, fun i v hv => by
      obtain ⟨v', h1, h2⟩ := hc.get i v hv
      refine ⟨v', ?_, h2.mono (Inj.set_sub h.fresh)⟩
      rw [List.getElem?_toArray, Nat.zero_add, List.getElem?_append_left (by have := (List.getElem?_eq_some_iff.1 h1).1; omega)]
      exact h1, fun _ => rfl⟩
  exact ⟨_, h1, h2, Inj.set_same _ _ _⟩

/-- What is read. -/
theorem R.read {ι : Inj} {σ : H} {w : World} (h : R ι σ w) {a : Addr} {n : Nat} {c : List Value} {bk : Bk} (hr : rdCells σ a n = some c) (hb : ι a.block = some bk) :
    a.spot = none ∧ c.length = n ∧ ∃ c', VRs ι c c' ∧ (∀ j v, c'[j]? = some v → w.cell? ⟨bk.blk, bk.base + a.off + j, none⟩ = some v) := by
  unfold rdCells at hr
  split at hr
  · cases hr
  · rename_i hsp
    split at hr
    · rename_i cs e s m hg
      obtain ⟨h1, h2⟩ := lcut_some hr
      obtain ⟨bk', i1, blk, fz, te, hc⟩ := h.obj _ _ hg (by simp)
      rw [hb] at i1; cases i1
      have hlen : c.length = n := by rw [h2]; simp; omega
      have hsz := hc.size
      refine ⟨hsp, hlen, ((blk.toList.drop (bk.base + a.off)).take n), VRs.of_get _ _ (by simp; omega) fun i v hv => ?_, fun j v hv => ?_⟩
      · have hi : i < n := by have := (List.getElem?_eq_some_iff.1 hv).1; omega
        rw [h2, List.getElem?_take_of_lt hi, List.getElem?_drop] at hv
        obtain ⟨v', a1, a2⟩ := hc.cells _ v hv
        refine ⟨v', ?_, a2⟩
        rw [List.getElem?_take_of_lt hi, List.getElem?_drop, Array.getElem?_toList, ← a1]
        congr 1; omega
      · have hj : j < n := by
          have := (List.getElem?_eq_some_iff.1 hv).1
          simp at this; omega
        rw [List.getElem?_take_of_lt hj, List.getElem?_drop, Array.getElem?_toList] at hv
        simp only [World.cell?, hc.heap, Option.isSome_none, Bool.false_eq_true, if_false]
        exact hv
    · cases hr

theorem heap_setCells (b : Nat) : ∀ (vs : List Value) (o : Nat) (w : World) (blk : Array Value) (e : Nat) (fz : Nat × Nat), w.heap[b]? = some (.cells blk e fz) → o + vs.length ≤ blk.size →
    ∃ blk', (w.setCells b o vs).heap[b]? = some (.cells blk' e fz) ∧ blk'.size = blk.size ∧ (∀ i, i < o ∨ o + vs.length ≤ i → blk'[i]? = blk[i]?) ∧ (∀ j, j < vs.length → blk'[o + j]? = vs[j]?)
  | [], o, w, blk, e, fz, h, _ => ⟨blk, h, rfl, fun _ _ => rfl, fun j hj => by simp at hj⟩
  | v :: r, o, w, blk, e, fz, h, hl => by
    have h1 : (w.setCell ⟨b, o, none⟩ v).heap[b]? = some (.cells (blk.setIfInBounds o v) e fz) := by
      simp only [World.setCell, Array.getElem?_modify, if_true, h, Option.map_some]
      simp
    obtain ⟨blk', a1, a2, a3, a4⟩ := heap_setCells b r (o + 1) _ _ e fz h1 (by simp at hl ⊢; omega)
    refine ⟨blk', a1, by simpa using a2, fun i hi => ?_, fun j hj => ?_⟩
    · rw [a3 i (by simp at hi; omega), Array.getElem?_setIfInBounds_ne (by simp at hi; omega)]
    · cases j with
      | zero =>
        rw [a3 (o + 0) (by omega), Nat.add_zero, Array.getElem?_setIfInBounds_self_of_lt (by simp at hl; omega)]
        rfl
      | succ j =>
        rw [show o + (j + 1) = o + 1 + j by omega, a4 j (by simpa using hj)]
        simp
theorem setCells_os (b : Nat) : ∀ (vs : List Value) (o : Nat) (w : World), (w.setCells b o vs).os = w.os ∧ (w.setCells b o vs).tape = w.tape ∧ (w.setCells b o vs).output = w.output ∧ (w.setCells b o vs).heap.size = w.heap.size
  | [], _, _ => ⟨rfl, rfl, rfl, rfl⟩
  | v :: r, o, w => by
    obtain ⟨a, b1, c, d⟩ := setCells_os b r (o + 1) (w.setCell ⟨b, o, none⟩ v)
    exact ⟨a, b1, c, d.trans (by simp)⟩

theorem cellsR.put {ι : Inj} {blk blk' : Array Value} {base off : Nat} {c vs vs' : List Value} (h : cellsR ι blk base c) (hv : VRs ι vs vs') (hl : off + vs.length ≤ c.length)
    (hout : ∀ i, i < base + off ∨ base + off + vs.length ≤ i → blk'[i]? = blk[i]?) (hin : ∀ j, j < vs.length → blk'[base + off + j]? = vs'[j]?) : cellsR ι blk' base (c.take off ++ (vs ++ c.drop (off + vs.length))) := by
  intro i v hi
  have hto : (c.take off).length = off := by simp; omega
  by_cases h1 : i < off
  · rw [List.getElem?_append_left (by omega), List.getElem?_take_of_lt h1] at hi
    obtain ⟨v', a, b⟩ := h i v hi
    exact ⟨v', (hout _ (by omega)).trans a, b⟩
  · rw [List.getElem?_append_right (by omega), hto] at hi
    by_cases h2 : i - off < vs.length
    · rw [List.getElem?_append_left h2] at hi
      obtain ⟨v', a, b⟩ := hv.get _ v hi
      refine ⟨v', ?_, b⟩
      rw [show base + i = base + off + (i - off) by omega, hin _ h2]
      exact a
    · rw [List.getElem?_append_right (by omega), List.getElem?_drop, show off + vs.length + (i - off - vs.length) = i by omega] at hi
      obtain ⟨v', a, b⟩ := h i v hi
      exact ⟨v', (hout _ (by omega)).trans a, b⟩

/-- An object is another one, over a world of which only its block has turned. -/
theorem R.put {ι : Inj} {σ : H} {w w' : World} (h : R ι σ w) {A : Nat} {o o' : AM.Obj} {bk : Bk} (hg : σ.get A = some o) (hd : o ≠ .dead) (hd' : o' ≠ .dead) (hb : ι A = some bk) (hro : bk.ro = false) (ho : ObjR ι w' bk o')
    (hos : w'.os = w.os) (ht : w'.tape = w.tape) (hp : w'.output = w.output) (hz : w'.heap.size = w.heap.size) (hk : ∀ b, b < w.heap.size → b ≠ bk.blk → w'.heap[b]? = w.heap[b]?) : R ι (σ.put A o') w' ∧ Ext ι w ι w' := by
  refine ⟨⟨h.pos, h.zero, h.dom, fun B oB hB => ?_, fun B oB hB dB => ?_, fun B C oB oC bB bC hB hC dB dC iB iC hr he => ?_, fun B b hB => by rw [hz]; exact h.blt B b hB⟩, ⟨Sub.refl _, hos, ht, hp, by omega, fun b hb2 hn => hk b hb2 (fun e => hn A bk hb hro e.symm), fun B b h1 h2 => by rw [h1] at h2; cases h2⟩⟩
  · rw [H.get_put] at hB
    split at hB
    · rename_i e; subst e; exact h.lt _ _ hg
    · exact h.lt _ _ hB
  · rw [H.get_put] at hB
    split at hB
    · rename_i e; subst e; cases hB; exact ⟨bk, hb, ho⟩
    · rename_i e
      obtain ⟨b, i1, i2⟩ := h.obj B oB hB dB
      refine ⟨b, i1, i2.of_heap (hk _ (i2.lt dB) fun e2 => e ?_)⟩
      exact h.inj A B o oB bk b hg hB hd dB hb i1 hro e2.symm
  · have fix : ∀ {X oX}, (σ.put A o').get X = some oX → oX ≠ .dead → ∃ o2, σ.get X = some o2 ∧ o2 ≠ .dead := by
      intro X oX hX dX
      rw [H.get_put] at hX
      split at hX
      · rename_i e; subst e; exact ⟨o, hg, hd⟩
      · exact ⟨oX, hX, dX⟩
    obtain ⟨_, gB, eB⟩ := fix hB dB
    obtain ⟨_, gC, eC⟩ := fix hC dC
    exact h.inj B C _ _ bB bC gB gC eB eC iB iC hr he

/-- What is written. -/
theorem R.write {ι : Inj} {σ σ' : H} {w : World} (h : R ι σ w) {a : Addr} {vs vs' : List Value} {bk : Bk} (hw : wrCells σ a vs = some σ') (hv : VRs ι vs vs') (hb : ι a.block = some bk) :
    a.spot = none ∧ (∀ j, j < vs'.length → (w.cell? ⟨bk.blk, bk.base + a.off + j, none⟩).isSome = true ∧ w.frozen? ⟨bk.blk, bk.base + a.off + j, none⟩ = false) ∧ (∀ v ∈ vs', v.oneCell' = true) ∧
      R ι σ' (w.setCells bk.blk (bk.base + a.off) vs') ∧ Ext ι w ι (w.setCells bk.blk (bk.base + a.off) vs') := by
  unfold wrCells at hw
  split at hw
  · cases hw
  rename_i hsp
  split at hw
  case h_2 => cases hw
  rename_i cs e s m hg
  have key : ∀ (hm : m ≠ .ro), (match vs.all AM.cellOk with
      | false => none
      | true => match lput cs a.off vs with
        | some c' => some (σ.put a.block (.cells c' e s m))
        | none => none) = some σ' → a.spot = none ∧ (∀ j, j < vs'.length → (w.cell? ⟨bk.blk, bk.base + a.off + j, none⟩).isSome = true ∧ w.frozen? ⟨bk.blk, bk.base + a.off + j, none⟩ = false) ∧ (∀ v ∈ vs', v.oneCell' = true) ∧
      R ι σ' (w.setCells bk.blk (bk.base + a.off) vs') ∧ Ext ι w ι (w.setCells bk.blk (bk.base + a.off) vs') := by
    intro hm hw
    split at hw
    · cases hw
    rename_i hall
    split at hw
    case h_2 => cases hw
    rename_i c' hc'
    cases hw
    obtain ⟨h1, h2⟩ := lput_some hc'
    obtain ⟨bk', i1, blk, fz, te, hc⟩ := h.obj _ _ hg (by simp)
    rw [hb] at i1; cases i1
    have hfz := hc.fz hm
    have hlen := hv.length
    have hsz := hc.size
    obtain ⟨blk', a1, a2, a3, a4⟩ := heap_setCells bk.blk vs' (bk.base + a.off) w blk te fz hc.heap (by omega)
    obtain ⟨o1, o2, o3, o4⟩ := setCells_os bk.blk vs' (bk.base + a.off) w
    have hro : bk.ro = false := by rw [hc.ro]; simp [hm]
    refine ⟨hsp, fun j hj => ⟨?_, ?_⟩, fun v hv2 => ?_, ?_⟩
    · simp only [World.cell?, hc.heap, Option.isSome_none, Bool.false_eq_true, if_false]
      rw [Array.getElem?_eq_getElem (by omega)]; rfl
    · simp only [World.frozen?, hc.heap, hfz]; simp
    · rw [cellOk_one]
      have := hv.allOk
      rw [hall] at this
      exact List.all_eq_true.1 this v hv2
    · refine h.put hg (by simp) (by simp) hb hro ⟨blk', fz, te, a1, ?_, hc.esz, hc.ro, hc.fz, hc.extra, ?_, ?_, hc.base0⟩ o1 o2 o3 o4 (fun b hb2 hne => World.heap_setCells_other w _ _ _ hb2 hne)
      · rw [hc.len, h2]; simp; omega
      · rw [a2, h2]; simp; omega
      · rw [h2]
        exact hc.cells.put hv h1 (fun i hi => a3 i (by omega)) (fun j hj => a4 j (by omega))
  cases m with
  | ro => cases hw
  | exact => exact key (by simp) hw
  | grown => exact key (by simp) hw
end AM
end Go.Proofs.YtdbbkaeoinalpaaGreat
