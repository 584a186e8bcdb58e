/- The walk: what each operation answers. -/
import Derived.Test.YtdbbkaeoinalpaaGreatWp3
set_option linter.unusedVariables false
namespace Go.Proofs.YtdbbkaeoinalpaaGreat
namespace AM

/-! ### Slots -/
theorem Env.get_consW (k : Nat) (v : Value) (e : Env) (i : Nat) : Env.get ((k, v) :: e) i = if k = i then some v else Env.get e i := by
  simp only [Env.get, nbeq]
  by_cases h : k = i <;> simp [h]
@[simp] theorem get_hit (i : Nat) (v : Value) (e : Env) : Env.get ((i, v) :: e) i = some v := by simp [Env.get_consW]
@[simp] theorem get_miss {k i : Nat} (h : k ≠ i) (v : Value) (e : Env) : Env.get ((k, v) :: e) i = Env.get e i := by simp [Env.get_consW, h]
@[simp] theorem get_nil (i : Nat) : Env.get [] i = none := by exact (Eq.refl _).trans rfl
@[simp] theorem ev_t (e : Env) (i : Nat) : e.ev (.t i) = e.get i := by exact (Eq.refl _).trans rfl
@[simp] theorem ev_c (e : Env) (v : Value) : e.ev (.c v) = some v := by exact (Eq.refl _).trans rfl
@[simp] theorem evs_nil' (e : Env) : e.evs [] = some [] := by exact (Eq.refl _).trans rfl
@[simp] theorem evs_cons' (e : Env) (o : Opd) (os : List Opd) : e.evs (o :: os) = (e.ev o).bind fun v => (e.evs os).map (v :: ·) := by
  simp only [Env.evs]
  cases e.ev o with
  | none => rfl
  | some v => cases e.evs os <;> rfl
@[simp] theorem put_some (e : Env) (d : Nat) (v : Value) : Env.put e (some d) v = (d, v) :: e := by exact (Eq.refl _).trans rfl
@[simp] theorem put_none (e : Env) (v : Value) : Env.put e none v = e := by exact (Eq.refl _).trans rfl
/-- What is kept of a slot. -/
def kp (k : Nat) (o : Option Value) (e : Env) : Env := match o with
  | some v => (k, v) :: e
  | none => e
@[simp] theorem kp_some (k : Nat) (v : Value) (e : Env) : kp k (some v) e = (k, v) :: e := by exact (Eq.refl _).trans rfl
@[simp] theorem kp_none (k : Nat) (e : Env) : kp k none e = e := by exact (Eq.refl _).trans rfl
@[simp] theorem sub_nil (e : Env) : e.sub [] = kp 1000000 (e.get 1000000) [] := by simp only [Env.sub, kp]; cases e.get 1000000 <;> rfl
@[simp] theorem sub_cons (e : Env) (k : Nat) (ks : List Nat) : e.sub (k :: ks) = kp k (e.get k) (e.sub ks) := by simp only [Env.sub, kp]; cases e.get k <;> rfl
@[simp] theorem params_nil (i : Nat) : params i [] = [] := by exact (Eq.refl _).trans rfl
@[simp] theorem params_cons (i : Nat) (v : Value) (vs : List Value) : params i (v :: vs) = (i, v) :: params (i + 1) vs := by exact (Eq.refl _).trans rfl
attribute [simp] results resultL result

/-! ### The heap -/
@[simp] theorem H.next_put (σ : H) (a : Nat) (o : Obj) : (σ.put a o).next = σ.next := by exact (Eq.refl _).trans rfl
@[simp] theorem H.next_push (σ : H) (o : Obj) : (σ.push o).next = σ.next + 1 := by exact (Eq.refl _).trans rfl
@[simp] theorem H.get_put_same (σ : H) (a : Nat) (o : Obj) : (σ.put a o).get a = some o := by simp [H.get_put]
@[simp] theorem H.get_put_ne (σ : H) {a b : Nat} (h : a ≠ b) (o : Obj) : (σ.put a o).get b = σ.get b := by simp [H.get_put, h]
@[simp] theorem H.get_push_same (σ : H) (o : Obj) : (σ.push o).get σ.next = some o := by simp [H.get_push]
@[simp] theorem H.get_push_lt (σ : H) {b : Nat} (h : b < σ.next) (o : Obj) : (σ.push o).get b = σ.get b := by
  rw [H.get_push, if_neg (by omega)]

/-- A cell of an object. -/
def cellAt (o : Option Obj) (i : Nat) : Option Value := match o with
  | some (.cells c _ _ _) => c[i]?
  | _ => none
@[simp] theorem cellAt_cells (c : List Value) (e s : Nat) (m : Mode) (i : Nat) : cellAt (some (.cells c e s m)) i = c[i]? := by exact (Eq.refl _).trans rfl
def cutAt (o : Option Obj) (i n : Nat) : Option (List Value) := match o with
  | some (.cells c _ _ _) => if i + n ≤ c.length then some ((c.drop i).take n) else none
  | _ => none
@[simp] theorem cutAt_cells (c : List Value) (e s : Nat) (m : Mode) (i n : Nat) : cutAt (some (.cells c e s m)) i n = if i + n ≤ c.length then some ((c.drop i).take n) else none := by exact (Eq.refl _).trans rfl
theorem lcut_eq' : ∀ (l : List Value) (o n : Nat), lcut l o n = if o + n ≤ l.length then some ((l.drop o).take n) else none
  | l, 0, n => by
    have : ∀ (l : List Value) (n : Nat), ltake l n = if n ≤ l.length then some (l.take n) else none := by
      intro l n
      induction n generalizing l with
      | zero => simp [ltake]
      | succ n ih =>
        cases l with
        | nil => simp [ltake]
        | cons v r =>
          simp only [ltake, ih r, List.length_cons, Nat.add_le_add_iff_right, List.take_succ_cons]
          split <;> rename_i h <;> split at h <;> simp_all
    simp [lcut, this]
  | [], o + 1, n => by cases n <;> simp [lcut]
  | v :: r, o + 1, n => by
    simp only [lcut, lcut_eq' r o n, List.length_cons, List.drop_succ_cons]
    by_cases h : o + n ≤ r.length
    · rw [if_pos h, if_pos (by omega)]
    · rw [if_neg h, if_neg (by omega)]
theorem lput_eq' : ∀ (l : List Value) (o : Nat) (vs : List Value), lput l o vs = if o + vs.length ≤ l.length then some (l.take o ++ (vs ++ l.drop (o + vs.length))) else none
  | l, 0, vs => by
    have : ∀ (vs l : List Value), lover l vs = if vs.length ≤ l.length then some (vs ++ l.drop vs.length) else none := by
      intro vs
      induction vs with
      | nil => intro l; cases l <;> simp [lover]
      | cons v vs ih =>
        intro l
        cases l with
        | nil => simp [lover]
        | cons u r =>
          simp only [lover, ih r, List.length_cons, Nat.add_le_add_iff_right, List.cons_append, List.drop_succ_cons]
          split <;> rename_i h <;> split at h <;> simp_all
    simp [lput, this]
  | [], o + 1, vs => by simp [lput]
  | u :: r, o + 1, vs => by
    simp only [lput, lput_eq' r o vs, List.length_cons, List.take_succ_cons]
    by_cases h : o + vs.length ≤ r.length
    · rw [if_pos h, if_pos (by omega)]
      simp [show o + 1 + vs.length = o + vs.length + 1 by omega]
    · rw [if_neg h, if_neg (by omega)]
theorem rdCells_eq (σ : H) (b o n : Nat) : rdCells σ ⟨b, o, none⟩ n = cutAt (σ.get b) o n := by
  simp only [rdCells, cutAt]
  cases σ.get b with
  | none => rfl
  | some ob => cases ob <;> simp [lcut_eq']
/-- The object with a cell, with cells laid in. -/
def setAt (o : Option Obj) (i : Nat) (v : Value) : Option Obj := match o with
  | some (.cells c e s m) => if m ≠ .ro ∧ cellOk v = true ∧ i < c.length then some (.cells (c.set i v) e s m) else none
  | _ => none
@[simp] theorem setAt_cells (c : List Value) (e s : Nat) (m : Mode) (i : Nat) (v : Value) : setAt (some (.cells c e s m)) i v = if m ≠ .ro ∧ cellOk v = true ∧ i < c.length then some (.cells (c.set i v) e s m) else none := by exact (Eq.refl _).trans rfl
def layAt (o : Option Obj) (i : Nat) (vs : List Value) : Option Obj := match o with
  | some (.cells c e s m) => if m ≠ .ro ∧ vs.all cellOk = true ∧ i + vs.length ≤ c.length then some (.cells (c.take i ++ (vs ++ c.drop (i + vs.length))) e s m) else none
  | _ => none
@[simp] theorem layAt_cells (c : List Value) (e s : Nat) (m : Mode) (i : Nat) (vs : List Value) : layAt (some (.cells c e s m)) i vs = if m ≠ .ro ∧ vs.all cellOk = true ∧ i + vs.length ≤ c.length then some (.cells (c.take i ++ (vs ++ c.drop (i + vs.length))) e s m) else none := by exact (Eq.refl _).trans rfl
theorem wrCells_eq (σ : H) (b o : Nat) (vs : List Value) : wrCells σ ⟨b, o, none⟩ vs = (layAt (σ.get b) o vs).map (σ.put b) := by
  simp only [wrCells, layAt]
  cases σ.get b with
  | none => rfl
  | some ob =>
    cases ob with
    | cells c e s m =>
      cases m with
      | ro => simp
      | exact =>
        simp only [lput_eq']
        cases hv : vs.all cellOk <;> by_cases hl : o + vs.length ≤ c.length <;> simp [hl]
      | grown =>
        simp only [lput_eq']
        cases hv : vs.all cellOk <;> by_cases hl : o + vs.length ≤ c.length <;> simp [hl]
    | map es clk => rfl
    | dead => rfl
theorem layAt_one (o : Option Obj) (i : Nat) (v : Value) : layAt o i [v] = setAt o i v := by
  cases o with
  | none => rfl
  | some ob =>
    cases ob with
    | cells c e s m =>
      simp only [layAt, setAt, List.all_cons, List.all_nil, Bool.and_true, List.length_cons, List.length_nil]
      by_cases h : i + 1 ≤ c.length
      · have : c.take i ++ ([v] ++ c.drop (i + 1)) = c.set i v := by
          rw [List.set_eq_take_append_cons_drop, if_pos (by omega)]
          rfl
        rw [this]
        simp only [show (i + 1 ≤ c.length) = (i < c.length) from rfl]
      · simp [h, show ¬ i < c.length by omega]
    | map es clk => rfl
    | dead => rfl

/-! ### Operations -/
section
variable [Aw]
theorem wpp_other {p : Prim} {vs : List Value} {σ : H} {K E : Value → H → Prop} {z : Fz K} {z2 : Fz E} (h : p.kind = .other) : WpP p vs σ K E z z2 = WpV (prim p vs σ) fun x => K x.1 x.2 := by simp only [WpP, h]
@[simp] theorem wpp_call (f : Nat) (fs cs as : List Value) (σ : H) (K E : Value → H → Prop) (z : Fz K) (z2 : Fz E) : WpP .call (.func (.func f) ⟨fs⟩ ⟨cs⟩ :: as) σ K E z z2 = Ru f (fs ++ (as ++ cs)) σ (cnt2 K E) := by
  show (WpV (callee _ as) fun x => Ru x.1 x.2 σ (cnt2 K E)) = _
  simp only [callee, WpV.some]
@[simp] theorem wpp_panic (t : Nat) (v : Value) (σ : H) (K E : Value → H → Prop) (z : Fz K) (z2 : Fz E) : WpP .panic [.iface t v] σ K E z z2 = E (.iface t v) σ := by exact (Eq.refl _).trans rfl
omit [Aw] in
theorem wpu_pure {d : Nat} {p : Prim} {vs : List Value} {σ : H} {K : Value → List Read → Prop} {z : Fz K} (h : quietP p = true) (h2 : readsHeap p = false) : WpU d p vs σ K z = WpV (prim p vs σ) fun x => K x.1 [] := by
  simp only [WpU, h]
  exact congrArg (fun K => WpV (prim p vs σ) K) (funext fun x => by rw [h2])
omit [Aw] in
theorem wpu_read {d : Nat} {p : Prim} {vs : List Value} {σ : H} {K : Value → List Read → Prop} {z : Fz K} (h : quietP p = true) (h2 : readsHeap p = true) : WpU d p vs σ K z = WpV (prim p vs σ) fun x => K x.1 [⟨d, p, vs, x.1⟩] := by
  simp only [WpU, h]
  exact congrArg (fun K => WpV (prim p vs σ) K) (funext fun x => by rw [h2])
@[simp] theorem wpp_move (vs : List Value) (σ : H) (K E : Value → H → Prop) (z : Fz K) (z2 : Fz E) : WpP .move vs σ K E z z2 = WpV (prim .move vs σ) fun x => K x.1 x.2 := wpp_other rfl
omit [Aw] in
@[simp] theorem wpu_move (d : Nat) (vs : List Value) (σ : H) (K : Value → List Read → Prop) (z : Fz K) : WpU d .move vs σ K z = WpV (prim .move vs σ) fun x => K x.1 [] := wpu_pure rfl rfl
@[simp] theorem wpp_pick (vs : List Value) (σ : H) (K E : Value → H → Prop) (z : Fz K) (z2 : Fz E) : WpP .pick vs σ K E z z2 = WpV (prim .pick vs σ) fun x => K x.1 x.2 := wpp_other rfl
omit [Aw] in
@[simp] theorem wpu_pick (d : Nat) (vs : List Value) (σ : H) (K : Value → List Read → Prop) (z : Fz K) : WpU d .pick vs σ K z = WpV (prim .pick vs σ) fun x => K x.1 [] := wpu_pure rfl rfl
@[simp] theorem wpp_new (elem esz : Nat) (zero : List Value) (vs : List Value) (σ : H) (K E : Value → H → Prop) (z : Fz K) (z2 : Fz E) : WpP (.new elem esz zero) vs σ K E z z2 = WpV (prim (.new elem esz zero) vs σ) fun x => K x.1 x.2 := wpp_other rfl
@[simp] theorem wpp_box (elem esz : Nat) (vs : List Value) (σ : H) (K E : Value → H → Prop) (z : Fz K) (z2 : Fz E) : WpP (.box elem esz) vs σ K E z z2 = WpV (prim (.box elem esz) vs σ) fun x => K x.1 x.2 := wpp_other rfl
@[simp] theorem wpp_build (zero : List Value) (pl : List (Nat × Nat)) (vs : List Value) (σ : H) (K E : Value → H → Prop) (z : Fz K) (z2 : Fz E) : WpP (.build zero pl) vs σ K E z z2 = WpV (prim (.build zero pl) vs σ) fun x => K x.1 x.2 := wpp_other rfl
omit [Aw] in
@[simp] theorem wpu_build (zero : List Value) (pl : List (Nat × Nat)) (d : Nat) (vs : List Value) (σ : H) (K : Value → List Read → Prop) (z : Fz K) : WpU d (.build zero pl) vs σ K z = WpV (prim (.build zero pl) vs σ) fun x => K x.1 [] := wpu_pure rfl rfl
@[simp] theorem wpp_buildSlice (elem esz len : Nat) (zero : List Value) (pl : List (Nat × Nat)) (vs : List Value) (σ : H) (K E : Value → H → Prop) (z : Fz K) (z2 : Fz E) : WpP (.buildSlice elem esz len zero pl) vs σ K E z z2 = WpV (prim (.buildSlice elem esz len zero pl) vs σ) fun x => K x.1 x.2 := wpp_other rfl
@[simp] theorem wpp_load (agg : Bool) (n : Nat) (vs : List Value) (σ : H) (K E : Value → H → Prop) (z : Fz K) (z2 : Fz E) : WpP (.load agg n) vs σ K E z z2 = WpV (prim (.load agg n) vs σ) fun x => K x.1 x.2 := wpp_other rfl
omit [Aw] in
@[simp] theorem wpu_load (agg : Bool) (n : Nat) (d : Nat) (vs : List Value) (σ : H) (K : Value → List Read → Prop) (z : Fz K) : WpU d (.load agg n) vs σ K z = WpV (prim (.load agg n) vs σ) fun x => K x.1 [⟨d, (.load agg n), vs, x.1⟩] := wpu_read rfl rfl
@[simp] theorem wpp_store (n : Nat) (vs : List Value) (σ : H) (K E : Value → H → Prop) (z : Fz K) (z2 : Fz E) : WpP (.store n) vs σ K E z z2 = WpV (prim (.store n) vs σ) fun x => K x.1 x.2 := wpp_other rfl
@[simp] theorem wpp_nilCheck (vs : List Value) (σ : H) (K E : Value → H → Prop) (z : Fz K) (z2 : Fz E) : WpP .nilCheck vs σ K E z z2 = WpV (prim .nilCheck vs σ) fun x => K x.1 x.2 := wpp_other rfl
omit [Aw] in
@[simp] theorem wpu_nilCheck (d : Nat) (vs : List Value) (σ : H) (K : Value → List Read → Prop) (z : Fz K) : WpU d .nilCheck vs σ K z = WpV (prim .nilCheck vs σ) fun x => K x.1 [] := wpu_pure rfl rfl
@[simp] theorem wpp_isNil (k : NK) (neg : Bool) (vs : List Value) (σ : H) (K E : Value → H → Prop) (z : Fz K) (z2 : Fz E) : WpP (.isNil k neg) vs σ K E z z2 = WpV (prim (.isNil k neg) vs σ) fun x => K x.1 x.2 := wpp_other rfl
omit [Aw] in
@[simp] theorem wpu_isNil (k : NK) (neg : Bool) (d : Nat) (vs : List Value) (σ : H) (K : Value → List Read → Prop) (z : Fz K) : WpU d (.isNil k neg) vs σ K z = WpV (prim (.isNil k neg) vs σ) fun x => K x.1 [] := wpu_pure rfl rfl
@[simp] theorem wpp_bin (op : BinOp) (vs : List Value) (σ : H) (K E : Value → H → Prop) (z : Fz K) (z2 : Fz E) : WpP (.bin op) vs σ K E z z2 = WpV (prim (.bin op) vs σ) fun x => K x.1 x.2 := wpp_other rfl
omit [Aw] in
@[simp] theorem wpu_bin (op : BinOp) (d : Nat) (vs : List Value) (σ : H) (K : Value → List Read → Prop) (z : Fz K) : WpU d (.bin op) vs σ K z = WpV (prim (.bin op) vs σ) fun x => K x.1 [] := wpu_pure rfl rfl
@[simp] theorem wpp_eqBool (neg : Bool) (vs : List Value) (σ : H) (K E : Value → H → Prop) (z : Fz K) (z2 : Fz E) : WpP (.eqBool neg) vs σ K E z z2 = WpV (prim (.eqBool neg) vs σ) fun x => K x.1 x.2 := wpp_other rfl
omit [Aw] in
@[simp] theorem wpu_eqBool (neg : Bool) (d : Nat) (vs : List Value) (σ : H) (K : Value → List Read → Prop) (z : Fz K) : WpU d (.eqBool neg) vs σ K z = WpV (prim (.eqBool neg) vs σ) fun x => K x.1 [] := wpu_pure rfl rfl
@[simp] theorem wpp_eqStr (neg : Bool) (vs : List Value) (σ : H) (K E : Value → H → Prop) (z : Fz K) (z2 : Fz E) : WpP (.eqStr neg) vs σ K E z z2 = WpV (prim (.eqStr neg) vs σ) fun x => K x.1 x.2 := wpp_other rfl
omit [Aw] in
@[simp] theorem wpu_eqStr (neg : Bool) (d : Nat) (vs : List Value) (σ : H) (K : Value → List Read → Prop) (z : Fz K) : WpU d (.eqStr neg) vs σ K z = WpV (prim (.eqStr neg) vs σ) fun x => K x.1 [] := wpu_pure rfl rfl
@[simp] theorem wpp_eqPtr (neg : Bool) (vs : List Value) (σ : H) (K E : Value → H → Prop) (z : Fz K) (z2 : Fz E) : WpP (.eqPtr neg) vs σ K E z z2 = WpV (prim (.eqPtr neg) vs σ) fun x => K x.1 x.2 := wpp_other rfl
omit [Aw] in
@[simp] theorem wpu_eqPtr (neg : Bool) (d : Nat) (vs : List Value) (σ : H) (K : Value → List Read → Prop) (z : Fz K) : WpU d (.eqPtr neg) vs σ K z = WpV (prim (.eqPtr neg) vs σ) fun x => K x.1 [⟨d, (.eqPtr neg), vs, x.1⟩] := wpu_read rfl rfl
@[simp] theorem wpp_eqAgg (bl : Bool) (n : Nat) (neg : Bool) (vs : List Value) (σ : H) (K E : Value → H → Prop) (z : Fz K) (z2 : Fz E) : WpP (.eqAgg bl n neg) vs σ K E z z2 = WpV (prim (.eqAgg bl n neg) vs σ) fun x => K x.1 x.2 := wpp_other rfl
omit [Aw] in
@[simp] theorem wpu_eqAgg (bl : Bool) (n : Nat) (neg : Bool) (d : Nat) (vs : List Value) (σ : H) (K : Value → List Read → Prop) (z : Fz K) : WpU d (.eqAgg bl n neg) vs σ K z = WpV (prim (.eqAgg bl n neg) vs σ) fun x => K x.1 [] := wpu_pure rfl rfl
@[simp] theorem wpp_un (op : UnOp) (vs : List Value) (σ : H) (K E : Value → H → Prop) (z : Fz K) (z2 : Fz E) : WpP (.un op) vs σ K E z z2 = WpV (prim (.un op) vs σ) fun x => K x.1 x.2 := wpp_other rfl
omit [Aw] in
@[simp] theorem wpu_un (op : UnOp) (d : Nat) (vs : List Value) (σ : H) (K : Value → List Read → Prop) (z : Fz K) : WpU d (.un op) vs σ K z = WpV (prim (.un op) vs σ) fun x => K x.1 [] := wpu_pure rfl rfl
@[simp] theorem wpp_toInt (k : IntKind) (vs : List Value) (σ : H) (K E : Value → H → Prop) (z : Fz K) (z2 : Fz E) : WpP (.toInt k) vs σ K E z z2 = WpV (prim (.toInt k) vs σ) fun x => K x.1 x.2 := wpp_other rfl
omit [Aw] in
@[simp] theorem wpu_toInt (k : IntKind) (d : Nat) (vs : List Value) (σ : H) (K : Value → List Read → Prop) (z : Fz K) : WpU d (.toInt k) vs σ K z = WpV (prim (.toInt k) vs σ) fun x => K x.1 [] := wpu_pure rfl rfl
@[simp] theorem wpp_toFloat (k : FloatKind) (vs : List Value) (σ : H) (K E : Value → H → Prop) (z : Fz K) (z2 : Fz E) : WpP (.toFloat k) vs σ K E z z2 = WpV (prim (.toFloat k) vs σ) fun x => K x.1 x.2 := wpp_other rfl
omit [Aw] in
@[simp] theorem wpu_toFloat (k : FloatKind) (d : Nat) (vs : List Value) (σ : H) (K : Value → List Read → Prop) (z : Fz K) : WpU d (.toFloat k) vs σ K z = WpV (prim (.toFloat k) vs σ) fun x => K x.1 [] := wpu_pure rfl rfl
@[simp] theorem wpp_toStr (vs : List Value) (σ : H) (K E : Value → H → Prop) (z : Fz K) (z2 : Fz E) : WpP .toStr vs σ K E z z2 = WpV (prim .toStr vs σ) fun x => K x.1 x.2 := wpp_other rfl
omit [Aw] in
@[simp] theorem wpu_toStr (d : Nat) (vs : List Value) (σ : H) (K : Value → List Read → Prop) (z : Fz K) : WpU d .toStr vs σ K z = WpV (prim .toStr vs σ) fun x => K x.1 [⟨d, .toStr, vs, x.1⟩] := wpu_read rfl rfl
@[simp] theorem wpp_iface (t : Nat) (vs : List Value) (σ : H) (K E : Value → H → Prop) (z : Fz K) (z2 : Fz E) : WpP (.iface t) vs σ K E z z2 = WpV (prim (.iface t) vs σ) fun x => K x.1 x.2 := wpp_other rfl
omit [Aw] in
@[simp] theorem wpu_iface (t : Nat) (d : Nat) (vs : List Value) (σ : H) (K : Value → List Read → Prop) (z : Fz K) : WpU d (.iface t) vs σ K z = WpV (prim (.iface t) vs σ) fun x => K x.1 [] := wpu_pure rfl rfl
@[simp] theorem wpp_func (f first : Nat) (vs : List Value) (σ : H) (K E : Value → H → Prop) (z : Fz K) (z2 : Fz E) : WpP (.func f first) vs σ K E z z2 = WpV (prim (.func f first) vs σ) fun x => K x.1 x.2 := wpp_other rfl
omit [Aw] in
@[simp] theorem wpu_func (f first : Nat) (d : Nat) (vs : List Value) (σ : H) (K : Value → List Read → Prop) (z : Fz K) : WpU d (.func f first) vs σ K z = WpV (prim (.func f first) vs σ) fun x => K x.1 [] := wpu_pure rfl rfl
@[simp] theorem wpp_newMap (vs : List Value) (σ : H) (K E : Value → H → Prop) (z : Fz K) (z2 : Fz E) : WpP .newMap vs σ K E z z2 = WpV (prim .newMap vs σ) fun x => K x.1 x.2 := wpp_other rfl
@[simp] theorem wpp_newSlice (elem esz bytes : Nat) (zero : List Value) (vs : List Value) (σ : H) (K E : Value → H → Prop) (z : Fz K) (z2 : Fz E) : WpP (.newSlice elem esz bytes zero) vs σ K E z z2 = WpV (prim (.newSlice elem esz bytes zero) vs σ) fun x => K x.1 x.2 := wpp_other rfl
@[simp] theorem wpp_slice (esz : Nat) (lo hi mx : Bool) (vs : List Value) (σ : H) (K E : Value → H → Prop) (z : Fz K) (z2 : Fz E) : WpP (.slice esz lo hi mx) vs σ K E z z2 = WpV (prim (.slice esz lo hi mx) vs σ) fun x => K x.1 x.2 := wpp_other rfl
omit [Aw] in
@[simp] theorem wpu_slice (esz : Nat) (lo hi mx : Bool) (d : Nat) (vs : List Value) (σ : H) (K : Value → List Read → Prop) (z : Fz K) : WpU d (.slice esz lo hi mx) vs σ K z = WpV (prim (.slice esz lo hi mx) vs σ) fun x => K x.1 [] := wpu_pure rfl rfl
@[simp] theorem wpp_fieldAddr (off : Nat) (vs : List Value) (σ : H) (K E : Value → H → Prop) (z : Fz K) (z2 : Fz E) : WpP (.fieldAddr off) vs σ K E z z2 = WpV (prim (.fieldAddr off) vs σ) fun x => K x.1 x.2 := wpp_other rfl
omit [Aw] in
@[simp] theorem wpu_fieldAddr (off : Nat) (d : Nat) (vs : List Value) (σ : H) (K : Value → List Read → Prop) (z : Fz K) : WpU d (.fieldAddr off) vs σ K z = WpV (prim (.fieldAddr off) vs σ) fun x => K x.1 [] := wpu_pure rfl rfl
@[simp] theorem wpp_idxAddr (esz : Nat) (vs : List Value) (σ : H) (K E : Value → H → Prop) (z : Fz K) (z2 : Fz E) : WpP (.idxAddr esz) vs σ K E z z2 = WpV (prim (.idxAddr esz) vs σ) fun x => K x.1 x.2 := wpp_other rfl
omit [Aw] in
@[simp] theorem wpu_idxAddr (esz : Nat) (d : Nat) (vs : List Value) (σ : H) (K : Value → List Read → Prop) (z : Fz K) : WpU d (.idxAddr esz) vs σ K z = WpV (prim (.idxAddr esz) vs σ) fun x => K x.1 [] := wpu_pure rfl rfl
@[simp] theorem wpp_idxAddrA (n esz : Nat) (vs : List Value) (σ : H) (K E : Value → H → Prop) (z : Fz K) (z2 : Fz E) : WpP (.idxAddrA n esz) vs σ K E z z2 = WpV (prim (.idxAddrA n esz) vs σ) fun x => K x.1 x.2 := wpp_other rfl
omit [Aw] in
@[simp] theorem wpu_idxAddrA (n esz : Nat) (d : Nat) (vs : List Value) (σ : H) (K : Value → List Read → Prop) (z : Fz K) : WpU d (.idxAddrA n esz) vs σ K z = WpV (prim (.idxAddrA n esz) vs σ) fun x => K x.1 [] := wpu_pure rfl rfl
@[simp] theorem wpp_field (off : Nat) (agg : Bool) (n : Nat) (vs : List Value) (σ : H) (K E : Value → H → Prop) (z : Fz K) (z2 : Fz E) : WpP (.field off agg n) vs σ K E z z2 = WpV (prim (.field off agg n) vs σ) fun x => K x.1 x.2 := wpp_other rfl
omit [Aw] in
@[simp] theorem wpu_field (off : Nat) (agg : Bool) (n : Nat) (d : Nat) (vs : List Value) (σ : H) (K : Value → List Read → Prop) (z : Fz K) : WpU d (.field off agg n) vs σ K z = WpV (prim (.field off agg n) vs σ) fun x => K x.1 [] := wpu_pure rfl rfl
@[simp] theorem wpp_idx (len esz : Nat) (agg : Bool) (vs : List Value) (σ : H) (K E : Value → H → Prop) (z : Fz K) (z2 : Fz E) : WpP (.idx len esz agg) vs σ K E z z2 = WpV (prim (.idx len esz agg) vs σ) fun x => K x.1 x.2 := wpp_other rfl
omit [Aw] in
@[simp] theorem wpu_idx (len esz : Nat) (agg : Bool) (d : Nat) (vs : List Value) (σ : H) (K : Value → List Read → Prop) (z : Fz K) : WpU d (.idx len esz agg) vs σ K z = WpV (prim (.idx len esz agg) vs σ) fun x => K x.1 [] := wpu_pure rfl rfl
@[simp] theorem wpp_idxStr (vs : List Value) (σ : H) (K E : Value → H → Prop) (z : Fz K) (z2 : Fz E) : WpP .idxStr vs σ K E z z2 = WpV (prim .idxStr vs σ) fun x => K x.1 x.2 := wpp_other rfl
omit [Aw] in
@[simp] theorem wpu_idxStr (d : Nat) (vs : List Value) (σ : H) (K : Value → List Read → Prop) (z : Fz K) : WpU d .idxStr vs σ K z = WpV (prim .idxStr vs σ) fun x => K x.1 [] := wpu_pure rfl rfl
@[simp] theorem wpp_lookup (ks : Option Nat) (zero : Value) (ok : Bool) (vs : List Value) (σ : H) (K E : Value → H → Prop) (z : Fz K) (z2 : Fz E) : WpP (.lookup ks zero ok) vs σ K E z z2 = WpV (prim (.lookup ks zero ok) vs σ) fun x => K x.1 x.2 := wpp_other rfl
omit [Aw] in
@[simp] theorem wpu_lookup (ks : Option Nat) (zero : Value) (ok : Bool) (d : Nat) (vs : List Value) (σ : H) (K : Value → List Read → Prop) (z : Fz K) : WpU d (.lookup ks zero ok) vs σ K z = WpV (prim (.lookup ks zero ok) vs σ) fun x => K x.1 [⟨d, (.lookup ks zero ok), vs, x.1⟩] := wpu_read rfl rfl
@[simp] theorem wpp_mapSet (ks : Option Nat) (vs : List Value) (σ : H) (K E : Value → H → Prop) (z : Fz K) (z2 : Fz E) : WpP (.mapSet ks) vs σ K E z z2 = WpV (prim (.mapSet ks) vs σ) fun x => K x.1 x.2 := wpp_other rfl
@[simp] theorem wpp_assert (t : Nat) (zero : Value) (ok : Bool) (vs : List Value) (σ : H) (K E : Value → H → Prop) (z : Fz K) (z2 : Fz E) : WpP (.assert t zero ok) vs σ K E z z2 = WpV (prim (.assert t zero ok) vs σ) fun x => K x.1 x.2 := wpp_other rfl
omit [Aw] in
@[simp] theorem wpu_assert (t : Nat) (zero : Value) (ok : Bool) (d : Nat) (vs : List Value) (σ : H) (K : Value → List Read → Prop) (z : Fz K) : WpU d (.assert t zero ok) vs σ K z = WpV (prim (.assert t zero ok) vs σ) fun x => K x.1 [] := wpu_pure rfl rfl
@[simp] theorem wpp_extract (i : Nat) (vs : List Value) (σ : H) (K E : Value → H → Prop) (z : Fz K) (z2 : Fz E) : WpP (.extract i) vs σ K E z z2 = WpV (prim (.extract i) vs σ) fun x => K x.1 x.2 := wpp_other rfl
omit [Aw] in
@[simp] theorem wpu_extract (i : Nat) (d : Nat) (vs : List Value) (σ : H) (K : Value → List Read → Prop) (z : Fz K) : WpU d (.extract i) vs σ K z = WpV (prim (.extract i) vs σ) fun x => K x.1 [] := wpu_pure rfl rfl
@[simp] theorem wpp_lenS (vs : List Value) (σ : H) (K E : Value → H → Prop) (z : Fz K) (z2 : Fz E) : WpP .lenS vs σ K E z z2 = WpV (prim .lenS vs σ) fun x => K x.1 x.2 := wpp_other rfl
omit [Aw] in
@[simp] theorem wpu_lenS (d : Nat) (vs : List Value) (σ : H) (K : Value → List Read → Prop) (z : Fz K) : WpU d .lenS vs σ K z = WpV (prim .lenS vs σ) fun x => K x.1 [] := wpu_pure rfl rfl
@[simp] theorem wpp_lenM (vs : List Value) (σ : H) (K E : Value → H → Prop) (z : Fz K) (z2 : Fz E) : WpP .lenM vs σ K E z z2 = WpV (prim .lenM vs σ) fun x => K x.1 x.2 := wpp_other rfl
omit [Aw] in
@[simp] theorem wpu_lenM (d : Nat) (vs : List Value) (σ : H) (K : Value → List Read → Prop) (z : Fz K) : WpU d .lenM vs σ K z = WpV (prim .lenM vs σ) fun x => K x.1 [⟨d, .lenM, vs, x.1⟩] := wpu_read rfl rfl
@[simp] theorem wpp_lenC (n : Nat) (vs : List Value) (σ : H) (K E : Value → H → Prop) (z : Fz K) (z2 : Fz E) : WpP (.lenC n) vs σ K E z z2 = WpV (prim (.lenC n) vs σ) fun x => K x.1 x.2 := wpp_other rfl
omit [Aw] in
@[simp] theorem wpu_lenC (n : Nat) (d : Nat) (vs : List Value) (σ : H) (K : Value → List Read → Prop) (z : Fz K) : WpU d (.lenC n) vs σ K z = WpV (prim (.lenC n) vs σ) fun x => K x.1 [] := wpu_pure rfl rfl
@[simp] theorem wpp_cap (vs : List Value) (σ : H) (K E : Value → H → Prop) (z : Fz K) (z2 : Fz E) : WpP .cap vs σ K E z z2 = WpV (prim .cap vs σ) fun x => K x.1 x.2 := wpp_other rfl
@[simp] theorem wpp_append (elem esz bytes : Nat) (vs : List Value) (σ : H) (K E : Value → H → Prop) (z : Fz K) (z2 : Fz E) : WpP (.append elem esz bytes) vs σ K E z z2 = WpV (prim (.append elem esz bytes) vs σ) fun x => K x.1 x.2 := wpp_other rfl
@[simp] theorem wpp_appendZ (elem esz bytes : Nat) (zero : List Value) (vs : List Value) (σ : H) (K E : Value → H → Prop) (z : Fz K) (z2 : Fz E) : WpP (.appendZ elem esz bytes zero) vs σ K E z z2 = WpV (prim (.appendZ elem esz bytes zero) vs σ) fun x => K x.1 x.2 := wpp_other rfl
@[simp] theorem wpp_copy (esz : Nat) (vs : List Value) (σ : H) (K E : Value → H → Prop) (z : Fz K) (z2 : Fz E) : WpP (.copy esz) vs σ K E z z2 = WpV (prim (.copy esz) vs σ) fun x => K x.1 x.2 := wpp_other rfl
@[simp] theorem wpp_min (vs : List Value) (σ : H) (K E : Value → H → Prop) (z : Fz K) (z2 : Fz E) : WpP .min vs σ K E z z2 = WpV (prim .min vs σ) fun x => K x.1 x.2 := wpp_other rfl
omit [Aw] in
@[simp] theorem wpu_min (d : Nat) (vs : List Value) (σ : H) (K : Value → List Read → Prop) (z : Fz K) : WpU d .min vs σ K z = WpV (prim .min vs σ) fun x => K x.1 [] := wpu_pure rfl rfl
@[simp] theorem wpp_max (vs : List Value) (σ : H) (K E : Value → H → Prop) (z : Fz K) (z2 : Fz E) : WpP .max vs σ K E z z2 = WpV (prim .max vs σ) fun x => K x.1 x.2 := wpp_other rfl
omit [Aw] in
@[simp] theorem wpu_max (d : Nat) (vs : List Value) (σ : H) (K : Value → List Read → Prop) (z : Fz K) : WpU d .max vs σ K z = WpV (prim .max vs σ) fun x => K x.1 [] := wpu_pure rfl rfl
@[simp] theorem wpp_clearM (vs : List Value) (σ : H) (K E : Value → H → Prop) (z : Fz K) (z2 : Fz E) : WpP .clearM vs σ K E z z2 = WpV (prim .clearM vs σ) fun x => K x.1 x.2 := wpp_other rfl
@[simp] theorem wpp_clearS (zero : List Value) (vs : List Value) (σ : H) (K E : Value → H → Prop) (z : Fz K) (z2 : Fz E) : WpP (.clearS zero) vs σ K E z z2 = WpV (prim (.clearS zero) vs σ) fun x => K x.1 x.2 := wpp_other rfl
@[simp] theorem wpp_delete (ks : Option Nat) (vs : List Value) (σ : H) (K E : Value → H → Prop) (z : Fz K) (z2 : Fz E) : WpP (.delete ks) vs σ K E z z2 = WpV (prim (.delete ks) vs σ) fun x => K x.1 x.2 := wpp_other rfl
@[simp] theorem wpp_arrPtr (n : Nat) (vs : List Value) (σ : H) (K E : Value → H → Prop) (z : Fz K) (z2 : Fz E) : WpP (.arrPtr n) vs σ K E z z2 = WpV (prim (.arrPtr n) vs σ) fun x => K x.1 x.2 := wpp_other rfl
omit [Aw] in
@[simp] theorem wpu_arrPtr (n : Nat) (d : Nat) (vs : List Value) (σ : H) (K : Value → List Read → Prop) (z : Fz K) : WpU d (.arrPtr n) vs σ K z = WpV (prim (.arrPtr n) vs σ) fun x => K x.1 [] := wpu_pure rfl rfl
@[simp] theorem wpp_f64bits (vs : List Value) (σ : H) (K E : Value → H → Prop) (z : Fz K) (z2 : Fz E) : WpP .f64bits vs σ K E z z2 = WpV (prim .f64bits vs σ) fun x => K x.1 x.2 := wpp_other rfl
omit [Aw] in
@[simp] theorem wpu_f64bits (d : Nat) (vs : List Value) (σ : H) (K : Value → List Read → Prop) (z : Fz K) : WpU d .f64bits vs σ K z = WpV (prim .f64bits vs σ) fun x => K x.1 [] := wpu_pure rfl rfl
@[simp] theorem wpp_f64from (vs : List Value) (σ : H) (K E : Value → H → Prop) (z : Fz K) (z2 : Fz E) : WpP .f64from vs σ K E z z2 = WpV (prim .f64from vs σ) fun x => K x.1 x.2 := wpp_other rfl
omit [Aw] in
@[simp] theorem wpu_f64from (d : Nat) (vs : List Value) (σ : H) (K : Value → List Read → Prop) (z : Fz K) : WpU d .f64from vs σ K z = WpV (prim .f64from vs σ) fun x => K x.1 [] := wpu_pure rfl rfl
@[simp] theorem wpp_mapsClone (vs : List Value) (σ : H) (K E : Value → H → Prop) (z : Fz K) (z2 : Fz E) : WpP .mapsClone vs σ K E z z2 = WpV (prim .mapsClone vs σ) fun x => K x.1 x.2 := wpp_other rfl
end
section
variable (σ : H) (x y : Value) (vs : List Value)
@[simp] theorem prim_move : prim .move [x] σ = some (x, σ) := by exact (Eq.refl _).trans rfl
@[simp] theorem prim_pick (c : Bool) : prim .pick [.bool c, x, y] σ = some (bif c then x else y, σ) := by cases c <;> rfl
@[simp] theorem prim_new (elem esz : Nat) (z : List Value) : prim (.new elem esz z) [] σ = some (.pointer (some ⟨σ.next, 0, none⟩), σ.push (.cells z elem esz .exact)) := by exact (Eq.refl _).trans rfl
@[simp] theorem prim_box (elem esz : Nat) : prim (.box elem esz) [x] σ = if (cellsOf x).length = esz ∧ (cellsOf x).all cellOk = true then some (.pointer (some ⟨σ.next, 0, none⟩), σ.push (.cells (cellsOf x) elem esz .exact)) else none := by
  simp only [prim, pBox, nbeq]
  by_cases h1 : (cellsOf x).length = esz <;> cases h2 : (cellsOf x).all cellOk <;> simp [h1]
@[simp] theorem prim_build (z : List Value) (pl : List (Nat × Nat)) : prim (.build z pl) vs σ = (fillL z pl vs).map fun c => (.agg ⟨c⟩, σ) := by
  simp only [prim, pBuild]
  cases fillL z pl vs <;> rfl
@[simp] theorem prim_buildSlice (elem esz len : Nat) (z : List Value) (pl : List (Nat × Nat)) : prim (.buildSlice elem esz len z pl) vs σ = (fillL z pl vs).bind fun c => if c.all cellOk = true then some (.slice (some ⟨σ.next, 0, none⟩) len len, σ.push (.cells c elem esz .exact)) else none := by
  simp only [prim, pBuildSlice]
  cases fillL z pl vs with
  | none => rfl
  | some c => cases h : c.all cellOk <;> simp [-List.all_eq_true, h]
@[simp] theorem prim_load1 (b o n : Nat) : prim (.load false n) [.pointer (some ⟨b, o, none⟩)] σ = (cellAt (σ.get b) o).map fun v => (v, σ) := by
  simp only [prim, pLoad, rdCells_eq, cutAt, cellAt]
  cases σ.get b with
  | none => rfl
  | some ob =>
    cases ob with
    | cells c e s m =>
      simp only
      by_cases h : o + 1 ≤ c.length
      · have hlt : o < c.length := by omega
        have : (c.drop o).take 1 = [c[o]] := by rw [List.drop_eq_getElem_cons hlt]; rfl
        simp [h, this, hlt]
      · simp [h, List.getElem?_eq_none (show c.length ≤ o by omega)]
    | map es clk => rfl
    | dead => rfl
@[simp] theorem prim_loadN (b o n : Nat) : prim (.load true n) [.pointer (some ⟨b, o, none⟩)] σ = (cutAt (σ.get b) o n).map fun c => (.agg ⟨c⟩, σ) := by
  simp only [prim, pLoad, rdCells_eq]
  cases cutAt (σ.get b) o n <;> rfl
theorem prim_store (b o n : Nat) : prim (.store n) [.pointer (some ⟨b, o, none⟩), x] σ = if (cellsOf x).length = n then (layAt (σ.get b) o (cellsOf x)).map fun ob => (.tuple #[], σ.put b ob) else none := by
  simp only [prim, pStore, nbeq, wrCells_eq]
  by_cases h : (cellsOf x).length = n
  · rw [decide_eq_true h, if_pos h]
    cases layAt (σ.get b) o (cellsOf x) <;> rfl
  · rw [decide_eq_false h, if_neg h]
theorem cellsOf_one (h : cellOk x = true) : cellsOf x = [x] := by cases x <;> simp_all [cellOk, cellsOf]
/-- A store of one cell. -/
theorem prim_store1 (b o : Nat) (h : cellOk x = true) : prim (.store 1) [.pointer (some ⟨b, o, none⟩), x] σ = (setAt (σ.get b) o x).map fun ob => (.tuple #[], σ.put b ob) := by
  rw [prim_store, cellsOf_one x h]
  simp [layAt_one]
@[simp] theorem prim_store_int (b o : Nat) (k : IntKind) (n : Int) : prim (.store 1) [.pointer (some ⟨b, o, none⟩), .int k n] σ = (setAt (σ.get b) o (.int k n)).map fun ob => (.tuple #[], σ.put b ob) := prim_store1 _ _ _ _ rfl
@[simp] theorem prim_store_bool (b o : Nat) (t : Bool) : prim (.store 1) [.pointer (some ⟨b, o, none⟩), .bool t] σ = (setAt (σ.get b) o (.bool t)).map fun ob => (.tuple #[], σ.put b ob) := prim_store1 _ _ _ _ rfl
@[simp] theorem prim_store_ptr (b o : Nat) (a : Option Addr) : prim (.store 1) [.pointer (some ⟨b, o, none⟩), .pointer a] σ = (setAt (σ.get b) o (.pointer a)).map fun ob => (.tuple #[], σ.put b ob) := prim_store1 _ _ _ _ rfl
@[simp] theorem prim_store_slice (b o : Nat) (a : Option Addr) (n c : Nat) : prim (.store 1) [.pointer (some ⟨b, o, none⟩), .slice a n c] σ = (setAt (σ.get b) o (.slice a n c)).map fun ob => (.tuple #[], σ.put b ob) := prim_store1 _ _ _ _ rfl
@[simp] theorem prim_store_map (b o : Nat) (a : Option Nat) : prim (.store 1) [.pointer (some ⟨b, o, none⟩), .map a] σ = (setAt (σ.get b) o (.map a)).map fun ob => (.tuple #[], σ.put b ob) := prim_store1 _ _ _ _ rfl
@[simp] theorem prim_store_float (b o : Nat) (k : FloatKind) (a : Nat) : prim (.store 1) [.pointer (some ⟨b, o, none⟩), .float k a] σ = (setAt (σ.get b) o (.float k a)).map fun ob => (.tuple #[], σ.put b ob) := prim_store1 _ _ _ _ rfl
@[simp] theorem prim_storeN (b o n : Nat) (cs : List Value) : prim (.store n) [.pointer (some ⟨b, o, none⟩), .agg ⟨cs⟩] σ = if cs.length = n then (layAt (σ.get b) o cs).map fun ob => (.tuple #[], σ.put b ob) else none := prim_store _ _ _ _ _
@[simp] theorem prim_nilCheck (a : Addr) : prim .nilCheck [.pointer (some a)] σ = some (.pointer (some a), σ) := by exact (Eq.refl _).trans rfl
@[simp] theorem prim_nilCheckI (t : Nat) : prim .nilCheck [.iface t x] σ = some (.iface t x, σ) := by exact (Eq.refl _).trans rfl
@[simp] theorem prim_isNilP (a : Option Addr) (neg : Bool) : prim (.isNil .ptr neg) [.pointer a] σ = some (.bool (negB neg a.isNone), σ) := by exact (Eq.refl _).trans rfl
@[simp] theorem prim_isNilS (a : Option Addr) (n c : Nat) (neg : Bool) : prim (.isNil .slice neg) [.slice a n c] σ = some (.bool (negB neg a.isNone), σ) := by exact (Eq.refl _).trans rfl
@[simp] theorem prim_isNilM (a : Option Nat) (neg : Bool) : prim (.isNil .map neg) [.map a] σ = some (.bool (negB neg a.isNone), σ) := by exact (Eq.refl _).trans rfl
@[simp] theorem prim_isNilF (neg : Bool) : prim (.isNil .func neg) [.nilFunc] σ = some (.bool (negB neg true), σ) := by exact (Eq.refl _).trans rfl
@[simp] theorem prim_isNilF2 (f : Fn) (a b : Array Value) (neg : Bool) : prim (.isNil .func neg) [.func f a b] σ = some (.bool (negB neg false), σ) := by exact (Eq.refl _).trans rfl
@[simp] theorem prim_isNilI (neg : Bool) : prim (.isNil .iface neg) [.nilIface] σ = some (.bool (negB neg true), σ) := by exact (Eq.refl _).trans rfl
@[simp] theorem prim_isNilI2 (t : Nat) (neg : Bool) : prim (.isNil .iface neg) [.iface t x] σ = some (.bool (negB neg false), σ) := by exact (Eq.refl _).trans rfl
@[simp] theorem negB_t (b : Bool) : negB true b = !b := by exact (Eq.refl _).trans rfl
@[simp] theorem negB_f (b : Bool) : negB false b = b := by exact (Eq.refl _).trans rfl
variable (k k' : IntKind) (a b : Int)
theorem sameK_self : sameK k k = true := by cases k <;> rfl
@[simp] theorem prim_add : prim (.bin .add) [.int k a, .int k b] σ = some (.int k (k.wrap (a + b)), σ) := by simp [prim, pBin, binV, sameK_self, binI, wrapI_eq]
@[simp] theorem prim_sub : prim (.bin .sub) [.int k a, .int k b] σ = some (.int k (k.wrap (a - b)), σ) := by simp [prim, pBin, binV, sameK_self, binI, wrapI_eq]; rfl
@[simp] theorem prim_mul : prim (.bin .mul) [.int k a, .int k b] σ = some (.int k (k.wrap (a * b)), σ) := by simp [prim, pBin, binV, sameK_self, binI, wrapI_eq]
@[simp] theorem prim_lss : prim (.bin .lss) [.int k a, .int k b] σ = some (.bool (decide (a < b)), σ) := by simp [prim, pBin, binV, sameK_self, binI, ltI_eq]
@[simp] theorem prim_leq : prim (.bin .leq) [.int k a, .int k b] σ = some (.bool (decide (a ≤ b)), σ) := by
  have : (!decide (b < a)) = decide (a ≤ b) := by by_cases h : b < a <;> simp [h] <;> omega
  simp only [prim, pBin, binV, sameK_self, binI, ltI_eq, this]
@[simp] theorem prim_gtr : prim (.bin .gtr) [.int k a, .int k b] σ = some (.bool (decide (b < a)), σ) := by simp [prim, pBin, binV, sameK_self, binI, ltI_eq]
@[simp] theorem prim_geq : prim (.bin .geq) [.int k a, .int k b] σ = some (.bool (decide (b ≤ a)), σ) := by
  have : (!decide (a < b)) = decide (b ≤ a) := by by_cases h : a < b <;> simp [h] <;> omega
  simp only [prim, pBin, binV, sameK_self, binI, ltI_eq, this]
@[simp] theorem prim_eql : prim (.bin .eql) [.int k a, .int k b] σ = some (.bool (decide (a = b)), σ) := by simp [prim, pBin, binV, sameK_self, binI, eqI_eq]
@[simp] theorem prim_neq : prim (.bin .neq) [.int k a, .int k b] σ = some (.bool (!decide (a = b)), σ) := by simp [prim, pBin, binV, sameK_self, binI, eqI_eq]
@[simp] theorem prim_quo (h : b ≠ 0) : prim (.bin .quo) [.int k a, .int k b] σ = some (.int k (k.wrap (a.tdiv b)), σ) := by simp [prim, pBin, binV, sameK_self, binI, eqI_eq, h, wrapI_eq, divI_eq]
@[simp] theorem prim_rem (h : b ≠ 0) : prim (.bin .rem) [.int k a, .int k b] σ = some (.int k (a.tmod b), σ) := by simp [prim, pBin, binV, sameK_self, binI, eqI_eq, h, remI_eq]
@[simp] theorem prim_shl (h : 0 ≤ b) : prim (.bin .shl) [.int k a, .int k' b] σ = some (.int k (k.wrap (a * 2 ^ (Nat.min b.toNat k.bits))), σ) := by
  have : ¬ b < 0 := by omega
  simp [prim, pBin, binV, shiftI, ltI_eq, this, shlI_eq, shiftN_eq]
@[simp] theorem prim_shr (h : 0 ≤ b) : prim (.bin .shr) [.int k a, .int k' b] σ = some (.int k (a.fdiv (2 ^ (Nat.min b.toNat k.bits))), σ) := by
  have : ¬ b < 0 := by omega
  simp [prim, pBin, binV, shiftI, ltI_eq, this, shrI_eq, shiftN_eq]
@[simp] theorem prim_toInt : prim (.toInt k') [.int k a] σ = some (.int k' (k'.wrap a), σ) := by simp [prim, pToInt, wrapI_eq]
@[simp] theorem prim_not (t : Bool) : prim (.un .not) [.bool t] σ = some (.bool !t, σ) := by exact (Eq.refl _).trans rfl
@[simp] theorem prim_neg : prim (.un .neg) [.int k a] σ = some (.int k (k.wrap (-a)), σ) := by
  have : Int.sub 0 a = -a := by show 0 - a = -a; omega
  simp [prim, pUn, unV, wrapI_eq, this]
@[simp] theorem prim_eqBool (neg s t : Bool) : prim (.eqBool neg) [.bool s, .bool t] σ = some (.bool (negB neg (s == t)), σ) := by exact (Eq.refl _).trans rfl
@[simp] theorem prim_eqStr (neg : Bool) (s t : ByteArray) : prim (.eqStr neg) [.string s, .string t] σ = some (.bool (negB neg (s.data.toList == t.data.toList)), σ) := by exact (Eq.refl _).trans rfl
@[simp] theorem prim_iface (t : Nat) : prim (.iface t) [x] σ = some (.iface t x, σ) := by exact (Eq.refl _).trans rfl
@[simp] theorem prim_func (f n : Nat) : prim (.func f n) vs σ = some (.func (.func f) ⟨vs.take n⟩ ⟨vs.drop n⟩, σ) := by exact (Eq.refl _).trans rfl
@[simp] theorem prim_newMap : prim .newMap [] σ = some (.map (some σ.next), σ.push (.map [] 0)) := by exact (Eq.refl _).trans rfl
@[simp] theorem prim_fieldAddr (off bl o : Nat) : prim (.fieldAddr off) [.pointer (some ⟨bl, o, none⟩)] σ = some (.pointer (some ⟨bl, o + off, none⟩), σ) := by exact (Eq.refl _).trans rfl
theorem prim_idxAddr (esz : Nat) (bl o n c : Nat) (i : Int) (h0 : 0 ≤ i) (h1 : i < n) : prim (.idxAddr esz) [.slice (some ⟨bl, o, none⟩) n c, .int k i] σ = some (.pointer (some ⟨bl, o + i.toNat * esz, none⟩), σ) := by
  have : ¬ i < 0 := by omega
  simp [prim, pIdxAddr, ltI_eq, this, h1]
@[simp] theorem prim_idxAddrN (esz : Nat) (bl o n c i : Nat) (h1 : i < n) : prim (.idxAddr esz) [.slice (some ⟨bl, o, none⟩) n c, .int k (i : Int)] σ = some (.pointer (some ⟨bl, o + i * esz, none⟩), σ) := by
  rw [prim_idxAddr _ _ _ _ _ _ _ _ (by omega) (by omega)]; simp
theorem prim_idxAddrA (n esz : Nat) (bl o : Nat) (i : Int) (h0 : 0 ≤ i) (h1 : i < n) : prim (.idxAddrA n esz) [.pointer (some ⟨bl, o, none⟩), .int k i] σ = some (.pointer (some ⟨bl, o + i.toNat * esz, none⟩), σ) := by
  have : ¬ i < 0 := by omega
  simp [prim, pIdxAddrA, ltI_eq, this, h1]
@[simp] theorem prim_idxAddrAN (n esz : Nat) (bl o i : Nat) (h1 : i < n) : prim (.idxAddrA n esz) [.pointer (some ⟨bl, o, none⟩), .int k (i : Int)] σ = some (.pointer (some ⟨bl, o + i * esz, none⟩), σ) := by
  rw [prim_idxAddrA _ _ _ _ _ _ _ (by omega) (by omega)]; simp
@[simp] theorem prim_idxAddrA0 (n esz : Nat) (bl o i : Nat) (h1 : i < n) : prim (.idxAddrA n esz) [.pointer (some ⟨bl, o, none⟩), .int k (OfNat.ofNat i)] σ = some (.pointer (some ⟨bl, o + i * esz, none⟩), σ) := prim_idxAddrAN _ _ _ _ _ _ _ h1
@[simp] theorem prim_field1 (off n : Nat) (c : List Value) : prim (.field off false n) [.agg ⟨c⟩] σ = (c[off]?).map fun v => (v, σ) := by
  have : ∀ (l : List Value) (i : Nat), lget l i = l[i]? := by
    intro l
    induction l with
    | nil => intro i; simp [lget]
    | cons v r ih => intro i; cases i <;> simp [lget, ih]
  simp only [prim, pField, this]
  cases c[off]? <;> rfl
@[simp] theorem prim_fieldN (off n : Nat) (c : List Value) : prim (.field off true n) [.agg ⟨c⟩] σ = if off + n ≤ c.length then some (.agg ⟨(c.drop off).take n⟩, σ) else none := by
  simp only [prim, pField, lcut_eq']
  split <;> rename_i h <;> split at h <;> simp_all
@[simp] theorem prim_extract (i : Nat) : prim (.extract i) [.tuple ⟨vs⟩] σ = (vs[i]?).map fun v => (v, σ) := by
  have : ∀ (l : List Value) (i : Nat), lget l i = l[i]? := by
    intro l
    induction l with
    | nil => intro i; simp [lget]
    | cons v r ih => intro i; cases i <;> simp [lget, ih]
  simp only [prim, pExtract, this]
  cases vs[i]? <;> rfl
@[simp] theorem prim_assert_ok (t : Nat) (z : Value) : prim (.assert t z true) [.iface t x] σ = some (.tuple #[x, .bool true], σ) := by simp [prim, pAssert]
@[simp] theorem prim_assert_no (t u : Nat) (h : u ≠ t) (z : Value) : prim (.assert t z true) [.iface u x] σ = some (.tuple #[z, .bool false], σ) := by
  have : Nat.beq u t = false := by rw [nbeq, decide_eq_false h]
  simp [prim, pAssert, this]
@[simp] theorem prim_assert1 (t : Nat) (z : Value) : prim (.assert t z false) [.iface t x] σ = some (x, σ) := by simp [prim, pAssert]
@[simp] theorem prim_lenS (p : Option Addr) (n c : Nat) : prim .lenS [.slice p n c] σ = some (.int .i64 n, σ) := by exact (Eq.refl _).trans rfl
@[simp] theorem prim_lenC (n : Nat) : prim (.lenC n) [x] σ = some (.int .i64 n, σ) := by exact (Eq.refl _).trans rfl
@[simp] theorem prim_min : prim .min [.int k a, .int k' b] σ = some (.int k (min a b), σ) := by
  simp only [prim, pMin, ltI_eq]
  by_cases h : b < a
  · rw [decide_eq_true h]; simp only []; rw [Int.min_eq_right (by omega)]
  · rw [decide_eq_false h]; simp only []; rw [Int.min_eq_left (by omega)]
@[simp] theorem prim_max : prim .max [.int k a, .int k' b] σ = some (.int k (max a b), σ) := by
  simp only [prim, pMax, ltI_eq]
  by_cases h : a < b
  · rw [decide_eq_true h]; simp only []; rw [Int.max_eq_right (by omega)]
  · rw [decide_eq_false h]; simp only []; rw [Int.max_eq_left (by omega)]
@[simp] theorem prim_f64bits (n : Nat) : prim .f64bits [.float .f64 n] σ = some (.int .u64 n, σ) := by exact (Eq.refl _).trans rfl
end

/-! ### Numbers -/
theorem wrap64 {x : Int} (h : -9223372036854775808 ≤ x) (h2 : x < 9223372036854775808) : IntKind.i64.wrap x = x := by simp [IntKind.wrap, IntKind.bits, IntKind.signed]; omega
theorem wrapU8 (x : Int) : IntKind.u8.wrap x = x % 256 := by simp [IntKind.wrap, IntKind.bits, IntKind.signed]
theorem wrapU16 (x : Int) : IntKind.u16.wrap x = x % 65536 := by simp [IntKind.wrap, IntKind.bits, IntKind.signed]
theorem wrapU32 (x : Int) : IntKind.u32.wrap x = x % 4294967296 := by simp [IntKind.wrap, IntKind.bits, IntKind.signed]
theorem wrapU64 (x : Int) : IntKind.u64.wrap x = x % 18446744073709551616 := by simp [IntKind.wrap, IntKind.bits, IntKind.signed]
section
variable (σ : H) (k : IntKind) (a b : Nat)
def lim : IntKind → Nat := limit
@[simp 2000] theorem prim_and (ha : a < limit k) (hb : b < limit k) : prim (.bin .and) [.int k a, .int k b] σ = some (.int k ((a &&& b : Nat) : Int), σ) := by
  simp [prim, pBin, binV, sameK_self, binI, bitI, nblt, ha, hb]
@[simp 2000] theorem prim_or (ha : a < limit k) (hb : b < limit k) : prim (.bin .or) [.int k a, .int k b] σ = some (.int k ((a ||| b : Nat) : Int), σ) := by
  simp [prim, pBin, binV, sameK_self, binI, bitI, nblt, ha, hb]
@[simp 2000] theorem prim_xor (ha : a < limit k) (hb : b < limit k) : prim (.bin .xor) [.int k a, .int k b] σ = some (.int k ((a ^^^ b : Nat) : Int), σ) := by
  simp [prim, pBin, binV, sameK_self, binI, bitI, nblt, ha, hb]
theorem prim_compl32 (ha : a < 4294967296) : prim (.un .xor) [.int .u32 a] σ = some (.int .u32 ((a ^^^ 4294967295 : Nat) : Int), σ) := by
  have : a < limit .u32 := ha
  have h2 : (4294967295 : Nat) < limit .u32 := by decide
  have h3 : IntKind.u32.max = Int.ofNat 4294967295 := rfl
  simp only [prim, pUn, unV, IntKind.signed, Bool.false_eq_true, if_false, h3]
  show some (Value.int .u32 (bitI .u32 Nat.xor _ (Int.ofNat a) (Int.ofNat 4294967295)), σ) = _
  simp only [bitI, nblt, this, h2, decide_true, Bool.and_self]
  rfl
end
section
variable (σ : H) (k k' : IntKind) (a b : Nat)
@[simp] theorem signed_u8 : IntKind.u8.signed = false := by decide
@[simp] theorem signed_u16 : IntKind.u16.signed = false := by decide
@[simp] theorem signed_u32 : IntKind.u32.signed = false := by decide
@[simp] theorem signed_u64 : IntKind.u64.signed = false := by decide
@[simp] theorem bits_i64 : IntKind.i64.bits = 64 := by decide
@[simp] theorem bits_u8 : IntKind.u8.bits = 8 := by decide
@[simp] theorem bits_u16 : IntKind.u16.bits = 16 := by decide
@[simp] theorem bits_u32 : IntKind.u32.bits = 32 := by decide
@[simp] theorem bits_u64 : IntKind.u64.bits = 64 := by decide
@[simp] theorem limit_i64 : limit .i64 = 9223372036854775808 := by decide
@[simp] theorem limit_u8 : limit .u8 = 256 := by decide
@[simp] theorem limit_u16 : limit .u16 = 65536 := by decide
@[simp] theorem limit_u32 : limit .u32 = 4294967296 := by decide
@[simp] theorem limit_u64 : limit .u64 = 18446744073709551616 := by decide
theorem wrapU8N : IntKind.u8.wrap (a : Int) = ((a % 256 : Nat) : Int) := by rw [wrapU8]; omega
theorem wrapU16N : IntKind.u16.wrap (a : Int) = ((a % 65536 : Nat) : Int) := by rw [wrapU16]; omega
theorem wrapU32N : IntKind.u32.wrap (a : Int) = ((a % 4294967296 : Nat) : Int) := by rw [wrapU32]; omega
theorem wrapU64N : IntKind.u64.wrap (a : Int) = ((a % 18446744073709551616 : Nat) : Int) := by rw [wrapU64]; omega
/-- The lowest bits. -/
noncomputable def md (k : IntKind) (a : Nat) : Nat := Classical.choose (⟨a % 2 ^ k.bits, rfl⟩ : ∃ n, n = a % 2 ^ k.bits)
theorem md_eq : md k a = a % 2 ^ k.bits := Classical.choose_spec (⟨a % 2 ^ k.bits, rfl⟩ : ∃ n, n = a % 2 ^ k.bits)
theorem md8 : md .u8 a = a % 256 := by rw [md_eq]; rfl
theorem md16 : md .u16 a = a % 65536 := by rw [md_eq]; rfl
theorem md32 : md .u32 a = a % 4294967296 := by rw [md_eq]; rfl
theorem md64 : md .u64 a = a % 18446744073709551616 := by rw [md_eq]; rfl
theorem md_lt : md k a < 2 ^ k.bits := by rw [md_eq]; exact Nat.mod_lt _ (Nat.pow_pos (by decide))
@[simp] theorem md_id (h : a < 2 ^ k.bits) : md k a = a := by rw [md_eq]; exact Nat.mod_eq_of_lt h
@[simp] theorem md_u8 (b : UInt8) : md .u8 b.toNat = b.toNat := by rw [md8]; have := UInt8.toNat_lt b; omega
@[simp] theorem md_lt8 : md .u8 a < 256 := by rw [md8]; omega
@[simp] theorem md_lt16 : md .u16 a < 65536 := by rw [md16]; omega
@[simp] theorem md_lt32 : md .u32 a < 4294967296 := by rw [md32]; omega
@[simp] theorem md_lt64 : md .u64 a < 18446744073709551616 := by rw [md64]; omega
theorem wrap_md (h : k.signed = false) : k.wrap (a : Int) = (md k a : Nat) := by
  cases k <;> simp [IntKind.signed] at h
  · rw [md8]; exact wrapU8N a
  · rw [md16]; exact wrapU16N a
  · rw [md32]; exact wrapU32N a
  · rw [md64]; exact wrapU64N a
@[simp high] theorem prim_toU8 : prim (.toInt .u8) [.int k (a : Int)] σ = some (.int .u8 (md .u8 a : Nat), σ) := by rw [prim_toInt, wrap_md _ _ rfl]
@[simp high] theorem prim_toU16 : prim (.toInt .u16) [.int k (a : Int)] σ = some (.int .u16 (md .u16 a : Nat), σ) := by rw [prim_toInt, wrap_md _ _ rfl]
@[simp high] theorem prim_toU32 : prim (.toInt .u32) [.int k (a : Int)] σ = some (.int .u32 (md .u32 a : Nat), σ) := by rw [prim_toInt, wrap_md _ _ rfl]
@[simp high] theorem prim_toU64 : prim (.toInt .u64) [.int k (a : Int)] σ = some (.int .u64 (md .u64 a : Nat), σ) := by rw [prim_toInt, wrap_md _ _ rfl]
theorem wrap64N (h : a < 9223372036854775808) : IntKind.i64.wrap (a : Int) = a := wrap64 (by omega) (by omega)
/-- Shifts by numbers of the text. -/
@[simp high] theorem prim_shlN (b : Int) (h0 : 0 ≤ b) (h : b.toNat ≤ k.bits) (hk : k.signed = false) : prim (.bin .shl) [.int k (a : Int), .int k' b] σ = some (.int k (md k (a * 2 ^ b.toNat) : Nat), σ) := by
  rw [← wrap_md _ _ hk, prim_shl _ _ _ _ _ h0]
  have : Nat.min b.toNat k.bits = b.toNat := Nat.min_eq_left h
  rw [this]
  simp
@[simp high] theorem prim_shrN (b : Int) (h0 : 0 ≤ b) (h : b.toNat ≤ k.bits) : prim (.bin .shr) [.int k (a : Int), .int k' b] σ = some (.int k ((a / 2 ^ b.toNat : Nat) : Int), σ) := by
  rw [prim_shr _ _ _ _ _ h0]
  have : Nat.min b.toNat k.bits = b.toNat := Nat.min_eq_left h
  rw [this, Int.fdiv_eq_ediv_of_nonneg _ (by exact Int.pow_nonneg (by decide))]
  simp
/-- Shifts by numbers. -/
theorem prim_shlV (h : b ≤ k.bits) (hk : k.signed = false) : prim (.bin .shl) [.int k (a : Int), .int k' (b : Int)] σ = some (.int k (md k (a * 2 ^ b) : Nat), σ) := by
  rw [← wrap_md _ _ hk]
  rw [prim_shl _ _ _ _ _ (by omega)]
  have : Nat.min (b : Int).toNat k.bits = b := by
    show Nat.min b k.bits = b
    exact Nat.min_eq_left h
  rw [this]
  simp
theorem prim_shrV (h : b ≤ k.bits) : prim (.bin .shr) [.int k (a : Int), .int k' (b : Int)] σ = some (.int k ((a / 2 ^ b : Nat) : Int), σ) := by
  rw [prim_shr _ _ _ _ _ (by omega)]
  have : Nat.min (b : Int).toNat k.bits = b := by
    show Nat.min b k.bits = b
    exact Nat.min_eq_left h
  rw [this, Int.fdiv_eq_ediv_of_nonneg _ (by exact Int.pow_nonneg (by decide))]
  simp
@[simp high] theorem prim_andL (b : Int) (ha : a < limit k) (h0 : 0 ≤ b) (hb : b.toNat < limit k) : prim (.bin .and) [.int k (a : Int), .int k b] σ = some (.int k ((a &&& b.toNat : Nat) : Int), σ) := by
  obtain ⟨n, rfl⟩ := Int.eq_ofNat_of_zero_le h0
  exact prim_and σ k a n ha hb
@[simp high] theorem prim_orL (b : Int) (ha : a < limit k) (h0 : 0 ≤ b) (hb : b.toNat < limit k) : prim (.bin .or) [.int k (a : Int), .int k b] σ = some (.int k ((a ||| b.toNat : Nat) : Int), σ) := by
  obtain ⟨n, rfl⟩ := Int.eq_ofNat_of_zero_le h0
  exact prim_or σ k a n ha hb
@[simp high] theorem prim_xorL (b : Int) (ha : a < limit k) (h0 : 0 ≤ b) (hb : b.toNat < limit k) : prim (.bin .xor) [.int k (a : Int), .int k b] σ = some (.int k ((a ^^^ b.toNat : Nat) : Int), σ) := by
  obtain ⟨n, rfl⟩ := Int.eq_ofNat_of_zero_le h0
  exact prim_xor σ k a n ha hb
end
theorem u8_lt (b : UInt8) : b.toNat < 256 := UInt8.toNat_lt b
@[simp] theorem u8_lt256 (b : UInt8) : b.toNat < 256 := UInt8.toNat_lt b
@[simp] theorem u8_lt32 (b : UInt8) : b.toNat < 4294967296 := Nat.lt_trans (UInt8.toNat_lt b) (by decide)
@[simp] theorem u8_lt64 (b : UInt8) : b.toNat < 18446744073709551616 := Nat.lt_trans (UInt8.toNat_lt b) (by decide)
@[simp] theorem u8_lti (b : UInt8) : b.toNat < 9223372036854775808 := Nat.lt_trans (UInt8.toNat_lt b) (by decide)
@[simp] theorem u8_mod8 (b : UInt8) : b.toNat % 256 = b.toNat := Nat.mod_eq_of_lt (u8_lt b)
@[simp] theorem u8_mod32 (b : UInt8) : b.toNat % 4294967296 = b.toNat := Nat.mod_eq_of_lt (u8_lt32 b)
@[simp] theorem u8_mod64 (b : UInt8) : b.toNat % 18446744073709551616 = b.toNat := Nat.mod_eq_of_lt (u8_lt64 b)
@[simp] theorem u8_wrapi (b : UInt8) : IntKind.i64.wrap (b.toNat : Int) = b.toNat := wrap64N _ (u8_lti b)
@[simp] theorem neqN (a : Nat) (n : Nat) : (((a : Int) = OfNat.ofNat n) ↔ a = n) := by
  constructor
  · intro h; exact Int.ofNat.inj h
  · rintro rfl; rfl
end AM
end Go.Proofs.YtdbbkaeoinalpaaGreat
