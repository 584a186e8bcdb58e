/- A run of the abstract machine that the kernel can follow: what is at hand is always worked out. -/
import Derived.Test.YtdbbkaeoinalpaaGreatWp1
set_option linter.unusedVariables false
namespace Go.Proofs.YtdbbkaeoinalpaaGreat
namespace AM
noncomputable section

/-! ### Working out what there is; every one of these is 'K x' -/
def fN : Nat → (Nat → Bool) → Bool := @Nat.rec (fun _ => (Nat → Bool) → Bool) (fun K => K 0) (fun m _ K => K (Nat.succ m))
theorem fN_eq (n : Nat) (K : Nat → Bool) : fN n K = K n := by cases n <;> rfl
def fI : Int → (Int → Bool) → Bool := @Int.rec (fun _ => (Int → Bool) → Bool) (fun n K => fN n fun n => K (.ofNat n)) (fun n K => fN n fun n => K (.negSucc n))
theorem fI_eq (n : Int) (K : Int → Bool) : fI n K = K n := by cases n <;> exact fN_eq _ _
def fB : Bool → (Bool → Bool) → Bool := @Bool.rec (fun _ => (Bool → Bool) → Bool) (fun K => K false) (fun K => K true)
theorem fB_eq (b : Bool) (K : Bool → Bool) : fB b K = K b := by cases b <;> rfl
def fA : Option Addr → (Option Addr → Bool) → Bool :=
  @Option.rec Addr (fun _ => (Option Addr → Bool) → Bool) (fun K => K none) (fun a K => @Addr.rec (fun _ => Bool) (fun b o s => fN b fun b => fN o fun o => @Option.rec Nat (fun _ => Bool) (K (some ⟨b, o, none⟩)) (fun s => K (some ⟨b, o, some s⟩)) s) a)
theorem fA_eq (a : Option Addr) (K : Option Addr → Bool) : fA a K = K a := by
  rcases a with _ | ⟨b, o, _ | s⟩
  · rfl
  · show fN b _ = _; simp only [fN_eq]
  · show fN b _ = _; simp only [fN_eq]
def fC : Value → (Value → Bool) → Bool :=
  @Value.rec (fun _ => (Value → Bool) → Bool) (fun _ => Unit) (fun _ => Unit)
    (fun b K => fB b fun b => K (.bool b)) (fun k n K => fI n fun n => K (.int k n)) (fun k n K => K (.float k n)) (fun k a b K => K (.complex k a b)) (fun s K => K (.string s))
    (fun a K => fA a fun a => K (.pointer a)) (fun a n c K => fA a fun a => fN n fun n => fN c fun c => K (.slice a n c)) (fun r K => K (.map r)) (fun r K => K (.chan r))
    (fun f a b _ _ K => K (.func f a b)) (fun K => K .nilFunc) (fun t v _ K => K (.iface t v)) (fun K => K .nilIface) (fun c _ K => K (.agg c)) (fun c _ K => K (.tuple c))
    (fun _ _ => ()) () (fun _ _ _ _ => ())
theorem fC_eq (v : Value) (K : Value → Bool) : fC v K = K v := by
  cases v <;> first | rfl | exact fB_eq _ _ | exact fI_eq _ _ | exact fA_eq _ _ | skip
  show fA _ (fun a => fN _ fun n => fN _ fun c => K (.slice a n c)) = _
  simp only [fA_eq, fN_eq]
def fL : List Value → (List Value → Bool) → Bool :=
  @List.rec Value (fun _ => (List Value → Bool) → Bool) (fun K => K []) (fun v _ ih K => fC v fun v => ih fun r => K (v :: r))
theorem fL_eq : ∀ (l : List Value) (K : List Value → Bool), fL l K = K l
  | [], _ => rfl
  | v :: l, K => by
    show fC v (fun v => fL l fun r => K (v :: r)) = _
    rw [fC_eq, fL_eq]
def fAg : Value → (Value → Bool) → Bool :=
  @Value.rec (fun _ => (Value → Bool) → Bool) (fun _ => Unit) (fun _ => Unit)
    (fun b K => fB b fun b => K (.bool b)) (fun k n K => fI n fun n => K (.int k n)) (fun k n K => K (.float k n)) (fun k a b K => K (.complex k a b)) (fun s K => K (.string s))
    (fun a K => fA a fun a => K (.pointer a)) (fun a n c K => fA a fun a => fN n fun n => fN c fun c => K (.slice a n c)) (fun r K => K (.map r)) (fun r K => K (.chan r))
    (fun f a b _ _ K => K (.func f a b)) (fun K => K .nilFunc) (fun t v _ K => K (.iface t v)) (fun K => K .nilIface) (fun c _ K => @Array.rec Value (fun _ => Bool) (fun cs => fL cs fun cs => K (.agg ⟨cs⟩)) c) (fun c _ K => K (.tuple c))
    (fun _ _ => ()) () (fun _ _ _ _ => ())
theorem fAg_eq (v : Value) (K : Value → Bool) : fAg v K = K v := by
  cases v with
  | agg c => obtain ⟨cs⟩ := c; exact fL_eq cs fun cs => K (.agg ⟨cs⟩)
  | bool b => exact fC_eq (.bool b) K
  | int k n => exact fC_eq (.int k n) K
  | float k n => exact fC_eq (.float k n) K
  | complex k a b => exact fC_eq (.complex k a b) K
  | string s => exact fC_eq (.string s) K
  | pointer a => exact fC_eq (.pointer a) K
  | slice a n c => exact fC_eq (.slice a n c) K
  | map r => exact fC_eq (.map r) K
  | chan r => exact fC_eq (.chan r) K
  | func f a b => exact fC_eq (.func f a b) K
  | nilFunc => exact fC_eq (.nilFunc) K
  | iface t v => exact fC_eq (.iface t v) K
  | nilIface => exact fC_eq (.nilIface) K
  | tuple c => exact fC_eq (.tuple c) K
def fLA : List Value → (List Value → Bool) → Bool :=
  @List.rec Value (fun _ => (List Value → Bool) → Bool) (fun K => K []) (fun v _ ih K => fAg v fun v => ih fun r => K (v :: r))
theorem fLA_eq : ∀ (l : List Value) (K : List Value → Bool), fLA l K = K l
  | [], _ => rfl
  | v :: l, K => by
    show fAg v (fun v => fLA l fun r => K (v :: r)) = _
    rw [fAg_eq, fLA_eq]
def fV : Value → (Value → Bool) → Bool :=
  @Value.rec (fun _ => (Value → Bool) → Bool) (fun _ => Unit) (fun _ => Unit)
    (fun b K => fB b fun b => K (.bool b)) (fun k n K => fI n fun n => K (.int k n)) (fun k n K => K (.float k n)) (fun k a b K => K (.complex k a b)) (fun s K => K (.string s))
    (fun a K => fA a fun a => K (.pointer a)) (fun a n c K => fA a fun a => fN n fun n => fN c fun c => K (.slice a n c)) (fun r K => K (.map r)) (fun r K => K (.chan r))
    (fun f a b _ _ K => K (.func f a b)) (fun K => K .nilFunc) (fun t v _ K => K (.iface t v)) (fun K => K .nilIface) (fun c _ K => @Array.rec Value (fun _ => Bool) (fun cs => fL cs fun cs => K (.agg ⟨cs⟩)) c) (fun c _ K => @Array.rec Value (fun _ => Bool) (fun cs => fLA cs fun cs => K (.tuple ⟨cs⟩)) c)
    (fun _ _ => ()) () (fun _ _ _ _ => ())
theorem fV_eq (v : Value) (K : Value → Bool) : fV v K = K v := by
  cases v with
  | agg c => obtain ⟨cs⟩ := c; exact fL_eq cs fun cs => K (.agg ⟨cs⟩)
  | tuple c => obtain ⟨cs⟩ := c; exact fLA_eq cs fun cs => K (.tuple ⟨cs⟩)
  | bool b => exact fC_eq (.bool b) K
  | int k n => exact fC_eq (.int k n) K
  | float k n => exact fC_eq (.float k n) K
  | complex k a b => exact fC_eq (.complex k a b) K
  | string s => exact fC_eq (.string s) K
  | pointer a => exact fC_eq (.pointer a) K
  | slice a n c => exact fC_eq (.slice a n c) K
  | map r => exact fC_eq (.map r) K
  | chan r => exact fC_eq (.chan r) K
  | func f a b => exact fC_eq (.func f a b) K
  | nilFunc => exact fC_eq (.nilFunc) K
  | iface t v => exact fC_eq (.iface t v) K
  | nilIface => exact fC_eq (.nilIface) K
/-- A list's spine. -/
def fS : List Value → (List Value → Bool) → Bool :=
  @List.rec Value (fun _ => (List Value → Bool) → Bool) (fun K => K []) (fun v _ ih K => ih fun r => K (v :: r))
theorem fS_eq : ∀ (l : List Value) (K : List Value → Bool), fS l K = K l
  | [], _ => rfl
  | v :: l, K => by
    show fS l (fun r => K (v :: r)) = _
    rw [fS_eq]
def fE : Env → (Env → Bool) → Bool :=
  @List.rec (Nat × Value) (fun _ => (Env → Bool) → Bool) (fun K => K []) (fun p _ ih K => @Prod.rec Nat Value (fun _ => Bool) (fun k v => fN k fun k => ih fun r => K ((k, v) :: r)) p)
theorem fE_eq : ∀ (l : Env) (K : Env → Bool), fE l K = K l
  | [], _ => rfl
  | (k, v) :: l, K => by
    show fN k (fun k => fE l fun r => K ((k, v) :: r)) = _
    rw [fN_eq, fE_eq]
def fM : List MapEntry → (List MapEntry → Bool) → Bool :=
  @List.rec MapEntry (fun _ => (List MapEntry → Bool) → Bool) (fun K => K []) (fun p _ ih K => @MapEntry.rec (fun _ => Bool) (fun k v b => fN b fun b => ih fun r => K (⟨k, v, b⟩ :: r)) p)
theorem fM_eq : ∀ (l : List MapEntry) (K : List MapEntry → Bool), fM l K = K l
  | [], _ => rfl
  | ⟨k, v, b⟩ :: l, K => by
    show fN b (fun b => fM l fun r => K (⟨k, v, b⟩ :: r)) = _
    rw [fN_eq, fM_eq]
/-- An object; its cells too, if full. -/
def fOb (full : Bool) : Obj → (Option Obj → Bool) → Bool :=
  @Obj.rec (fun _ => (Option Obj → Bool) → Bool) (fun c e s m K => @Bool.rec (fun _ => Bool) (K (some (.cells c e s m))) (fL c fun c => @Mode.rec (fun _ => Bool) (K (some (.cells c e s .exact))) (K (some (.cells c e s .grown))) (K (some (.cells c e s .ro))) m) full)
    (fun es c K => fM es fun es => fN c fun c => K (some (.map es c))) (fun K => K (some .dead))
theorem fOb_eq (full : Bool) (o : Obj) (K : Option Obj → Bool) : fOb full o K = K (some o) := by
  cases o with
  | cells c e s m =>
    cases full with
    | false => rfl
    | true =>
      show fL c (fun c => @Mode.rec (fun _ => Bool) (K (some (.cells c e s .exact))) (K (some (.cells c e s .grown))) (K (some (.cells c e s .ro))) m) = _
      rw [fL_eq]
      cases m <;> rfl
  | map es c =>
    show fM es (fun es => fN c fun c => K (some (.map es c))) = _
    rw [fM_eq, fN_eq]
  | dead => rfl
def fO (full : Bool) : Option Obj → (Option Obj → Bool) → Bool :=
  @Option.rec Obj (fun _ => (Option Obj → Bool) → Bool) (fun K => K none) (fun o K => fOb full o K)
theorem fO_eq (full : Bool) (o : Option Obj) (K : Option Obj → Bool) : fO full o K = K o := by
  cases o with
  | none => rfl
  | some o => exact fOb_eq full o K
/-- A path of the heap. -/
def fT : Tr Obj → Bool → Nat → (Tr Obj → Bool) → Bool :=
  @Tr.rec Obj (fun _ => Bool → Nat → (Tr Obj → Bool) → Bool) (fun _ _ K => K .leaf) (fun l v r il ir full i K =>
    @Nat.rec (fun _ => Bool) (fO full v fun v => K (.node l v r)) (fun j _ =>
      @Bool.rec (fun _ => Bool) (ir full (j / 2) fun r => K (.node l v r)) (il full (j / 2) fun l => K (.node l v r)) (Nat.beq (j % 2) 0)) i)
theorem fT_eq (full : Bool) : ∀ (t : Tr Obj) (i : Nat) (K : Tr Obj → Bool), fT t full i K = K t
  | .leaf, _, _ => rfl
  | .node l v r, 0, K => by
    show fO full v (fun v => K (.node l v r)) = _
    rw [fO_eq]
  | .node l v r, j + 1, K => by
    show @Bool.rec (fun _ => Bool) (fT r full (j / 2) fun r => K (.node l v r)) (fT l full (j / 2) fun l => K (.node l v r)) (Nat.beq (j % 2) 0) = _
    cases Nat.beq (j % 2) 0 with
    | false => exact fT_eq full r _ _
    | true => exact fT_eq full l _ _
/-- The heap behind an operation: the block a may have changed, and what is new stands at b. -/
def fH (a b : Nat) (σ : H) (K : H → Bool) : Bool :=
  @H.rec (fun _ => Bool) (fun n t => fN n fun n => fT t false a fun t => @Bool.rec (fun _ => Bool) (fT t true b fun t => K ⟨n, t⟩) (K ⟨n, t⟩) (Nat.beq n b)) σ
theorem fH_eq (a b : Nat) (σ : H) (K : H → Bool) : fH a b σ K = K σ := by
  obtain ⟨n, t⟩ := σ
  show fN n (fun n => fT t false a fun t => @Bool.rec (fun _ => Bool) (fT t true b fun t => K ⟨n, t⟩) (K ⟨n, t⟩) (Nat.beq n b)) = _
  simp only [fN_eq, fT_eq]
  cases Nat.beq n b <;> rfl
/-- The block that an operation may write. -/
def wblk : List Value → Nat
  | .pointer (some a) :: _ => a.block
  | .slice (some a) _ _ :: _ => a.block
  | .map (some r) :: _ => r
  | _ => 0
def fR : Res → (Res → Bool) → Bool := @Res.rec (fun _ => (Res → Bool) → Bool) (fun v K => fV v fun v => K (.ok v)) (fun v K => fV v fun v => K (.panic v))
theorem fR_eq (r : Res) (K : Res → Bool) : fR r K = K r := by cases r <;> exact fV_eq _ _

/-! ### Slots -/
def gE : Env → Nat → (Value → Bool) → Bool :=
  @List.rec (Nat × Value) (fun _ => Nat → (Value → Bool) → Bool) (fun _ _ => false)
    (fun p _ ih i K => @Prod.rec Nat Value (fun _ => Bool) (fun k v => @Bool.rec (fun _ => Bool) (ih i K) (K v) (Nat.beq k i)) p)
theorem gE_of : ∀ {e : Env} {i : Nat} {K : Value → Bool}, gE e i K = true → ∃ v, e.get i = some v ∧ K v = true
  | [], _, _, h => by cases h
  | (k, v) :: e, i, K, h => by
    replace h : @Bool.rec (fun _ => Bool) (gE e i K) (K v) (Nat.beq k i) = true := h
    cases hb : Nat.beq k i with
    | true =>
      rw [hb] at h
      exact ⟨v, by simp only [Env.get, hb], h⟩
    | false =>
      rw [hb] at h
      obtain ⟨u, h1, h2⟩ := gE_of h
      exact ⟨u, by simp only [Env.get, hb]; exact h1, h2⟩
/-- A slot, or what there is where it has none. -/
def gD : Env → Nat → (Value → Bool) → Bool → Bool :=
  @List.rec (Nat × Value) (fun _ => Nat → (Value → Bool) → Bool → Bool) (fun _ _ d => d)
    (fun p _ ih i K d => @Prod.rec Nat Value (fun _ => Bool) (fun k v => @Bool.rec (fun _ => Bool) (ih i K d) (K v) (Nat.beq k i)) p)
theorem gD_eq : ∀ (e : Env) (i : Nat) (K : Value → Bool) (d : Bool), gD e i K d = (match e.get i with | some v => K v | none => d)
  | [], _, _, _ => rfl
  | (k, v) :: e, i, K, d => by
    show @Bool.rec (fun _ => Bool) (gD e i K d) (K v) (Nat.beq k i) = _
    simp only [Env.get]
    cases Nat.beq k i with
    | true => rfl
    | false => exact gD_eq e i K d
def kSub : List Nat → Env → (Env → Bool) → Bool :=
  @List.rec Nat (fun _ => Env → (Env → Bool) → Bool) (fun e K => gD e 1000000 (fun v => K [(1000000, v)]) (K [])) (fun k _ ih e K => gD e k (fun v => ih e fun r => K ((k, v) :: r)) (ih e K))
theorem kSub_eq (e : Env) : ∀ (ks : List Nat) (K : Env → Bool), kSub ks e K = K (e.sub ks)
  | [], K => by
    show gD e 1000000 (fun v => K [(1000000, v)]) (K []) = _
    rw [gD_eq]
    simp only [Env.sub]
    cases e.get 1000000 <;> rfl
  | k :: ks, K => by
    show gD e k (fun v => kSub ks e fun r => K ((k, v) :: r)) (kSub ks e K) = _
    rw [gD_eq]
    simp only [Env.sub, kSub_eq e ks]
    cases e.get k <;> rfl
def tG {α : Type} : Tr α → Nat → (α → Bool) → Bool → Bool :=
  @Tr.rec α (fun _ => Nat → (α → Bool) → Bool → Bool) (fun _ _ d => d) (fun _ v _ il ir i K d =>
    @Nat.rec (fun _ => Bool) (@Option.rec α (fun _ => Bool) d K v) (fun j _ =>
      @Bool.rec (fun _ => Bool) (ir (j / 2) K d) (il (j / 2) K d) (Nat.beq (j % 2) 0)) i)
theorem tG_eq {α : Type} : ∀ (t : Tr α) (i : Nat) (K : α → Bool) (d : Bool), tG t i K d = (match t.get i with | some a => K a | none => d)
  | .leaf, _, _, _ => by rw [Tr.get_leaf]; rfl
  | .node l v r, 0, K, d => by
    rw [Tr.get_zero]
    show @Option.rec α (fun _ => Bool) d K v = _
    cases v <;> rfl
  | .node l v r, j + 1, K, d => by
    show @Bool.rec (fun _ => Bool) (tG r (j / 2) K d) (tG l (j / 2) K d) (Nat.beq (j % 2) 0) = _
    simp only [Tr.get]
    cases Nat.beq (j % 2) 0 with
    | false => exact tG_eq r _ K d
    | true => exact tG_eq l _ K d
def gO : Opd → Env → (Value → Bool) → Bool := @Opd.rec (fun _ => Env → (Value → Bool) → Bool) (fun i e K => gE e i K) (fun v _ K => K v)
theorem gO_of {o : Opd} {e : Env} {K : Value → Bool} (h : gO o e K = true) : ∃ v, e.ev o = some v ∧ K v = true := by
  cases o with
  | t i => exact gE_of h
  | c v => exact ⟨v, rfl, h⟩
def gOs : List Opd → Env → (List Value → Bool) → Bool :=
  @List.rec Opd (fun _ => Env → (List Value → Bool) → Bool) (fun _ K => K []) (fun o _ ih e K => gO o e fun v => ih e fun vs => K (v :: vs))
theorem gOs_of : ∀ {os : List Opd} {e : Env} {K : List Value → Bool}, gOs os e K = true → ∃ vs, e.evs os = some vs ∧ K vs = true
  | [], _, _, h => ⟨[], rfl, h⟩
  | o :: os, e, K, h => by
    obtain ⟨v, h1, h2⟩ := gO_of (o := o) h
    obtain ⟨vs, h3, h4⟩ := gOs_of h2
    exact ⟨v :: vs, by simp only [Env.evs, h1, h3], h4⟩
def pE : Option Nat → Env → Value → (Env → Bool) → Bool := @Option.rec Nat (fun _ => Env → Value → (Env → Bool) → Bool) (fun e _ K => K e) (fun d e v K => K ((d, v) :: e))
theorem pE_eq (d : Option Nat) (e : Env) (v : Value) (K : Env → Bool) : pE d e v K = K (e.put d v) := by cases d <;> rfl
/-- A guarded operation: n where it is left out. -/
def gG : Option (Nat × Bool) → Env → Bool → Bool → Bool :=
  @Option.rec (Nat × Bool) (fun _ => Env → Bool → Bool → Bool) (fun _ y _ => y) (fun p e y n => match wantedV e (some p) with
    | some true => y
    | some false => n
    | none => false)
theorem gG_of {g : Option (Nat × Bool)} {e : Env} {y n : Bool} (h : gG g e y n = true) : (wantedV e g = some true ∧ y = true) ∨ (wantedV e g = some false ∧ n = true) := by
  cases g with
  | none => exact .inl ⟨rfl, h⟩
  | some p =>
    replace h : (match wantedV e (some p) with
      | some true => y
      | some false => n
      | none => false) = true := h
    split at h
    · rename_i hw; exact .inl ⟨hw, h⟩
    · rename_i hw; exact .inr ⟨hw, h⟩
    · cases h

/-! ### Operations -/
def MS (f : List Value → H → Option (Value × H)) (m : List Value → H → (Value → H → Bool) → Bool) : Prop :=
  ∀ {vs σ K}, m vs σ K = true → ∃ v σ', f vs σ = some (v, σ') ∧ K v σ' = true
def mN (f : List Value → H → Option (Value × H)) (vs : List Value) (σ : H) (K : Value → H → Bool) : Bool :=
  @Option.rec (Value × H) (fun _ => Bool) false (fun p => @Prod.rec Value H (fun _ => Bool) (fun v σ' => K v σ') p) (f vs σ)
def mF (f : List Value → H → Option (Value × H)) (vs : List Value) (σ : H) (K : Value → H → Bool) : Bool :=
  @Option.rec (Value × H) (fun _ => Bool) false (fun p => @Prod.rec Value H (fun _ => Bool) (fun v σ' => fV v fun v => K v σ') p) (f vs σ)
def mW (f : List Value → H → Option (Value × H)) (vs : List Value) (σ : H) (K : Value → H → Bool) : Bool :=
  @Option.rec (Value × H) (fun _ => Bool) false (fun p => @Prod.rec Value H (fun _ => Bool) (fun v σ' => fV v fun v => fH (wblk vs) σ.next σ' fun σ' => K v σ') p) (f vs σ)
def mX (vs : List Value) (σ : H) (K : Value → H → Bool) : Bool := false
theorem mN_ms (f : List Value → H → Option (Value × H)) : MS f (mN f) := by
  intro vs σ K h
  unfold mN at h
  cases hf : f vs σ with
  | none => rw [hf] at h; cases h
  | some p => rw [hf] at h; exact ⟨p.1, p.2, rfl, h⟩
theorem mF_ms (f : List Value → H → Option (Value × H)) : MS f (mF f) := by
  intro vs σ K h
  unfold mF at h
  cases hf : f vs σ with
  | none => rw [hf] at h; cases h
  | some p => rw [hf] at h; exact ⟨p.1, p.2, rfl, (fV_eq p.1 (fun v => K v p.2)).symm.trans h⟩
theorem mW_ms (f : List Value → H → Option (Value × H)) : MS f (mW f) := by
  intro vs σ K h
  unfold mW at h
  cases hf : f vs σ with
  | none => rw [hf] at h; cases h
  | some p =>
    rw [hf] at h
    replace h : fV p.1 (fun v => fH (wblk vs) σ.next p.2 fun σ' => K v σ') = true := h
    rw [fV_eq, fH_eq] at h
    exact ⟨p.1, p.2, rfl, h⟩
theorem mX_ms (f : List Value → H → Option (Value × H)) : MS f mX := by intro vs σ K h; cases h

/-! quick ones -/
def vI : Value → (IntKind → Int → Bool) → Bool → Bool :=
  @Value.rec (fun _ => (IntKind → Int → Bool) → Bool → Bool) (fun _ => Unit) (fun _ => Unit)
    (fun _ _ d => d) (fun k n K _ => K k n) (fun _ _ _ d => d) (fun _ _ _ _ d => d) (fun _ _ d => d)
    (fun _ _ d => d) (fun _ _ _ _ d => d) (fun _ _ d => d) (fun _ _ d => d)
    (fun _ _ _ _ _ _ d => d) (fun _ d => d) (fun _ _ _ _ d => d) (fun _ d => d) (fun _ _ _ d => d) (fun _ _ _ d => d)
    (fun _ _ => ()) () (fun _ _ _ _ => ())
theorem vI_of {v : Value} {K : IntKind → Int → Bool} {d : Bool} (h : vI v K d = true) : (∃ k n, v = .int k n ∧ K k n = true) ∨ d = true := by
  cases v <;> first | exact .inr h | exact .inl ⟨_, _, rfl, h⟩
def vP : Value → (Addr → Bool) → Bool :=
  @Value.rec (fun _ => (Addr → Bool) → Bool) (fun _ => Unit) (fun _ => Unit)
    (fun _ _ => false) (fun _ _ _ => false) (fun _ _ _ => false) (fun _ _ _ _ => false) (fun _ _ => false)
    (fun a K => @Option.rec Addr (fun _ => Bool) false K a) (fun _ _ _ _ => false) (fun _ _ => false) (fun _ _ => false)
    (fun _ _ _ _ _ _ => false) (fun _ => false) (fun _ _ _ _ => false) (fun _ => false) (fun _ _ _ => false) (fun _ _ _ => false)
    (fun _ _ => ()) () (fun _ _ _ _ => ())
theorem vP_of {v : Value} {K : Addr → Bool} (h : vP v K = true) : ∃ a, v = .pointer (some a) ∧ K a = true := by
  cases v <;> first | (cases h; done) | skip
  rename_i a
  cases a with
  | none => cases h
  | some a => exact ⟨a, rfl, h⟩
def vB : Value → (Bool → Bool) → Bool :=
  @Value.rec (fun _ => (Bool → Bool) → Bool) (fun _ => Unit) (fun _ => Unit)
    (fun b K => K b) (fun _ _ _ => false) (fun _ _ _ => false) (fun _ _ _ _ => false) (fun _ _ => false)
    (fun _ _ => false) (fun _ _ _ _ => false) (fun _ _ => false) (fun _ _ => false)
    (fun _ _ _ _ _ _ => false) (fun _ => false) (fun _ _ _ _ => false) (fun _ => false) (fun _ _ _ => false) (fun _ _ _ => false)
    (fun _ _ => ()) () (fun _ _ _ _ => ())
theorem vB_of {v : Value} {K : Bool → Bool} (h : vB v K = true) : ∃ b, v = .bool b ∧ K b = true := by
  cases v <;> first | (cases h; done) | exact ⟨_, rfl, h⟩
def kN : IntKind → Nat := @IntKind.rec (fun _ => Nat) 0 1 2 3 4 5 6 7
theorem kN_eq (k : IntKind) : kN k = kindN k := by cases k <;> rfl
def tget : Tr Obj → Nat → (Obj → Bool) → Bool :=
  @Tr.rec Obj (fun _ => Nat → (Obj → Bool) → Bool) (fun _ _ => false) (fun _ v _ il ir i K =>
    @Nat.rec (fun _ => Bool) (@Option.rec Obj (fun _ => Bool) false K v) (fun j _ =>
      @Bool.rec (fun _ => Bool) (ir (j / 2) K) (il (j / 2) K) (Nat.beq (j % 2) 0)) i)
theorem tget_of : ∀ {t : Tr Obj} {i : Nat} {K : Obj → Bool}, tget t i K = true → ∃ o, t.get i = some o ∧ K o = true
  | .leaf, _, _, h => by cases h
  | .node l v r, 0, K, h => by
    replace h : @Option.rec Obj (fun _ => Bool) false K v = true := h
    cases v with
    | none => cases h
    | some o => exact ⟨o, rfl, h⟩
  | .node l v r, j + 1, K, h => by
    replace h : @Bool.rec (fun _ => Bool) (tget r (j / 2) K) (tget l (j / 2) K) (Nat.beq (j % 2) 0) = true := h
    simp only [Tr.get]
    cases hb : Nat.beq (j % 2) 0 with
    | false => rw [hb] at h; exact tget_of h
    | true => rw [hb] at h; exact tget_of h
def ktake : List Value → Nat → (List Value → Bool) → Bool :=
  @List.rec Value (fun _ => Nat → (List Value → Bool) → Bool) (fun n K => @Nat.rec (fun _ => Bool) (K []) (fun _ _ => false) n)
    (fun v _ ih n K => @Nat.rec (fun _ => Bool) (K []) (fun m _ => ih m fun l => K (v :: l)) n)
theorem ktake_of : ∀ {l : List Value} {n : Nat} {K : List Value → Bool}, ktake l n K = true → ∃ r, ltake l n = some r ∧ K r = true
  | [], 0, _, h => ⟨[], rfl, h⟩
  | [], _ + 1, _, h => by cases h
  | _ :: _, 0, _, h => ⟨[], rfl, h⟩
  | v :: l, n + 1, K, h => by
    obtain ⟨r, h1, h2⟩ := ktake_of (l := l) (n := n) h
    exact ⟨v :: r, by simp only [ltake, h1], h2⟩
def kcut : List Value → Nat → Nat → (List Value → Bool) → Bool :=
  @List.rec Value (fun _ => Nat → Nat → (List Value → Bool) → Bool) (fun o n K => @Nat.rec (fun _ => Bool) (ktake [] n K) (fun _ _ => false) o)
    (fun v r ih o n K => @Nat.rec (fun _ => Bool) (ktake (v :: r) n K) (fun o _ => ih o n K) o)
theorem kcut_of : ∀ {l : List Value} {o n : Nat} {K : List Value → Bool}, kcut l o n K = true → ∃ r, lcut l o n = some r ∧ K r = true
  | [], 0, n, K, h => by
    obtain ⟨r, h1, h2⟩ := ktake_of (l := []) (n := n) h
    exact ⟨r, by simp only [lcut]; exact h1, h2⟩
  | [], _ + 1, _, _, h => by cases h
  | v :: l, 0, n, K, h => by
    obtain ⟨r, h1, h2⟩ := ktake_of (l := v :: l) (n := n) h
    exact ⟨r, by simp only [lcut]; exact h1, h2⟩
  | v :: l, o + 1, n, K, h => by
    obtain ⟨r, h1, h2⟩ := kcut_of (l := l) (o := o) (n := n) h
    exact ⟨r, by simp only [lcut]; exact h1, h2⟩
/-- The cells at an address. -/
def kRd (σ : H) (a : Addr) (n : Nat) (K : List Value → Bool) : Bool :=
  @Addr.rec (fun _ => Bool) (fun b o s => @Option.rec Nat (fun _ => Bool) (@H.rec (fun _ => Bool) (fun _ t => tget t b fun ob => @Obj.rec (fun _ => Bool) (fun c _ _ _ => kcut c o n K) (fun _ _ => false) false ob) σ) (fun _ => false) s) a
theorem kRd_of {σ : H} {a : Addr} {n : Nat} {K : List Value → Bool} (h : kRd σ a n K = true) : ∃ r, rdCells σ a n = some r ∧ K r = true := by
  obtain ⟨b, o, s⟩ := a
  obtain ⟨nx, t⟩ := σ
  cases s with
  | some s => cases h
  | none =>
    obtain ⟨ob, h1, h2⟩ := tget_of (t := t) (i := b) h
    cases ob with
    | cells c e s m =>
      obtain ⟨r, h3, h4⟩ := kcut_of (l := c) (o := o) (n := n) h2
      exact ⟨r, by simp only [rdCells, H.get, h1]; exact h3, h4⟩
    | map es c => cases h2
    | dead => cases h2
def vs1 (vs : List Value) (K : Value → Bool) : Bool := @List.rec Value (fun _ => Bool) false (fun v r _ => @List.rec Value (fun _ => Bool) (K v) (fun _ _ _ => false) r) vs
theorem vs1_of {vs : List Value} {K : Value → Bool} (h : vs1 vs K = true) : ∃ v, vs = [v] ∧ K v = true := by
  match vs, h with
  | [], h => cases h
  | [v], h => exact ⟨v, rfl, h⟩
  | _ :: _ :: _, h => cases h
def vs2 (vs : List Value) (K : Value → Value → Bool) : Bool := @List.rec Value (fun _ => Bool) false (fun v r _ => vs1 r fun u => K v u) vs
theorem vs2_of {vs : List Value} {K : Value → Value → Bool} (h : vs2 vs K = true) : ∃ v u, vs = [v, u] ∧ K v u = true := by
  cases vs with
  | nil => cases h
  | cons v r =>
    obtain ⟨u, e, h2⟩ := vs1_of (vs := r) (K := fun u => K v u) h
    subst e
    exact ⟨v, u, rfl, h2⟩
def mLoad (agg : Bool) (n : Nat) (vs : List Value) (σ : H) (K : Value → H → Bool) : Bool :=
  vs1 vs fun v => vP v fun a => @Bool.rec (fun _ => Bool) (kRd σ a 1 fun l => vs1 l fun v => K v σ) (kRd σ a n fun l => K (.agg ⟨l⟩) σ) agg
theorem mLoad_ms (agg : Bool) (n : Nat) : MS (pLoad agg n) (mLoad agg n) := by
  intro vs σ K h
  unfold mLoad at h
  obtain ⟨v, e1, h0⟩ := vs1_of h
  obtain ⟨a, e2, h0⟩ := vP_of h0
  subst e1; subst e2
  cases agg with
  | false =>
    obtain ⟨r, h1, h2⟩ := kRd_of (n := 1) h0
    obtain ⟨v, e3, h3⟩ := vs1_of h2
    subst e3
    exact ⟨v, σ, by simp only [pLoad, h1], h3⟩
  | true =>
    obtain ⟨r, h1, h2⟩ := kRd_of (n := n) h0
    exact ⟨_, σ, by simp only [pLoad, h1], h2⟩
def mToInt (k : IntKind) (vs : List Value) (σ : H) (K : Value → H → Bool) : Bool :=
  vs1 vs fun v => vI v (fun _ n => fI (wrapI k n) fun n => K (.int k n) σ) false
theorem mToInt_ms (k : IntKind) : MS (pToInt k) (mToInt k) := by
  intro vs σ K h
  unfold mToInt at h
  obtain ⟨v, hvs, h1⟩ := vs1_of h
  rcases vI_of h1 with ⟨k', n, hv, h2⟩ | h2
  · subst hv; subst hvs
    rw [fI_eq] at h2
    exact ⟨_, σ, rfl, h2⟩
  · cases h2
def mBinV (op : BinOp) (x y : Value) (K : Value → Bool) : Bool := @Option.rec Value (fun _ => Bool) false (fun v => fV v K) (binV op x y)
theorem mBinV_of {op : BinOp} {x y : Value} {K : Value → Bool} (h : mBinV op x y K = true) : ∃ v, binV op x y = some v ∧ K v = true := by
  unfold mBinV at h
  cases hb : binV op x y with
  | none => rw [hb] at h; cases h
  | some v => rw [hb] at h; exact ⟨v, rfl, (fV_eq v K).symm.trans h⟩
/-- Two ints of one kind; d: what else there may be. -/
def kI2 (x y : Value) (K : IntKind → Int → Int → Bool) (d : Bool) : Bool :=
  vI x (fun k a => vI y (fun k' b => @Bool.rec (fun _ => Bool) d (K k a b) (Nat.beq (kN k) (kN k'))) d) d
theorem kI2_of {x y : Value} {K : IntKind → Int → Int → Bool} {d : Bool} (h : kI2 x y K d = true) : (∃ k a b, x = .int k a ∧ y = .int k b ∧ K k a b = true) ∨ d = true := by
  unfold kI2 at h
  rcases vI_of h with ⟨k, a, hx, h1⟩ | h1
  · rcases vI_of h1 with ⟨k', b, hy, h2⟩ | h2
    · cases hb : Nat.beq (kN k) (kN k') with
      | false => rw [hb] at h2; exact .inr h2
      | true =>
        rw [hb] at h2
        have e : k = k' := by
          rw [kN_eq, kN_eq] at hb
          have h3 := sameK_eq k k'
          unfold sameK at h3
          rw [hb] at h3
          exact of_decide_eq_true h3.symm
        exact .inl ⟨k, a, b, hx, e ▸ hy, h2⟩
    · exact .inr h2
  · exact .inr h1
def kTest (x y : Value) (σ : H) (K : Value → H → Bool) (f : Int → Int → Bool) (d : Bool) : Bool := kI2 x y (fun _ a b => @Bool.rec (fun _ => Bool) (K (.bool false) σ) (K (.bool true) σ) (f a b)) d
def kNum (x y : Value) (σ : H) (K : Value → H → Bool) (f : IntKind → Int → Int → Int) (d : Bool) : Bool := kI2 x y (fun k a b => fI (f k a b) fun n => K (.int k n) σ) d
def mBinR : BinOp → Value → Value → H → (Value → H → Bool) → Bool → Bool :=
  @BinOp.rec (fun _ => Value → Value → H → (Value → H → Bool) → Bool → Bool)
    (fun x y σ K d => kNum x y σ K (fun k a b => wrapI k (Int.add a b)) d)
    (fun x y σ K d => kNum x y σ K (fun k a b => wrapI k (Int.sub a b)) d)
    (fun x y σ K d => kNum x y σ K (fun k a b => wrapI k (Int.mul a b)) d)
    (fun _ _ _ _ d => d) (fun _ _ _ _ d => d)
    (fun x y σ K d => kNum x y σ K (fun k a b => bitI k Nat.land (· &&& ·) a b) d)
    (fun x y σ K d => kNum x y σ K (fun k a b => bitI k Nat.lor (· ||| ·) a b) d)
    (fun x y σ K d => kNum x y σ K (fun k a b => bitI k Nat.xor (· ^^^ ·) a b) d)
    (fun _ _ _ _ d => d) (fun _ _ _ _ d => d) (fun _ _ _ _ d => d)
    (fun x y σ K d => kTest x y σ K (fun a b => eqI a b) d)
    (fun x y σ K d => kTest x y σ K (fun a b => !(eqI a b)) d)
    (fun x y σ K d => kTest x y σ K (fun a b => ltI a b) d)
    (fun x y σ K d => kTest x y σ K (fun a b => !(ltI b a)) d)
    (fun x y σ K d => kTest x y σ K (fun a b => ltI b a) d)
    (fun x y σ K d => kTest x y σ K (fun a b => !(ltI a b)) d)
theorem sameK_refl (k : IntKind) : sameK k k = true := by rw [sameK_eq]; simp
theorem kTest_of {x y : Value} {σ : H} {K : Value → H → Bool} {f : Int → Int → Bool} {d : Bool} (h : kTest x y σ K f d = true) : (∃ k a b, x = .int k a ∧ y = .int k b ∧ K (.bool (f a b)) σ = true) ∨ d = true := by
  unfold kTest at h
  rcases kI2_of h with ⟨k, a, b, hx, hy, h1⟩ | h1
  · refine .inl ⟨k, a, b, hx, hy, ?_⟩
    cases hf : f a b <;> rw [hf] at h1 <;> exact h1
  · exact .inr h1
theorem kNum_of {x y : Value} {σ : H} {K : Value → H → Bool} {f : IntKind → Int → Int → Int} {d : Bool} (h : kNum x y σ K f d = true) : (∃ k a b, x = .int k a ∧ y = .int k b ∧ K (.int k (f k a b)) σ = true) ∨ d = true := by
  unfold kNum at h
  rcases kI2_of h with ⟨k, a, b, hx, hy, h1⟩ | h1
  · exact .inl ⟨k, a, b, hx, hy, (fI_eq _ _).symm.trans h1⟩
  · exact .inr h1
theorem mBinR_of {op : BinOp} {x y : Value} {σ : H} {K : Value → H → Bool} {d : Bool} (h : mBinR op x y σ K d = true) : (∃ v, binV op x y = some v ∧ K v σ = true) ∨ d = true := by
  have num : ∀ (f : IntKind → Int → Int → Int) (op : BinOp), kNum x y σ K f d = true → (∀ k a b, binV op (.int k a) (.int k b) = some (.int k (f k a b))) → (∃ v, binV op x y = some v ∧ K v σ = true) ∨ d = true := by
    intro f op h hf
    rcases kNum_of h with ⟨k, a, b, hx, hy, h1⟩ | h1
    · exact .inl ⟨_, by rw [hx, hy]; exact hf k a b, h1⟩
    · exact .inr h1
  have tst : ∀ (f : Int → Int → Bool) (op : BinOp), kTest x y σ K f d = true → (∀ k a b, binV op (.int k a) (.int k b) = some (.bool (f a b))) → (∃ v, binV op x y = some v ∧ K v σ = true) ∨ d = true := by
    intro f op h hf
    rcases kTest_of h with ⟨k, a, b, hx, hy, h1⟩ | h1
    · exact .inl ⟨_, by rw [hx, hy]; exact hf k a b, h1⟩
    · exact .inr h1
  cases op with
  | add => exact num _ _ h fun k a b => by simp only [binV, sameK_refl, binI]
  | sub => exact num _ _ h fun k a b => by simp only [binV, sameK_refl, binI]
  | mul => exact num _ _ h fun k a b => by simp only [binV, sameK_refl, binI]
  | and => exact num _ _ h fun k a b => by simp only [binV, sameK_refl, binI]
  | or => exact num _ _ h fun k a b => by simp only [binV, sameK_refl, binI]
  | xor => exact num _ _ h fun k a b => by simp only [binV, sameK_refl, binI]
  | eql => exact tst _ _ h fun k a b => by simp only [binV, sameK_refl, binI]
  | neq => exact tst _ _ h fun k a b => by simp only [binV, sameK_refl, binI]
  | lss => exact tst _ _ h fun k a b => by simp only [binV, sameK_refl, binI]
  | leq => exact tst _ _ h fun k a b => by simp only [binV, sameK_refl, binI]
  | gtr => exact tst _ _ h fun k a b => by simp only [binV, sameK_refl, binI]
  | geq => exact tst _ _ h fun k a b => by simp only [binV, sameK_refl, binI]
  | quo => exact .inr h
  | rem => exact .inr h
  | shl => exact .inr h
  | shr => exact .inr h
  | andNot => exact .inr h
def mBin (op : BinOp) (vs : List Value) (σ : H) (K : Value → H → Bool) : Bool :=
  vs2 vs fun x y => mBinR op x y σ K (mBinV op x y fun v => K v σ)
theorem mBin_ms (op : BinOp) : MS (pBin op) (mBin op) := by
  intro vs σ K h
  unfold mBin at h
  obtain ⟨x, y, e, h0⟩ := vs2_of h
  subst e
  rcases mBinR_of h0 with ⟨v, h1, h2⟩ | h3
  · exact ⟨v, σ, by simp only [pBin, h1], h2⟩
  · obtain ⟨v, h1, h2⟩ := mBinV_of h3
    exact ⟨v, σ, by simp only [pBin, h1], h2⟩
def mK : Prim → List Value → H → (Value → H → Bool) → Bool :=
  @Prim.rec (fun _ => List Value → H → (Value → H → Bool) → Bool)
    (mN (pMove))
    (mN (pPick))
    (fun elem esz zero => mW (pNew elem esz zero))
    (fun elem esz => mW (pBox elem esz))
    (fun zero pl => mN (pBuild zero pl))
    (fun elem esz len zero pl => mW (pBuildSlice elem esz len zero pl))
    (fun agg n => mLoad agg n)
    (fun n => mW (pStore n))
    (mN (pNilCheck))
    (fun k neg => mF (pIsNil k neg))
    (fun op => mBin op)
    (fun neg => mF (pEqBool neg))
    (fun neg => mF (pEqStr neg))
    (fun neg => mF (pEqPtr neg))
    (fun bl n neg => mF (pEqAgg bl n neg))
    (fun op => mF (pUn op))
    (fun k => mToInt k)
    (fun k => mF (pToFloat k))
    (mN (pToStr))
    (fun t => mN (pIface t))
    (fun f first => mN (pFunc f first))
    (mW (pNewMap))
    (fun elem esz bytes zero => mW (pNewSlice elem esz bytes zero))
    (fun esz lo hi mx => mF (pSlice esz lo hi mx))
    (fun off => mF (pFieldAddr off))
    (fun esz => mF (pIdxAddr esz))
    (fun n esz => mF (pIdxAddrA n esz))
    (fun off agg n => mN (pField off agg n))
    (fun len esz agg => mN (pIdx len esz agg))
    (mF (pIdxStr))
    (fun ks zero ok => mF (pLookup ks zero ok))
    (fun ks => mW (pMapSet ks))
    (fun t zero ok => mF (pAssert t zero ok))
    (fun i => mN (pExtract i))
    (mF (pLenS))
    (mF (pLenM))
    (fun n => mF (pLenC n))
    (mF (pCap))
    (fun elem esz bytes => mW (pAppend elem esz bytes))
    (fun elem esz bytes zero => mW (pAppendZ elem esz bytes zero))
    (fun esz => mW (pCopy esz))
    (mF (pMin))
    (mF (pMax))
    (mW (pClearM))
    (fun zero => mW (pClearS zero))
    (fun ks => mW (pDelete ks))
    (fun n => mN (pArrPtr n))
    (mF (pF64bits))
    (mF (pF64from))
    (mX)
    (mW (pMapsClone))
    (mX)
    (fun name => mX)
    (mX)
    (mX)
    (mX)

theorem mK_ms (p : Prim) : MS (prim p) (mK p) := by
  cases p <;> first | exact @mN_ms _ | exact @mF_ms _ | exact @mW_ms _ | exact @mLoad_ms _ _ | exact @mToInt_ms _ | exact @mBin_ms _ | exact @mX_ms _
def quR : Prim → Bool :=
  @Prim.rec (fun _ => Bool)
    (true)
    (true)
    (fun elem esz zero => false)
    (fun elem esz => false)
    (fun zero pl => true)
    (fun elem esz len zero pl => false)
    (fun agg n => true)
    (fun n => false)
    (true)
    (fun k neg => true)
    (fun op => true)
    (fun neg => true)
    (fun neg => true)
    (fun neg => true)
    (fun bl n neg => true)
    (fun op => true)
    (fun k => true)
    (fun k => true)
    (true)
    (fun t => true)
    (fun f first => true)
    (false)
    (fun elem esz bytes zero => false)
    (fun esz lo hi mx => true)
    (fun off => true)
    (fun esz => true)
    (fun n esz => true)
    (fun off agg n => true)
    (fun len esz agg => true)
    (true)
    (fun ks zero ok => true)
    (fun ks => false)
    (fun t zero ok => true)
    (fun i => true)
    (true)
    (true)
    (fun n => true)
    (false)
    (fun elem esz bytes => false)
    (fun elem esz bytes zero => false)
    (fun esz => false)
    (true)
    (true)
    (false)
    (fun zero => false)
    (fun ks => false)
    (fun n => true)
    (true)
    (true)
    (false)
    (false)
    (false)
    (fun name => false)
    (false)
    (false)
    (false)

def rdR : Prim → Bool :=
  @Prim.rec (fun _ => Bool)
    (false)
    (false)
    (fun elem esz zero => false)
    (fun elem esz => false)
    (fun zero pl => false)
    (fun elem esz len zero pl => false)
    (fun agg n => true)
    (fun n => false)
    (false)
    (fun k neg => false)
    (fun op => false)
    (fun neg => false)
    (fun neg => false)
    (fun neg => true)
    (fun bl n neg => false)
    (fun op => false)
    (fun k => false)
    (fun k => false)
    (true)
    (fun t => false)
    (fun f first => false)
    (false)
    (fun elem esz bytes zero => false)
    (fun esz lo hi mx => false)
    (fun off => false)
    (fun esz => false)
    (fun n esz => false)
    (fun off agg n => false)
    (fun len esz agg => false)
    (false)
    (fun ks zero ok => true)
    (fun ks => false)
    (fun t zero ok => false)
    (fun i => false)
    (false)
    (true)
    (fun n => false)
    (false)
    (fun elem esz bytes => false)
    (fun elem esz bytes zero => false)
    (fun esz => false)
    (false)
    (false)
    (false)
    (fun zero => false)
    (fun ks => false)
    (fun n => false)
    (false)
    (false)
    (false)
    (false)
    (false)
    (fun name => false)
    (false)
    (false)
    (false)

theorem quR_eq (p : Prim) : quR p = quietP p := by cases p <;> rfl
theorem rdR_eq (p : Prim) : rdR p = readsHeap p := by cases p <;> rfl

/-! ### The run -/
structure OrcK where
  call : Nat → List Value → H → (Res → H → Bool) → Bool
  loop : List Nat → Code → Env → H → (Ex → Env → H → Bool) → Bool

def kPut (dst : Option Nat) (e : Env) (N : Env → H → Bool) (K : Ex → Env → H → Bool) (r : Res) (σ : H) : Bool :=
  @Res.rec (fun _ => Bool) (fun v => pE dst e v fun e => N e σ) (fun v => K (.panic v) e σ) r
def oth (m : List Value → H → (Value → H → Bool) → Bool) (O : OrcK) (vs : List Value) (dst : Option Nat) (e : Env) (σ : H) (N : Env → H → Bool) (K : Ex → Env → H → Bool) : Bool :=
  m vs σ fun v σ => pE dst e v fun e => N e σ
def oCall (O : OrcK) (vs : List Value) (dst : Option Nat) (e : Env) (σ : H) (N : Env → H → Bool) (K : Ex → Env → H → Bool) : Bool :=
  match vs with
  | f :: args => match callee f args with
    | some (f, args) => fN f fun f => fS args fun args => O.call f args σ (kPut dst e N K)
    | none => false
  | [] => false
def oInvoke (name : String) (O : OrcK) (vs : List Value) (dst : Option Nat) (e : Env) (σ : H) (N : Env → H → Bool) (K : Ex → Env → H → Bool) : Bool :=
  match vs with
  | .iface t v :: args => match mtab t name with
    | none => false
    | some (f, how) => match recv σ v how with
      | none => false
      | some x => fV x fun x => O.call f (x :: args) σ (kPut dst e N K)
  | _ => false
def oPanic (O : OrcK) (vs : List Value) (dst : Option Nat) (e : Env) (σ : H) (N : Env → H → Bool) (K : Ex → Env → H → Bool) : Bool :=
  match vs with
  | [.iface t v] => K (.panic (.iface t v)) e σ
  | _ => false
def oDefer (O : OrcK) (vs : List Value) (dst : Option Nat) (e : Env) (σ : H) (N : Env → H → Bool) (K : Ex → Env → H → Bool) : Bool :=
  match deferV e vs with
  | some e' => pE dst e' (.tuple #[]) fun e => N e σ
  | none => false
def pK : Prim → OrcK → List Value → Option Nat → Env → H → (Env → H → Bool) → (Ex → Env → H → Bool) → Bool :=
  @Prim.rec (fun _ => OrcK → List Value → Option Nat → Env → H → (Env → H → Bool) → (Ex → Env → H → Bool) → Bool)
    (oth (mN (pMove)))
    (oth (mN (pPick)))
    (fun elem esz zero => oth (mW (pNew elem esz zero)))
    (fun elem esz => oth (mW (pBox elem esz)))
    (fun zero pl => oth (mN (pBuild zero pl)))
    (fun elem esz len zero pl => oth (mW (pBuildSlice elem esz len zero pl)))
    (fun agg n => oth (mLoad agg n))
    (fun n => oth (mW (pStore n)))
    (oth (mN (pNilCheck)))
    (fun k neg => oth (mF (pIsNil k neg)))
    (fun op => oth (mBin op))
    (fun neg => oth (mF (pEqBool neg)))
    (fun neg => oth (mF (pEqStr neg)))
    (fun neg => oth (mF (pEqPtr neg)))
    (fun bl n neg => oth (mF (pEqAgg bl n neg)))
    (fun op => oth (mF (pUn op)))
    (fun k => oth (mToInt k))
    (fun k => oth (mF (pToFloat k)))
    (oth (mN (pToStr)))
    (fun t => oth (mN (pIface t)))
    (fun f first => oth (mN (pFunc f first)))
    (oth (mW (pNewMap)))
    (fun elem esz bytes zero => oth (mW (pNewSlice elem esz bytes zero)))
    (fun esz lo hi mx => oth (mF (pSlice esz lo hi mx)))
    (fun off => oth (mF (pFieldAddr off)))
    (fun esz => oth (mF (pIdxAddr esz)))
    (fun n esz => oth (mF (pIdxAddrA n esz)))
    (fun off agg n => oth (mN (pField off agg n)))
    (fun len esz agg => oth (mN (pIdx len esz agg)))
    (oth (mF (pIdxStr)))
    (fun ks zero ok => oth (mF (pLookup ks zero ok)))
    (fun ks => oth (mW (pMapSet ks)))
    (fun t zero ok => oth (mF (pAssert t zero ok)))
    (fun i => oth (mN (pExtract i)))
    (oth (mF (pLenS)))
    (oth (mF (pLenM)))
    (fun n => oth (mF (pLenC n)))
    (oth (mF (pCap)))
    (fun elem esz bytes => oth (mW (pAppend elem esz bytes)))
    (fun elem esz bytes zero => oth (mW (pAppendZ elem esz bytes zero)))
    (fun esz => oth (mW (pCopy esz)))
    (oth (mF (pMin)))
    (oth (mF (pMax)))
    (oth (mW (pClearM)))
    (fun zero => oth (mW (pClearS zero)))
    (fun ks => oth (mW (pDelete ks)))
    (fun n => oth (mN (pArrPtr n)))
    (oth (mF (pF64bits)))
    (oth (mF (pF64from)))
    (oth (mX))
    (oth (mW (pMapsClone)))
    (oCall)
    (fun name => oInvoke name)
    (oDefer)
    (oPanic)
    (oth (mX))

def kOp : Op → OrcK → Env → H → (Env → H → Bool) → (Ex → Env → H → Bool) → Bool :=
  @Op.rec (fun _ => OrcK → Env → H → (Env → H → Bool) → (Ex → Env → H → Bool) → Bool) (fun dst p args g O e σ N K =>
    gG g e (gOs args e fun vs => pK p O vs dst e σ N K) (pE dst e (.tuple #[]) fun e => N e σ))
def kOps : List Op → OrcK → Env → H → (Ex → Env → H → Bool) → Bool :=
  @List.rec Op (fun _ => OrcK → Env → H → (Ex → Env → H → Bool) → Bool) (fun _ e σ K => K .normal e σ) (fun o _ ih O e σ K => kOp o O e σ (fun e σ => ih O e σ K) K)
def kQ1 : Op → List Read → Env → H → (List Read → Env → Bool) → Bool :=
  @Op.rec (fun _ => List Read → Env → H → (List Read → Env → Bool) → Bool) (fun dst p args g rs e σ N =>
    gG g e (gOs args e fun vs => @Bool.rec (fun _ => Bool) false (mK p vs σ fun v _ => @Bool.rec (fun _ => Bool) (pE dst e v fun e => N rs e) (pE dst e v fun e => N (⟨dst.getD 0, p, vs, v⟩ :: rs) e) (rdR p)) (quR p)) (pE dst e (.tuple #[]) fun e => N rs e))
def kQ : List Op → List Read → Env → H → (List Read → Env → Bool) → Bool :=
  @List.rec Op (fun _ => List Read → Env → H → (List Read → Env → Bool) → Bool) (fun rs e _ K => K rs e) (fun o _ ih rs e σ K => kQ1 o rs e σ fun rs e => ih rs e σ K)
/-- How an effect ends, in a drawn region. -/
def kEnd (e0 : Env) (dsts : List Nat) (N : Env → H → Bool) (K : Ex → Env → H → Bool) (x : Ex) (e : Env) (σ : H) : Bool :=
  @Ex.rec (fun _ => Bool) (N e σ) (fun _ => false) false (fun v => K (.panic v) (dropD dsts e0) σ) x
def kSegs : List Seg → OrcK → Env → List Nat → List Read → Env → H → (Ex → Env → H → Bool) → Bool :=
  @List.rec Seg (fun _ => OrcK → Env → List Nat → List Read → Env → H → (Ex → Env → H → Bool) → Bool) (fun _ _ _ _ e σ K => K .normal e σ) (fun s _ ih O e0 dsts rs e σ K =>
    kQ s.q rs e σ fun rs e => match s.e with
      | none => ih O e0 dsts rs e σ K
      | some o => match mobOk e σ rs s.mob with
        | false => false
        | true => kOps [o] O e σ (kEnd e0 dsts (fun e' σ' => match still σ' (keepR s.chk rs) with
            | true => ih O e0 dsts (keepR s.chk rs) e' σ' K
            | false => false) K))
def kSeq (N : Env → H → (Ex → Env → H → Bool) → Bool) (K : Ex → Env → H → Bool) (x : Ex) (e : Env) (σ : H) : Bool :=
  @Ex.rec (fun _ => Bool) (N e σ K) (fun i => K (.exit i) e σ) (K .ret e σ) (fun v => K (.panic v) e σ) x
def kBlk (id : Nat) (K : Ex → Env → H → Bool) (x : Ex) (e : Env) (σ : H) : Bool :=
  @Ex.rec (fun _ => Bool) (K .normal e σ) (fun i => @Bool.rec (fun _ => Bool) (K (.exit i) e σ) (K .normal e σ) (Nat.beq i id)) (K .ret e σ) (fun v => K (.panic v) e σ) x
def kDen : Code → OrcK → Env → H → (Ex → Env → H → Bool) → Bool :=
  @Code.rec (fun _ => OrcK → Env → H → (Ex → Env → H → Bool) → Bool)
    (fun _ e σ K => K .normal e σ)
    (fun ops O e σ K => kOps ops O e σ K)
    (fun segs dsts O e σ K => kSegs segs O e dsts [] e σ K)
    (fun ks _ e σ K => kSub ks e fun e => K .normal e σ)
    (fun _ _ ia ib O e σ K => ia O e σ (kSeq (ib O) K))
    (fun c _ _ ia ib O e σ K => gO c e fun v => vB v fun t => @Bool.rec (fun _ => Bool) (ib O e σ K) (ia O e σ K) t)
    (fun id _ ib O e σ K => ib O e σ (kBlk id K))
    (fun ks b _ O e σ K => kSub ks e fun e => O.loop ks b e σ K)
    (fun id _ e σ K => K (.exit id) e σ)
    (fun _ e σ K => K .ret e σ)
def kResults (e : Env) (σ : H) (rs : List RVar) (K : Res → H → Bool) : Bool :=
  match results e σ rs with
  | some (r, σ) => fR r fun r => K r σ
  | none => false
def kDeferred (O : OrcK) (f : Value) (p : Option Value) (σ : H) (K : Bool → H → Bool) : Bool :=
  match f with
  | .func (.func k) _ ⟨cap⟩ => match ftab.get k with
    | some ⟨b, [], some r⟩ => match Nat.ble cap.length 1000 with
      | false => false
      | true => fE ((r, p.getD .nilIface) :: params 0 cap) fun e => kDen b O e σ fun x e' σ' => match e'.get 1000000 with
          | some _ => false
          | none => match x with
            | .normal | .ret => K p.isSome σ'
            | _ => false
    | _ => false
  | _ => false
/-- A function's end. -/
def kEndF (O : OrcK) (rs : List RVar) (K : Res → H → Bool) (x : Ex) (e : Env) (σ : H) : Bool :=
  gD e 1000000 (fun d => match x with
    | .normal | .ret => kDeferred O d none σ fun _ σ2 => kResults e σ2 rs K
    | .panic v => kDeferred O d (some v) σ fun t σ2 => match t with
      | true => kResults e σ2 rs K
      | false => false
    | .exit _ => false)
   (match x with
    | .normal | .ret => kResults e σ rs K
    | .panic v => K (.panic v) σ
    | .exit _ => false)
def kCallF (O : OrcK) (k : Nat) (args : List Value) (σ : H) (K : Res → H → Bool) : Bool :=
  tG ftab k (fun fn => @Func.rec (fun _ => Bool) (fun body rs rcv => @Option.rec Nat (fun _ => Bool) (@Bool.rec (fun _ => Bool) false (fE (params 0 args) fun e => kDen body O e σ (kEndF O rs K)) (Nat.ble args.length 1000)) (fun _ => false) rcv) fn) false
/-- Functions that are answered by their contracts. -/
abbrev Ov := Nat → Option (List Value → H → (Res → H → Bool) → Bool)
abbrev OwnT := Nat → Option (List Value → H → Option (Res × H))
def kAnswer (W : OwnT) (V : Ov) (O : OrcK) (k : Nat) (args : List Value) (σ : H) (K : Res → H → Bool) : Bool :=
  match V k with
  | some f => f args σ K
  | none => @Bool.rec (fun _ => Bool) (kCallF O k args σ K) (match W k with
    | some f => (match f args σ with
      | some (r, σ') => fR r fun r => fH (wblk args) σ.next σ' fun σ' => K r σ'
      | none => false)
    | none => kCallF O k args σ K) (isOwn k)
def kAgain (O : OrcK) (ks : List Nat) (b : Code) (e : Env) (σ : H) (K : Ex → Env → H → Bool) : Bool :=
  kDen b O e σ fun x e' σ' => @Ex.rec (fun _ => Bool) (kSub ks e' fun e' => O.loop ks b e' σ' K) (fun i => K (.exit i) e' σ') (K .ret e' σ') (fun v => K (.panic v) e' σ') x
def orcK (W : OwnT) (V : Ov) (n : Nat) : OrcK :=
  @Nat.rec (fun _ => OrcK) ⟨fun _ _ _ _ => false, fun _ _ _ _ _ => false⟩ (fun _ O => ⟨kAnswer W V O, kAgain O⟩) n
end
end AM
end Go.Proofs.YtdbbkaeoinalpaaGreat
