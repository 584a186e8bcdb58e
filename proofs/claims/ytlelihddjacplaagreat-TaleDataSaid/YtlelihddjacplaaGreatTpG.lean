/- Parts: Part, TdA. -/
import Derived.Test.YtlelihddjacplaaGreatTpF
import Derived.KernelRfl
set_option linter.unusedVariables false
namespace Go.Proofs.YtlelihddjacplaaGreat
namespace AM

/-! ### A heap out of what stands at each place -/
def mkT (N : Nat) (f : Nat → Option Obj) : Nat → Nat → Nat → Tr Obj
  | 0, _, _ => .leaf
  | d + 1, a, m => match Nat.blt a N with
    | true => .node (mkT N f d (a + m) (2 * m)) (f a) (mkT N f d (a + 2 * m) (2 * m))
    | false => .leaf
def isT2 (N : Nat) : Nat → Tr Obj → Nat → Nat → Bool
  | 0, t, _, _ => match t with
    | .leaf => true
    | _ => false
  | d + 1, t, a, m => match t with
    | .leaf => !(Nat.blt a N)
    | .node l _ r => Nat.blt a N && (isT2 N d l (a + m) (2 * m) && isT2 N d r (a + 2 * m) (2 * m))
theorem isT2_of (N : Nat) (f : Nat → Option Obj) : ∀ (d : Nat) (t : Tr Obj) (a m : Nat), isT2 N d t a m = true → (∀ i, f (a + m * i) = t.get i) → t = mkT N f d a m
  | 0, t, a, m, h, _ => by
    cases t with
    | leaf => rfl
    | node l v r => cases h
  | d + 1, t, a, m, h, hf => by
    cases t with
    | leaf =>
      simp only [isT2, Bool.not_eq_true'] at h
      simp only [mkT, h]
    | node l v r =>
      simp only [isT2, Bool.and_eq_true] at h
      obtain ⟨h1, h2, h3⟩ := h
      have h0 := hf 0
      rw [Nat.mul_zero, Nat.add_zero, Tr.get_zero] at h0
      have hl := isT2_of N f d l _ _ h2 fun i => by
        have := hf (2 * i + 1)
        rw [Tr.get_succ, if_pos (by omega), show 2 * i / 2 = i by omega] at this
        rw [← this]; congr 1; rw [Nat.mul_add, Nat.mul_one, Nat.mul_comm 2 m, Nat.mul_assoc]; omega
      have hr := isT2_of N f d r _ _ h3 fun i => by
        have := hf (2 * i + 1 + 1)
        rw [Tr.get_succ, if_neg (by omega), show (2 * i + 1) / 2 = i by omega] at this
        rw [← this]; congr 1; rw [Nat.mul_add, Nat.mul_add, Nat.mul_one, Nat.mul_comm 2 m, Nat.mul_assoc]; omega
      simp only [mkT, h1, h0, ← hl, ← hr]

/-! ### Are objects the same? -/
def eqA (a b : Option Addr) : Bool := match a, b with
  | none, none => true
  | some ⟨b, o, none⟩, some ⟨b', o', none⟩ => Nat.beq b b' && Nat.beq o o'
  | _, _ => false
def eqC : Value → Value → Bool
  | .bool a, .bool b => match a, b with
    | true, true => true
    | false, false => true
    | _, _ => false
  | .int k a, .int k' b => sameK k k' && eqI a b
  | .float .f64 a, .float .f64 b => Nat.beq a b
  | .pointer a, .pointer b => eqA a b
  | .slice a n c, .slice a' n' c' => eqA a a' && (Nat.beq n n' && Nat.beq c c')
  | .map (some a), .map (some b) => Nat.beq a b
  | _, _ => false
def eqL : List Value → List Value → Bool
  | [], [] => true
  | a :: x, b :: y => eqC a b && eqL x y
  | _, _ => false
def eqM (a b : Mode) : Bool := match a, b with
  | .exact, .exact => true
  | .grown, .grown => true
  | _, _ => false
def eqO : Option Obj → Obj → Bool
  | some (.cells c e s m), .cells c' e' s' m' => eqL c c' && (Nat.beq e e' && (Nat.beq s s' && eqM m m'))
  | some (.map [] k), .map [] k' => Nat.beq k k'
  | _, _ => false
theorem eqA_of {a b : Option Addr} (h : eqA a b = true) : a = b := by
  unfold eqA at h
  split at h
  · rfl
  · simp only [Bool.and_eq_true, nbeq, decide_eq_true_eq] at h
    rw [h.1, h.2]
  · cases h
theorem eqC_of {a b : Value} (h : eqC a b = true) : a = b := by
  unfold eqC at h
  split at h
  · split at h <;> first | rfl | cases h
  · simp only [Bool.and_eq_true, sameK_eq, eqI_eq, decide_eq_true_eq] at h
    rw [h.1, h.2]
  · simp only [nbeq, decide_eq_true_eq] at h; rw [h]
  · rw [eqA_of h]
  · simp only [Bool.and_eq_true, nbeq, decide_eq_true_eq] at h
    rw [eqA_of h.1, h.2.1, h.2.2]
  · simp only [nbeq, decide_eq_true_eq] at h; rw [h]
  · cases h
theorem eqL_of : ∀ {a b : List Value}, eqL a b = true → a = b
  | [], [], _ => rfl
  | x :: a, y :: b, h => by
    simp only [eqL, Bool.and_eq_true] at h
    rw [eqC_of h.1, eqL_of h.2]
  | [], _ :: _, h => by cases h
  | _ :: _, [], h => by cases h
theorem eqO_of {a : Option Obj} {b : Obj} (h : eqO a b = true) : a = some b := by
  unfold eqO at h
  split at h
  · simp only [Bool.and_eq_true, nbeq, decide_eq_true_eq] at h
    obtain ⟨h1, h2, h3, h4⟩ := h
    rw [eqL_of h1, h2, h3]
    unfold eqM at h4
    split at h4 <;> first | rfl | cases h4
  · simp only [nbeq, decide_eq_true_eq] at h; rw [h]
  · cases h
/-- What stands at a place: one of those that are told, or else what there was. -/
def look (l : List (Nat × Obj)) (g : Nat → Option Obj) (i : Nat) : Option Obj := match l with
  | [] => g i
  | (k, o) :: r => match Nat.beq k i with
    | true => some o
    | false => look r g i
def told (σ : H) : List (Nat × Obj) → Bool
  | [] => true
  | (k, o) :: r => eqO (σ.get k) o && told σ r
theorem look_of {σ : H} : ∀ {l : List (Nat × Obj)}, told σ l = true → ∀ i, look l σ.get i = σ.get i
  | [], _, _ => rfl
  | (k, o) :: r, h, i => by
    simp only [told, Bool.and_eq_true] at h
    simp only [look, nbeq]
    by_cases e : k = i
    · subst e
      simp only [decide_true]
      exact (eqO_of h.1).symm
    · rw [decide_eq_false e]
      exact look_of h.2 i
/-- The heap of which that is told; nothing stands at nought. -/
def look0 (l : List (Nat × Obj)) (g : Nat → Option Obj) (i : Nat) : Option Obj := match Nat.beq i 0 with
  | true => none
  | false => look l g i
def heapOf (N : Nat) (l : List (Nat × Obj)) (g : Nat → Option Obj) : H := ⟨N, mkT N (look0 l g) 13 0 1⟩
def isN (o : Option Obj) : Bool := match o with
  | none => true
  | _ => false
def isHeap (N : Nat) (l : List (Nat × Obj)) (σ : H) : Bool := Nat.beq σ.next N && (isT2 N 13 σ.t 0 1 && (told σ l && isN (σ.get 0)))
theorem isHeap_of {N : Nat} {l : List (Nat × Obj)} {σ : H} (h : isHeap N l σ = true) : σ = heapOf N l σ.get := by
  simp only [isHeap, Bool.and_eq_true, nbeq, decide_eq_true_eq] at h
  obtain ⟨h1, h2, h3, h0⟩ := h
  have h0' : σ.get 0 = none := by
    unfold isN at h0
    split at h0
    · assumption
    · cases h0
  have h4 : look0 l σ.get = σ.get := funext fun i => by
    unfold look0
    rw [nbeq]
    by_cases e : i = 0
    · subst e; simp only [decide_true]; exact h0'.symm
    · rw [decide_eq_false e]; exact look_of h3 i
  have h5 := isT2_of N (look0 l σ.get) 13 σ.t 0 1 h2 fun i => by rw [h4, Nat.zero_add, Nat.one_mul]; rfl
  unfold heapOf
  rw [← h5, ← h1]
/-- Is it the environment? -/
def eqE : Env → Env → Bool
  | [], [] => true
  | (k, v) :: a, (k', v') :: b => Nat.beq k k' && (eqC v v' && eqE a b)
  | _, _ => false
theorem eqE_of : ∀ {a b : Env}, eqE a b = true → a = b
  | [], [], _ => rfl
  | (k, v) :: a, (k', v') :: b, h => by
    simp only [eqE, Bool.and_eq_true, nbeq, decide_eq_true_eq] at h
    rw [h.1, eqC_of h.2.1, eqE_of h.2.2]
  | [], _ :: _, h => by cases h
  | _ :: _, [], h => by cases h

/-! ### Code that is parted -/
def fstC : Code → Code
  | .seq a _ => a
  | c => c
def sndC : Code → Code
  | .seq _ b => b
  | c => c
def nk (K : Env → H → Bool) (x : Ex) (e : Env) (σ : H) : Bool := match x with
  | .normal => K e σ
  | _ => false
section
variable [Aw]
theorem wp_k {W : OwnT} {V : Ov} (hW : ∀ k, Aw.own k = W k) (hV : OvOK V) {n : Nat} {c : Code} {e : Env} {σ : H} {K : Ex → Env → H → Bool} (h : kDen c (orcK W V n) e σ K = true) : Wp c e σ fun x e' σ' => K x e' σ' = true := by
  obtain ⟨m, x, e', σ', h1, h2⟩ := kDen_of (orcK_ok hW hV n) h
  exact ⟨m, x, e', σ', h1, h2⟩
theorem wp_part {W : OwnT} {V : Ov} (hW : ∀ k, Aw.own k = W k) (hV : OvOK V) {n : Nat} {a b : Code} {e : Env} {σ : H} {K : Env → H → Bool} {Q : QC} (h : kDen a (orcK W V n) e σ (nk K) = true) (hb : ∀ e σ, K e σ = true → Wp b e σ Q) : Wp (.seq a b) e σ Q := by
  refine wp_seq ((wp_k hW hV h).mono ?_)
  intro x e' σ' hk
  cases x with
  | normal => exact hb e' σ' hk
  | exit i => cases hk
  | ret => cases hk
  | panic v => cases hk
end
/-- Bytes. -/
def by8 (l : List Int) : List Value := l.map (.int .u8)
end AM
end Go.Proofs.YtlelihddjacplaaGreat
namespace Go.Proofs.YtlelihddjacplaaGreat
namespace AM
noncomputable section
/-- An empty heap. -/
def h0 : H := ⟨1, .leaf⟩
/-- What is not walked: slices.Sorted of a map's keys. -/
def ownB : OwnT := fun k => match Nat.beq k 132 with
  | true => some (sortedV 3 [193, 295])
  | false => match Nat.beq k 4 with
    | true => some fun _ _ => none
    | false => none
/-- 'true' was answered. -/
def isT (r : Res) (_ : H) : Bool := match r with
  | .ok (.bool b) => b
  | _ => false
/-- What is read behind the flush. -/
def rel24 : List (Nat × Obj) :=
 [(1, .cells [.slice (some ⟨193, 0, none⟩) 64 64, .slice none 0 0, .slice none 0 0, .int .i64 (0), .int .i64 (7), .int .i64 (9), .int .i64 (6), .int .i64 (0), .int .i64 (7), .int .i64 (9), .int .i64 (6)] 83 11 .exact),
 (193, .cells [.slice (some ⟨2471, 0, none⟩) 64 64, .slice (some ⟨292, 0, none⟩) 64 64, .slice (some ⟨267, 0, none⟩) 64 64, .slice (some ⟨2185, 0, none⟩) 64 64, .slice (some ⟨2195, 0, none⟩) 64 64, .slice (some ⟨2205, 0, none⟩) 64 64, .slice (some ⟨2317, 0, none⟩) 64 64, .slice (some ⟨23, 0, none⟩) 64 64, .slice (some ⟨26, 0, none⟩) 64 64, .slice (some ⟨29, 0, none⟩) 64 64, .slice (some ⟨32, 0, none⟩) 64 64, .slice (some ⟨35, 0, none⟩) 64 64, .slice (some ⟨38, 0, none⟩) 64 64, .slice (some ⟨41, 0, none⟩) 64 64, .slice (some ⟨44, 0, none⟩) 64 64, .slice (some ⟨47, 0, none⟩) 64 64, .slice (some ⟨50, 0, none⟩) 64 64, .slice (some ⟨53, 0, none⟩) 64 64, .slice (some ⟨56, 0, none⟩) 64 64, .slice (some ⟨59, 0, none⟩) 64 64, .slice (some ⟨62, 0, none⟩) 64 64, .slice (some ⟨65, 0, none⟩) 64 64, .slice (some ⟨68, 0, none⟩) 64 64, .slice (some ⟨71, 0, none⟩) 64 64, .slice (some ⟨74, 0, none⟩) 64 64, .slice (some ⟨77, 0, none⟩) 64 64, .slice (some ⟨80, 0, none⟩) 64 64, .slice (some ⟨83, 0, none⟩) 64 64, .slice (some ⟨86, 0, none⟩) 64 64, .slice (some ⟨89, 0, none⟩) 64 64, .slice (some ⟨92, 0, none⟩) 64 64, .slice (some ⟨95, 0, none⟩) 64 64, .slice (some ⟨98, 0, none⟩) 64 64, .slice (some ⟨101, 0, none⟩) 64 64, .slice (some ⟨104, 0, none⟩) 64 64, .slice (some ⟨107, 0, none⟩) 64 64, .slice (some ⟨110, 0, none⟩) 64 64, .slice (some ⟨113, 0, none⟩) 64 64, .slice (some ⟨116, 0, none⟩) 64 64, .slice (some ⟨119, 0, none⟩) 64 64, .slice (some ⟨122, 0, none⟩) 64 64, .slice (some ⟨125, 0, none⟩) 64 64, .slice (some ⟨128, 0, none⟩) 64 64, .slice (some ⟨131, 0, none⟩) 64 64, .slice (some ⟨134, 0, none⟩) 64 64, .slice (some ⟨137, 0, none⟩) 64 64, .slice (some ⟨140, 0, none⟩) 64 64, .slice (some ⟨143, 0, none⟩) 64 64, .slice (some ⟨146, 0, none⟩) 64 64, .slice (some ⟨149, 0, none⟩) 64 64, .slice (some ⟨152, 0, none⟩) 64 64, .slice (some ⟨155, 0, none⟩) 64 64, .slice (some ⟨158, 0, none⟩) 64 64, .slice (some ⟨161, 0, none⟩) 64 64, .slice (some ⟨164, 0, none⟩) 64 64, .slice (some ⟨167, 0, none⟩) 64 64, .slice (some ⟨170, 0, none⟩) 64 64, .slice (some ⟨173, 0, none⟩) 64 64, .slice (some ⟨176, 0, none⟩) 64 64, .slice (some ⟨179, 0, none⟩) 64 64, .slice (some ⟨182, 0, none⟩) 64 64, .slice (some ⟨185, 0, none⟩) 64 64, .slice (some ⟨188, 0, none⟩) 64 64, .slice (some ⟨191, 0, none⟩) 64 64] 23 1 .grown),
 (292, .cells (by8 [192, 158, 1, 0, 0, 0, 64, 0, 0, 0, 20, 0, 0, 0, 2, 0, 0, 0, 1, 0, 0, 0, 1, 0, 0, 0, 0, 0, 0, 0, 0, 0, 0, 0, 0, 0, 240, 63, 0, 0, 0, 0, 0, 0, 0, 0, 0, 0, 0, 0, 0, 0, 0, 0, 0, 0, 0, 0, 0, 0, 24, 167, 244, 246] ++ List.replicate 0 (.int .u8 0)) 5 1 .grown),
 (300, .cells [.pointer (some ⟨1, 0, none⟩), .pointer (some ⟨457, 0, none⟩)] 46 2 .exact),
 (302, .cells [.pointer (some ⟨1, 0, none⟩), .int .i64 (2), .int .i64 (64), .int .i64 (20), .float .f64 4607182418800017408, .int .i64 (6), .int .i64 (1), .int .i64 (2), .int .i64 (0), .pointer (some ⟨432, 0, none⟩), .pointer (some ⟨436, 0, none⟩), .pointer (some ⟨454, 0, none⟩), .bool false] 131 13 .exact),
 (455, .map [] 1),
 (456, .cells [.int .i64 (64), .map (some 455)] 126 2 .exact),
 (457, .cells [.pointer (some ⟨302, 0, none⟩), .pointer (some ⟨456, 0, none⟩)] 65 2 .exact),
 (2185, .cells (by8 [197, 126, 231, 0, 2, 0, 0, 0, 122, 0, 0, 0, 68, 182, 191, 158, 1, 2, 119, 130, 0, 6, 95, 82, 96, 80, 99, 80, 99, 80, 99, 80, 99, 15, 15, 15, 15, 1, 112, 15, 15, 15, 15, 15, 15, 15, 13, 112, 14, 255, 248, 0, 0, 2, 16, 136, 66, 24, 198, 66, 16, 165, 41, 76] ++ List.replicate 0 (.int .u8 0)) 5 1 .grown),
 (2195, .cells (by8 [99, 28, 231, 66, 16, 148, 165, 74, 82, 150, 181, 177, 140, 107, 90, 231, 57, 239, 123, 225, 8, 70, 49, 148, 165, 117, 215, 78, 115, 157, 247, 223, 134, 24, 99, 142, 57, 101, 149, 41, 74, 103, 158, 122, 105, 166, 186, 235, 182, 219, 86, 181, 174, 251, 239, 199, 28, 115, 207, 61, 117, 213, 173, 107] ++ List.replicate 0 (.int .u8 0)) 5 1 .grown),
 (2205, .cells (by8 [119, 223, 126, 121, 231, 190, 251, 247, 223] ++ List.replicate 55 (.int .u8 0)) 5 1 .grown),
 (2317, .cells (by8 [197, 126, 78, 0, 2, 0, 0, 0, 7, 0, 0, 0, 177, 202, 127, 104, 0, 1, 3, 3, 3, 0, 2] ++ List.replicate 41 (.int .u8 0)) 5 1 .grown),
 (2471, .cells (by8 [192, 158, 2, 0, 0, 0, 64, 0, 0, 0, 20, 0, 0, 0, 6, 0, 0, 0, 1, 0, 0, 0, 2, 0, 0, 0, 0, 0, 0, 0, 0, 0, 0, 0, 0, 0, 240, 63, 0, 0, 0, 0, 0, 0, 0, 0, 0, 0, 0, 0, 0, 0, 0, 0, 0, 0, 0, 0, 0, 0, 164, 56, 25, 89] ++ List.replicate 0 (.int .u8 0)) 5 1 .grown)]
def env24 : Env := [(1, .pointer (some ⟨300, 0, none⟩)), (3, .int .i64 (0)), (4, .int .i64 (0))]
def b0 : Code := f4.body
def b1 : Code := sndC b0
def b2 : Code := sndC b1
def b3 : Code := sndC b2
def b4 : Code := sndC b3
def b5 : Code := sndC b4
def at24 (e : Env) (σ : H) : Bool := eqE e env24 && isHeap 2504 rel24 σ
def o24 : OrcK := orcK ownB ovN 100000
set_option maxHeartbeats 4000000 in
theorem a24 : kDen (fstC b0) o24 [] h0 (nk fun e σ => kDen (fstC b1) o24 e σ (nk fun e σ => kDen (fstC b2) o24 e σ (nk fun e σ => kDen (fstC b3) o24 e σ (nk fun e σ => kDen (fstC b4) o24 e σ (nk at24))))) = true := by kernel_rfl
end
end AM
end Go.Proofs.YtlelihddjacplaaGreat
