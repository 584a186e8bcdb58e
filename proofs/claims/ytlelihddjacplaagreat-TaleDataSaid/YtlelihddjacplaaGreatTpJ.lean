/- The law TaleData behind its test: new devices, and events, by the kernel; the rows of data stay open. -/
import Derived.Test.YtlelihddjacplaaGreatTpG
import Derived.KernelRfl
set_option linter.unusedVariables false
namespace Go.Proofs.YtlelihddjacplaaGreat
namespace AM
/-- 'awake' is true. -/
noncomputable def awakeT (vs : List Value) (σ : H) : Option (Res × H) := match vs with
  | [] => some (.ok (.bool true), σ)
  | _ => none
/-- Where the law is walked: its test has been made. -/
noncomputable def ownA : OwnT := fun k => match Nat.beq k 132 with
  | true => some (sortedV 3 [193, 295])
  | false => match Nat.beq k 4 with
    | true => some awakeT
    | false => none
/-! ### What is looked for on the heap -/
noncomputable def pB (v : Value) (K : Nat → Bool) : Bool := match v with
  | .pointer (some ⟨b, o, none⟩) => Nat.beq o 0 && K b
  | _ => false
noncomputable def iB (v : Value) (K : Int → Bool) : Bool := match v with
  | .int k n => sameK k .i64 && K n
  | _ => false
noncomputable def flB (v : Value) (K : Nat → Bool) : Bool := match v with
  | .float .f64 b => K b
  | _ => false
noncomputable def exM (m : Mode) : Bool := match m with
  | .exact => true
  | _ => false
noncomputable def cB (o : Option Obj) (z : Nat) (K : List Value → Bool) : Bool := match o with
  | some (.cells c _ s m) => Nat.beq s z && (exM m && K c)
  | _ => false
theorem pB_of {v : Value} {K : Nat → Bool} (h : pB v K = true) : ∃ b, v = .pointer (some ⟨b, 0, none⟩) ∧ K b = true := by
  unfold pB at h
  split at h
  · simp only [Bool.and_eq_true, nbeq, decide_eq_true_eq] at h
    obtain ⟨rfl, h⟩ := h
    exact ⟨_, rfl, h⟩
  · cases h
theorem iB_of {v : Value} {K : Int → Bool} (h : iB v K = true) : ∃ n, v = .int .i64 n ∧ K n = true := by
  unfold iB at h
  split at h
  · simp only [Bool.and_eq_true, sameK_eq, decide_eq_true_eq] at h
    obtain ⟨rfl, h⟩ := h
    exact ⟨_, rfl, h⟩
  · cases h
theorem flB_of {v : Value} {K : Nat → Bool} (h : flB v K = true) : ∃ n, v = .float .f64 n ∧ K n = true := by
  unfold flB at h
  split at h
  · exact ⟨_, rfl, h⟩
  · cases h
theorem cB_of {o : Option Obj} {z : Nat} {K : List Value → Bool} (h : cB o z K = true) : ∃ c t, o = some (.cells c t z .exact) ∧ K c = true := by
  unfold cB at h
  split at h
  · rename_i c t s m
    simp only [Bool.and_eq_true, nbeq, decide_eq_true_eq] at h
    obtain ⟨rfl, h1, h2⟩ := h
    cases m <;> first | exact ⟨_, _, rfl, h2⟩ | cases h1
  · cases h
noncomputable def two (c : List Value) (K : Value → Value → Bool) : Bool := match c with
  | [a, b] => K a b
  | _ => false
theorem two_of {c : List Value} {K : Value → Value → Bool} (h : two c K = true) : ∃ a b, c = [a, b] ∧ K a b = true := by
  unfold two at h
  split at h
  · exact ⟨_, _, rfl, h⟩
  · cases h
noncomputable def tup2 (r : Res) (K : Value → Value → Bool) : Bool := match r with
  | .ok (.tuple ⟨c⟩) => two c K
  | _ => false
theorem tup2_of {r : Res} {K : Value → Value → Bool} (h : tup2 r K = true) : ∃ a b, r = .ok (.tuple #[a, b]) ∧ K a b = true := by
  unfold tup2 at h
  split at h
  · obtain ⟨a, b, e, k⟩ := two_of h
    exact ⟨a, b, by rw [e], k⟩
  · cases h
noncomputable def isE (n : Int) (r : Res) : Bool := match r with
  | .ok v => iB v fun m => eqI m n
  | _ => false
theorem isE_of {n : Int} {r : Res} (h : isE n r = true) : r = .ok (.int .i64 n) := by
  unfold isE at h
  split at h
  · obtain ⟨m, e, k⟩ := iB_of h
    rw [eqI_eq] at k
    rw [e, of_decide_eq_true k]
  · cases h
noncomputable def isP (r : Res) : Bool := match r with
  | .ok v => pB v fun _ => true
  | _ => false
theorem isP_of {r : Res} (h : isP r = true) : ∃ b, r = .ok (.pointer (some ⟨b, 0, none⟩)) := by
  unfold isP at h
  split at h
  · obtain ⟨b, e, _⟩ := pB_of h
    exact ⟨b, by rw [e]⟩
  · cases h
def evV (d n m k : Int) : Value := .agg ⟨[.int .i64 d, .int .i64 n, .int .i64 m, .int .u8 0, .slice none 0 0, .int .u32 k]⟩
def pt (t : Nat) : Value := .pointer (some ⟨t, 0, none⟩)
noncomputable def talB (σ : H) (t : Nat) : Bool := Nat.blt 0 t && (Nat.blt t σ.next && cB (σ.get t) 2 fun c => two c fun p _ => pB p fun _ => true)
noncomputable def oL : OrcK := orcK ownA ovN 100000
def oneX : Value := .float .f64 4607182418800017408
noncomputable def k6 (t : Nat) (r : Res) (σ : H) : Bool := isP r && oL.call 8 [pt t, evV 6 64 0 0] σ fun r _ => isE 1 r
noncomputable def k5 (t : Nat) (r : Res) (σ : H) : Bool := isE 0 r && oL.call 9 [pt t] σ (k6 t)
noncomputable def k4 (t : Nat) (r : Res) (σ : H) : Bool := isE 0 r && oL.call 8 [pt t, evV 5 0 0 0] σ (k5 t)
noncomputable def k3 (t : Nat) (r : Res) (σ : H) : Bool := isE 9 r && oL.call 8 [pt t, evV 6 1 40 1] σ (k4 t)
noncomputable def k2 (t : Nat) (r : Res) (σ : H) : Bool := isE 5 r && oL.call 8 [pt t, evV 3 0 0 0] σ (k3 t)
noncomputable def k1 (t : Nat) (r : Res) (σ : H) : Bool := isE 0 r && oL.call 8 [pt t, evV 8 0 0 0] σ (k2 t)
noncomputable def isE2 (r : Res) : Bool := tup2 r fun _ e => iB e fun e => eqI e 1
noncomputable def kC (t : Nat) (r : Res) (σ : H) : Bool := isE2 r && (talB σ t && oL.call 8 [pt t, evV 6 1 40 1] σ (k1 t))
noncomputable def kB (t : Nat) (r : Res) (σ : H) : Bool := isE2 r && oL.call 7 [.int .i64 64, .int .i64 0, oneX] σ (kC t)
noncomputable def kA (r : Res) (σ : H) : Bool := tup2 r fun t e => pB t fun t => iB e (fun e => eqI e 0) && oL.call 7 [.int .i64 63, .int .i64 20, oneX] σ (kB t)
section
variable [Aw]
theorem oL_run (hW : ∀ k, Aw.own k = ownA k) {k : Nat} {args : List Value} {σ : H} {K : Res → H → Bool} (h : oL.call k args σ K = true) : Ru k args σ fun r σ' => K r σ' = true := by
  unfold oL at h
  exact run_of (V := ovN) (n := 100000) hW ovN_ok h
end
theorem kA_of {r : Res} {σ : H} (h : kA r σ = true) : ∃ t, r = .ok (.tuple #[pt t, .int .i64 0]) ∧ oL.call 7 [.int .i64 63, .int .i64 20, oneX] σ (kB t) = true := by
  unfold kA at h
  obtain ⟨v, e, hr, h2⟩ := tup2_of h
  obtain ⟨t, ht, h3⟩ := pB_of h2
  rw [Bool.and_eq_true] at h3
  obtain ⟨e', he, h4⟩ := iB_of h3.1
  rw [eqI_eq] at h4
  refine ⟨t, ?_, h3.2⟩
  rw [hr, ht, he, of_decide_eq_true h4]; rfl
theorem isE2_of {r : Res} (h : isE2 r = true) : ∃ v, r = .ok (.tuple #[v, .int .i64 1]) := by
  unfold isE2 at h
  obtain ⟨v, e, hr, h2⟩ := tup2_of h
  obtain ⟨e', he, h4⟩ := iB_of h2
  rw [eqI_eq] at h4
  exact ⟨v, by rw [hr, he, of_decide_eq_true h4]⟩
theorem kB_of {t : Nat} {r : Res} {σ : H} (h : kB t r σ = true) : (∃ v, r = .ok (.tuple #[v, .int .i64 1])) ∧ oL.call 7 [.int .i64 64, .int .i64 0, oneX] σ (kC t) = true := by
  unfold kB at h
  rw [Bool.and_eq_true] at h
  exact ⟨isE2_of h.1, h.2⟩
theorem kC_of {t : Nat} {r : Res} {σ : H} (h : kC t r σ = true) : (∃ v, r = .ok (.tuple #[v, .int .i64 1])) ∧ talB σ t = true ∧ oL.call 8 [pt t, evV 6 1 40 1] σ (k1 t) = true := by
  unfold kC at h
  rw [Bool.and_eq_true, Bool.and_eq_true] at h
  exact ⟨isE2_of h.1, h.2⟩
theorem k1_of {t : Nat} {r : Res} {σ : H} (h : k1 t r σ = true) : r = .ok (.int .i64 0) ∧ oL.call 8 [pt t, evV 8 0 0 0] σ (k2 t) = true := by
  unfold k1 at h
  rw [Bool.and_eq_true] at h
  exact ⟨isE_of h.1, h.2⟩
theorem k2_of {t : Nat} {r : Res} {σ : H} (h : k2 t r σ = true) : r = .ok (.int .i64 5) ∧ oL.call 8 [pt t, evV 3 0 0 0] σ (k3 t) = true := by
  unfold k2 at h
  rw [Bool.and_eq_true] at h
  exact ⟨isE_of h.1, h.2⟩
theorem k3_of {t : Nat} {r : Res} {σ : H} (h : k3 t r σ = true) : r = .ok (.int .i64 9) ∧ oL.call 8 [pt t, evV 6 1 40 1] σ (k4 t) = true := by
  unfold k3 at h
  rw [Bool.and_eq_true] at h
  exact ⟨isE_of h.1, h.2⟩
theorem k4_of {t : Nat} {r : Res} {σ : H} (h : k4 t r σ = true) : r = .ok (.int .i64 0) ∧ oL.call 8 [pt t, evV 5 0 0 0] σ (k5 t) = true := by
  unfold k4 at h
  rw [Bool.and_eq_true] at h
  exact ⟨isE_of h.1, h.2⟩
theorem k5_of {t : Nat} {r : Res} {σ : H} (h : k5 t r σ = true) : r = .ok (.int .i64 0) ∧ oL.call 9 [pt t] σ (k6 t) = true := by
  unfold k5 at h
  rw [Bool.and_eq_true] at h
  exact ⟨isE_of h.1, h.2⟩
theorem k6_of {t : Nat} {r : Res} {σ : H} (h : k6 t r σ = true) : (∃ b, r = .ok (.pointer (some ⟨b, 0, none⟩))) ∧ oL.call 8 [pt t, evV 6 64 0 0] σ (fun r _ => isE 1 r) = true := by
  unfold k6 at h
  rw [Bool.and_eq_true] at h
  exact ⟨isP_of h.1, h.2⟩
theorem talB_of {t : Nat} {σ : H} (h : talB σ t = true) : 0 < t ∧ t < σ.next ∧ ∃ p dv ty, σ.get t = some (.cells [.pointer (some ⟨p, 0, none⟩), dv] ty 2 .exact) := by
  unfold talB at h
  rw [Bool.and_eq_true, Bool.and_eq_true, nblt, nblt] at h
  obtain ⟨h1, h2, h3⟩ := h
  obtain ⟨c, ty, hg, h4⟩ := cB_of h3
  obtain ⟨p, dv, hc, h5⟩ := two_of h4
  obtain ⟨p', hp, _⟩ := pB_of h5
  exact ⟨of_decide_eq_true h1, of_decide_eq_true h2, p', dv, ty, by rw [hg, hc, hp]⟩
set_option maxHeartbeats 4000000 in
theorem tale_k (o1 o2 : Obj) : oL.call 7 [.int .i64 64, .int .i64 20, oneX] ((h0.push o1).push o2) kA = true := by kernel_rfl
end AM
end Go.Proofs.YtlelihddjacplaaGreat
