/- A new device of 30 sectors, and its reads: the kernel follows them. -/
import Derived.Test.YtdbbkaeoinalpaaGreatDaF
import Derived.Test.YtdbbkaeoinalpaaGreatDaG
import Derived.Test.YtdbbkaeoinalpaaGreatDaI
import Derived.KernelRfl
set_option linter.unusedVariables false
namespace Go.Proofs.YtdbbkaeoinalpaaGreat
namespace AM
/-- 'awake' is true. -/
noncomputable def awakeT (vs : List Value) (σ : H) : Option (Res × H) := match vs with
  | [] => some (.ok (.bool true), σ)
  | _ => none
/-- Where the law is walked: its test has been made. -/
noncomputable def ownA : OwnT := fun k => match Nat.beq k 156 with
  | true => some (sortedV 3 [215, 314])
  | false => match Nat.beq k 13 with
    | true => some awakeT
    | false => none
/-! ### What is looked for on the heap -/
noncomputable def pB (v : Value) (K : Nat → Bool) : Bool := match v with
  | .pointer (some ⟨b, o, none⟩) => Nat.beq o 0 && K b
  | _ => false
noncomputable def iB (v : Value) (K : Int → Bool) : Bool := match v with
  | .int k n => sameK k .i64 && K n
  | _ => false
noncomputable def flB (v : Value) (K : Nat → Bool) : Bool := match v with
  | .float .f64 b => K b
  | _ => false
noncomputable def exM (m : Mode) : Bool := match m with
  | .exact => true
  | _ => false
noncomputable def cB (o : Option Obj) (z : Nat) (K : List Value → Bool) : Bool := match o with
  | some (.cells c _ s m) => Nat.beq s z && (exM m && K c)
  | _ => false
theorem pB_of {v : Value} {K : Nat → Bool} (h : pB v K = true) : ∃ b, v = .pointer (some ⟨b, 0, none⟩) ∧ K b = true := by
  unfold pB at h
  split at h
  · simp only [Bool.and_eq_true, nbeq, decide_eq_true_eq] at h
    obtain ⟨rfl, h⟩ := h
    exact ⟨_, rfl, h⟩
  · cases h
theorem iB_of {v : Value} {K : Int → Bool} (h : iB v K = true) : ∃ n, v = .int .i64 n ∧ K n = true := by
  unfold iB at h
  split at h
  · simp only [Bool.and_eq_true, sameK_eq, decide_eq_true_eq] at h
    obtain ⟨rfl, h⟩ := h
    exact ⟨_, rfl, h⟩
  · cases h
theorem flB_of {v : Value} {K : Nat → Bool} (h : flB v K = true) : ∃ n, v = .float .f64 n ∧ K n = true := by
  unfold flB at h
  split at h
  · exact ⟨_, rfl, h⟩
  · cases h
theorem cB_of {o : Option Obj} {z : Nat} {K : List Value → Bool} (h : cB o z K = true) : ∃ c t, o = some (.cells c t z .exact) ∧ K c = true := by
  unfold cB at h
  split at h
  · rename_i c t s m
    simp only [Bool.and_eq_true, nbeq, decide_eq_true_eq] at h
    obtain ⟨rfl, h1, h2⟩ := h
    cases m <;> first | exact ⟨_, _, rfl, h2⟩ | cases h1
  · cases h
noncomputable def two (c : List Value) (K : Value → Value → Bool) : Bool := match c with
  | [a, b] => K a b
  | _ => false
noncomputable def three (c : List Value) (K : Value → Value → Value → Bool) : Bool := match c with
  | [a, b, d] => K a b d
  | _ => false
theorem two_of {c : List Value} {K : Value → Value → Bool} (h : two c K = true) : ∃ a b, c = [a, b] ∧ K a b = true := by
  unfold two at h
  split at h
  · exact ⟨_, _, rfl, h⟩
  · cases h
theorem three_of {c : List Value} {K : Value → Value → Value → Bool} (h : three c K = true) : ∃ a b d, c = [a, b, d] ∧ K a b d = true := by
  unfold three at h
  split at h
  · exact ⟨_, _, _, rfl, h⟩
  · cases h
noncomputable def emptyM (o : Option Obj) : Bool := match o with
  | some (.map [] _) => true
  | _ => false
noncomputable def emptyS (v : Value) : Bool := match v with
  | .slice _ n _ => Nat.beq n 0
  | _ => false
noncomputable def notFz (v : Value) : Bool := match v with
  | .bool b => !b
  | _ => false
/-- The engine's cells. -/
noncomputable def engB (c : List Value) (K : Crn → Bool) : Bool := match c with
  | _ :: g :: bl :: s :: ga :: at_ :: n :: kg :: hh :: _ :: _ :: sl :: fz :: r => match r with
    | [] => pB sl fun _ => notFz fz && iB g fun g => iB bl fun bl => iB s fun s => flB ga fun ga => iB at_ fun at_ => iB n fun n => iB kg fun kg => iB hh fun hh => eqI s 30 && K ⟨g, bl, s, ga, at_, n, kg, hh⟩
    | _ => false
  | _ => false
noncomputable def shp (σ : H) (d m : Nat) (K : Crn → Bool) : Bool :=
  Nat.blt d σ.next && (Nat.blt m σ.next && (cB (σ.get d) 2 fun c => two c fun x y => pB x fun e => pB y fun b =>
    Nat.blt e σ.next && (Nat.blt b σ.next && (cB (σ.get b) 2 fun c => two c fun x y => iB x fun most => eqI most 64 && (match y with
      | .map (some mm) => Nat.blt mm σ.next && emptyM (σ.get mm)
      | _ => false)) && (cB (σ.get m) 3 fun c => three c fun _ _ z => pB z fun w => Nat.blt w σ.next && (cB (σ.get w) 2 fun c => two c fun _ l => emptyS l)) && cB (σ.get e) 13 fun c => engB c K)))
/-- All numbers below one. -/
noncomputable def allN (f : Nat → Bool) : Nat → Bool
  | 0 => true
  | n + 1 => f n && allN f n
theorem allN_of {f : Nat → Bool} : ∀ {n : Nat}, allN f n = true → ∀ i, i < n → f i = true
  | n + 1, h, i, hi => by
    simp only [allN, Bool.and_eq_true] at h
    by_cases e : i = n
    · subst e; exact h.1
    · exact allN_of h.2 i (by omega)
noncomputable def three3 (r : Res) (K : Nat → Nat → Bool) : Bool := match r with
  | .ok (.tuple ⟨c⟩) => three c fun _ d m => pB d fun d => pB m fun m => K d m
  | _ => false
noncomputable def isRd (r : Res) : Bool := match r with
  | .ok (.tuple ⟨c⟩) => two c fun _ e => iB e fun e => eqI e 0
  | _ => false
noncomputable def chk (row : List Value) (r : Res) (σ : H) : Bool :=
  three3 r fun d m => shp σ d m fun c => allN (fun s => (orcK ownA ovS 100000).call 17 [.pointer (some ⟨d, 0, none⟩), .int .i64 (.ofNat s)] (crnH (crnH (σ.push (.cells row 5 1 .exact)) c) c) fun r σ' => isRd r && shp σ' d m fun _ => true) 30
set_option maxHeartbeats 4000000 in
theorem fresh_k (row : List Value) : kCallF (orcK ownA ovS 100000) 14 [.int .i64 256, .int .i64 30, .float .f64 4607182418800017408] h0 (chk row) = true := by kernel_rfl
end AM
end Go.Proofs.YtdbbkaeoinalpaaGreat
