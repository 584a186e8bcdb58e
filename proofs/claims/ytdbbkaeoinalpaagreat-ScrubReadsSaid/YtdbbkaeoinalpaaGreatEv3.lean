/- The run that the kernel follows: sums are taken at once. -/
import Derived.Test.YtdbbkaeoinalpaaGreatEv2
import Derived.Test.YtdbbkaeoinalpaaGreatC1
set_option linter.unusedVariables false
namespace Go.Proofs.YtdbbkaeoinalpaaGreat
namespace AM
variable [Aw]
noncomputable section
def cr1 (r : Nat) : Nat := @Bool.rec (fun _ => Nat) (Nat.xor ((r - 2147483648) * 2) 1947962583) (r * 2) (Nat.blt r 2147483648)
def cr8 (r : Nat) (K : Nat → Bool) : Bool :=
  fN (cr1 r) fun r => fN (cr1 r) fun r => fN (cr1 r) fun r => fN (cr1 r) fun r => fN (cr1 r) fun r => fN (cr1 r) fun r => fN (cr1 r) fun r => fN (cr1 r) K
/-- A byte. -/
def vU (v : Value) (K : Nat → Bool) : Bool := vI v (fun k n => @Bool.rec (fun _ => Bool) false (@Int.rec (fun _ => Bool) (fun n => @Bool.rec (fun _ => Bool) false (K n) (Nat.blt n 256)) (fun _ => false) n) (Nat.beq (kN k) 4)) false
def crL : List Value → Nat → (Nat → Bool) → Bool :=
  @List.rec Value (fun _ => Nat → (Nat → Bool) → Bool) (fun r K => K r) (fun v _ ih r K => vU v fun n => cr8 (Nat.xor r (n * 16777216)) fun r => ih r K)
def sumK (vs : List Value) (σ : H) (K : Res → H → Bool) : Bool :=
  match vs with
  | [.slice (some ⟨b, o, none⟩) n c] => match Nat.beq b 0 || (Nat.ble σ.next b || (Nat.blt c n || Nat.ble 1000000 n)) with
    | true => false
    | false => tget σ.t b fun ob => match ob with
      | .cells c0 e s m => match Nat.beq s 1 with
        | true => kcut c0 o c fun cc => ktake cc n fun l => crL l 4294967295 fun r => fN (Nat.xor r 4294967295) fun r => K (.ok (.int .u32 (.ofNat r))) σ
        | false => false
      | _ => false
  | _ => false
omit [Aw] in
theorem and_two (r i : Nat) : r &&& 2 ^ i = (r.testBit i).toNat * 2 ^ i := by
  apply Nat.eq_of_testBit_eq
  intro j
  rw [Nat.testBit_and, Nat.testBit_two_pow]
  by_cases h : i = j
  · subst h
    cases hb : r.testBit i <;> simp
  · cases hb : r.testBit i <;> simp [h]
omit [Aw] in
theorem top32 {r : Nat} (h : r < 4294967296) : r &&& 2147483648 = if r < 2147483648 then 0 else 2147483648 := by
  have h1 := and_two r 31
  rw [Nat.testBit_eq_decide_div_mod_eq] at h1
  rw [show (2147483648 : Nat) = 2 ^ 31 from by decide, h1]
  by_cases h2 : r < 2 ^ 31
  · rw [if_pos h2, decide_eq_false (by omega)]; rfl
  · rw [if_neg h2, decide_eq_true (by omega)]; rfl
omit [Aw] in
theorem cr1_eq {r : Nat} (h : r < 4294967296) : cr1 r = crc1 r := by
  unfold cr1 crc1
  rw [top32 h, md32, nblt]
  by_cases h2 : r < 2147483648
  · rw [decide_eq_true h2, if_pos h2, if_neg (by simp)]
    show r * 2 = _
    omega
  · rw [decide_eq_false h2, if_neg h2, if_pos (by simp)]
    show Nat.xor ((r - 2147483648) * 2) 1947962583 = _
    rw [show (r - 2147483648) * 2 = r * 2 % 4294967296 from by omega]
    rfl
omit [Aw] in
theorem cr8_eq {r : Nat} (h : r < 4294967296) (K : Nat → Bool) : cr8 r K = K (crcN 8 r) := by
  simp only [cr8, fN_eq, crcN]
  rw [cr1_eq h, cr1_eq crc1_lt, cr1_eq crc1_lt, cr1_eq crc1_lt, cr1_eq crc1_lt, cr1_eq crc1_lt, cr1_eq crc1_lt, cr1_eq crc1_lt]
omit [Aw] in
theorem vU_of {v : Value} {K : Nat → Bool} (h : vU v K = true) : ∃ b : UInt8, v = bv b ∧ K b.toNat = true := by
  unfold vU at h
  rcases vI_of h with ⟨k, n, hv, h1⟩ | h1
  · cases hk : Nat.beq (kN k) 4 with
    | false => rw [hk] at h1; cases h1
    | true =>
      rw [hk] at h1
      have e : k = .u8 := by cases k <;> first | rfl | cases hk
      subst e
      cases n with
      | negSucc n => cases h1
      | ofNat n =>
        replace h1 : @Bool.rec (fun _ => Bool) false (K n) (Nat.blt n 256) = true := h1
        cases hn : Nat.blt n 256 with
        | false => rw [hn] at h1; cases h1
        | true =>
          rw [hn] at h1
          rw [nblt] at hn
          have hn := of_decide_eq_true hn
          have e2 : (UInt8.ofNat n).toNat = n := by simp; omega
          exact ⟨UInt8.ofNat n, by rw [hv, bv, e2]; rfl, by rw [e2]; exact h1⟩
  · cases h1
omit [Aw] in
theorem crL_of : ∀ {l : List Value} {r : Nat} {K : Nat → Bool}, r < 4294967296 → crL l r K = true → ∃ xs : List UInt8, l = xs.map bv ∧ K (crcR r xs) = true
  | [], r, K, hr, h => ⟨[], rfl, h⟩
  | v :: l, r, K, hr, h => by
    obtain ⟨b, hv, h1⟩ := vU_of (v := v) (K := fun n => cr8 (Nat.xor r (n * 16777216)) fun r => crL l r K) h
    have hb := UInt8.toNat_lt b
    have e : md .u32 (b.toNat * 16777216) = b.toNat * 16777216 := by rw [md32]; omega
    have h3 : Nat.xor r (b.toNat * 16777216) < 4294967296 := Nat.xor_lt_two_pow (n := 32) hr (by omega)
    rw [cr8_eq h3] at h1
    obtain ⟨xs, h4, h5⟩ := crL_of (crcN_lt h3) h1
    refine ⟨b :: xs, by rw [hv, h4]; rfl, ?_⟩
    show K (crcR (crcB r b) xs) = true
    rw [crcB, e]
    exact h5
omit [Aw] in
theorem ktake_some : ∀ {l : List Value} {n : Nat} {r : List Value}, ltake l n = some r → n ≤ l.length ∧ r = l.take n
  | l, 0, r, h => by cases l <;> (simp [ltake] at h; subst h; simp)
  | [], n + 1, r, h => by simp [ltake] at h
  | v :: l, n + 1, r, h => by
    simp only [ltake] at h
    cases ht : ltake l n with
    | none => rw [ht] at h; cases h
    | some r' =>
      rw [ht] at h
      cases h
      obtain ⟨h1, h2⟩ := ktake_some ht
      exact ⟨by simp; omega, by simp [h2]⟩
omit [Aw] in
theorem kcut_some : ∀ {l : List Value} {o n : Nat} {r : List Value}, lcut l o n = some r → o + n ≤ l.length ∧ r = (l.drop o).take n
  | l, 0, n, r, h => by
    have h : ltake l n = some r := by cases l <;> simpa [lcut] using h
    obtain ⟨h1, h2⟩ := ktake_some h
    exact ⟨by omega, by simpa using h2⟩
  | [], o + 1, n, r, h => by cases n <;> simp [lcut] at h
  | v :: l, o + 1, n, r, h => by
    simp only [lcut] at h
    obtain ⟨h1, h2⟩ := kcut_some h
    exact ⟨by simp; omega, by simpa using h2⟩
theorem sumK_of {vs : List Value} {σ : H} {K : Res → H → Bool} (h : sumK vs σ K = true) : Ru 185 vs σ fun r σ' => K r σ' = true := by
  unfold sumK at h
  split at h
  · rename_i b o n c
    split at h
    · cases h
    · rename_i hc
      simp only [Bool.or_eq_false_iff, nbeq, nble, nblt, decide_eq_false_iff_not] at hc
      obtain ⟨hb, hlt, hn, hm⟩ := hc
      obtain ⟨ob, ho, h1⟩ := tget_of h
      split at h1
      · rename_i c0 e s m
        split at h1
        · rename_i hs
          rw [nbeq] at hs
          have hs := of_decide_eq_true hs
          subst hs
          obtain ⟨cc, h2, h3⟩ := kcut_of h1
          obtain ⟨l, h4, h5⟩ := ktake_of h3
          obtain ⟨xs, h6, h7⟩ := crL_of (by decide) h5
          obtain ⟨h8, h9⟩ := kcut_some h2
          obtain ⟨h10, h11⟩ := ktake_some h4
          rw [fN_eq] at h7
          have hl : xs.length = n := by
            have := congrArg List.length (h6.symm.trans h11)
            simp at this; omega
          have hby : Byts σ (.slice (some ⟨b, o, none⟩) n c) xs := by
            refine ⟨_, n, c, cc, rfl, ?_, by omega, by rw [← h6, h11, Nat.mul_one]⟩
            have := SlP.row (σ := σ) (esz := 1) b o c e c0 m hb (by omega) ho (by omega)
            rw [Nat.mul_one] at this
            rw [h9]; exact this
          refine (sum_run hby (by omega)).mono ?_
          rintro r σ' ⟨rfl, rfl⟩
          exact h7
        · cases h1
      · cases h1
  · cases h
/-- Sums at once. -/
def ovS : Ov := fun k => @Bool.rec (fun _ => Option (List Value → H → (Res → H → Bool) → Bool)) none (some sumK) (Nat.beq k 185)
theorem ovS_ok : OvOK ovS := by
  intro k f hf args σ K h
  unfold ovS at hf
  cases hk : Nat.beq k 185 with
  | false => rw [hk] at hf; cases hf
  | true =>
    rw [hk] at hf
    cases hf
    rw [nbeq] at hk
    have hk := of_decide_eq_true hk
    subst hk
    exact sumK_of h
end
end AM
end Go.Proofs.YtdbbkaeoinalpaaGreat
