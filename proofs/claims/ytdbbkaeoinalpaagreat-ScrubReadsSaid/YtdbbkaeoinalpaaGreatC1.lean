/- Contracts: tally. -/
import Derived.Test.YtdbbkaeoinalpaaGreatWp5
set_option linter.unusedVariables false
namespace Go.Proofs.YtdbbkaeoinalpaaGreat
namespace AM
variable [Aw]

/-! ### The sum -/
noncomputable def crc1 (r : Nat) : Nat := if r &&& 2147483648 ≠ 0 then md .u32 (r * 2) ^^^ 1947962583 else md .u32 (r * 2)
noncomputable def crcN : Nat → Nat → Nat
  | 0, r => r
  | n + 1, r => crc1 (crcN n r)
noncomputable def crcB (r : Nat) (b : UInt8) : Nat := crcN 8 (r ^^^ md .u32 (b.toNat * 16777216))
noncomputable def crcR (r : Nat) (xs : List UInt8) : Nat := xs.foldl crcB r
noncomputable def more (s : Nat) (xs : List UInt8) : Nat := crcR (s ^^^ 4294967295) xs ^^^ 4294967295

omit [Aw] in
theorem crc1_lt {r : Nat} : crc1 r < 4294967296 := by
  unfold crc1
  split
  · exact Nat.xor_lt_two_pow (n := 32) (md_lt32 _) (by omega)
  · exact md_lt32 _
omit [Aw] in
theorem crcN_lt {n r : Nat} (h : r < 4294967296) : crcN n r < 4294967296 := by
  cases n with
  | zero => exact h
  | succ n => exact crc1_lt
omit [Aw] in
theorem crcB_lt {r : Nat} {b : UInt8} (h : r < 4294967296) : crcB r b < 4294967296 := crcN_lt (Nat.xor_lt_two_pow (n := 32) h (md_lt32 _))
omit [Aw] in
theorem crcR_lt : ∀ {xs : List UInt8} {r : Nat}, r < 4294967296 → crcR r xs < 4294967296
  | [], _, h => h
  | b :: xs, r, h => crcR_lt (xs := xs) (crcB_lt h)
omit [Aw] in
theorem crcR_snoc (r : Nat) (xs : List UInt8) (b : UInt8) : crcR r (xs ++ [b]) = crcB (crcR r xs) b := by simp [crcR]
omit [Aw] in
theorem take_succ_get {α : Type} (xs : List α) {i : Nat} (h : i < xs.length) : xs.take (i + 1) = xs.take i ++ [xs[i]] := by
  rw [List.take_succ_eq_append_getElem h]
omit [Aw] in
theorem more_lt {s : Nat} (h : s < 4294967296) (xs : List UInt8) : more s xs < 4294967296 :=
  Nat.xor_lt_two_pow (n := 32) (crcR_lt (Nat.xor_lt_two_pow (n := 32) h (by decide))) (by decide)

theorem more_run (s : Nat) (hs : s < 4294967296) {σ : H} {v : Value} {xs : List UInt8} (hb : Byts σ v xs) (hl : xs.length < 1000000000) : Ru 241 [.int .u32 s, v] σ fun r σ' => r = .ok (.int .u32 (more s xs : Nat)) ∧ σ' = σ := by
  obtain ⟨p, c, rfl⟩ := hb.form
  have hs1 : s ^^^ 4294967295 < 4294967296 := Nat.xor_lt_two_pow (n := 32) hs (by decide)
  refine ru_fn (F := f241) rfl rfl rfl (by simp) ?_
  simp [f241, prim_compl32, hs]
  refine wp_loop (α := Nat) (fun i e σ1 => σ1 = σ ∧ i ≤ xs.length ∧ e = [(5, .int .u32 (crcR (s ^^^ 4294967295) (xs.take i) : Nat)), (11, .slice p xs.length c), (12, .int .i64 xs.length), (13, .int .i64 i)]) (fun i => xs.length - i) 0 (by simp [crcR]) ?_
  rintro i e σ1 ⟨rfl, hi, rfl⟩
  have hr : crcR (s ^^^ 4294967295) (xs.take i) < 4294967296 := crcR_lt hs1
  refine wp_of _ _ _ _ ?_
  simp [l241_1]
  refine WpB.dec (fun h => ?_) (fun h => ?_)
  · have h : i < xs.length := by omega
    obtain ⟨b, o, rfl, _, _, hx⟩ := hb.cell h
    simp [h, hx]
    generalize hrr : crcR (s ^^^ 4294967295) (xs.take i) = r at *
    simp [prim_xor, hr]
    have h3 : r ^^^ md .u32 (xs[i].toNat * 16777216) < 4294967296 := Nat.xor_lt_two_pow (n := 32) hr (md_lt32 _)
    generalize hr0 : r ^^^ md .u32 (xs[i].toNat * 16777216) = r0 at *
    refine wp_loop (α := Nat) (fun j e σ2 => σ2 = σ1 ∧ j ≤ 8 ∧ e = [(5, .int .u32 (crcN j r0 : Nat)), (11, .slice (some ⟨b, o, none⟩) xs.length c), (12, .int .i64 xs.length), (13, .int .i64 i), (22, .int .i64 j)]) (fun j => 8 - j) 0 (by simp [crcN]) ?_
    rintro j e σ2 ⟨rfl, hj, rfl⟩
    have hrj : crcN j r0 < 4294967296 := crcN_lt h3
    refine wp_of _ _ _ _ ?_
    simp [l241_0]
    refine WpB.dec (fun h8 => ?_) (fun h8 => ?_)
    · simp [hrj]
      generalize hq : crcN j r0 = q at *
      by_cases hz : q &&& 2147483648 = 0
      · simp [hz]
        rw [wrap64 (by omega) (by omega)]
        refine ⟨j + 1, ⟨by omega, ?_, by simp⟩, by omega⟩
        simp [crcN, crc1, hq, hz]
      · simp [hz]
        rw [wrap64 (by omega) (by omega)]
        refine ⟨j + 1, ⟨by omega, ?_, by simp⟩, by omega⟩
        simp [crcN, crc1, hq, hz]
    · have : j = 8 := by omega
      subst this
      simp
      rw [wrap64 (by omega) (by omega)]
      refine ⟨i + 1, ⟨by omega, ?_, by simp⟩, by omega⟩
      rw [take_succ_get _ (by omega), crcR_snoc]
      simp [crcB, hrr, hr0]
  · have : i = xs.length := by omega
    subst this
    simp at hr
    simp [more, prim_compl32, hr]
theorem sum_run {σ : H} {v : Value} {xs : List UInt8} (hb : Byts σ v xs) (hl : xs.length < 1000000000) : Ru 185 [v] σ fun r σ' => r = .ok (.int .u32 (more 0 xs : Nat)) ∧ σ' = σ := by
  refine ru_fn (F := f185) rfl rfl rfl (by simp) ?_
  simp [f185]
  refine (more_run 0 (by decide) hb hl).mono ?_
  rintro r σ' ⟨rfl, rfl⟩
  simp
end AM
end Go.Proofs.YtdbbkaeoinalpaaGreat
