/- The law TaleData, walked. -/
import Derived.Test.YtlelihddjacplaaGreatTpJ
import Derived.Test.YtlelihddjacplaaGreatTpF
set_option linter.unusedVariables false
namespace Go.Proofs.YtlelihddjacplaaGreat
namespace AM
section
variable [Aw]
theorem taledata_run {σ : H} (h0 : σ.next ≠ 0) (n : Int) (m b : Nat) (hb : b < 256) (hm : m < 65536) (ha : ∀ σ : H, prim (.bin .and) [.int .i64 n, .int .i64 65535] σ = some (.int .i64 (m : Int), σ)) :
    Ru 5 [.int .i64 n, .int .u8 (b : Int)] σ fun r σ' => r = .ok (.slice (some ⟨σ.next, 0, none⟩) 128 128) ∧ σ' = σ.push (rowD b m 128) := by
  refine ru_fn (F := f5) rfl rfl rfl (by simp) ?_
  have hnew := prim_newSlice (σ := σ) (elem := 5) (esz := 1) (bytes := 1) (z := [.int .u8 0]) (n := 128) .i64 .i64 (by decide) (by omega)
  have hrow : Obj.cells (lrep [.int .u8 0] 128) 5 1 .exact = rowD b m 0 := by
    rw [rowD, dl_zero, lrep_one, List.map_replicate]; rfl
  rw [hrow] at hnew
  simp at hnew
  simp [f5, hnew]
  refine wp_loop (α := Nat) (fun i e σ1 => i ≤ 128 ∧ e = [(0, .int .i64 n), (1, .int .u8 (b : Int)), (5, .slice (some ⟨σ.next, 0, none⟩) 128 128), (9, .int .i64 128), (10, .int .i64 (i : Int))] ∧ σ1 = σ.push (rowD b m i)) (fun i => 128 - i) 0 ⟨by omega, by simp, rfl⟩ ?_
  rintro i e σ1 ⟨hi, rfl, rfl⟩
  refine wp_of _ _ _ _ ?_
  simp [l5_0]
  refine WpB.dec (fun h4 => ?_) (fun h4 => ?_)
  · have h4' : i < 128 := by omega
    have hmul : i * m ≤ 127 * 65535 := Nat.mul_le_mul (by omega) (by omega)
    obtain ⟨p, hp⟩ : ∃ p, p = i * m := ⟨_, rfl⟩
    rw [← hp] at hmul
    have w1 : IntKind.i64.wrap ((i : Int) * (m : Int)) = (p : Int) := by rw [← Int.natCast_mul, ← hp]; exact wrap64 (by omega) (by omega)
    obtain ⟨q, hq⟩ : ∃ q, q = p / 16 := ⟨_, rfl⟩
    have w2 : ((p : Nat) : Int).tdiv 16 = (q : Int) := by rw [hq]; exact tdiv_nat p 16
    have w3 : IntKind.i64.wrap (q : Int) = (q : Int) := wrap64 (by omega) (by omega)
    obtain ⟨x, hx⟩ : ∃ x, x = (b + q) % 256 := ⟨_, rfl⟩
    have w4 : IntKind.u8.wrap ((b : Int) + ((md .u8 q : Nat) : Int)) = (x : Int) := by rw [md8, wrapU8]; omega
    have w5 : IntKind.i64.wrap ((i : Int) + 1) = ((i + 1 : Nat) : Int) := by rw [wrap64 (by omega) (by omega)]; omega
    obtain ⟨ob, k1, k2⟩ := rowD_put σ b m i h4' x (by rw [hx, hq, hp]; simp [dv, UInt8.toNat_ofNat'])
    simp [ha, w1, w2, w3, w4, w5, h4', k1, k2]
    exact ⟨i + 1, ⟨by omega, by simp, rfl⟩, by omega⟩
  · have : i = 128 := by omega
    subst this
    simp
theorem beneath_none {σ : H} {t : Nat} (d : Int) (e5 : ¬ d = 5) (e8 : ¬ d = 8) (e6 : ¬ d = 6) (e7 : ¬ d = 7) :
    Ru 15 [pt t, evV d 0 0 0] σ fun r σ' => r = .ok (.tuple #[.int .i64 0, .bool false]) ∧ Same0 σ σ' := by
  have hbx : ∀ σ : H, prim (.box 34 6) [.agg ⟨[.int .i64 d, .int .i64 0, .int .i64 0, .int .u8 0, .slice none 0 0, .int .u32 0]⟩] σ = some (.pointer (some ⟨σ.next, 0, none⟩), σ.push (.cells [.int .i64 d, .int .i64 0, .int .i64 0, .int .u8 0, .slice none 0 0, .int .u32 0] 34 6 .exact)) := fun _ => rfl
  unfold pt evV
  refine ru_fn (F := f15) rfl rfl rfl (by simp) ?_
  simp [-prim_box, hbx, f15, e5, e8, e6, e7]
  exact (Same.refl _ _).push _
theorem bad_do {σ : H} {t p ty : Nat} {dv : Value} (ht : t < σ.next) (h0 : t ≠ 0) (hg : σ.get t = some (.cells [.pointer (some ⟨p, 0, none⟩), dv] ty 2 .exact)) (d : Int) (hd : d < 1 ∨ 9 < d) :
    Ru 8 [pt t, evV d 0 0 0] σ fun r σ' => r = .ok (.int .i64 1) := by
  have e5 : ¬ d = 5 := by omega
  have e8 : ¬ d = 8 := by omega
  have e6 : ¬ d = 6 := by omega
  have e7 : ¬ d = 7 := by omega
  unfold pt evV
  refine ru_fn (F := f8) rfl rfl rfl (by simp) ?_
  have hne : t ≠ σ.next := by omega
  have hbx : ∀ σ : H, prim (.box 34 6) [.agg ⟨[.int .i64 d, .int .i64 0, .int .i64 0, .int .u8 0, .slice none 0 0, .int .u32 0]⟩] σ = some (.pointer (some ⟨σ.next, 0, none⟩), σ.push (.cells [.int .i64 d, .int .i64 0, .int .i64 0, .int .u8 0, .slice none 0 0, .int .u32 0] 34 6 .exact)) := fun _ => rfl
  have hld : prim (.load true 6) [.pointer (some ⟨σ.next, 0, none⟩)] (σ.push (.cells [.int .i64 d, .int .i64 0, .int .i64 0, .int .u8 0, .slice none 0 0, .int .u32 0] 34 6 .exact)) = some (.agg ⟨[.int .i64 d, .int .i64 0, .int .i64 0, .int .u8 0, .slice none 0 0, .int .u32 0]⟩, σ.push (.cells [.int .i64 d, .int .i64 0, .int .i64 0, .int .u8 0, .slice none 0 0, .int .u32 0] 34 6 .exact)) := by simp
  simp [-prim_box, hbx, hld, f8, hg, hne, ht]
  refine (beneath_none d e5 e8 e6 e7).mono ?_
  · rintro r σ1 ⟨rfl, hs⟩
    have hgE : σ1.get σ.next = some (.cells [.int .i64 d, .int .i64 0, .int .i64 0, .int .u8 0, .slice none 0 0, .int .u32 0] 34 6 .exact) := by
      rw [hs.get _ (by simp) (fun h => h)]; simp
    rcases hd with h | h
    · simp [hgE, h]
    · have h1 : ¬ d < 1 := by omega
      simp [hgE, h, h1]
set_option maxHeartbeats 2000000 in
theorem td_law (ha : ∀ σ, Ru 4 [] σ fun r σ' => r = .ok (.bool true) ∧ σ' = σ) (hW : ∀ k, Aw.own k = ownA k) (n : Int) (b : Nat) (d : Int) (hb : b < 256) :
    Ru 3 [.int .i64 n, .int .u8 (b : Int), .int .i64 d] h0 fun r σ' => r = .ok (.bool true) := by
  refine ru_fn (F := f3) rfl rfl rfl (by simp) ?_
  simp [f3]
  refine (ha h0).mono ?_
  rintro r σ1 ⟨rfl, rfl⟩
  simp
  obtain ⟨m, hm, hA⟩ := and16 n
  refine (taledata_run (by decide) n m b hb hm hA).mono ?_
  rintro r σ1 ⟨rfl, rfl⟩
  have fresh : ∀ σ : H, σ.next ≠ 0 → Byts (σ.push (rowD b m 128)) (.slice (some ⟨σ.next, 0, none⟩) 128 128) (dl b m 128) := fun σ hn => by
    have := Sl.fresh (σ := σ) hn ((dl b m 128).map bv) 5 1 128 .exact (by simp [dl_len])
    simpa [Byts, rowD] using this
  have b1 := fresh h0 (by decide)
  obtain ⟨σ1, hσ1⟩ : ∃ σ1, σ1 = h0.push (rowD b m 128) := ⟨_, rfl⟩
  have hn1 : σ1.next ≠ 0 := by rw [hσ1]; simp
  have b2 := fresh σ1 hn1
  have b1' : Byts (σ1.push (rowD b m 128)) (.slice (some ⟨h0.next, 0, none⟩) 128 128) (dl b m 128) := by
    rw [← hσ1] at b1
    exact b1.same0 ((Same.refl _ _).push _)
  have s1 := prim_toStr b1
  have s2 := prim_toStr b2
  have s3 := prim_toStr b1'
  rw [← hσ1] at s1 ⊢
  simp [s1, mobOk, keepR, still]
  refine (refdata_run hn1 n m b hb hm hA).mono ?_
  rintro r σ2 ⟨rfl, rfl⟩
  simp [s2, s3, mobOk, keepR, still]
  have hk := oL_run hW (tale_k (rowD b m 128) (rowD b m 128))
  rw [hσ1]
  have hfe : ∀ d, fillL [Value.int .i64 0, Value.int .i64 0, Value.int .i64 0, Value.int .u8 0, Value.slice none 0 0, Value.int .u32 0] [(0, 1)] [Value.int .i64 d] = some [Value.int .i64 d, Value.int .i64 0, Value.int .i64 0, Value.int .u8 0, Value.slice none 0 0, Value.int .u32 0] := fun d => rfl
  have hf6 : fillL [Value.int .i64 0, Value.int .i64 0, Value.int .i64 0, Value.int .u8 0, Value.slice none 0 0, Value.int .u32 0] [(0, 1), (1, 1), (2, 1), (5, 1)] [Value.int .i64 6, Value.int .i64 1, Value.int .i64 40, Value.int .u32 1] = some [Value.int .i64 6, Value.int .i64 1, Value.int .i64 40, Value.int .u8 0, Value.slice none 0 0, Value.int .u32 1] := rfl
  have hf7 : fillL [Value.int .i64 0, Value.int .i64 0, Value.int .i64 0, Value.int .u8 0, Value.slice none 0 0, Value.int .u32 0] [(0, 1), (1, 1)] [Value.int .i64 6, Value.int .i64 64] = some [Value.int .i64 6, Value.int .i64 64, Value.int .i64 0, Value.int .u8 0, Value.slice none 0 0, Value.int .u32 0] := rfl
  refine ⟨⟨by simp [rigid, rigidC], by simp [same, sameC]⟩, ?_⟩
  refine hk.mono ?_
  intro r σ hh
  have h := kA_of hh
  clear hh
  obtain ⟨t, rfl, h⟩ := h
  simp [pt]
  have hx := oL_run hW h
  refine hx.mono ?_
  clear hx
  intro r σ hh
  have h := kB_of hh
  clear hh
  obtain ⟨⟨v1, rfl⟩, h⟩ := h
  simp
  have hx := oL_run hW h
  refine hx.mono ?_
  clear hx
  intro r σ hh
  have h := kC_of hh
  clear hh
  obtain ⟨⟨v2, rfl⟩, h2, h⟩ := h
  obtain ⟨ht0, ht, p, dv, ty, hg⟩ := talB_of h2
  simp
  by_cases hd : d < 1 ∨ 9 < d
  · have hb := bad_do ht (Nat.ne_of_gt ht0) hg d hd
    unfold pt evV at hb
    rcases Classical.em (d < 1) with hd1 | hd1
    · simp [hd1, hfe]
      refine hb.mono ?_
      rintro r σ' rfl
      simp
    · have hd9 : 9 < d := hd.resolve_left hd1
      simp [hd9, hd1, hfe]
      refine hb.mono ?_
      rintro r σ' rfl
      simp
  · have h1 : ¬ d < 1 := fun e => hd (.inl e)
    have h9 : ¬ 9 < d := fun e => hd (.inr e)
    simp [h1, h9, hf6]
    have hx := oL_run hW h
    refine hx.mono ?_
    clear hx
    intro r σ hh
    have h := k1_of hh
    clear hh
    obtain ⟨rfl, h⟩ := h
    simp [hfe]
    have hx := oL_run hW h
    refine hx.mono ?_
    clear hx
    intro r σ hh
    have h := k2_of hh
    clear hh
    obtain ⟨rfl, h⟩ := h
    simp [hfe]
    have hx := oL_run hW h
    refine hx.mono ?_
    clear hx
    intro r σ hh
    have h := k3_of hh
    clear hh
    obtain ⟨rfl, h⟩ := h
    simp [hf6]
    have hx := oL_run hW h
    refine hx.mono ?_
    clear hx
    intro r σ hh
    have h := k4_of hh
    clear hh
    obtain ⟨rfl, h⟩ := h
    simp [hfe]
    have hx := oL_run hW h
    refine hx.mono ?_
    clear hx
    intro r σ hh
    have h := k5_of hh
    clear hh
    obtain ⟨rfl, h⟩ := h
    simp
    have hx := oL_run hW h
    refine hx.mono ?_
    clear hx
    intro r σ hh
    have h := k6_of hh
    clear hh
    obtain ⟨⟨dd, rfl⟩, h⟩ := h
    simp [hf7]
    have hx := oL_run hW h
    refine hx.mono ?_
    clear hx
    intro r σ hh
    have h := isE_of hh
    clear hh
    subst h
    simp
end
end AM
end Go.Proofs.YtlelihddjacplaaGreat
