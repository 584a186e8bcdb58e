/- Parts: Shelf, Sorted. -/
import Derived.Test.YtdbbkaeoinalpaaGreatDaL
import Derived.Shelf.SlIterI.Nil
import Derived.Shelf.SortM.Plain
import Derived.Shelf.SortM.SortNone
import Derived.Ground.GgzProg
import Derived.Ground.SlgmProg
import Derived.Test.YtdbbkaeoinalpaaGreatProg
set_option linter.unusedVariables false
namespace Go.Proofs
open Go.Shelf
def Tryz.keysA_ren : Go.Shelf.Ren := ⟨fun | 7 => 157 | 10 => 215 | n => n, fun | 23 => 160 | 26 => 3 | 3 => 40 | 28 => 250 | 0 => 0 | 27 => 148 | 33 => 149 | 4 => 4 | n => n, fun | n => n⟩
theorem Tryz.keysA : Go.Proofs.SlLaysZI.n7 Tryz.prog Tryz.keysA_ren := {
  mixed := by kernel_rfl
  f7 := ⟨Tryz.f157.name, by decide, Tryz.func157.trans (congrArg some (by kernel_rfl))⟩
  f10 := ⟨Tryz.f215.name, by decide, Tryz.func215.trans (congrArg some (by kernel_rfl))⟩
  t0 := Tryz.underlying0
  a0 := Tryz.isAgg0
  z0 := Tryz.sizeOf0
  v0 := Tryz.zeroValue0
  t4 := Tryz.underlying4
  a4 := Tryz.isAgg4
  z4 := Tryz.sizeOf4
  v4 := Tryz.zeroValue4
  t23 := Tryz.underlying160
  a23 := Tryz.isAgg160
  z23 := Tryz.sizeOf160
  v23 := Tryz.zeroValue160
  t26 := Tryz.underlying3
  a26 := Tryz.isAgg3
  z26 := Tryz.sizeOf3
  v26 := Tryz.zeroValue3
  t27 := Tryz.underlying148
  a27 := Tryz.isAgg148
  z27 := Tryz.sizeOf148
  v27 := Tryz.zeroValue148
  t28 := Tryz.underlying250
  a28 := Tryz.isAgg250
  z28 := Tryz.sizeOf250
  v28 := Tryz.zeroValue250
  t33 := Tryz.underlying149
  a33 := Tryz.isAgg149
  z33 := Tryz.sizeOf149
  v33 := Tryz.zeroValue149 }
def Tryz.keysB_ren : Go.Shelf.Ren := ⟨fun | 7 => 273 | 10 => 314 | n => n, fun | 23 => 233 | 26 => 3 | 3 => 254 | 28 => 250 | 0 => 0 | 27 => 148 | 33 => 149 | 4 => 4 | n => n, fun | n => n⟩
theorem Tryz.keysB : Go.Proofs.SlLaysZI.n7 Tryz.prog Tryz.keysB_ren := {
  mixed := by kernel_rfl
  f7 := ⟨Tryz.f273.name, by decide, Tryz.func273.trans (congrArg some (by kernel_rfl))⟩
  f10 := ⟨Tryz.f314.name, by decide, Tryz.func314.trans (congrArg some (by kernel_rfl))⟩
  t0 := Tryz.underlying0
  a0 := Tryz.isAgg0
  z0 := Tryz.sizeOf0
  v0 := Tryz.zeroValue0
  t4 := Tryz.underlying4
  a4 := Tryz.isAgg4
  z4 := Tryz.sizeOf4
  v4 := Tryz.zeroValue4
  t23 := Tryz.underlying233
  a23 := Tryz.isAgg233
  z23 := Tryz.sizeOf233
  v23 := Tryz.zeroValue233
  t26 := Tryz.underlying3
  a26 := Tryz.isAgg3
  z26 := Tryz.sizeOf3
  v26 := Tryz.zeroValue3
  t27 := Tryz.underlying148
  a27 := Tryz.isAgg148
  z27 := Tryz.sizeOf148
  v27 := Tryz.zeroValue148
  t28 := Tryz.underlying250
  a28 := Tryz.isAgg250
  z28 := Tryz.sizeOf250
  v28 := Tryz.zeroValue250
  t33 := Tryz.underlying149
  a33 := Tryz.isAgg149
  z33 := Tryz.sizeOf149
  v33 := Tryz.zeroValue149 }
def Tryz.sortedA_ren : Go.Shelf.Ren := ⟨fun | 6 => 156 | 8 => 213 | 9 => 214 | 11 => 257 | 13 => 259 | 12 => 258 | 23 => 302 | 24 => 303 | 14 => 293 | 15 => 294 | 16 => 295 | 17 => 296 | 18 => 297 | 19 => 298 | 20 => 299 | 21 => 300 | 22 => 301 | 25 => 325 | 26 => 326 | 27 => 327 | 28 => 328 | 29 => 329 | 30 => 148 | 31 => 340 | n => n, fun | 26 => 3 | 28 => 250 | 24 => 68 | 0 => 0 | 3 => 3 | 37 => 307 | 48 => 282 | 50 => 280 | 4 => 4 | 40 => 392 | 39 => 391 | 45 => 145 | 5 => 5 | 9 => 9 | 51 => 419 | 55 => 423 | 57 => 437 | 58 => 438 | 33 => 149 | n => n, fun | n => n⟩
theorem Tryz.sortedA : Go.Proofs.SlLaysZI.n6 Tryz.prog Tryz.sortedA_ren := {
  mixed := by kernel_rfl
  f6 := ⟨Tryz.f156.name, by decide, Tryz.func156.trans (congrArg some (by kernel_rfl))⟩
  f8 := ⟨Tryz.f213.name, by decide, Tryz.func213.trans (congrArg some (by kernel_rfl))⟩
  f11 := ⟨Tryz.f257.name, by decide, Tryz.func257.trans (congrArg some (by kernel_rfl))⟩
  t0 := Tryz.underlying0
  a0 := Tryz.isAgg0
  z0 := Tryz.sizeOf0
  v0 := Tryz.zeroValue0
  t24 := Tryz.underlying68
  a24 := Tryz.isAgg68
  z24 := Tryz.sizeOf68
  v24 := Tryz.zeroValue68
  t26 := Tryz.underlying3
  a26 := Tryz.isAgg3
  z26 := Tryz.sizeOf3
  v26 := Tryz.zeroValue3
  t28 := Tryz.underlying250
  a28 := Tryz.isAgg250
  z28 := Tryz.sizeOf250
  v28 := Tryz.zeroValue250
  i26 := by kernel_rfl }
def Tryz.sortA_ren : Go.Shelf.Ren := ⟨fun | 5 => 214 | 8 => 259 | 7 => 258 | 19 => 302 | 20 => 303 | 10 => 293 | 11 => 294 | 12 => 295 | 13 => 296 | 14 => 297 | 15 => 298 | 16 => 299 | 17 => 300 | 18 => 301 | 30 => 325 | 31 => 326 | 32 => 327 | 33 => 328 | 34 => 329 | 35 => 148 | 40 => 340 | n => n, fun | 23 => 68 | 25 => 3 | 3 => 3 | 32 => 307 | 22 => 68 | 0 => 0 | 44 => 282 | 46 => 280 | 4 => 4 | 36 => 392 | 35 => 391 | 41 => 145 | 5 => 5 | 9 => 9 | 53 => 419 | 57 => 423 | 63 => 437 | 64 => 438 | n => n, fun | n => n⟩
theorem Tryz.sortA : Go.Proofs.SlLaysM.n5 Tryz.prog Tryz.sortA_ren := {
  mixed := by kernel_rfl
  f5 := ⟨Tryz.f214.name, by decide, Tryz.func214.trans (congrArg some (by kernel_rfl))⟩
  f7 := ⟨Tryz.f258.name, by decide, Tryz.func258.trans (congrArg some (by kernel_rfl))⟩
  f8 := Tryz.func259.trans (congrArg some (by kernel_rfl))
  f10 := ⟨Tryz.f293.name, by decide, Tryz.func293.trans (congrArg some (by kernel_rfl))⟩
  f11 := ⟨Tryz.f294.name, by decide, Tryz.func294.trans (congrArg some (by kernel_rfl))⟩
  f12 := ⟨Tryz.f295.name, by decide, Tryz.func295.trans (congrArg some (by kernel_rfl))⟩
  f13 := ⟨Tryz.f296.name, by decide, Tryz.func296.trans (congrArg some (by kernel_rfl))⟩
  f14 := ⟨Tryz.f297.name, by decide, Tryz.func297.trans (congrArg some (by kernel_rfl))⟩
  f15 := ⟨Tryz.f298.name, by decide, Tryz.func298.trans (congrArg some (by kernel_rfl))⟩
  f16 := ⟨Tryz.f299.name, by decide, Tryz.func299.trans (congrArg some (by kernel_rfl))⟩
  f17 := ⟨Tryz.f300.name, by decide, Tryz.func300.trans (congrArg some (by kernel_rfl))⟩
  f18 := ⟨Tryz.f301.name, by decide, Tryz.func301.trans (congrArg some (by kernel_rfl))⟩
  f19 := Tryz.func302.trans (congrArg some (by kernel_rfl))
  f20 := Tryz.func303.trans (congrArg some (by kernel_rfl))
  f30 := ⟨Tryz.f325.name, by decide, Tryz.func325.trans (congrArg some (by kernel_rfl))⟩
  f31 := Tryz.func326.trans (congrArg some (by kernel_rfl))
  f32 := Tryz.func327.trans (congrArg some (by kernel_rfl))
  f33 := ⟨Tryz.f328.name, by decide, Tryz.func328.trans (congrArg some (by kernel_rfl))⟩
  f34 := ⟨Tryz.f329.name, by decide, Tryz.func329.trans (congrArg some (by kernel_rfl))⟩
  f35 := ⟨Tryz.f148.name, by decide, Tryz.func148.trans (congrArg some (by kernel_rfl))⟩
  f40 := ⟨Tryz.f340.name, by decide, Tryz.func340.trans (congrArg some (by kernel_rfl))⟩
  t0 := Tryz.underlying0
  a0 := Tryz.isAgg0
  z0 := Tryz.sizeOf0
  v0 := Tryz.zeroValue0
  t3 := Tryz.underlying3
  a3 := Tryz.isAgg3
  z3 := Tryz.sizeOf3
  v3 := Tryz.zeroValue3
  t4 := Tryz.underlying4
  a4 := Tryz.isAgg4
  z4 := Tryz.sizeOf4
  v4 := Tryz.zeroValue4
  t5 := Tryz.underlying5
  a5 := Tryz.isAgg5
  z5 := Tryz.sizeOf5
  v5 := Tryz.zeroValue5
  t9 := Tryz.underlying9
  a9 := Tryz.isAgg9
  z9 := Tryz.sizeOf9
  v9 := Tryz.zeroValue9
  t22 := Tryz.underlying68
  a22 := Tryz.isAgg68
  z22 := Tryz.sizeOf68
  v22 := Tryz.zeroValue68
  t23 := Tryz.underlying68
  a23 := Tryz.isAgg68
  z23 := Tryz.sizeOf68
  v23 := Tryz.zeroValue68
  t25 := Tryz.underlying3
  a25 := Tryz.isAgg3
  z25 := Tryz.sizeOf3
  v25 := Tryz.zeroValue3
  t32 := Tryz.underlying307
  a32 := Tryz.isAgg307
  z32 := Tryz.sizeOf307
  v32 := Tryz.zeroValue307
  t35 := Tryz.underlying391
  a35 := Tryz.isAgg391
  z35 := Tryz.sizeOf391
  v35 := Tryz.zeroValue391
  t36 := Tryz.underlying392
  a36 := Tryz.isAgg392
  z36 := Tryz.sizeOf392
  v36 := Tryz.zeroValue392
  t41 := Tryz.underlying145
  a41 := Tryz.isAgg145
  z41 := Tryz.sizeOf145
  v41 := Tryz.zeroValue145
  t44 := Tryz.underlying282
  a44 := Tryz.isAgg282
  z44 := Tryz.sizeOf282
  v44 := Tryz.zeroValue282
  t46 := Tryz.underlying280
  a46 := Tryz.isAgg280
  z46 := Tryz.sizeOf280
  v46 := Tryz.zeroValue280
  t53 := Tryz.underlying419
  a53 := Tryz.isAgg419
  z53 := Tryz.sizeOf419
  v53 := Tryz.zeroValue419
  t57 := Tryz.underlying423
  a57 := Tryz.isAgg423
  z57 := Tryz.sizeOf423
  v57 := Tryz.zeroValue423
  t63 := Tryz.underlying437
  a63 := Tryz.isAgg437
  z63 := Tryz.sizeOf437
  v63 := Tryz.zeroValue437
  t64 := Tryz.underlying438
  a64 := Tryz.isAgg438
  z64 := Tryz.sizeOf438
  v64 := Tryz.zeroValue438 }
end Go.Proofs
namespace Go.Proofs.YtdbbkaeoinalpaaGreat
namespace AM
open Go.RowKit Go.Maps Go.Sort Go.Shelf
theorem R.kept {ι : Inj} {σ : H} {w w' : World} (h : R ι σ w) (hs : w.heap.size ≤ w'.heap.size) (hk : ∀ b, b < w.heap.size → w'.heap[b]? = w.heap[b]?) : R ι σ w' where
  pos := h.pos
  zero := h.zero
  dom := h.dom
  lt := h.lt
  obj := fun A o hg hd => by
    obtain ⟨bk, hb, ho⟩ := h.obj A o hg hd
    exact ⟨bk, hb, ho.of_heap (hk _ (h.blt A bk hb))⟩
  inj := h.inj
  blt := fun A bk hb => Nat.lt_of_lt_of_le (h.blt A bk hb) hs
theorem Ext.below {ι : Inj} {w w' : World} (h : Below w.heap.size w w') : Ext ι w ι w' :=
  ⟨Sub.refl _, h.os, h.tape, h.output, h.size, fun b hb _ => h.block b hb, fun A bk h1 h2 => by rw [h1] at h2; cases h2⟩
theorem R.below {ι : Inj} {σ : H} {w w' : World} (h : R ι σ w) (hb : Below w.heap.size w w') : R ι σ w' := h.kept hb.size hb.block

/-! ### Sorting -/
theorem insI_perm (x : Int) : ∀ l : List Int, (insI x l).Perm (x :: l)
  | [] => .refl _
  | y :: r => by
    unfold insI
    split
    · exact .refl _
    · exact ((insI_perm x r).cons y).trans (.swap x y r)
theorem sortI_perm : ∀ l : List Int, (sortI l).Perm l
  | [] => .refl _
  | x :: r => (insI_perm x _).trans ((sortI_perm r).cons x)
theorem insI_sorted (x : Int) : ∀ l : List Int, l.Pairwise (· ≤ ·) → (insI x l).Pairwise (· ≤ ·)
  | [], _ => by simp [insI]
  | y :: r, h => by
    unfold insI
    have h1 := List.pairwise_cons.1 h
    split
    · rename_i hc
      have hxy : x ≤ y := of_decide_eq_true hc
      refine List.pairwise_cons.2 ⟨fun z hz => ?_, h⟩
      rcases List.mem_cons.1 hz with rfl | hz
      · exact hxy
      · exact Int.le_trans hxy (h1.1 z hz)
    · rename_i hc
      have hxy : ¬ x ≤ y := of_decide_eq_false hc
      refine List.pairwise_cons.2 ⟨fun z hz => ?_, insI_sorted x r h1.2⟩
      have := (insI_perm x r).mem_iff.1 hz
      rcases List.mem_cons.1 this with rfl | hz
      · omega
      · exact h1.1 z hz
theorem sortI_sorted : ∀ l : List Int, (sortI l).Pairwise (· ≤ ·)
  | [] => .nil
  | x :: r => insI_sorted x _ (sortI_sorted r)
theorem sortI_eq {l ss : List Int} (hp : ss.Perm l) : ss.mergeSort (fun x y => decide (x ≤ y)) = sortI l := by
  have tr : ∀ a b c : Int, decide (a ≤ b) = true → decide (b ≤ c) = true → decide (a ≤ c) = true := fun a b c h1 h2 => by simp only [decide_eq_true_eq] at *; omega
  have to : ∀ a b : Int, (decide (a ≤ b) || decide (b ≤ a)) = true := fun a b => by simp only [Bool.or_eq_true, decide_eq_true_eq]; omega
  have h1 := List.pairwise_mergeSort (le := fun x y : Int => decide (x ≤ y)) tr to ss
  refine List.Perm.eq_of_pairwise (le := fun a b : Int => a ≤ b) (fun a b _ _ h1 h2 => Int.le_antisymm h1 h2) (h1.imp fun h => by simpa using h) (sortI_sorted l) ?_
  exact ((List.mergeSort_perm ss _).trans hp).trans (sortI_perm l).symm

/-! ### The keys -/
theorem hasI_mem (x : Int) : ∀ l : List Int, hasI x l = false → x ∉ l
  | [], _ => by simp
  | y :: r, h => by
    unfold hasI at h
    rw [eqI_eq] at h
    split at h
    · cases h
    · rename_i hc
      have hne : x ≠ y := of_decide_eq_false hc
      simp only [List.mem_cons, not_or]
      exact ⟨hne, hasI_mem x r h⟩
theorem freshI_ok : ∀ l : List Int, freshI l = true → l.Nodup ∧ ∀ x ∈ l, -9223372036854775808 ≤ x ∧ x ≤ 9223372036854775807
  | [], _ => by simp
  | x :: r, h => by
    unfold freshI at h
    split at h
    · cases h
    · rename_i hc
      obtain ⟨h1, h2⟩ := freshI_ok r h
      simp only [Bool.or_eq_false_iff, ltI_eq, decide_eq_false_iff_not] at hc
      refine ⟨List.nodup_cons.2 ⟨hasI_mem x r hc.1, h1⟩, fun y hy => ?_⟩
      rcases List.mem_cons.1 hy with rfl | hy
      · omega
      · exact h2 y hy
theorem bornOk_ok (clk : Nat) : ∀ (es : List MapEntry) (lo : Nat), bornOk clk lo es = true → (∀ x ∈ es, lo ≤ x.born ∧ x.born < clk) ∧ (es.map (·.born)).Nodup ∧ lo ≤ clk
  | [], lo, h => by
    unfold bornOk at h
    rw [nble] at h
    exact ⟨by simp, by simp, of_decide_eq_true h⟩
  | e :: es, lo, h => by
    unfold bornOk at h
    split at h
    · rename_i hc
      rw [nble] at hc
      have hc := of_decide_eq_true hc
      obtain ⟨h1, h2, h3⟩ := bornOk_ok clk es (e.born + 1) h
      refine ⟨fun x hx => ?_, ?_, by omega⟩
      · rcases List.mem_cons.1 hx with rfl | hx
        · omega
        · have := h1 x hx; omega
      · simp only [List.map_cons]
        refine List.nodup_cons.2 ⟨fun hm => ?_, h2⟩
        obtain ⟨x, hx, he⟩ := List.mem_map.1 hm
        have := h1 x hx
        omega
    · cases h
theorem keysI_ok : ∀ (es : List MapEntry) (l : List Int), keysI es = some l → es.map (·.key) = l.map (Value.int .i64)
  | [], l, h => by simp only [keysI, Option.some.injEq] at h; subst h; rfl
  | e :: es, l, h => by
    unfold keysI at h
    split at h
    · rename_i n hk
      split at h
      · rename_i l' hl
        cases h
        simp [hk, keysI_ok es l' hl]
      · cases h
    · cases h
theorem EsR.keys {ι : Inj} : ∀ {es es' : List MapEntry} {l : List Int}, EsR ι es es' → es.map (·.key) = l.map (Value.int .i64) → es'.map (·.key) = l.map (Value.int .i64)
  | _, _, l, .nil, h => h
  | _, _, [], .cons .., h => by simp at h
  | _, _, x :: l, .cons (e := e) (e' := e') hk hv hb hr, h => by
    simp only [List.map_cons, List.cons.injEq] at h ⊢
    refine ⟨?_, hr.keys h.2⟩
    rw [h.1] at hk
    revert hk
    generalize e'.key = y
    intro hk
    cases hk
    rfl
theorem EsR.borns {ι : Inj} : ∀ {es es' : List MapEntry}, EsR ι es es' → es'.map (·.born) = es.map (·.born)
  | _, _, .nil => rfl
  | _, _, .cons hk hv hb hr => by simp [hb, hr.borns]
theorem EsR.len {ι : Inj} : ∀ {es es' : List MapEntry}, EsR ι es es' → es'.length = es.length
  | _, _, .nil => rfl
  | _, _, .cons hk hv hb hr => by simp [hr.len]
/-- How values are read here: not at all. -/
def anyR (_ : Value) : Option (DataW Unit × List MemPlace) := some (.lit (.bool true), [])
theorem key_rd {P : Program} {k : TypeId} (hk : P.underlying k = some (.int .i64)) {x : MapEntry} {n : Int} (he : x.key = .int .i64 n) (h1 : -9223372036854775808 ≤ n ∧ n ≤ 9223372036854775807) :
    Go.WideElems.rd P k anyR x = some (.int .i64 n, .lit (.bool true)) := by
  have hw : (Lit.int .i64 n).wf = true := by
    simp [Lit.wf, IntKind.min, IntKind.max, IntKind.bits, IntKind.signed]
    omega
  simp [Go.WideElems.rd, he, keyOf, hk, mapKey, hw, anyR]
theorem map_rg {P : Program} {k : TypeId} (hk : P.underlying k = some (.int .i64)) : ∀ {es : List MapEntry} {l : List Int}, es.map (·.key) = l.map (Value.int .i64) → (∀ x ∈ l, -9223372036854775808 ≤ x ∧ x ≤ 9223372036854775807) →
    es.map (Go.WideElems.rg P k anyR) = l.map fun n => (Lit.int .i64 n, DataW.lit (.bool true))
  | [], [], _, _ => rfl
  | [], _ :: _, h, _ => by simp at h
  | _ :: _, [], h, _ => by simp at h
  | e :: es, n :: l, h, hr => by
    simp only [List.map_cons, List.cons.injEq] at h ⊢
    exact ⟨Go.WideElems.rg_of (key_rd hk h.1 (hr n (by simp))), map_rg hk h.2 fun x hx => hr x (by simp [hx])⟩
theorem insert_keys {H : Type} (p : Lit × DataW H) : ∀ l : List (Lit × DataW H), ((DataW.insert p l).map fun q => _root_.Go.intOf q.1).Perm (_root_.Go.intOf p.1 :: l.map fun q => _root_.Go.intOf q.1)
  | [] => .refl _
  | y :: r => by
    unfold DataW.insert
    split
    · exact .refl _
    · exact ((insert_keys p r).cons _).trans (.swap _ _ _)
theorem sorted_keys {H : Type} : ∀ l : List (Lit × DataW H), ((l.foldr DataW.insert []).map fun q => _root_.Go.intOf q.1).Perm (l.map fun q => _root_.Go.intOf q.1)
  | [] => .refl _
  | p :: l => (insert_keys p _).trans ((sorted_keys l).cons _)

/-- The answer's row, as an object. -/
theorem R.rowOwned {ι : Inj} {σ : H} {w w' : World} (h : R ι σ w) (hb : Below w.heap.size w w') {t elem : Nat} {v : Value} {l : List Int} (hne : l ≠ [])
    (hrow : w'.ownsRow w.heap.size t 1 v l.length (l.map (Value.int .i64))) :
    ∃ ι', Ext ι w ι' w' ∧ R ι' (σ.push (.cells (l.map (Value.int .i64)) elem 1 .grown)) w' ∧ VR ι' (.slice (some ⟨σ.next, 0, none⟩) l.length l.length) v := by
  obtain ⟨_, ⟨rfl, hz⟩ | ⟨g, cap, cur, rfl, hg, hh, h1, h2, h3, h4⟩⟩ := hrow
  · exact absurd (List.eq_nil_of_length_eq_zero hz) hne
  have hr := h.below hb
  let bk : Bk := ⟨g, 0, l.length, 1, cap - l.length, false⟩
  have hlt : g < w'.heap.size := (Array.getElem?_eq_some_iff.1 hh).1
  have hbind := hr.bind (.cells (l.map (Value.int .i64)) elem 1 .grown) bk rfl hlt ⟨cur, (0, 0), t, hh, by simp [bk], rfl, by simp [bk], fun _ => rfl, by simp, by
      show 0 + (l.map (Value.int .i64)).length + (cap - l.length) * 1 ≤ cur.size
      simp; omega, fun i v hv => by
      rw [← h4] at hv
      have hi : i < l.length * 1 := by
        have := (List.getElem?_eq_some_iff.1 hv).1
        simp at this; omega
      rw [List.getElem?_take_of_lt hi, Array.getElem?_toList] at hv
      refine ⟨v, by rw [show bk.base + i = i from Nat.zero_add i]; exact hv, ?_⟩
      have hv2 : (l.map (Value.int .i64))[i]? = some v := by
        rw [← h4, List.getElem?_take_of_lt hi, Array.getElem?_toList]; exact hv
      rw [List.getElem?_map] at hv2
      cases hn : l[i]? with
      | none => rw [hn] at hv2; cases hv2
      | some n => rw [hn] at hv2; cases hv2; exact .int _ _, fun h => by cases h⟩ (by
      intro A oA bA hA dA iA e
      have := h.blt A bA iA
      have hge : g ≥ w.heap.size := hg
      have : bA.blk = g := e
      omega)
  have hcap : capOf bk 0 l.length = cap := by
    show l.length + (if 0 + l.length * 1 = l.length then cap - l.length else 0) = cap
    rw [if_pos (by omega)]; omega
  refine ⟨_, ⟨Inj.set_sub h.fresh, hb.os, hb.tape, hb.output, hb.size, fun b hlt _ => hb.block b hlt, fun A b i1 i2 => ?_⟩, hbind, ?_⟩
  · unfold Inj.set at i2
    split at i2
    · cases i2; exact ⟨rfl, .inl hg⟩
    · rw [i1] at i2; cases i2
  · have h0 : σ.next ≠ 0 := by have := h.pos; omega
    have := VR.slice (ι := ι.set σ.next bk) (o := 0) (n := l.length) (c := l.length) h0 (Inj.set_same _ _ _)
    rw [hcap] at this
    exact this
theorem sortsA (m : Nat) : AnyZI.SortsIn Tryz.prog Tryz.sortedA_ren Fence.wide m :=
  ⟨fun blk off cap ss W hH hblk hsz => callsIn_wide.2 (AnyM.slices_Sort_int Tryz.sortA blk off cap ss W hH hblk hsz),
   fun p cap W => callsIn_wide.2 (AnyM.slices_Sort_int_none Tryz.sortA p cap W)⟩
theorem has156 : ∃ fn, Tryz.prog.funcs[156]? = some fn ∧ fn.body.isSome = true ∧ fn.name ≠ "runtime.NumGoroutine" :=
  ⟨Tryz.f156, by kernel_rfl, by kernel_rfl, by
    have : (Tryz.f156.name == "runtime.NumGoroutine") = false := by kernel_rfl
    simpa using this⟩
theorem u3 : Tryz.prog.underlying 3 = some (.int .i64) := by kernel_rfl
/-- What the library's contract says of any sequence. -/
theorem sorted_seq {w : World} {g : Nat} {lb : Array Value} (eg : ∀ args w, (callFunc g args).run Tryz.prog w = .ok (.enter g args) w) (S : List Int → Prop) (N : Nat) (hN : N ≤ maxLen) (hNb : N * 8 ≤ 140737488355328)
    (hseq : SeqGives Fence.wide 2 Tryz.prog g lb encZ S N w) :
    Calls Tryz.prog 156 #[.func (.func g) #[] lb] w fun e w' => ∃ (v : Value) (ss : List Int), e = .returned v ∧ S ss ∧ w'.ownsRow w.heap.size 3 1 v ss.length ((ss.mergeSort (fun x y => decide (x ≤ y))).map encZ) ∧ (v = .slice none 0 0 ↔ ss = []) ∧ Below w.heap.size w w' :=
  (callsIn_wide (n := 5)).1 (AnyZI.sorted_in Tryz.sortedA Fence.wide 5 trivial trivial trivial trivial rfl (by omega) (sortsA _) (enters_of Tryz.func214 (by kernel_rfl) rfl) g lb trivial eg S N hN hNb w hseq)
theorem gives_nil {w : World} {Bm : Nat} (hBm : Bm < w.heap.size) (hm : w.cell? ⟨Bm, 0, none⟩ = some (.map none)) (g : Nat) (hg : g = 215 ∨ g = 314) :
    SeqGives Fence.wide 2 Tryz.prog g #[.pointer (some ⟨Bm, 0, none⟩)] encZ (fun ss : List Int => ss = []) 0 w := by
  rcases hg with rfl | rfl
  · exact AnyZI.keys_gives_nil (ρ := Tryz.keysA_ren) { Tryz.keysA with } Fence.wide _ trivial rfl Bm w hBm hm
  · exact AnyZI.keys_gives_nil (ρ := Tryz.keysB_ren) { Tryz.keysB with } Fence.wide _ trivial rfl Bm w hBm hm
theorem gives {w : World} {Bm b nn : Nat} {D0 : DataW Unit} (hBm : Bm < w.heap.size) (hm : w.cell? ⟨Bm, 0, none⟩ = some (.map (some b))) (hown : w.ownsMap Tryz.prog 3 anyR b nn D0) (g : Nat) (hg : g = 215 ∨ g = 314) :
    SeqGives Fence.wide 2 Tryz.prog g #[.pointer (some ⟨Bm, 0, none⟩)] encZ (fun ss => ss.Perm (intKeys D0)) (Maps.size D0) w := by
  rcases hg with rfl | rfl
  · exact AnyZI.keys_gives (ρ := Tryz.keysA_ren) { Tryz.keysA with } Fence.wide _ trivial rfl (by omega) Bm b nn D0 w hBm hm hown
  · exact AnyZI.keys_gives (ρ := Tryz.keysB_ren) { Tryz.keysB with } Fence.wide _ trivial rfl (by omega) Bm b nn D0 w hBm hm hown
theorem enters_g (g : Nat) (hg : g = 215 ∨ g = 314) : ∀ args w, (callFunc g args).run Tryz.prog w = .ok (.enter g args) w := by
  rcases hg with rfl | rfl
  · exact enters_of Tryz.func215 (by kernel_rfl) rfl
  · exact enters_of Tryz.func314 (by kernel_rfl) rfl
theorem sorted_own : OwnOK Tryz.prog 156 (sortedV 3 [215, 314]) := by
  refine ⟨has156, fun {args σ r σ'} h ι args' w hr hv => ?_⟩
  unfold sortedV at h
  split at h
  case h_2 => cases h
  rename_i f a
  split at h
  · cases h
  rename_i hf
  have hg : f = 215 ∨ f = 314 := by simpa using hf
  split at h
  case h_2 => cases h
  rename_i mp te sz hga
  -- the box
  obtain ⟨bk, hA, blk, fz, te', hc⟩ := hr.obj a _ hga (by simp)
  have hb0 : bk.base = 0 := hc.base0 rfl
  have hlt := hr.blt a bk hA
  cases hv with
  | cons hv0 hvr =>
  cases hvr
  cases hv0 with
  | func _ h1 h2 =>
  cases h1
  cases h2 with
  | cons hp hpr =>
  cases hpr
  cases hp with
  | ptr hA' =>
  rw [hA] at hA'; cases hA'
  rw [hb0]
  obtain ⟨v', hb1, hb2⟩ := hc.cells 0 _ rfl
  rw [hb0] at hb1
  have hcell : w.cell? ⟨bk.blk, 0, none⟩ = some v' := by
    simp only [World.cell?, hc.heap, Option.isSome_none, Bool.false_eq_true, if_false]
    exact hb1
  have none_ans : ∀ {g : Nat} {S : List Int → Prop} {N : Nat}, Calls Tryz.prog 156 #[.func (.func g) #[] #[.pointer (some ⟨bk.blk, 0, none⟩)]] w (fun e w' => ∃ (v : Value) (ss : List Int), e = .returned v ∧ S ss ∧ w'.ownsRow w.heap.size 3 1 v ss.length ((ss.mergeSort (fun x y => decide (x ≤ y))).map encZ) ∧ (v = .slice none 0 0 ↔ ss = []) ∧ Below w.heap.size w w') → (∀ ss, S ss → ss = []) →
      Calls Tryz.prog 156 #[.func (.func g) #[] #[.pointer (some ⟨bk.blk, 0, none⟩)]] w (CallR ι w (.ok (.slice none 0 0)) σ) := by
    intro g S N hC hS
    refine hC.mono ?_
    rintro e w' ⟨v, ss, rfl, h1, _, h3, h4⟩
    rw [h3.2 (hS ss h1)]
    exact ⟨ι, .below h4, hr.below h4, .nils _ _⟩
  split at h
  · -- the nil map
    cases h
    cases hb2
    exact none_ans (N := 0) (sorted_seq (enters_g f hg) _ 0 (Nat.zero_le _) (by omega) (gives_nil hlt hcell f hg)) (fun ss hs => hs)
  rename_i m
  split at h
  case h_2 => cases h
  rename_i es clk hgm
  obtain ⟨bm, hM, es', hh, _, hE⟩ := hr.obj m _ hgm (by simp)
  cases hb2 with
  | map hM' =>
  rw [hM] at hM'; cases hM'
  split at h
  · cases h
  · -- no key
    rename_i hk
    cases h
    have hnil := keysI_ok es [] hk
    have hes : es' = #[] := by
      have h1 := hE.len
      have h2 : es.length = 0 := by simpa using congrArg List.length hnil
      rw [h2] at h1
      simpa using h1
    have hown : w.ownsMap Tryz.prog 3 anyR bm.blk 0 (.map []) := ⟨es', clk, hh, by subst hes; exact ⟨by simp, MapKept.stamped_empty _, by simp⟩, by simp [hes], by simp [hes]⟩
    exact none_ans (N := 0) (sorted_seq (enters_g f hg) _ _ (Nat.zero_le _) (by simp [Maps.size]) (gives hlt hcell hown f hg)) (fun ss hs => by simpa [intKeys] using hs)
  rename_i k ks hk
  split at h
  case h_2 => cases h
  rename_i hck
  cases h
  simp only [Bool.and_eq_true, nble] at hck
  obtain ⟨hroom, hborn, hfresh⟩ := hck
  have hroom := of_decide_eq_true hroom
  obtain ⟨l, hl⟩ : ∃ l, l = k :: ks := ⟨_, rfl⟩
  rw [← hl] at hk hroom hfresh ⊢
  have hne : l ≠ [] := by rw [hl]; simp
  have hkeys := keysI_ok es l hk
  have hkeys' := hE.keys hkeys
  obtain ⟨hnd, hrange⟩ := freshI_ok l hfresh
  obtain ⟨hb3, hb4, _⟩ := bornOk_ok clk es 0 hborn
  have hlen : es'.toList.length = l.length := by simpa using congrArg List.length hkeys'
  have hll : l.length ≤ maxLen := by unfold room at hroom; unfold maxLen; omega
  have hrg := map_rg u3 hkeys' hrange
  have hfit : Go.WideElems.Fit Tryz.prog 3 anyR es' clk := by
    have hsz' : es'.size = l.length := by simpa using hlen
    refine ⟨by rw [hsz']; exact hll, ⟨fun x hx => ?_, ?_, ?_⟩, fun x hx => ?_⟩
    · have : x.born ∈ es'.toList.map (·.born) := List.mem_map_of_mem hx
      rw [hE.borns] at this
      obtain ⟨y, hy, e⟩ := List.mem_map.1 this
      have := (hb3 y hy).2
      omega
    · rw [hE.borns]; exact hb4
    · rw [hkeys']
      exact List.pairwise_map.2 (hnd.imp fun hne e => hne (by cases e; rfl))
    · have : x.key ∈ es'.toList.map (·.key) := List.mem_map_of_mem hx
      rw [hkeys'] at this
      obtain ⟨n, hn, e⟩ := List.mem_map.1 this
      exact ⟨_, key_rd u3 e.symm (hrange n hn)⟩
  have hown : w.ownsMap Tryz.prog 3 anyR bm.blk l.length (.map ((es'.toList.map (Go.WideElems.rg Tryz.prog 3 anyR)).foldr DataW.insert [])) := ⟨es', clk, hh, hfit, by simpa using Nat.le_of_eq hlen, rfl⟩
  have hsz : Maps.size (.map ((es'.toList.map (Go.WideElems.rg Tryz.prog 3 anyR)).foldr DataW.insert []) : DataW Unit) = l.length := by
    simp [Maps.size, length_sorted]
    simpa using hlen
  have hperm : (intKeys (.map ((es'.toList.map (Go.WideElems.rg Tryz.prog 3 anyR)).foldr DataW.insert []) : DataW Unit)).Perm l := by
    refine (sorted_keys _).trans ?_
    rw [hrg, List.map_map]
    simp [Function.comp_def, _root_.Go.intOf]
  refine (sorted_seq (enters_g f hg) _ _ (by rw [hsz]; exact hll) (by rw [hsz]; unfold room at hroom; exact hroom) (gives hlt hcell hown f hg)).mono ?_
  rintro e w' ⟨v, ss, rfl, h1, h2, _, h4⟩
  have hp := h1.trans hperm
  rw [sortI_eq hp] at h2
  have hsl : (sortI l).length = l.length := (sortI_perm l).length_eq
  have hss : ss.length = (sortI l).length := by rw [hsl]; exact hp.length_eq
  rw [hss] at h2
  obtain ⟨ι', g1, g2, g3⟩ := hr.rowOwned h4 (elem := 3) (l := sortI l) (fun e => hne (by rw [e] at hsl; exact List.eq_nil_of_length_eq_zero hsl.symm)) h2
  rw [hsl] at g3
  exact ⟨ι', g1, g2, g3⟩
end AM
end Go.Proofs.YtdbbkaeoinalpaaGreat
