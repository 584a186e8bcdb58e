/- Parts: Shelf, Sorted. -/
import Derived.Test.YtlelihddjacplaaGreatTpL
import Derived.Shelf.SlIterI.Nil
import Derived.Shelf.SortM.Plain
import Derived.Shelf.SortM.SortNone
import Derived.Ground.GgzProg
import Derived.Ground.SlgmProg
import Derived.Test.YtlelihddjacplaaGreatProg
set_option linter.unusedVariables false
namespace Go.Proofs
open Go.Shelf
def Tryz.keysA_ren : Go.Shelf.Ren := ⟨fun | 7 => 133 | 10 => 193 | n => n, fun | 23 => 124 | 26 => 3 | 3 => 23 | 28 => 225 | 0 => 0 | 27 => 147 | 33 => 123 | 4 => 4 | n => n, fun | n => n⟩
theorem Tryz.keysA : Go.Proofs.SlLaysZI.n7 Tryz.prog Tryz.keysA_ren := {
  mixed := by kernel_rfl
  f7 := ⟨Tryz.f133.name, by decide, Tryz.func133.trans (congrArg some (by kernel_rfl))⟩
  f10 := ⟨Tryz.f193.name, by decide, Tryz.func193.trans (congrArg some (by kernel_rfl))⟩
  t0 := Tryz.underlying0
  a0 := Tryz.isAgg0
  z0 := Tryz.sizeOf0
  v0 := Tryz.zeroValue0
  t4 := Tryz.underlying4
  a4 := Tryz.isAgg4
  z4 := Tryz.sizeOf4
  v4 := Tryz.zeroValue4
  t23 := Tryz.underlying124
  a23 := Tryz.isAgg124
  z23 := Tryz.sizeOf124
  v23 := Tryz.zeroValue124
  t26 := Tryz.underlying3
  a26 := Tryz.isAgg3
  z26 := Tryz.sizeOf3
  v26 := Tryz.zeroValue3
  t27 := Tryz.underlying147
  a27 := Tryz.isAgg147
  z27 := Tryz.sizeOf147
  v27 := Tryz.zeroValue147
  t28 := Tryz.underlying225
  a28 := Tryz.isAgg225
  z28 := Tryz.sizeOf225
  v28 := Tryz.zeroValue225
  t33 := Tryz.underlying123
  a33 := Tryz.isAgg123
  z33 := Tryz.sizeOf123
  v33 := Tryz.zeroValue123 }
def Tryz.keysB_ren : Go.Shelf.Ren := ⟨fun | 7 => 255 | 10 => 295 | n => n, fun | 23 => 197 | 26 => 3 | 3 => 229 | 28 => 225 | 0 => 0 | 27 => 147 | 33 => 123 | 4 => 4 | n => n, fun | n => n⟩
theorem Tryz.keysB : Go.Proofs.SlLaysZI.n7 Tryz.prog Tryz.keysB_ren := {
  mixed := by kernel_rfl
  f7 := ⟨Tryz.f255.name, by decide, Tryz.func255.trans (congrArg some (by kernel_rfl))⟩
  f10 := ⟨Tryz.f295.name, by decide, Tryz.func295.trans (congrArg some (by kernel_rfl))⟩
  t0 := Tryz.underlying0
  a0 := Tryz.isAgg0
  z0 := Tryz.sizeOf0
  v0 := Tryz.zeroValue0
  t4 := Tryz.underlying4
  a4 := Tryz.isAgg4
  z4 := Tryz.sizeOf4
  v4 := Tryz.zeroValue4
  t23 := Tryz.underlying197
  a23 := Tryz.isAgg197
  z23 := Tryz.sizeOf197
  v23 := Tryz.zeroValue197
  t26 := Tryz.underlying3
  a26 := Tryz.isAgg3
  z26 := Tryz.sizeOf3
  v26 := Tryz.zeroValue3
  t27 := Tryz.underlying147
  a27 := Tryz.isAgg147
  z27 := Tryz.sizeOf147
  v27 := Tryz.zeroValue147
  t28 := Tryz.underlying225
  a28 := Tryz.isAgg225
  z28 := Tryz.sizeOf225
  v28 := Tryz.zeroValue225
  t33 := Tryz.underlying123
  a33 := Tryz.isAgg123
  z33 := Tryz.sizeOf123
  v33 := Tryz.zeroValue123 }
def Tryz.sortedA_ren : Go.Shelf.Ren := ⟨fun | 6 => 132 | 8 => 191 | 9 => 192 | 11 => 239 | 13 => 241 | 12 => 240 | 23 => 283 | 24 => 284 | 14 => 274 | 15 => 275 | 16 => 276 | 17 => 277 | 18 => 278 | 19 => 279 | 20 => 280 | 21 => 281 | 22 => 282 | 25 => 307 | 26 => 308 | 27 => 309 | 28 => 310 | 29 => 311 | 30 => 216 | 31 => 322 | n => n, fun | 26 => 3 | 28 => 225 | 24 => 92 | 0 => 0 | 3 => 3 | 37 => 284 | 48 => 32 | 50 => 260 | 4 => 4 | 40 => 374 | 39 => 373 | 45 => 181 | 5 => 5 | 9 => 9 | 51 => 401 | 55 => 405 | 57 => 418 | 58 => 419 | 33 => 123 | n => n, fun | n => n⟩
theorem Tryz.sortedA : Go.Proofs.SlLaysZI.n6 Tryz.prog Tryz.sortedA_ren := {
  mixed := by kernel_rfl
  f6 := ⟨Tryz.f132.name, by decide, Tryz.func132.trans (congrArg some (by kernel_rfl))⟩
  f8 := ⟨Tryz.f191.name, by decide, Tryz.func191.trans (congrArg some (by kernel_rfl))⟩
  f11 := ⟨Tryz.f239.name, by decide, Tryz.func239.trans (congrArg some (by kernel_rfl))⟩
  t0 := Tryz.underlying0
  a0 := Tryz.isAgg0
  z0 := Tryz.sizeOf0
  v0 := Tryz.zeroValue0
  t24 := Tryz.underlying92
  a24 := Tryz.isAgg92
  z24 := Tryz.sizeOf92
  v24 := Tryz.zeroValue92
  t26 := Tryz.underlying3
  a26 := Tryz.isAgg3
  z26 := Tryz.sizeOf3
  v26 := Tryz.zeroValue3
  t28 := Tryz.underlying225
  a28 := Tryz.isAgg225
  z28 := Tryz.sizeOf225
  v28 := Tryz.zeroValue225
  i26 := by kernel_rfl }
def Tryz.sortA_ren : Go.Shelf.Ren := ⟨fun | 5 => 192 | 8 => 241 | 7 => 240 | 19 => 283 | 20 => 284 | 10 => 274 | 11 => 275 | 12 => 276 | 13 => 277 | 14 => 278 | 15 => 279 | 16 => 280 | 17 => 281 | 18 => 282 | 30 => 307 | 31 => 308 | 32 => 309 | 33 => 310 | 34 => 311 | 35 => 216 | 40 => 322 | n => n, fun | 23 => 92 | 25 => 3 | 3 => 3 | 32 => 284 | 22 => 92 | 0 => 0 | 44 => 32 | 46 => 260 | 4 => 4 | 36 => 374 | 35 => 373 | 41 => 181 | 5 => 5 | 9 => 9 | 53 => 401 | 57 => 405 | 63 => 418 | 64 => 419 | n => n, fun | n => n⟩
theorem Tryz.sortA : Go.Proofs.SlLaysM.n5 Tryz.prog Tryz.sortA_ren := {
  mixed := by kernel_rfl
  f5 := ⟨Tryz.f192.name, by decide, Tryz.func192.trans (congrArg some (by kernel_rfl))⟩
  f7 := ⟨Tryz.f240.name, by decide, Tryz.func240.trans (congrArg some (by kernel_rfl))⟩
  f8 := Tryz.func241.trans (congrArg some (by kernel_rfl))
  f10 := ⟨Tryz.f274.name, by decide, Tryz.func274.trans (congrArg some (by kernel_rfl))⟩
  f11 := ⟨Tryz.f275.name, by decide, Tryz.func275.trans (congrArg some (by kernel_rfl))⟩
  f12 := ⟨Tryz.f276.name, by decide, Tryz.func276.trans (congrArg some (by kernel_rfl))⟩
  f13 := ⟨Tryz.f277.name, by decide, Tryz.func277.trans (congrArg some (by kernel_rfl))⟩
  f14 := ⟨Tryz.f278.name, by decide, Tryz.func278.trans (congrArg some (by kernel_rfl))⟩
  f15 := ⟨Tryz.f279.name, by decide, Tryz.func279.trans (congrArg some (by kernel_rfl))⟩
  f16 := ⟨Tryz.f280.name, by decide, Tryz.func280.trans (congrArg some (by kernel_rfl))⟩
  f17 := ⟨Tryz.f281.name, by decide, Tryz.func281.trans (congrArg some (by kernel_rfl))⟩
  f18 := ⟨Tryz.f282.name, by decide, Tryz.func282.trans (congrArg some (by kernel_rfl))⟩
  f19 := Tryz.func283.trans (congrArg some (by kernel_rfl))
  f20 := Tryz.func284.trans (congrArg some (by kernel_rfl))
  f30 := ⟨Tryz.f307.name, by decide, Tryz.func307.trans (congrArg some (by kernel_rfl))⟩
  f31 := Tryz.func308.trans (congrArg some (by kernel_rfl))
  f32 := Tryz.func309.trans (congrArg some (by kernel_rfl))
  f33 := ⟨Tryz.f310.name, by decide, Tryz.func310.trans (congrArg some (by kernel_rfl))⟩
  f34 := ⟨Tryz.f311.name, by decide, Tryz.func311.trans (congrArg some (by kernel_rfl))⟩
  f35 := ⟨Tryz.f216.name, by decide, Tryz.func216.trans (congrArg some (by kernel_rfl))⟩
  f40 := ⟨Tryz.f322.name, by decide, Tryz.func322.trans (congrArg some (by kernel_rfl))⟩
  t0 := Tryz.underlying0
  a0 := Tryz.isAgg0
  z0 := Tryz.sizeOf0
  v0 := Tryz.zeroValue0
  t3 := Tryz.underlying3
  a3 := Tryz.isAgg3
  z3 := Tryz.sizeOf3
  v3 := Tryz.zeroValue3
  t4 := Tryz.underlying4
  a4 := Tryz.isAgg4
  z4 := Tryz.sizeOf4
  v4 := Tryz.zeroValue4
  t5 := Tryz.underlying5
  a5 := Tryz.isAgg5
  z5 := Tryz.sizeOf5
  v5 := Tryz.zeroValue5
  t9 := Tryz.underlying9
  a9 := Tryz.isAgg9
  z9 := Tryz.sizeOf9
  v9 := Tryz.zeroValue9
  t22 := Tryz.underlying92
  a22 := Tryz.isAgg92
  z22 := Tryz.sizeOf92
  v22 := Tryz.zeroValue92
  t23 := Tryz.underlying92
  a23 := Tryz.isAgg92
  z23 := Tryz.sizeOf92
  v23 := Tryz.zeroValue92
  t25 := Tryz.underlying3
  a25 := Tryz.isAgg3
  z25 := Tryz.sizeOf3
  v25 := Tryz.zeroValue3
  t32 := Tryz.underlying284
  a32 := Tryz.isAgg284
  z32 := Tryz.sizeOf284
  v32 := Tryz.zeroValue284
  t35 := Tryz.underlying373
  a35 := Tryz.isAgg373
  z35 := Tryz.sizeOf373
  v35 := Tryz.zeroValue373
  t36 := Tryz.underlying374
  a36 := Tryz.isAgg374
  z36 := Tryz.sizeOf374
  v36 := Tryz.zeroValue374
  t41 := Tryz.underlying181
  a41 := Tryz.isAgg181
  z41 := Tryz.sizeOf181
  v41 := Tryz.zeroValue181
  t44 := Tryz.underlying32
  a44 := Tryz.isAgg32
  z44 := Tryz.sizeOf32
  v44 := Tryz.zeroValue32
  t46 := Tryz.underlying260
  a46 := Tryz.isAgg260
  z46 := Tryz.sizeOf260
  v46 := Tryz.zeroValue260
  t53 := Tryz.underlying401
  a53 := Tryz.isAgg401
  z53 := Tryz.sizeOf401
  v53 := Tryz.zeroValue401
  t57 := Tryz.underlying405
  a57 := Tryz.isAgg405
  z57 := Tryz.sizeOf405
  v57 := Tryz.zeroValue405
  t63 := Tryz.underlying418
  a63 := Tryz.isAgg418
  z63 := Tryz.sizeOf418
  v63 := Tryz.zeroValue418
  t64 := Tryz.underlying419
  a64 := Tryz.isAgg419
  z64 := Tryz.sizeOf419
  v64 := Tryz.zeroValue419 }
end Go.Proofs
namespace Go.Proofs.YtlelihddjacplaaGreat
namespace AM
open Go.RowKit Go.Maps Go.Sort Go.Shelf
theorem R.kept {ι : Inj} {σ : H} {w w' : World} (h : R ι σ w) (hs : w.heap.size ≤ w'.heap.size) (hk : ∀ b, b < w.heap.size → w'.heap[b]? = w.heap[b]?) : R ι σ w' where
  pos := h.pos
  zero := h.zero
  dom := h.dom
  lt := h.lt
  obj := fun A o hg hd => by
    obtain ⟨bk, hb, ho⟩ := h.obj A o hg hd
    exact ⟨bk, hb, ho.of_heap (hk _ (h.blt A bk hb))⟩
  inj := h.inj
  blt := fun A bk hb => Nat.lt_of_lt_of_le (h.blt A bk hb) hs
theorem Ext.below {ι : Inj} {w w' : World} (h : Below w.heap.size w w') : Ext ι w ι w' :=
  ⟨Sub.refl _, h.os, h.tape, h.output, h.size, fun b hb _ => h.block b hb, fun A bk h1 h2 => by rw [h1] at h2; cases h2⟩
theorem R.below {ι : Inj} {σ : H} {w w' : World} (h : R ι σ w) (hb : Below w.heap.size w w') : R ι σ w' := h.kept hb.size hb.block

/-! ### Sorting -/
theorem insI_perm (x : Int) : ∀ l : List Int, (insI x l).Perm (x :: l)
  | [] => .refl _
  | y :: r => by
    unfold insI
    split
    · exact .refl _
    · exact ((insI_perm x r).cons y).trans (.swap x y r)
theorem sortI_perm : ∀ l : List Int, (sortI l).Perm l
  | [] => .refl _
  | x :: r => (insI_perm x _).trans ((sortI_perm r).cons x)
theorem insI_sorted (x : Int) : ∀ l : List Int, l.Pairwise (· ≤ ·) → (insI x l).Pairwise (· ≤ ·)
  | [], _ => by simp [insI]
  | y :: r, h => by
    unfold insI
    have h1 := List.pairwise_cons.1 h
    split
    · rename_i hc
      have hxy : x ≤ y := of_decide_eq_true hc
      refine List.pairwise_cons.2 ⟨fun z hz => ?_, h⟩
      rcases List.mem_cons.1 hz with rfl | hz
      · exact hxy
      · exact Int.le_trans hxy (h1.1 z hz)
    · rename_i hc
      have hxy : ¬ x ≤ y := of_decide_eq_false hc
      refine List.pairwise_cons.2 ⟨fun z hz => ?_, insI_sorted x r h1.2⟩
      have := (insI_perm x r).mem_iff.1 hz
      rcases List.mem_cons.1 this with rfl | hz
      · omega
      · exact h1.1 z hz
theorem sortI_sorted : ∀ l : List Int, (sortI l).Pairwise (· ≤ ·)
  | [] => .nil
  | x :: r => insI_sorted x _ (sortI_sorted r)
theorem sortI_eq {l ss : List Int} (hp : ss.Perm l) : ss.mergeSort (fun x y => decide (x ≤ y)) = sortI l := by
  have tr : ∀ a b c : Int, decide (a ≤ b) = true → decide (b ≤ c) = true → decide (a ≤ c) = true := fun a b c h1 h2 => by simp only [decide_eq_true_eq] at *; omega
  have to : ∀ a b : Int, (decide (a ≤ b) || decide (b ≤ a)) = true := fun a b => by simp only [Bool.or_eq_true, decide_eq_true_eq]; omega
  have h1 := List.pairwise_mergeSort (le := fun x y : Int => decide (x ≤ y)) tr to ss
  refine List.Perm.eq_of_pairwise (le := fun a b : Int => a ≤ b) (fun a b _ _ h1 h2 => Int.le_antisymm h1 h2) (h1.imp fun h => by simpa using h) (sortI_sorted l) ?_
  exact ((List.mergeSort_perm ss _).trans hp).trans (sortI_perm l).symm

/-! ### The keys -/
theorem hasI_mem (x : Int) : ∀ l : List Int, hasI x l = false → x ∉ l
  | [], _ => by simp
  | y :: r, h => by
    unfold hasI at h
    rw [eqI_eq] at h
    split at h
    · cases h
    · rename_i hc
      have hne : x ≠ y := of_decide_eq_false hc
      simp only [List.mem_cons, not_or]
      exact ⟨hne, hasI_mem x r h⟩
theorem freshI_ok : ∀ l : List Int, freshI l = true → l.Nodup ∧ ∀ x ∈ l, -9223372036854775808 ≤ x ∧ x ≤ 9223372036854775807
  | [], _ => by simp
  | x :: r, h => by
    unfold freshI at h
    split at h
    · cases h
    · rename_i hc
      obtain ⟨h1, h2⟩ := freshI_ok r h
      simp only [Bool.or_eq_false_iff, ltI_eq, decide_eq_false_iff_not] at hc
      refine ⟨List.nodup_cons.2 ⟨hasI_mem x r hc.1, h1⟩, fun y hy => ?_⟩
      rcases List.mem_cons.1 hy with rfl | hy
      · omega
      · exact h2 y hy
theorem bornOk_ok (clk : Nat) : ∀ (es : List MapEntry) (lo : Nat), bornOk clk lo es = true → (∀ x ∈ es, lo ≤ x.born ∧ x.born < clk) ∧ (es.map (·.born)).Nodup ∧ lo ≤ clk
  | [], lo, h => by
    unfold bornOk at h
    rw [nble] at h
    exact ⟨by simp, by simp, of_decide_eq_true h⟩
  | e :: es, lo, h => by
    unfold bornOk at h
    split at h
    · rename_i hc
      rw [nble] at hc
      have hc := of_decide_eq_true hc
      obtain ⟨h1, h2, h3⟩ := bornOk_ok clk es (e.born + 1) h
      refine ⟨fun x hx => ?_, ?_, by omega⟩
      · rcases List.mem_cons.1 hx with rfl | hx
        · omega
        · have := h1 x hx; omega
      · simp only [List.map_cons]
        refine List.nodup_cons.2 ⟨fun hm => ?_, h2⟩
        obtain ⟨x, hx, he⟩ := List.mem_map.1 hm
        have := h1 x hx
        omega
    · cases h
theorem keysI_ok : ∀ (es : List MapEntry) (l : List Int), keysI es = some l → es.map (·.key) = l.map (Value.int .i64)
  | [], l, h => by simp only [keysI, Option.some.injEq] at h; subst h; rfl
  | e :: es, l, h => by
    unfold keysI at h
    split at h
    · rename_i n hk
      split at h
      · rename_i l' hl
        cases h
        simp [hk, keysI_ok es l' hl]
      · cases h
    · cases h
theorem EsR.keys {ι : Inj} : ∀ {es es' : List MapEntry} {l : List Int}, EsR ι es es' → es.map (·.key) = l.map (Value.int .i64) → es'.map (·.key) = l.map (Value.int .i64)
  | _, _, l, .nil, h => h
  | _, _, [], .cons .., h => by simp at h
  | _, _, x :: l, .cons (e := e) (e' := e') hk hv hb hr, h => by
    simp only [List.map_cons, List.cons.injEq] at h ⊢
    refine ⟨?_, hr.keys h.2⟩
    rw [h.1] at hk
    revert hk
    generalize e'.key = y
    intro hk
    cases hk
    rfl
theorem EsR.borns {ι : Inj} : ∀ {es es' : List MapEntry}, EsR ι es es' → es'.map (·.born) = es.map (·.born)
  | _, _, .nil => rfl
  | _, _, .cons hk hv hb hr => by simp [hb, hr.borns]
theorem EsR.len {ι : Inj} : ∀ {es es' : List MapEntry}, EsR ι es es' → es'.length = es.length
  | _, _, .nil => rfl
  | _, _, .cons hk hv hb hr => by simp [hr.len]
/-- How values are read here: not at all. -/
def anyR (_ : Value) : Option (DataW Unit × List MemPlace) := some (.lit (.bool true), [])
theorem key_rd {P : Program} {k : TypeId} (hk : P.underlying k = some (.int .i64)) {x : MapEntry} {n : Int} (he : x.key = .int .i64 n) (h1 : -9223372036854775808 ≤ n ∧ n ≤ 9223372036854775807) :
    Go.WideElems.rd P k anyR x = some (.int .i64 n, .lit (.bool true)) := by
  have hw : (Lit.int .i64 n).wf = true := by
    simp [Lit.wf, IntKind.min, IntKind.max, IntKind.bits, IntKind.signed]
    omega
  simp [Go.WideElems.rd, he, keyOf, hk, mapKey, hw, anyR]
theorem map_rg {P : Program} {k : TypeId} (hk : P.underlying k = some (.int .i64)) : ∀ {es : List MapEntry} {l : List Int}, es.map (·.key) = l.map (Value.int .i64) → (∀ x ∈ l, -9223372036854775808 ≤ x ∧ x ≤ 9223372036854775807) →
    es.map (Go.WideElems.rg P k anyR) = l.map fun n => (Lit.int .i64 n, DataW.lit (.bool true))
  | [], [], _, _ => rfl
  | [], _ :: _, h, _ => by simp at h
  | _ :: _, [], h, _ => by simp at h
  | e :: es, n :: l, h, hr => by
    simp only [List.map_cons, List.cons.injEq] at h ⊢
    exact ⟨Go.WideElems.rg_of (key_rd hk h.1 (hr n (by simp))), map_rg hk h.2 fun x hx => hr x (by simp [hx])⟩
theorem insert_keys {H : Type} (p : Lit × DataW H) : ∀ l : List (Lit × DataW H), ((DataW.insert p l).map fun q => _root_.Go.intOf q.1).Perm (_root_.Go.intOf p.1 :: l.map fun q => _root_.Go.intOf q.1)
  | [] => .refl _
  | y :: r => by
    unfold DataW.insert
    split
    · exact .refl _
    · exact ((insert_keys p r).cons _).trans (.swap _ _ _)
theorem sorted_keys {H : Type} : ∀ l : List (Lit × DataW H), ((l.foldr DataW.insert []).map fun q => _root_.Go.intOf q.1).Perm (l.map fun q => _root_.Go.intOf q.1)
  | [] => .refl _
  | p :: l => (insert_keys p _).trans ((sorted_keys l).cons _)

/-- The answer's row, as an object. -/
theorem R.rowOwned {ι : Inj} {σ : H} {w w' : World} (h : R ι σ w) (hb : Below w.heap.size w w') {t elem : Nat} {v : Value} {l : List Int} (hne : l ≠ [])
    (hrow : w'.ownsRow w.heap.size t 1 v l.length (l.map (Value.int .i64))) :
    ∃ ι', Ext ι w ι' w' ∧ R ι' (σ.push (.cells (l.map (Value.int .i64)) elem 1 .grown)) w' ∧ VR ι' (.slice (some ⟨σ.next, 0, none⟩) l.length l.length) v := by
  obtain ⟨_, ⟨rfl, hz⟩ | ⟨g, cap, cur, rfl, hg, hh, h1, h2, h3, h4⟩⟩ := hrow
  · exact absurd (List.eq_nil_of_length_eq_zero hz) hne
  have hr := h.below hb
  let bk : Bk := ⟨g, 0, l.length, 1, cap - l.length, false⟩
  have hlt : g < w'.heap.size := (Array.getElem?_eq_some_iff.1 hh).1
  have hbind := hr.bind (.cells (l.map (Value.int .i64)) elem 1 .grown) bk rfl hlt ⟨cur, (0, 0), t, hh, by simp [bk], rfl, by simp [bk], fun _ => rfl, by simp, by
      show 0 + (l.map (Value.int .i64)).length + (cap - l.length) * 1 ≤ cur.size
      simp; omega, fun i v hv => by
      rw [← h4] at hv
      have hi : i < l.length * 1 := by
        have := (List.getElem?_eq_some_iff.1 hv).1
        simp at this; omega
      rw [List.getElem?_take_of_lt hi, Array.getElem?_toList] at hv
      refine ⟨v, by rw [show bk.base + i = i from Nat.zero_add i]; exact hv, ?_⟩
      have hv2 : (l.map (Value.int .i64))[i]? = some v := by
        rw [← h4, List.getElem?_take_of_lt hi, Array.getElem?_toList]; exact hv
      rw [List.getElem?_map] at hv2
      cases hn : l[i]? with
      | none => rw [hn] at hv2; cases hv2
      | some n => rw [hn] at hv2; cases hv2; exact .int _ _, fun h => by cases h⟩ (by
      intro A oA bA hA dA iA e
      have := h.blt A bA iA
      have hge : g ≥ w.heap.size := hg
      have : bA.blk = g := e
      omega)
  have hcap : capOf bk 0 l.length = cap := by
    show l.length + (if 0 + l.length * 1 = l.length then cap - l.length else 0) = cap
    rw [if_pos (by omega)]; omega
  refine ⟨_, ⟨Inj.set_sub h.fresh, hb.os, hb.tape, hb.output, hb.size, fun b hlt _ => hb.block b hlt, fun A b i1 i2 => ?_⟩, hbind, ?_⟩
  · unfold Inj.set at i2
    split at i2
    · cases i2; exact ⟨rfl, .inl hg⟩
    · rw [i1] at i2; cases i2
  · have h0 : σ.next ≠ 0 := by have := h.pos; omega
    have := VR.slice (ι := ι.set σ.next bk) (o := 0) (n := l.length) (c := l.length) h0 (Inj.set_same _ _ _)
    rw [hcap] at this
    exact this
theorem sortsA (m : Nat) : AnyZI.SortsIn Tryz.prog Tryz.sortedA_ren Fence.wide m :=
  ⟨fun blk off cap ss W hH hblk hsz => callsIn_wide.2 (AnyM.slices_Sort_int Tryz.sortA blk off cap ss W hH hblk hsz),
   fun p cap W => callsIn_wide.2 (AnyM.slices_Sort_int_none Tryz.sortA p cap W)⟩
theorem has156 : ∃ fn, Tryz.prog.funcs[132]? = some fn ∧ fn.body.isSome = true ∧ fn.name ≠ "runtime.NumGoroutine" :=
  ⟨Tryz.f132, by kernel_rfl, by kernel_rfl, by
    have : (Tryz.f132.name == "runtime.NumGoroutine") = false := by kernel_rfl
    simpa using this⟩
theorem u3 : Tryz.prog.underlying 3 = some (.int .i64) := by kernel_rfl
/-- What the library's contract says of any sequence. -/
theorem sorted_seq {w : World} {g : Nat} {lb : Array Value} (eg : ∀ args w, (callFunc g args).run Tryz.prog w = .ok (.enter g args) w) (S : List Int → Prop) (N : Nat) (hN : N ≤ maxLen) (hNb : N * 8 ≤ 140737488355328)
    (hseq : SeqGives Fence.wide 2 Tryz.prog g lb encZ S N w) :
    Calls Tryz.prog 132 #[.func (.func g) #[] lb] w fun e w' => ∃ (v : Value) (ss : List Int), e = .returned v ∧ S ss ∧ w'.ownsRow w.heap.size 3 1 v ss.length ((ss.mergeSort (fun x y => decide (x ≤ y))).map encZ) ∧ (v = .slice none 0 0 ↔ ss = []) ∧ Below w.heap.size w w' :=
  (callsIn_wide (n := 5)).1 (AnyZI.sorted_in Tryz.sortedA Fence.wide 5 trivial trivial trivial trivial rfl (by omega) (sortsA _) (enters_of Tryz.func192 (by kernel_rfl) rfl) g lb trivial eg S N hN hNb w hseq)
theorem gives_nil {w : World} {Bm : Nat} (hBm : Bm < w.heap.size) (hm : w.cell? ⟨Bm, 0, none⟩ = some (.map none)) (g : Nat) (hg : g = 193 ∨ g = 295) :
    SeqGives Fence.wide 2 Tryz.prog g #[.pointer (some ⟨Bm, 0, none⟩)] encZ (fun ss : List Int => ss = []) 0 w := by
  rcases hg with rfl | rfl
  · exact AnyZI.keys_gives_nil (ρ := Tryz.keysA_ren) { Tryz.keysA with } Fence.wide _ trivial rfl Bm w hBm hm
  · exact AnyZI.keys_gives_nil (ρ := Tryz.keysB_ren) { Tryz.keysB with } Fence.wide _ trivial rfl Bm w hBm hm
theorem gives {w : World} {Bm b nn : Nat} {D0 : DataW Unit} (hBm : Bm < w.heap.size) (hm : w.cell? ⟨Bm, 0, none⟩ = some (.map (some b))) (hown : w.ownsMap Tryz.prog 3 anyR b nn D0) (g : Nat) (hg : g = 193 ∨ g = 295) :
    SeqGives Fence.wide 2 Tryz.prog g #[.pointer (some ⟨Bm, 0, none⟩)] encZ (fun ss => ss.Perm (intKeys D0)) (Maps.size D0) w := by
  rcases hg with rfl | rfl
  · exact AnyZI.keys_gives (ρ := Tryz.keysA_ren) { Tryz.keysA with } Fence.wide _ trivial rfl (by omega) Bm b nn D0 w hBm hm hown
  · exact AnyZI.keys_gives (ρ := Tryz.keysB_ren) { Tryz.keysB with } Fence.wide _ trivial rfl (by omega) Bm b nn D0 w hBm hm hown
theorem enters_g (g : Nat) (hg : g = 193 ∨ g = 295) : ∀ args w, (callFunc g args).run Tryz.prog w = .ok (.enter g args) w := by
  rcases hg with rfl | rfl
  · exact enters_of Tryz.func193 (by kernel_rfl) rfl
  · exact enters_of Tryz.func295 (by kernel_rfl) rfl
theorem sorted_own : OwnOK Tryz.prog 132 (sortedV 3 [193, 295]) := by
  refine ⟨has156, fun {args σ r σ'} h ι args' w hr hv => ?_⟩
  unfold sortedV at h
  split at h
  case h_2 => cases h
  rename_i f a
  split at h
  · cases h
  rename_i hf
  have hg : f = 193 ∨ f = 295 := by simpa using hf
  split at h
  case h_2 => cases h
  rename_i mp te sz hga
  -- the box
  obtain ⟨bk, hA, blk, fz, te', hc⟩ := hr.obj a _ hga (by simp)
  have hb0 : bk.base = 0 := hc.base0 rfl
  have hlt := hr.blt a bk hA
  cases hv with
  | cons hv0 hvr =>
  cases hvr
  cases hv0 with
  | func _ h1 h2 =>
  cases h1
  cases h2 with
  | cons hp hpr =>
  cases hpr
  cases hp with
  | ptr hA' =>
  rw [hA] at hA'; cases hA'
  rw [hb0]
  obtain ⟨v', hb1, hb2⟩ := hc.cells 0 _ rfl
  rw [hb0] at hb1
  have hcell : w.cell? ⟨bk.blk, 0, none⟩ = some v' := by
    simp only [World.cell?, hc.heap, Option.isSome_none, Bool.false_eq_true, if_false]
    exact hb1
  have none_ans : ∀ {g : Nat} {S : List Int → Prop} {N : Nat}, Calls Tryz.prog 132 #[.func (.func g) #[] #[.pointer (some ⟨bk.blk, 0, none⟩)]] w (fun e w' => ∃ (v : Value) (ss : List Int), e = .returned v ∧ S ss ∧ w'.ownsRow w.heap.size 3 1 v ss.length ((ss.mergeSort (fun x y => decide (x ≤ y))).map encZ) ∧ (v = .slice none 0 0 ↔ ss = []) ∧ Below w.heap.size w w') → (∀ ss, S ss → ss = []) →
      Calls Tryz.prog 132 #[.func (.func g) #[] #[.pointer (some ⟨bk.blk, 0, none⟩)]] w (CallR ι w (.ok (.slice none 0 0)) σ) := by
    intro g S N hC hS
    refine hC.mono ?_
    rintro e w' ⟨v, ss, rfl, h1, _, h3, h4⟩
    rw [h3.2 (hS ss h1)]
    exact ⟨ι, .below h4, hr.below h4, .nils _ _⟩
  split at h
  · -- the nil map
    cases h
    cases hb2
    exact none_ans (N := 0) (sorted_seq (enters_g f hg) _ 0 (Nat.zero_le _) (by omega) (gives_nil hlt hcell f hg)) (fun ss hs => hs)
  rename_i m
  split at h
  case h_2 => cases h
  rename_i es clk hgm
  obtain ⟨bm, hM, es', hh, _, hE⟩ := hr.obj m _ hgm (by simp)
  cases hb2 with
  | map hM' =>
  rw [hM] at hM'; cases hM'
  split at h
  · cases h
  · -- no key
    rename_i hk
    cases h
    have hnil := keysI_ok es [] hk
    have hes : es' = #[] := by
      have h1 := hE.len
      have h2 : es.length = 0 := by simpa using congrArg List.length hnil
      rw [h2] at h1
      simpa using h1
    have hown : w.ownsMap Tryz.prog 3 anyR bm.blk 0 (.map []) := ⟨es', clk, hh, by subst hes; exact ⟨by simp, MapKept.stamped_empty _, by simp⟩, by simp [hes], by simp [hes]⟩
    exact none_ans (N := 0) (sorted_seq (enters_g f hg) _ _ (Nat.zero_le _) (by simp [Maps.size]) (gives hlt hcell hown f hg)) (fun ss hs => by simpa [intKeys] using hs)
  rename_i k ks hk
  split at h
  case h_2 => cases h
  rename_i hck
  cases h
  simp only [Bool.and_eq_true, nble] at hck
  obtain ⟨hroom, hborn, hfresh⟩ := hck
  have hroom := of_decide_eq_true hroom
  obtain ⟨l, hl⟩ : ∃ l, l = k :: ks := ⟨_, rfl⟩
  rw [← hl] at hk hroom hfresh ⊢
  have hne : l ≠ [] := by rw [hl]; simp
  have hkeys := keysI_ok es l hk
  have hkeys' := hE.keys hkeys
  obtain ⟨hnd, hrange⟩ := freshI_ok l hfresh
  obtain ⟨hb3, hb4, _⟩ := bornOk_ok clk es 0 hborn
  have hlen : es'.toList.length = l.length := by simpa using congrArg List.length hkeys'
  have hll : l.length ≤ maxLen := by unfold room at hroom; unfold maxLen; omega
  have hrg := map_rg u3 hkeys' hrange
  have hfit : Go.WideElems.Fit Tryz.prog 3 anyR es' clk := by
    have hsz' : es'.size = l.length := by simpa using hlen
    refine ⟨by rw [hsz']; exact hll, ⟨fun x hx => ?_, ?_, ?_⟩, fun x hx => ?_⟩
    · have : x.born ∈ es'.toList.map (·.born) := List.mem_map_of_mem hx
      rw [hE.borns] at this
      obtain ⟨y, hy, e⟩ := List.mem_map.1 this
      have := (hb3 y hy).2
      omega
    · rw [hE.borns]; exact hb4
    · rw [hkeys']
      exact List.pairwise_map.2 (hnd.imp fun hne e => hne (by cases e; rfl))
    · have : x.key ∈ es'.toList.map (·.key) := List.mem_map_of_mem hx
      rw [hkeys'] at this
      obtain ⟨n, hn, e⟩ := List.mem_map.1 this
      exact ⟨_, key_rd u3 e.symm (hrange n hn)⟩
  have hown : w.ownsMap Tryz.prog 3 anyR bm.blk l.length (.map ((es'.toList.map (Go.WideElems.rg Tryz.prog 3 anyR)).foldr DataW.insert [])) := ⟨es', clk, hh, hfit, by simpa using Nat.le_of_eq hlen, rfl⟩
  have hsz : Maps.size (.map ((es'.toList.map (Go.WideElems.rg Tryz.prog 3 anyR)).foldr DataW.insert []) : DataW Unit) = l.length := by
    simp [Maps.size, length_sorted]
    simpa using hlen
  have hperm : (intKeys (.map ((es'.toList.map (Go.WideElems.rg Tryz.prog 3 anyR)).foldr DataW.insert []) : DataW Unit)).Perm l := by
    refine (sorted_keys _).trans ?_
    rw [hrg, List.map_map]
    simp [Function.comp_def, _root_.Go.intOf]
  refine (sorted_seq (enters_g f hg) _ _ (by rw [hsz]; exact hll) (by rw [hsz]; unfold room at hroom; exact hroom) (gives hlt hcell hown f hg)).mono ?_
  rintro e w' ⟨v, ss, rfl, h1, h2, _, h4⟩
  have hp := h1.trans hperm
  rw [sortI_eq hp] at h2
  have hsl : (sortI l).length = l.length := (sortI_perm l).length_eq
  have hss : ss.length = (sortI l).length := by rw [hsl]; exact hp.length_eq
  rw [hss] at h2
  obtain ⟨ι', g1, g2, g3⟩ := hr.rowOwned h4 (elem := 3) (l := sortI l) (fun e => hne (by rw [e] at hsl; exact List.eq_nil_of_length_eq_zero hsl.symm)) h2
  rw [hsl] at g3
  exact ⟨ι', g1, g2, g3⟩
end AM
end Go.Proofs.YtlelihddjacplaaGreat
