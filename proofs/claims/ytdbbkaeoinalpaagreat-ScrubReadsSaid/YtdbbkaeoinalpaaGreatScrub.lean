/-
  'ScrubReads' (concertinalaw22): for every slice of pairs of numbers and every int the law returns true, and the arguments read as before. No condition.
-/
import Derived.Test.YtdbbkaeoinalpaaGreatRows
import Derived.Test.YtdbbkaeoinalpaaGreatFacts
import Derived.Test.YtdbbkaeoinalpaaGreatBase1
import Derived.Test.YtdbbkaeoinalpaaGreatLaw1
import Derived.Test.YtdbbkaeoinalpaaGreatSorted
import Derived.WalkKit
import Derived.ProofKit
import Derived.OpenShut
namespace Go.Proofs.YtdbbkaeoinalpaaGreat.scrubReads
open Go.ChangeShapes Go.WideShapes Go.ChangeAt Go.RowKit
open AM (R VR VRs h0 Sl SlP p16 Bk)
set_option linter.unusedVariables false

theorem c_inPlace : (Rows.scrubReadsRow.inPlace == Tryz.prog.inPlace 3) = true := by kernel_rfl
theorem c_unfollowed : (Rows.scrubReadsRow.unfollowed == Tryz.prog.unfollowed 3) = true := by kernel_rfl
theorem c_recurses : (Rows.scrubReadsRow.recurses == Tryz.prog.recurses 3) = true := by kernel_rfl
theorem c_named : (Rows.scrubReadsRow.named == Tryz.prog.varsNamed 3) = true := by kernel_rfl
theorem c_lifted : (Rows.scrubReadsRow.lifted == Tryz.prog.liftsFinal) = true := by kernel_rfl
theorem c_make : (Tryz.prog.make == some Rows.scrubReadsRow.make) = true := by kernel_rfl
theorem c_plainKeys : (Rows.scrubReadsRow.plainKeys == Tryz.prog.plainKeys) = true := by kernel_rfl
theorem c_wf : Rows.scrubReadsRow.wf (OpenSpec.ofChange Rows.scrubReadsSpec) = true := by kernel_rfl
theorem c_fn : Tryz.prog.funcNamed Rows.scrubReadsRow.func = some 3 := by kernel_rfl
theorem facts : joinedFacts Tryz.prog 3 Tryz.f3 Rows.scrubReadsSpec Rows.scrubReadsRow = true :=
  (Facts.band (Facts.band (Facts.band (Facts.band (Facts.band (Facts.band (Facts.band (Facts.band (Facts.band (Facts.band (Facts.band (Facts.band (Facts.band (Facts.band (Facts.band (Facts.band (Facts.band (Facts.band (Facts.band (Facts.band (Facts.band (Facts.band (Facts.band (Facts.band (Facts.band (Facts.band (Facts.band (Facts.band (Facts.band (Facts.band (Facts.band c_wf
    Facts.laidOut)
    Facts.mapsRowed_)
    (by as_aux_lemma => kernel_rfl))
    (by as_aux_lemma => kernel_rfl))
    (by as_aux_lemma => kernel_rfl))
    Facts.stops)
    (by as_aux_lemma => kernel_rfl))
    Facts.stopKnobs)
    c_inPlace)
    c_unfollowed)
    c_recurses)
    c_named)
    (by as_aux_lemma => kernel_rfl))
    (by as_aux_lemma => kernel_rfl))
    (by as_aux_lemma => kernel_rfl))
    (by as_aux_lemma => kernel_rfl))
    (by as_aux_lemma => kernel_rfl))
    (by as_aux_lemma => kernel_rfl))
    (by as_aux_lemma => kernel_rfl))
    (by as_aux_lemma => kernel_rfl))
    (by as_aux_lemma => kernel_rfl))
    c_plainKeys)
    (by as_aux_lemma => kernel_rfl))
    Facts.stopsHeard)
    Facts.mayEnter)
    c_lifted)
    c_make)
    (by as_aux_lemma => kernel_rfl))
    (by as_aux_lemma => kernel_rfl))
    (by as_aux_lemma => kernel_rfl))
    (by as_aux_lemma => kernel_rfl))

/-! ### The walk -/
theorem awake_ok (σ : AM.H) : @AM.Ru AM.lawAw 11 [] σ (fun r σ' => r = .ok (.bool true) ∧ σ' = σ) ⟨⟩ :=
  ⟨1, _, σ, rfl, rfl, rfl⟩
theorem ran {σ : AM.H} {v v' : Value} {xs : List (Nat × Nat)} {ι : AM.Inj} {w : World} (hb : Sl σ 2 v (p16 xs)) (hx : ∀ p ∈ xs, p.1 < 65536 ∧ p.2 < 65536) (h0 : σ.next ≠ 0) (s : Int) (hl : xs.length < 9223372036854775808)
    (hr : R ι σ w) (hv : VR ι v v') (hro : ∀ A bk, ι A = some bk → bk.ro = true) :
    Calls Tryz.prog 3 #[v', .int .i64 s] w fun e w' => e = .returned (.bool true) ∧ Below w.heap.size w w' := by
  obtain ⟨n, r, σ', h1, h2⟩ := @AM.law_run AM.lawAw awake_ok σ v xs hb hx h0 s hl
  refine (AM.calls_of_orc (AM.law_prog AM.sorted_own) h1 hr (.cons hv (.cons (.int _ _) .nil))).mono ?_
  rintro e w' ⟨ι', hx, hr', hret⟩
  subst h2
  refine ⟨?_, hx.os, hx.tape, hx.output, hx.size, fun b hb => hx.keep b hb fun A bk h1 h2 => by rw [hro A bk h1] at h2; cases h2⟩
  cases e <;> simp only [AM.RetR] at hret
  cases hret
  rfl
theorem pairs_of {α : Type} {f : Nat → α → Prop} : ∀ (n : Nat), (∀ i, i < n → ∃ p, f i p) → ∃ l : List α, l.length = n ∧ ∀ i (h : i < l.length), f i l[i]
  | 0, _ => ⟨[], rfl, fun i h => by simp at h⟩
  | n + 1, h => by
    obtain ⟨l, hl, hg⟩ := pairs_of n fun i hi => h i (by omega)
    obtain ⟨p, hp⟩ := h n (by omega)
    refine ⟨l ++ [p], by simp [hl], fun i hi => ?_⟩
    by_cases hin : i < l.length
    · rw [List.getElem_append_left hin]; exact hg i hin
    · have : i = l.length := by simp at hi; omega
      subst this
      rw [List.getElem_concat_length rfl, hl]
      exact hp
theorem p16_at (xs : List (Nat × Nat)) (i : Nat) (v : Value) (h : (p16 xs)[i]? = some v) : ∃ h2 : i / 2 < xs.length, v = .int .u16 ((if i % 2 = 0 then xs[i / 2].1 else xs[i / 2].2 : Nat) : Int) := by
  have hi : i < (p16 xs).length := (List.getElem?_eq_some_iff.1 h).1
  rw [AM.p16_len] at hi
  have h2 : i / 2 < xs.length := by omega
  refine ⟨h2, ?_⟩
  obtain ⟨g1, g2⟩ := AM.p16_get xs (i / 2) h2
  by_cases hm : i % 2 = 0
  · rw [if_pos hm]
    rw [show 2 * (i / 2) = i by omega, h] at g1
    exact Option.some.inj g1
  · rw [if_neg hm]
    rw [show 2 * (i / 2) + 1 = i by omega, h] at g2
    exact Option.some.inj g2
/-- A slice of the caller's: its pairs stand in a block. -/
theorem at_row {w : World} {b off len cap : Nat} {xs : List (Nat × Nat)} (hc : 0 < cap) (hl : xs.length = cap) (hlc : len ≤ cap) (hm : cap ≤ maxLen) (hx : ∀ p ∈ xs, p.1 < 65536 ∧ p.2 < 65536)
    (h1 : ∀ i (h : i < xs.length), w.cell? ⟨b, off + i * 2, none⟩ = some (.int .u16 (xs[i].1 : Int)) ∧ w.cell? ⟨b, off + i * 2 + 1, none⟩ = some (.int .u16 (xs[i].2 : Int))) (s : Int) :
    Calls Tryz.prog 3 #[.slice (some ⟨b, off, none⟩) len cap, .int .i64 s] w fun e w' => e = .returned (.bool true) ∧ Below w.heap.size w w' := by
  obtain ⟨blk, e, fz, hh⟩ : ∃ blk e fz, w.heap[b]? = some (.cells blk e fz) := by
    have := (h1 0 (by omega)).1
    unfold World.cell? at this
    split at this
    · rename_i c e fz hh; exact ⟨c, e, fz, hh⟩
    · cases this
  have hcell : ∀ o v, w.cell? ⟨b, o, none⟩ = some v → blk[o]? = some v := fun o v h => by
    simpa only [World.cell?, hh, Option.isSome_none, Bool.false_eq_true, if_false] using h
  let o : AM.Obj := .cells (p16 xs) 28 2 .ro
  let σ : AM.H := h0.push o
  let bk : Bk := ⟨b, off, (p16 xs).length, 2, 0, true⟩
  let ι : AM.Inj := fun A => if A = 1 then some bk else none
  have hg : ∀ A ob, σ.get A = some ob → A = 1 ∧ ob = o := fun A ob h => by
    rw [AM.H.get_push] at h
    split at h
    · rename_i e; cases h; exact ⟨e.symm, rfl⟩
    · rw [AM.H.get, h0, AM.Tr.get_leaf] at h; cases h
  have hg1 : σ.get 1 = some o := by rw [AM.H.get_push, if_pos (show h0.next = 1 from rfl)]
  have hι : ∀ A bk', ι A = some bk' → A = 1 ∧ bk' = bk := fun A bk' h => by
    simp only [ι] at h
    split at h
    · rename_i e; cases h; exact ⟨e, rfl⟩
    · cases h
  have hι1 : ι 1 = some bk := by simp [ι]
  have hlt : b < w.heap.size := (Array.getElem?_eq_some_iff.1 hh).1
  have hin : ∀ i v, (p16 xs)[i]? = some v → blk[off + i]? = some v := fun i v h => by
    obtain ⟨h2, rfl⟩ := p16_at xs i v h
    obtain ⟨g1, g2⟩ := h1 (i / 2) h2
    by_cases hm : i % 2 = 0
    · rw [if_pos hm, show off + i = off + i / 2 * 2 by omega]; exact hcell _ _ g1
    · rw [if_neg hm, show off + i = off + i / 2 * 2 + 1 by omega]; exact hcell _ _ g2
  have hplen : (p16 xs).length = cap * 2 := by rw [AM.p16_len, hl]; omega
  have hsize : off + cap * 2 ≤ blk.size := by
    have hlast : cap * 2 - 1 < (p16 xs).length := by omega
    have := hin (cap * 2 - 1) _ (List.getElem?_eq_getElem hlast)
    have := (Array.getElem?_eq_some_iff.1 this).1
    omega
  have hr : R ι σ w := {
    pos := Nat.le_add_left _ _
    zero := rfl
    dom := fun A bk' h => by obtain ⟨rfl, _⟩ := hι A bk' h; exact Nat.lt_succ_self 1
    lt := fun A ob h => by obtain ⟨rfl, _⟩ := hg A ob h; exact Nat.lt_succ_self 1
    obj := fun A ob h hd => by
      obtain ⟨rfl, rfl⟩ := hg A ob h
      refine ⟨bk, hι1, blk, fz, e, hh, rfl, rfl, rfl, fun h => absurd rfl h, fun _ => rfl, ?_, fun i v hv => ?_, fun h => by cases h⟩
      · show off + (p16 xs).length + 0 * 2 ≤ blk.size
        omega
      · refine ⟨v, hin i v hv, ?_⟩
        obtain ⟨_, rfl⟩ := p16_at xs i v hv
        exact .int _ _
    inj := fun A B oA oB bA bB hA hB _ _ _ _ _ _ => by rw [(hg A oA hA).1, (hg B oB hB).1]
    blt := fun A bk' h => by obtain ⟨rfl, rfl⟩ := hι A bk' h; exact hlt }
  have hcap : AM.capOf bk 0 cap = cap := by
    show cap + (if _ then 0 else 0) = cap
    split <;> rfl
  have hv : VR ι (.slice (some ⟨1, 0, none⟩) len cap) (.slice (some ⟨b, off, none⟩) len cap) := by
    have := VR.slice (ι := ι) (o := 0) (n := len) (c := cap) (by omega) hι1
    rw [hcap] at this
    exact this
  have hsl : Sl σ 2 (.slice (some ⟨1, 0, none⟩) len cap) (p16 (xs.take len)) := by
    refine ⟨_, len, cap, _, rfl, SlP.row 1 0 cap 28 (p16 xs) .ro (by omega) (Nat.lt_succ_self 1) hg1 (by omega), hlc, ?_⟩
    rw [List.drop_zero, List.take_take, Nat.min_eq_left (by omega)]
    have key : ∀ (l : List (Nat × Nat)) (n : Nat), p16 (l.take n) = (p16 l).take (n * 2) := by
      intro l
      induction l with
      | nil => intro n; simp [AM.p16]
      | cons p l ih =>
        intro n
        cases n with
        | zero => simp [AM.p16]
        | succ n =>
          have := ih n
          rw [show (n + 1) * 2 = n * 2 + 1 + 1 from by omega]
          simpa [AM.p16] using this
    exact key xs len
  exact ran hsl (fun p hp => hx p (List.mem_of_mem_take hp)) (show (2 : Nat) ≠ 0 by omega) s (by have := List.length_take_le len xs; unfold maxLen at hm; omega) hr hv (fun A bk' h => by obtain ⟨_, rfl⟩ := hι A bk' h; rfl)

theorem cells28 : Tryz.prog.cellsOf 28 = 1 := by kernel_rfl
theorem cellsARR : Tryz.prog.cellsOf 29 = 2 := by kernel_rfl
/-- What a pair of numbers reads as. -/
theorem open_pair {H : Type} {enc : TypeId × Value → H} {w : World} {base : Nat} {sp : Nat → Bool} {hd : Bool} {fuel : Nat} {cs : List Value} {x : DataW H × List MemPlace} (h : DataW.trod enc Tryz.prog w base sp hd fuel 29 cs = some x) :
    ∃ a b : Nat, cs = [.int .u16 (a : Int), .int .u16 (b : Int)] ∧ a < 65536 ∧ b < 65536 := by
  obtain ⟨xs, m, rfl, _, hl, hxl, hg⟩ := DataW.trod_array Tryz.underlying29 h
  rw [cellsARR] at hl
  rw [cells28] at hg
  obtain ⟨u, v, rfl⟩ : ∃ u v, cs = [u, v] := by
    rcases cs with _ | ⟨u, _ | ⟨v, _ | ⟨w, r⟩⟩⟩
    · simp at hl
    · simp at hl
    · exact ⟨u, v, rfl⟩
    · simp at hl
  have h0 := hg 0 (by decide)
  have h1 := hg 1 (by decide)
  rw [List.getElem?_eq_getElem (by omega)] at h0 h1
  obtain ⟨n, e0, _, w0⟩ := DataW.trod_int Tryz.underlying28 h0
  obtain ⟨n', e1, _, w1⟩ := DataW.trod_int Tryz.underlying28 h1
  simp at e0 e1
  subst e0 e1
  have g0 : 0 ≤ n ∧ n ≤ 65535 := by simpa [Lit.wf, IntKind.min, IntKind.max, IntKind.signed, IntKind.bits] using w0
  have g1 : 0 ≤ n' ∧ n' ≤ 65535 := by simpa [Lit.wf, IntKind.min, IntKind.max, IntKind.signed, IntKind.bits] using w1
  refine ⟨n.toNat, n'.toNat, ?_, by omega, by omega⟩
  rw [Int.toNat_of_nonneg g0.1, Int.toNat_of_nonneg g1.1]

set_option maxRecDepth 100000 in
theorem walk {H : Type} {enc : TypeId × Value → H} {W : World} {base : Nat} {v : Value} {d : DataW H} {p : List MemPlace} (hval : Value.okWide Tryz.prog W .any base 22 v) (h : DataW.Trod enc Tryz.prog W 0 (fun _ => true) true 22 v d p) (s : Int) :
    Calls Tryz.prog 3 #[v, .int .i64 s] W fun e w' => e = .returned (.bool true) ∧ Below W.heap.size W w' := by
  obtain ⟨fuel, hf⟩ := h
  obtain ⟨a0, len, cap, rfl⟩ := okWide_slice Tryz.underlying22 hval
  have hnil : ∀ p c, VR (fun _ => none) p c → Sl h0 2 p [] → Calls Tryz.prog 3 #[c, .int .i64 s] W fun e w' => e = .returned (.bool true) ∧ Below W.heap.size W w' := fun p c hv hs =>
    ran (xs := []) hs (by simp) (by decide) s (by simp) (AM.base_R W) hv (by simp)
  rcases DataW.trod_slice Tryz.underlying22 hf with ⟨hcs, _⟩ | ⟨a, len', cap', elems, rest, n, _, hcs, _, _, hl, hm, hlen, hel, hsp, _⟩
  · simp [Value.cells] at hcs
    obtain ⟨rfl, rfl, rfl⟩ := hcs
    exact hnil _ _ (.nils 0 0) (Sl.nil _ _)
  · simp [Value.cells] at hcs
    obtain ⟨rfl, rfl, rfl⟩ := hcs
    have hspot : a.spot = none := by
      simp only [Value.okWide, Tryz.underlying22, Cell.okWide, Cell.ok] at hval
      exact hval.2.2.2.1
    obtain ⟨b, off, spot⟩ := a
    obtain rfl : spot = none := hspot
    by_cases hc : cap = 0
    · subst hc
      obtain rfl : len = 0 := by omega
      exact hnil _ _ (.void 0 ⟨b, off, none⟩ 0 rfl) ⟨_, 0, 0, _, rfl, .void 0, Nat.le_refl _, rfl⟩
    · obtain ⟨hrl, hr⟩ := hsp rfl
      have each : ∀ i, i < cap → ∃ x : Nat × Nat, (x.1 < 65536 ∧ x.2 < 65536) ∧ W.cell? ⟨b, off + i * 2, none⟩ = some (.int .u16 (x.1 : Int)) ∧ W.cell? ⟨b, off + i * 2 + 1, none⟩ = some (.int .u16 (x.2 : Int)) := by
        intro i hi
        have hb' : ∃ y, (W.cells? 0 ((⟨b, off, none⟩ : Addr).add (i * 2)) 2).bind (DataW.trod enc Tryz.prog W 0 (fun _ => true) true n 29) = some y := by
          by_cases h2 : i < len
          · have := hel i h2
            rw [cellsARR] at this
            exact ⟨_, this.trans (List.getElem?_eq_getElem (by omega))⟩
          · have := hr (i - len) (by omega)
            rw [cellsARR, show len + (i - len) = i by omega] at this
            exact ⟨_, this.trans (List.getElem?_eq_getElem (by omega))⟩
        obtain ⟨y, hy⟩ := hb'
        rw [Option.bind_eq_some_iff] at hy
        obtain ⟨cs, hcs, hy⟩ := hy
        obtain ⟨x1, x2, rfl, g1, g2⟩ := open_pair hy
        obtain ⟨_, _, hcell⟩ := World.cells?_some hcs
        refine ⟨(x1, x2), ⟨g1, g2⟩, ?_, ?_⟩
        · have := hcell 0 (by omega)
          simpa [Go.WideShapes.add_plain] using this
        · have := hcell 1 (by omega)
          simpa [Go.WideShapes.add_plain, Nat.add_assoc] using this
      obtain ⟨xs, hxl, hxg⟩ := pairs_of cap each
      refine at_row (by omega) hxl hl hm (fun q hq => ?_) (fun i hi => (hxg i hi).2) s
      obtain ⟨i, hi, rfl⟩ := List.getElem_of_mem hq
      exact (hxg i hi).1

/-! ### The row -/
set_option maxRecDepth 100000 in
theorem lifted (os : Os) (started : os.Started) (H : Type) (enc : TypeId × Value → H) :
    ReturnsInHanded {} Tryz.checked os 3 .any (Rows.scrubReadsSpec.pre6 enc Tryz.prog Tryz.f3 Rows.scrubReadsRow.domain false) (Rows.scrubReadsSpec.post enc Tryz.prog Tryz.f3 false true false false) := by
  refine returnsInHanded_of_change (C := Tryz.checked) Facts.own started (by kernel_rfl) Tryz.func3
    (ChangeSpec.witness6 (enc := enc) (C := Tryz.checked) false ⟨#[], #[.slice none 0 0, .int .i64 0], []⟩ 8 (by kernel_rfl) (by kernel_rfl) (by kernel_rfl) (by kernel_rfl)) ?_
  intro W base args ds gs before hval0 hW hcnd _
  have hval : ∀ (j : Nat) t v, Tryz.f3.params[j]? = some t → args[j]? = some v → Value.okWide Tryz.prog W .any base t v := hval0
  have hW' := hW
  obtain ⟨p, q, hA0, hV, rfl, hfz, hnd⟩ := hW
  have hA : DataW.TrodAll enc Tryz.prog W 0 (fun _ => true) true Tryz.f3.params.toList args.toList ds p := hA0
  rw [Tryz.params3] at hA hval
  obtain ⟨v0, v1, d0, d1, p0, p1, rfl, rfl, rfl, h0, h1⟩ := trodAll_two hA
  obtain ⟨rfl, rfl⟩ := trodVars_none hV
  obtain ⟨a1, rfl, rfl, rfl, w1⟩ := open_int Tryz.underlying3 (hval 1 3 v1 rfl rfl) h1
  clear hA0 hval0
  simp only [List.append_nil] at hW'
  have hlt : ∀ x ∈ p0, x.block < W.heap.size := fun x hx => by simpa using hW'.lt x hx
  refine (walk (hval 0 22 v0 rfl rfl) h0 a1).mono fun e W' ⟨he, hB⟩ => ?_
  subst he
  exact ⟨_, rfl, _, _, _, [], p0 ++ [], [], hW', trodAll_mk1 (shut_bool Tryz.underlying4 _),
    trodAll_mk2 (Below.trod Facts.laidOut (by kernel_rfl) (of_decide_eq_true (by kernel_rfl)) h0 hB hlt) (shut_int Tryz.underlying3 w1), rfl, hB.frame _, fun h => by cases h⟩

theorem over : Rows.scrubReadsRow.holds Tryz.pinned (OpenSpec.ofChange Rows.scrubReadsSpec) :=
  OpenClaim.holds_of_wide 3 Tryz.f3 rfl rfl rfl rfl rfl rfl rfl ⟨rfl, rfl, rfl, rfl, rfl⟩ rfl rfl rfl rfl rfl c_fn Tryz.func3 facts
    (of_decide_eq_true (by as_aux_lemma => kernel_rfl)) (by unfold Func.isWrapper; first | (rw [if_pos (by decide +kernel)]; kernel_rfl) | (rw [if_neg (by decide +kernel)]; exact ⟨rfl, rfl⟩))
    (fun os started H enc _ => lifted os started H enc)

theorem proved : Rows.ScrubReadsSaid :=
  over
end Go.Proofs.YtdbbkaeoinalpaaGreat.scrubReads
