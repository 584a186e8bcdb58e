/-
  'TaleData' (concertinalaw24): for every int, every byte and every int the law returns true, and the arguments read as before. No condition.
-/
import Derived.Test.YtlelihddjacplaaGreatTpR
import Derived.Test.YtlelihddjacplaaGreatTpQ
import Derived.Test.YtlelihddjacplaaGreatTpP
import Derived.Test.YtlelihddjacplaaGreatRows
import Derived.WalkKit
import Derived.ProofKit
import Derived.OpenShut
set_option linter.unusedVariables false
namespace Go.Proofs.YtlelihddjacplaaGreat.taleData
open Go.ChangeShapes Go.WideShapes Go.ChangeAt Go.RowKit
set_option linter.unusedVariables false      -- a walk need not use every 'w<i>' (that an integer argument fits its kind)

theorem c_inPlace : (Rows.taleDataRow.inPlace == Tryz.prog.inPlace 3) = true := by kernel_rfl
theorem c_unfollowed : (Rows.taleDataRow.unfollowed == Tryz.prog.unfollowed 3) = true := by kernel_rfl
theorem c_recurses : (Rows.taleDataRow.recurses == Tryz.prog.recurses 3) = true := by kernel_rfl
theorem c_named : (Rows.taleDataRow.named == Tryz.prog.varsNamed 3) = true := by kernel_rfl
theorem c_lifted : (Rows.taleDataRow.lifted == Tryz.prog.liftsFinal) = true := by kernel_rfl
theorem c_make : (Tryz.prog.make == some Rows.taleDataRow.make) = true := by kernel_rfl
theorem c_plainKeys : (Rows.taleDataRow.plainKeys == Tryz.prog.plainKeys) = true := by kernel_rfl
theorem c_wf : Rows.taleDataRow.wf (OpenSpec.ofChange Rows.taleDataSpec) = true := by kernel_rfl
theorem c_fn : Tryz.prog.funcNamed Rows.taleDataRow.func = some 3 := by kernel_rfl
theorem facts : joinedFacts Tryz.prog 3 Tryz.f3 Rows.taleDataSpec Rows.taleDataRow = true :=
  (Facts.band (Facts.band (Facts.band (Facts.band (Facts.band (Facts.band (Facts.band (Facts.band (Facts.band (Facts.band (Facts.band (Facts.band (Facts.band (Facts.band (Facts.band (Facts.band (Facts.band (Facts.band (Facts.band (Facts.band (Facts.band (Facts.band (Facts.band (Facts.band (Facts.band (Facts.band (Facts.band (Facts.band (Facts.band (Facts.band (Facts.band c_wf
    Facts.laidOut)
    Facts.mapsRowed_)
    (by as_aux_lemma => kernel_rfl))
    (by as_aux_lemma => kernel_rfl))
    (by as_aux_lemma => kernel_rfl))
    Facts.stops)
    (by as_aux_lemma => kernel_rfl))
    Facts.stopKnobs)
    c_inPlace)
    c_unfollowed)
    c_recurses)
    c_named)
    (by as_aux_lemma => kernel_rfl))
    (by as_aux_lemma => kernel_rfl))
    (by as_aux_lemma => kernel_rfl))
    (by as_aux_lemma => kernel_rfl))
    (by as_aux_lemma => kernel_rfl))
    (by as_aux_lemma => kernel_rfl))
    (by as_aux_lemma => kernel_rfl))
    (by as_aux_lemma => kernel_rfl))
    (by as_aux_lemma => kernel_rfl))
    c_plainKeys)
    (by as_aux_lemma => kernel_rfl))
    Facts.stopsHeard)
    Facts.mayEnter)
    c_lifted)
    c_make)
    (by as_aux_lemma => kernel_rfl))
    (by as_aux_lemma => kernel_rfl))
    (by as_aux_lemma => kernel_rfl))
    (by as_aux_lemma => kernel_rfl))
/-! ### The walk -/
theorem awake_ok (σ : AM.H) : @AM.Ru AM.argsAw 4 [] σ (fun r σ' => r = .ok (.bool true) ∧ σ' = σ) ⟨⟩ := ⟨1, _, σ, rfl, rfl, rfl⟩
theorem walk (a0 : Int) (a1 : Int) (a2 : Int) (w0 : (Lit.int .i64 a0).wf = true) (w1 : (Lit.int .u8 a1).wf = true) (w2 : (Lit.int .i64 a2).wf = true) (w : World) :
    Calls Tryz.prog 3 #[.int .i64 a0, .int .u8 a1, .int .i64 a2] w fun e w' => e = .returned (.bool true) ∧ Below w.heap.size w w' := by
  have g0 : -9223372036854775808 ≤ a0 ∧ a0 ≤ 9223372036854775807 := by simpa [Lit.wf, IntKind.min, IntKind.max, IntKind.signed, IntKind.bits] using w0
  have g1 : 0 ≤ a1 ∧ a1 ≤ 255 := by simpa [Lit.wf, IntKind.min, IntKind.max, IntKind.signed, IntKind.bits] using w1
  have g2 : -9223372036854775808 ≤ a2 ∧ a2 ≤ 9223372036854775807 := by simpa [Lit.wf, IntKind.min, IntKind.max, IntKind.signed, IntKind.bits] using w2
  obtain ⟨z, rfl⟩ := Int.eq_ofNat_of_zero_le g1.1
  obtain ⟨n, r, σ', h1, h2⟩ := @AM.td_law AM.argsAw awake_ok (fun k => rfl) a0 z a2 (by omega)
  refine (AM.calls_of_orc AM.args_prog h1 (AM.base_R w) (.cons (.int _ _) (.cons (.int _ _) (.cons (.int _ _) .nil)))).mono ?_
  rintro e w' ⟨ι', hx, hr', hret⟩
  subst h2
  refine ⟨?_, hx.os, hx.tape, hx.output, hx.size, fun b hb => hx.keep b hb fun A bk h => by cases h⟩
  cases e <;> simp only [AM.RetR] at hret
  cases hret
  rfl

/-! ### THE ROW's STEP: WRITTEN OUT: LEAVE IT -/
set_option maxRecDepth 100000 in
theorem lifted (os : Os) (started : os.Started) (H : Type) (enc : TypeId × Value → H) :
    ReturnsInHanded {} Tryz.checked os 3 .any (Rows.taleDataSpec.pre6 enc Tryz.prog Tryz.f3 Rows.taleDataRow.domain false) (Rows.taleDataSpec.post enc Tryz.prog Tryz.f3 false true false false) := by
  refine returnsInHanded_of_change (C := Tryz.checked) Facts.own started (by kernel_rfl) Tryz.func3
    (ChangeSpec.witness6 (enc := enc) (C := Tryz.checked) false ⟨#[], #[.int .i64 0, .int .u8 0, .int .i64 0], []⟩ 8 (by kernel_rfl) (by kernel_rfl) (by kernel_rfl) (by kernel_rfl)) ?_
  intro W base args ds gs before hval0 hW hcnd _
  have hval : ∀ (j : Nat) t v, Tryz.f3.params[j]? = some t → args[j]? = some v → Value.okWide Tryz.prog W .any base t v := hval0
  have hW' := hW
  obtain ⟨p, q, hA0, hV, rfl, hfz, hnd⟩ := hW
  have hA : DataW.TrodAll enc Tryz.prog W 0 (fun _ => true) true Tryz.f3.params.toList args.toList ds p := hA0
  rw [Tryz.params3] at hA hval
  obtain ⟨v0, vs0, d0, ds0, p0, q0, hargs, rfl, rfl, h0, r0⟩ := trodAll_cons hA
  obtain ⟨v1, vs1, d1, ds1, p1, q1, rfl, rfl, rfl, h1, r1⟩ := trodAll_cons r0
  obtain ⟨v2, vs2, d2, ds2, p2, q2, rfl, rfl, rfl, h2, r2⟩ := trodAll_cons r1
  obtain ⟨rfl, rfl, rfl⟩ := trodAll_nil r2
  obtain rfl : args = #[v0, v1, v2] := by cases args; simp_all
  obtain ⟨rfl, rfl⟩ := trodVars_none hV
  obtain ⟨a0, rfl, rfl, rfl, w0⟩ := open_int Tryz.underlying3 (hval 0 3 v0 rfl rfl) h0
  obtain ⟨a1, rfl, rfl, rfl, w1⟩ := open_int Tryz.underlying5 (hval 1 5 v1 rfl rfl) h1
  obtain ⟨a2, rfl, rfl, rfl, w2⟩ := open_int Tryz.underlying3 (hval 2 3 v2 rfl rfl) h2
  clear hA0 hval0
  simp only [List.append_nil] at hW'
  refine (walk a0 a1 a2 w0 w1 w2 W).mono fun e W' ⟨he, hg⟩ => ?_
  subst he
  exact ⟨_, rfl, _, _, _, [], _, [], hW', trodAll_mk1 (shut_bool Tryz.underlying4 _), (trodAll_cons_mk (shut_int Tryz.underlying3 w0) (trodAll_cons_mk (shut_int Tryz.underlying5 w1) (trodAll_cons_mk (shut_int Tryz.underlying3 w2) trodAll_mk0))), rfl, hg.frame _, fun h => by cases h⟩

theorem over : Rows.taleDataRow.holds Tryz.pinned (OpenSpec.ofChange Rows.taleDataSpec) :=
  OpenClaim.holds_of_wide 3 Tryz.f3 rfl rfl rfl rfl rfl rfl rfl ⟨rfl, rfl, rfl, rfl, rfl⟩ rfl rfl rfl rfl rfl c_fn Tryz.func3 facts
    (of_decide_eq_true (by as_aux_lemma => kernel_rfl)) (by unfold Func.isWrapper; first | (rw [if_pos (by decide +kernel)]; kernel_rfl) | (rw [if_neg (by decide +kernel)]; exact ⟨rfl, rfl⟩))
    (fun os started H enc _ => lifted os started H enc)

theorem proved : Rows.TaleDataSaid :=
  over
end Go.Proofs.YtlelihddjacplaaGreat.taleData
