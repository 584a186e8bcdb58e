/- Parts: Region, AmComp, Snd1, Snd2, Snd3, Snd4, Snd5, Snd6, Snd7, Snd8, Snd9. -/
import Derived.Test.YtlelihddjacplaaGreatTpA
import Derived.OrdersHeld
import Derived.Deep.RegionHeld3
import Derived.Tactics
import Derived.Laws.Cells
import Derived.Laws.IdiomCopy
import Derived.Deep.MidRow
import Derived.Deep.Upon
import Derived.Handy
import Derived.Laws.Strings
import Derived.Laws.StructEq
import Derived.Laws.BytesString
import Derived.Laws.Externs
set_option linter.unusedVariables false
namespace Go.Proofs.YtlelihddjacplaaGreat
section
variable {P : Program} {ops : Array Oper} {Q : Exit → Act → World → Prop} {md : Region.Mode} {S : World → Prop} {need : Nat → Bool}

def DownC (md : Region.Mode) (ops : Array Oper) (listed : Array Bool) : Prop :=
  listed.size = ops.size ∧ ∀ j oj, ops[j]? = some oj → listed.getD j false = true → ∀ e ∈ oj.after, Region.binds md e = true → listed.getD e.on false = true

theorem getD_t {listed : Array Bool} {i : Nat} (h : listed.getD i true = false) : listed.getD i false = false := by
  rcases Nat.lt_or_ge i listed.size with h' | h'
  · simp [h'] at h ⊢; exact h
  · simp [Array.getElem?_eq_none h'] at h

theorem DownC.set {i : Nat} {listed : Array Bool} (inv : DownC md ops listed) (hi : i ∈ Region.ready md ops listed) : DownC md ops (listed.setIfInBounds i true) := by
  obtain ⟨_, oi, hoi, hall⟩ := mem_ready.1 hi
  refine ⟨by simp [inv.1], fun j oj hj hl e he hb => ?_⟩
  by_cases hij : i = j
  · subst hij
    have : oj = oi := Option.some.inj (hj.symm.trans hoi)
    subst this
    exact getD_set_true (hall e he hb)
  · rw [getD_set_ne false hij] at hl
    exact getD_set_true (inv.2 j oj hj hl e he hb)

def ancs (md : Region.Mode) (i : Nat) : List Oper → List Bool → List Bool
  | [], acc => acc
  | o :: l, acc => ancs md i l (acc ++ [o.after.any fun e => Region.binds md e && (e.on == i || acc.getD e.on false)])

def Anc (md : Region.Mode) (ops : Array Oper) (i k : Nat) : Prop :=
  ∀ (listed : Array Bool) (o : Oper), DownC md ops listed → ops[k]? = some o → (∀ e ∈ o.after, Region.binds md e = true → listed.getD e.on false = true) → listed.getD i false = true

theorem ancs_sound (i : Nat) : ∀ (l : List Oper) (acc : List Bool), (∀ j, l[j]? = ops[acc.length + j]?) → (∀ k, acc.getD k false = true → Anc md ops i k) →
    ∀ k, (ancs md i l acc).getD k false = true → Anc md ops i k
  | [], acc, _, h, k, hk => h k hk
  | o :: l, acc, hl, h, k, hk => by
    have h0 : ops[acc.length]? = some o := by simpa using (hl 0).symm
    refine ancs_sound i l _ (fun j => ?_) (fun k hk => ?_) k hk
    · have := hl (j + 1)
      simp only [List.getElem?_cons_succ] at this
      rw [this]; simp only [List.length_append, List.length_cons, List.length_nil]; congr 1; omega
    · rcases Nat.lt_trichotomy k acc.length with hlt | heq | hgt
      · rw [List.getD_eq_getElem?_getD, List.getElem?_append_left hlt, ← List.getD_eq_getElem?_getD] at hk; exact h k hk
      · subst heq
        simp only [List.getD_eq_getElem?_getD, List.getElem?_append_right (Nat.le_refl _), Nat.sub_self, List.getElem?_cons_zero, Option.getD_some] at hk
        obtain ⟨e, he, hb⟩ := Array.any_eq_true'.1 hk
        simp only [Bool.and_eq_true, Bool.or_eq_true, beq_iff_eq] at hb
        intro listed o' inv ho' hall
        have : o' = o := Option.some.inj (ho'.symm.trans h0)
        subst this
        have hon := hall e he hb.1
        rcases hb.2 with rfl | hb2
        · exact hon
        · have hsz : e.on < ops.size := by
            rcases Nat.lt_or_ge e.on listed.size with h' | h'
            · rw [inv.1] at h'; exact h'
            · simp [Array.getElem?_eq_none h'] at hon
          exact h e.on hb2 listed _ inv (Array.getElem?_eq_getElem hsz) (inv.2 e.on _ (Array.getElem?_eq_getElem hsz) hon)
      · rw [List.getD_eq_getElem?_getD, List.getElem?_append_right (by omega), List.getElem?_eq_none (by simp; omega)] at hk
        cases hk

def needB (md : Region.Mode) (ops : Array Oper) (need : Nat → Bool) (i : Nat) : Bool :=
  (List.range ops.size).all fun j => j == i || need j || (ancs md i ops.toList []).getD j false

theorem needB_spec {i : Nat} (h : needB md ops need i = true) {listed : Array Bool} {j : Nat} (inv : DownC md ops listed) (hj : j ∈ Region.ready md ops listed)
    (hi : listed.getD i true = false) (hji : j ≠ i) : need j = true := by
  obtain ⟨_, oj, hoj, hall⟩ := mem_ready.1 hj
  have hlt : j < ops.size := (Array.getElem?_eq_some_iff.1 hoj).1
  have := List.all_eq_true.1 h j (List.mem_range.2 hlt)
  simp only [Bool.or_eq_true, beq_iff_eq] at this
  rcases this with (h1 | h1) | h1
  · exact absurd h1 hji
  · exact h1
  · have := ancs_sound (md := md) (ops := ops) i ops.toList [] (fun j => by simp) (fun k hk => by simp at hk) j h1 listed oj inv hoj hall
    rw [getD_t hi] at this; cases this

/-- Whatever order is picked; S behind every operation that needs it. -/
def wpAnyN (P : Program) (md : Region.Mode) (ops : Array Oper) (Q : Exit → Act → World → Prop) (S : World → Prop) (need : Nat → Bool) : Nat → Array Bool → Act → World → Prop
  | 0, listed, a, w => Region.ready md ops listed = [] ∧ Q .normal a w
  | fuel + 1, listed, a, w =>
    (Region.ready md ops listed = [] → Q .normal a w) ∧
    ∀ i ∈ Region.ready md ops listed, wpOp P ops Q i (fun a' w' => (need i = true → S w') ∧ wpAnyN P md ops Q S need fuel (listed.setIfInBounds i true) a' w') a w

theorem wpAny_of_N : ∀ (fuel : Nat) (listed : Array Bool) (a : Act) (w : World), wpAnyN P md ops Q S need fuel listed a w → wpAny P md ops Q fuel listed a w
  | 0, _, _, _, h => h
  | fuel + 1, _, _, _, h => ⟨h.1, fun i hi => wpOp_mono (fun a' w' h' => wpAny_of_N fuel _ a' w' h'.2) (h.2 i hi)⟩

theorem wpAnyN_first {i : Nat} {oi : Oper} {v : Value} (hi : ops[i]? = some oi) (hsel : ∀ (j : Nat) (o : Oper) cs b, ops[j]? = some o → o.op ≠ .select cs b)
    (hQ : ∀ c a w, Q (.panic c) (a.put oi.dst v) w → Q (.panic c) a w) (hneed : needB md ops need i = true) :
    ∀ (fuel : Nat) (listed : Array Bool) (a : Act) (w : World), DownC md ops listed →
      (∀ j oj, ops[j]? = some oj → j ≠ i → listed.getD j true = false → (∀ e ∈ oj.after, Region.binds md e = true → e.on ≠ i) → oi.apart ops oj = true) →
      i ∈ Region.ready md ops listed → YieldsIf P ops S oi v a → S w →
      wpAnyN P md ops Q S need fuel (listed.setIfInBounds i true) (a.put oi.dst v) w → wpAnyN P md ops Q S need (fuel + 1) listed a w := by
  intro fuel
  induction fuel with
  | zero =>
    intro listed a w _ _ hr hy hS H
    refine ⟨fun h => (by rw [h] at hr; cases hr), fun j hj => ?_⟩
    by_cases hji : j = i
    · subst hji; exact hy.wpOp hi hS ⟨fun _ => hS, H⟩
    · have := ready_mono hj hji
      rw [H.1] at this
      cases this
  | succ fuel ih =>
    intro listed a w inv hfree hr hy hS H
    refine ⟨fun h => (by rw [h] at hr; cases hr), fun j hj => ?_⟩
    by_cases hji : j = i
    · subst hji; exact hy.wpOp hi hS ⟨fun _ => hS, H⟩
    · have h1 := H.2 j (ready_mono hj hji)
      obtain ⟨hjun, oj, hoj, hall⟩ := mem_ready.1 hj
      have hun := (mem_ready.1 hr).1
      have hnj := needB_spec hneed inv hj hun hji
      have hnot : ∀ e ∈ oj.after, Region.binds md e = true → e.on ≠ i := fun e he hb heq => by
        have h1 := hall e he hb
        rw [heq, getD_t hun] at h1; cases h1
      have h2 := wpOp_putIf hoj (hfree j oj hoj hji hjun hnot) (fun cs b => hsel i oi cs b hi) (fun cs b => hsel j oj cs b hoj) hQ hy h1
      have hfree' : ∀ k ok, ops[k]? = some ok → k ≠ i → (listed.setIfInBounds j true).getD k true = false →
          (∀ e ∈ ok.after, Region.binds md e = true → e.on ≠ i) → oi.apart ops ok = true := fun k ok hk hki hun hno => by
        refine hfree k ok hk hki ?_ hno
        by_cases hjk : j = k
        · subst hjk; exact hjun
        · rw [getD_set_ne true hjk] at hun; exact hun
      refine wpOp_mono (fun a' w' h3 => ⟨fun _ => h3.2.1 hnj, ih (listed.setIfInBounds j true) a' w' (inv.set hj) hfree' (ready_mono hr (Ne.symm hji)) h3.1 (h3.2.1 hnj) ?_⟩) h2
      rw [Array.setIfInBounds_comm _ _ hji]
      exact h3.2.2

/-- The chosen order: (true, i): taken first; (false, i): the only one that can come. -/
def ordB (md : Region.Mode) (ops : Array Oper) (need : Nat → Bool) : List (Bool × Nat) → Bool → Array Bool → Bool
  | [], _, listed => (Region.ready md ops listed).isEmpty
  | (true, i) :: r, known, listed => known && (Region.ready md ops listed).contains i && Region.free md ops listed i && needB md ops need i && ordB md ops need r known (listed.setIfInBounds i true)
  | (false, i) :: r, _, listed => (Region.ready md ops listed == [i]) && ordB md ops need r (need i) (listed.setIfInBounds i true)

def wpOrd (P : Program) (ops : Array Oper) (Q : Exit → Act → World → Prop) (S : World → Prop) (need : Nat → Bool) : List (Bool × Nat) → Act → World → Prop
  | [], a, w => Q .normal a w
  | (true, i) :: r, a, w => ∀ o, ops[i]? = some o → ∃ v, YieldsIf P ops S o v a ∧ wpOrd P ops Q S need r (a.put o.dst v) w
  | (false, i) :: r, a, w => wpOp P ops Q i (fun a' w' => (need i = true → S w') ∧ wpOrd P ops Q S need r a' w') a w

theorem wpAnyN_of_ord (hsel : Region.noSelect ops = true) (hQ : ∀ d v c a w, Q (.panic c) (a.put d v) w → Q (.panic c) a w) :
    ∀ (l : List (Bool × Nat)) (known : Bool) (listed : Array Bool) (a : Act) (w : World), ordB md ops need l known listed = true → DownC md ops listed → (known = true → S w) →
    wpOrd P ops Q S need l a w → wpAnyN P md ops Q S need l.length listed a w
  | [], _, _, _, _, hB, _, _, h => ⟨by simpa [ordB] using hB, h⟩
  | (true, i) :: r, known, listed, a, w, hB, inv, hS, h => by
    simp only [ordB, Bool.and_eq_true] at hB
    obtain ⟨⟨⟨⟨hk, hr⟩, hf⟩, hn⟩, hB⟩ := hB
    have hr' : i ∈ Region.ready md ops listed := by simpa using hr
    obtain ⟨_, oi, hoi, _⟩ := mem_ready.1 hr'
    obtain ⟨v, hy, hK⟩ := h oi hoi
    exact wpAnyN_first hoi (Region.noSelect_spec hsel) (fun c a w => hQ _ _ c a w) hn r.length listed a w inv (Region.free_spec hoi hf) hr' hy (hS hk)
      (wpAnyN_of_ord hsel hQ r known _ _ w hB (inv.set hr') hS hK)
  | (false, i) :: r, known, listed, a, w, hB, inv, hS, h => by
    simp only [ordB, Bool.and_eq_true, beq_iff_eq] at hB
    have hr' : i ∈ Region.ready md ops listed := by rw [hB.1]; simp
    refine ⟨fun h0 => (by rw [h0] at hr'; cases hr'), fun j hj => ?_⟩
    rw [hB.1] at hj
    have : j = i := by simpa using hj
    subst this
    exact wpOp_mono (fun a' w' h' => ⟨h'.1, wpAnyN_of_ord hsel hQ r (need j) _ a' w' hB.2 (inv.set hr') h'.1 h'.2⟩) h

/-! The form that the walk takes: the operations themselves. -/
def thenQ (Q : Exit → Act → World → Prop) (K : Act → World → Prop) : Exit → Act → World → Prop
  | .normal, a, w => K a w
  | e, a, w => Q e a w

def wpY (P : Program) (ops : Array Oper) (S : World → Prop) (K : Act → Prop) : List Oper → Act → Prop
  | [], a => K a
  | o :: r, a => ∃ v, YieldsIf P ops S o v a ∧ wpY P ops S K r (a.put o.dst v)

theorem wpY_nil {K : Act → Prop} {a : Act} (h : K a) : wpY P ops S K [] a := h
theorem wpY_take {K : Act → Prop} {a : Act} {o : Oper} {r : List Oper} {v : Value} (hw : Region.wanted o (yielded ops a.tmps) = true)
    (h : ∀ w, S w → (execOp a.eval o).run P w = .ok (.value v) w) (hr : wpY P ops S K r (a.put o.dst v)) : wpY P ops S K (o :: r) a := ⟨v, .inl ⟨hw, h⟩, hr⟩
theorem wpY_skip {K : Act → Prop} {a : Act} {o : Oper} {r : List Oper} (hw : Region.wanted o (yielded ops a.tmps) = false)
    (hr : wpY P ops S K r (a.put o.dst undef)) : wpY P ops S K (o :: r) a := ⟨undef, .inr ⟨hw, rfl⟩, hr⟩

def wpSegs (P : Program) (ops : Array Oper) (Q : Exit → Act → World → Prop) (S : World → Prop) : List (List Oper × List Oper) → List Oper → Act → World → Prop
  | [], fin, a, w => wpList P ops Q fin a w
  | (q, e) :: r, fin, a, w => wpY P ops S (fun a' => wpList P ops (thenQ Q fun a2 w2 => S w2 ∧ wpSegs P ops Q S r fin a2 w2) e a' w) q a

def segItems : List (List Nat × List Nat) → List Nat → List (Bool × Nat)
  | [], fin => fin.map (false, ·)
  | (q, e) :: r, fin => q.map (true, ·) ++ (e.map (false, ·) ++ segItems r fin)

def picks (ops : Array Oper) (q : List Nat) : List Oper := q.filterMap (ops[·]?)

theorem opWp_then {o : Oper} {a : Act} {w : World} {K K2 : Act → World → Prop} (h : o.wp P a w K (thenQ Q K2)) : o.wp P a w K Q := by
  unfold Oper.wp at *
  generalize (execOp a.eval o).run P w = r at *
  cases r with
  | ok n w' =>
    cases n <;> simp only [Oper.upon] at h ⊢ <;>
      first
        | exact h
        | exact Calls.mono h (fun e w'' he => by cases e <;> first | exact he | (obtain ⟨a, w, h⟩ := he; exact ⟨a, w, h⟩))
  | halt x w' => cases x <;> simp only [Oper.upon] at h ⊢ <;> exact h

theorem wpOrd_quiet {K : List (Bool × Nat)} {w : World} : ∀ {q : List Nat}, (q.all fun i => decide (i < ops.size)) = true →
    ∀ (a : Act), wpY P ops S (fun a' => wpOrd P ops Q S need K a' w) (picks ops q) a → wpOrd P ops Q S need (q.map (true, ·) ++ K) a w
  | [], _, _, h => h
  | i :: q, hq, a, h => by
    simp only [List.all_cons, Bool.and_eq_true, decide_eq_true_eq] at hq
    have h0 : ops[i]? = some ops[i] := Array.getElem?_eq_getElem hq.1
    simp only [picks, List.filterMap_cons, h0] at h
    obtain ⟨v, hy, hr⟩ := h
    show ∀ o, ops[i]? = some o → ∃ v, YieldsIf P ops S o v a ∧ wpOrd P ops Q S need (q.map (true, ·) ++ K) (a.put o.dst v) w
    intro o ho
    obtain rfl : ops[i] = o := Option.some.inj (h0.symm.trans ho)
    exact ⟨v, hy, wpOrd_quiet hq.2 _ hr⟩

theorem wpOp_of_list {i : Nat} {o : Oper} {K2 : Act → World → Prop} {Q' : Exit → Act → World → Prop} {r : List Oper} {a : Act} {w : World} (hi : ops[i]? = some o) (h : wpList P ops (thenQ Q K2) (o :: r) a w) :
    wpOp P ops Q i (wpList P ops (thenQ Q K2) r) a w := by
  unfold wpOp
  simp only [hi]
  simp only [wpList] at h
  split
  · rename_i hw
    rw [if_pos hw] at h
    rcases h with h | ⟨h1, b, w2, h2⟩
    · exact .inl (opWp_then h)
    · exact .inr ⟨h1, b, w2, h2⟩
  · rename_i hw
    rw [if_neg hw] at h
    exact h

theorem thenQ_self : thenQ Q (fun a w => Q .normal a w) = Q := by
  funext e a w; cases e <;> rfl

theorem wpOrd_fin : ∀ {q : List Nat}, (q.all fun i => decide (i < ops.size) && !need i) = true →
    ∀ (a : Act) (w : World), wpList P ops Q (picks ops q) a w → wpOrd P ops Q S need (q.map (false, ·)) a w
  | [], _, _, _, h => h
  | i :: q, hq, a, w, h => by
    simp only [List.all_cons, Bool.and_eq_true, decide_eq_true_eq, Bool.not_eq_true'] at hq
    have h0 : ops[i]? = some ops[i] := Array.getElem?_eq_getElem hq.1.1
    simp only [picks, List.filterMap_cons, h0] at h
    rw [← thenQ_self (Q := Q)] at h
    refine wpOp_mono (fun a' w' h' => ⟨fun hn => (by rw [hq.1.2] at hn; cases hn), ?_⟩) (wpOp_of_list (Q' := Q) h0 h)
    rw [thenQ_self] at h'
    exact wpOrd_fin hq.2 _ _ h'

theorem wpOrd_segs : ∀ {segs : List (List Nat × List Nat)} {fin : List Nat}, (segs.all fun s => (s.1.all fun i => decide (i < ops.size)) && (s.2.all fun i => decide (i < ops.size)) && decide (s.2.length ≤ 1)) = true →
    (fin.all fun i => decide (i < ops.size) && !need i) = true →
    ∀ {a : Act} {w : World}, wpSegs P ops Q S (segs.map fun s => (picks ops s.1, picks ops s.2)) (picks ops fin) a w → wpOrd P ops Q S need (segItems segs fin) a w
  | [], fin, _, hf, a, w, h => wpOrd_fin hf a w h
  | (q, e) :: r, fin, hs, hf, a, w, h => by
    simp only [List.all_cons, Bool.and_eq_true, decide_eq_true_eq] at hs
    obtain ⟨⟨⟨h1, h2⟩, h3⟩, h4⟩ := hs
    simp only [segItems]
    refine wpOrd_quiet h1 a ?_
    have hmono : ∀ {l : List Oper} {K K' : Act → Prop} {a : Act}, (∀ a, K a → K' a) → wpY P ops S K l a → wpY P ops S K' l a := by
      intro l; induction l with
      | nil => intro K K' a hk h; exact hk _ h
      | cons o l ih => intro K K' a hk ⟨v, hy, h⟩; exact ⟨v, hy, ih hk h⟩
    refine hmono (fun a' h' => ?_) h
    match e, h2, h3, h' with
    | [], _, _, h' => exact wpOrd_segs h4 hf h'.2
    | [i], h2, _, h' =>
      simp only [List.all_cons, List.all_nil, Bool.and_true, decide_eq_true_eq] at h2
      have h0 : ops[i]? = some ops[i] := Array.getElem?_eq_getElem h2
      simp only [picks, List.filterMap_cons, h0, List.filterMap_nil] at h'
      exact wpOp_mono (fun a2 w2 h5 => ⟨fun _ => h5.1, wpOrd_segs h4 hf h5.2⟩) (wpOp_of_list (Q' := Q) h0 h')
    | _ :: _ :: _, _, h3, _ => simp at h3

def regionB (l : List Oper) (segs : List (List Nat × List Nat)) (fin : List Nat) : Bool :=
  Region.noSelect l.toArray && (segItems segs fin).length == l.length &&
  (segs.all fun s => (s.1.all fun i => decide (i < l.toArray.size)) && (s.2.all fun i => decide (i < l.toArray.size)) && decide (s.2.length ≤ 1)) &&
  (fin.all fun i => decide (i < l.toArray.size)) &&
  ordB .any l.toArray (fun i => !fin.contains i) (segItems segs fin) true (Array.replicate l.toArray.size false)

theorem wp_region_ord {id : Nat} {l : List Oper} {a : Act} {w : World} (S : World → Prop) (segs : List (List Nat × List Nat)) (fin : List Nat) (hm : P.follows .mixedOrders = true)
    (hB : regionB l segs fin = true) (hS : S w.drew)
    (h : wpSegs P l.toArray (NoPanic Q) S (segs.map fun s => (picks l.toArray s.1, picks l.toArray s.2)) (picks l.toArray fin) a w.drew) : (Code.region id l.toArray true).wp P Q a w := by
  simp only [regionB, Bool.and_eq_true, beq_iff_eq] at hB
  obtain ⟨⟨⟨⟨hsel, hlen⟩, hs⟩, hf⟩, ho⟩ := hB
  have hf' : (fin.all fun i => decide (i < l.toArray.size) && !(fun i => !fin.contains i) i) = true := by
    rw [List.all_eq_true] at hf ⊢
    intro i hi
    simp only [Bool.and_eq_true, hf i hi, Bool.not_not, true_and]
    simpa using hi
  have inv0 : DownC .any l.toArray (Array.replicate l.toArray.size false) := ⟨by simp, fun j oj _ hl => by
    have : (Array.replicate l.toArray.size false).getD j false = false := by
      rcases Nat.lt_or_ge j l.toArray.size with h | h
      · simp at h; simp [h]
      · simp at h; simp [h]
    rw [this] at hl; cases hl⟩
  have := wpAnyN_of_ord (md := .any) (S := S) (Q := NoPanic Q) hsel (fun _ _ _ _ _ h => h) (segItems segs fin) true _ a w.drew ho inv0 (fun _ => hS) (wpOrd_segs hs hf' h)
  rw [hlen, show l.length = l.toArray.size by simp] at this
  exact wp_region_noPanic (wp_region_any hm (wpAny_of_N _ _ _ _ this))
end
end Go.Proofs.YtlelihddjacplaaGreat
namespace Go.Proofs.YtlelihddjacplaaGreat
namespace AM
section
variable (P : Program)

def constOk : Value → Bool
  | .bool _ | .int .. | .float .. | .string _ | .pointer none | .slice none .. | .map none | .nilFunc | .nilIface => true
  | _ => false
def opdOf : Operand → Option Opd
  | .tmp t => some (.t t)
  | .const v => if constOk v then some (.c v) else none
  | .func f => some (.c (.func (.func f) #[] #[]))
  | .global _ => none
def nilOf : NK → Operand → Bool
  | .ptr, .const (.pointer none) | .slice, .const (.slice none ..) | .map, .const (.map none) | .func, .const .nilFunc | .iface, .const .nilIface => true
  | _, _ => false
def nkOf : TypeDesc → Option NK
  | .pointer _ => some .ptr
  | .slice _ => some .slice
  | .map .. => some .map
  | .func .. => some .func
  | .interface _ => some .iface
  | _ => none
def aggT (t : TypeId) : Bool :=
  match P.underlying t with
  | some (.struct _) | some (.array _ _) => true
  | _ => false
def szT (t : TypeId) : Option Nat := match Nat.blt t P.types.size with
  | true => (P.info? t).map (·.size)
  | false => none
def zeroT (t : TypeId) : Option Value := match Nat.blt t P.types.size with
  | true => (P.info? t).bind fun i => i.zero.filter fun z => (cellsOf z).all constOk && (cellsOf z).length == i.size
  | false => none
def bytesT (t : TypeId) : Option Nat := (P.info? t).map (·.bytes)
/-- The cells of a type that has some. -/
def szP (t : TypeId) : Option Nat := (szT P t).filter fun n => n != 0
def intT (t : TypeId) : Bool :=
  match P.underlying t with
  | some (.int _) => true
  | _ => false
def boolT (t : TypeId) : Bool :=
  match P.underlying t with
  | some .bool => true
  | _ => false
def cellT (bl : Bool) (t : TypeId) : Bool := if bl then boolT P t else intT P t
def fieldsB (bl : Bool) : List Field → Nat → Bool
  | [], _ => true
  | f :: fs, i => f.name != "_" && cellT P bl f.type && f.offset == i && fieldsB bl fs (i + 1)
/-- A type of so many ints, or bools. -/
def flatT (bl : Bool) (t : TypeId) : Option Nat :=
  match P.underlying t with
  | some (.struct fs) => if fieldsB P bl fs.toList 0 && !P.stoodInHeld t && !P.eqGuardType P.depth t then some fs.size else none
  | some (.array n e) => if cellT P bl e && szT P e == some 1 && !P.eqGuardType P.depth t then some n else none
  | _ => none
def keyT (t : TypeId) : Option (Option Nat) :=
  if intT P t then some none else match flatT P false t with
    | some n => some (some n)
    | none => none

def placesOf (t : TypeId) (parts : List Nat) : Option (List (Nat × Nat)) :=
  match P.underlying t with
  | some (.struct fs) => parts.mapM fun i => (fs[i]?).bind fun f => (szT P f.type).map fun s => (f.offset, s)
  | some (.array _ e) => (szT P e).map fun s => parts.map fun i => (i * s, s)
  | _ => none

def compAgg (neg : Bool) (t : TypeId) (x y : Operand) : Option (Prim × List Opd) := do
  match flatT P false t with
  | some n => do some (.eqAgg false n neg, [← opdOf x, ← opdOf y])
  | none => match flatT P true t with
    | some n => do some (.eqAgg true n neg, [← opdOf x, ← opdOf y])
    | none => none
def compNil (neg : Bool) (d : TypeDesc) (x y : Operand) : Option (Prim × List Opd) := do
  let k ← nkOf d
  match nilOf k y, nilOf k x with
  | true, false => do some (.isNil k neg, [← opdOf x])
  | false, true => do some (.isNil k neg, [← opdOf y])
  | _, _ => match d with
    | .pointer e => if (szT P e).getD 0 == 0 then none else do some (.eqPtr neg, [← opdOf x, ← opdOf y])
    | _ => none

def compBuiltin (b : Builtin) (args : List Opd) (ts : List TypeId) : Option (Prim × List Opd) :=
  match b, ts with
  | .len, [t] => match P.underlying t with
    | some (.slice _) => some (.lenS, args)
    | some (.map ..) => some (.lenM, args)
    | some (.array n _) => some (.lenC n, args)
    | _ => none
  | .cap, [t] => match P.underlying t with
    | some (.slice _) => some (.cap, args)
    | _ => none
  | .append, [t, u] => match P.underlying t, P.underlying u with
    | some (.slice e), some (.slice _) => do
      let _ ← zeroT P e
      some (.append e (← szP P e) (← bytesT P e), args)
    | some (.slice e), some (.int _) => do some (.appendZ e (← szP P e) (← bytesT P e) (← zeroT P e).cells.toList, args)
    | _, _ => none
  | .copy, [t, u] => match P.underlying t, P.underlying u with
    | some (.slice e), some (.slice _) => do some (.copy (← szP P e), args)
    | _, _ => none
  | .min, [t, _] => if intT P t then some (.min, args) else none
  | .max, [t, _] => if intT P t then some (.max, args) else none
  | .clear, [t] => match P.underlying t with
    | some (.map ..) => some (.clearM, args)
    | some (.slice e) => do
      let _ ← szP P e
      some (.clearS (← zeroT P e).cells.toList, args)
    | _ => none
  | .delete, t :: _ => match P.underlying t with
    | some (.map k _) => do some (.delete (← keyT P k), args)
    | _ => none
  | .recover, _ => some (.recover, args)
  | _, _ => none

def extern (name : String) (args : List Opd) : Option (Prim × List Opd) :=
  if name == "math.Float64bits" then some (.f64bits, args)
  else if name == "math.Float64frombits" then some (.f64from, args)
  else if name == "maps.clone" then some (.mapsClone, args)
  else if ["slices.overlaps[int]", "slices.overlaps[concertina/api.Run]", "slices.overlaps[concertina/api.Place]", "slices.overlaps[concertina/node.Kid]", "slices.overlaps[*concertina/tree.branch]", "internal/bytealg.MakeNoZero"].contains name then some (.overlaps, args)
  else none

def compOp (o : Go.Op) : Option (Prim × List Opd) :=
  match o with
  | .move x | .assign x => do some (.move, [← opdOf x])
  | .pick c a b => do some (.pick, [← opdOf c, ← opdOf a, ← opdOf b])
  | .alloc e => do some (.new e (← szT P e) (← zeroT P e).cells.toList, [])
  | .box e x => do some (.box e (← szT P e), [← opdOf x])
  | .build t ps => do some (.build (← zeroT P t).cells.toList (← placesOf P t (ps.toList.map (·.1))), ← ps.toList.mapM fun p => opdOf p.2)
  | .buildSlice t n ps => match P.underlying t with
    | some (.slice e) => do
      let s ← szT P e
      if n * s > 2 ^ 24 then none
      some (.buildSlice e s n (lrep (← zeroT P e).cells.toList n) (ps.toList.map fun p => (p.1 * s, s)), ← ps.toList.mapM fun p => opdOf p.2)
    | _ => none
  | .load t a => do some (.load (aggT P t) (← szT P t), [← opdOf a])
  | .store t a v => do some (.store (← szT P t), [← opdOf a, ← opdOf v])
  | .nilCheck x => do some (.nilCheck, [← opdOf x])
  | .binOp op t x y _ =>
    match op, P.underlying t with
    | .eql, some (.struct _) | .eql, some (.array _ _) => compAgg P false t x y
    | .neq, some (.struct _) | .neq, some (.array _ _) => compAgg P true t x y
    | _, some (.int _) | _, some (.float _) => do some (.bin op, [← opdOf x, ← opdOf y])
    | .eql, some .string => do some (.eqStr false, [← opdOf x, ← opdOf y])
    | .neq, some .string => do some (.eqStr true, [← opdOf x, ← opdOf y])
    | .eql, some .bool => do some (.eqBool false, [← opdOf x, ← opdOf y])
    | .neq, some .bool => do some (.eqBool true, [← opdOf x, ← opdOf y])
    | .eql, some d => compNil P false d x y
    | .neq, some d => compNil P true d x y
    | _, _ => none
  | .unOp op _ x => do some (.un op, [← opdOf x])
  | .convert s d x => match P.underlying s, P.underlying d with
    | some (.int _), some (.int k) => do some (.toInt k, [← opdOf x])
    | some (.int _), some (.float k) => do some (.toFloat k, [← opdOf x])
    | some (.slice e), some .string => match P.underlying e with
      | some (.int .u8) => do some (.toStr, [← opdOf x])
      | _ => none
    | _, _ => none
  | .makeInterface t x => match P.underlying t with
    | some (.interface _) => none
    | some _ => do some (.iface t, [← opdOf x])
    | none => none
  | .makeFunc (.func f) first cap => do some (.func f first.size, (← first.toList.mapM opdOf) ++ (← cap.toList.mapM opdOf))
  | .makeMap t r => match r with
    | none => some (.newMap, [])
    | some (.const (.int _ _)) => match P.underlying t with
      | some (.map ..) => some (.newMap, [])
      | _ => none
    | _ => none
  | .makeSlice t l c => match P.underlying t with
    | some (.slice e) => do some (.newSlice e (← szT P e) (← bytesT P e) (← zeroT P e).cells.toList, [← opdOf l, ← opdOf c])
    | _ => none
  | .slice t x lo hi mx => match P.underlying t with
    | some (.slice e) => do
      some (.slice (← szP P e) lo.isSome hi.isSome mx.isSome, (← opdOf x) :: ((← lo.toList.mapM opdOf) ++ (← hi.toList.mapM opdOf) ++ (← mx.toList.mapM opdOf)))
    | _ => none
  | .fieldAddr s x i => match P.underlying s with
    | some (.struct fs) => do
      let f ← fs[i]?
      if (← szT P f.type) == 0 then none
      some (.fieldAddr f.offset, [← opdOf x])
    | _ => none
  | .field s x i => match P.underlying s with
    | some (.struct fs) => do
      let f ← fs[i]?
      some (.field f.offset (aggT P f.type) (← szT P f.type), [← opdOf x])
    | _ => none
  | .indexAddr t x i => match P.underlying t with
    | some (.slice e) => do some (.idxAddr (← szT P e), [← opdOf x, ← opdOf i])
    | some (.array n e) => do some (.idxAddrA n (← szT P e), [← opdOf x, ← opdOf i])
    | _ => none
  | .index t x i => match P.underlying t with
    | some (.array n e) => do some (.idx n (← szT P e) (aggT P e), [← opdOf x, ← opdOf i])
    | some .string => do some (.idxStr, [← opdOf x, ← opdOf i])
    | _ => none
  | .lookup t x i ok => match P.underlying t with
    | some (.map k e) => do some (.lookup (← keyT P k) (← zeroT P e) ok, [← opdOf x, ← opdOf i])
    | _ => none
  | .mapUpdate t m k v => match P.underlying t with
    | some (.map kt _) => do some (.mapSet (← keyT P kt), [← opdOf m, ← opdOf k, ← opdOf v])
    | _ => none
  | .typeAssert x _ a ok => match P.underlying a with
    | some (.interface _) => none
    | some _ => do some (.assert a (← zeroT P a) ok, [← opdOf x])
    | none => none
  | .extract t i => do some (.extract i, [← opdOf t])
  | .sliceToArrayPointer d x => match P.underlying d with
    | some (.array n _) => do some (.arrPtr n, [← opdOf x])
    | _ => none
  | .panic x => do some (.panic, [← opdOf x])
  | .call c => do
    let args ← c.args.toList.mapM opdOf
    match c.callee with
    | .builtin b => compBuiltin P b args c.argTypes.toList
    | .invoke r m => do some (.invoke m, (← opdOf r) :: args)
    | .value (.func f) => match P.funcs[f]? with
      | some fn => if fn.body.isSome then some (.call, (.c (.func (.func f) #[] #[])) :: args) else
          extern fn.name args
      | none => none
    | .value x => do some (.call, (← opdOf x) :: args)
  | .defer c => match c.callee with
    | .value x => if c.args.isEmpty then do some (.defer, [← opdOf x]) else none
    | _ => none
  | _ => none

/-- Slots of operands are below a bound. -/
def opdLt : Opd → Bool
  | .t i => Nat.blt i 1000000
  | .c _ => true
def dstLt : Option Nat → Bool
  | some d => Nat.blt d 1000000
  | none => true
def compOper (ops : List Oper) (o : Oper) : Option Op := do
  let (p, args) ← compOp P o.op
  if !(args.all opdLt && dstLt o.dst) then none
  let g ← match o.guard with
    | none => some none
    | some (j, b) => do
      let d ← (ops[j]?).bind (·.dst)
      if dstLt (some d) then some (some (d, b)) else none
  some ⟨o.dst, p, args, g⟩

abbrev Plan := List (List Nat × Option Nat)
def Plan.items : Plan → List (Bool × Nat)
  | [] => []
  | (q, e) :: r => q.map (true, ·) ++ (e.toList.map (false, ·) ++ Plan.items r)
/-- Operations that only make memory of what they are given. -/
def mobile (ops : Array Oper) (i : Nat) : Bool :=
  match ops[i]? with
  | some o => o.guard.isNone && o.dst.isSome && (match o.op with
    | .alloc _ | .box .. | .buildSlice .. => true
    | _ => false)
  | none => false
/-- What stands ahead of an effect in a plan. -/
def befores (j : Nat) : List (Bool × Nat) → List Nat
  | [] => []
  | (b, k) :: l => match !b && Nat.beq k j with
    | true => []
    | false => k :: befores j l
def slots (q : Op) : List Nat := q.args.filterMap (fun | .t i => some i | .c _ => none) ++ (match q.guard with
  | some g => [g.1]
  | none => [])
/-- An operation that may be done ahead of another one. -/
def apartQ (qj qk : Op) : Bool :=
  match qj.dst with
  | none => false
  | some d => !((slots qk).contains d) && (match qk.dst with
    | some d' => !(Nat.beq d' d) && !((slots qj).contains d')
    | none => true)
def one (ops : List Oper) (i : Nat) : Option Op := (ops[i]?).bind (compOper P ops)
def freshQ (qj qk : Op) : Bool :=
  match qk.dst with
  | some d => !((slots qj).contains d) && (match qj.dst with
    | some d' => !(Nat.beq d' d)
    | none => true)
  | none => true
def okEarly (ops : List Oper) (items : List (Bool × Nat)) (j : Nat) : Bool :=
  ((befores j items).all fun k => match one P ops j, one P ops k with
    | some qj, some qk => apartQ qj qk
    | _, _ => false) &&
  items.all fun x => x.1 || Nat.beq x.2 j || (match one P ops j, one P ops x.2 with
    | some qj, some qk => freshQ qj qk
    | _, _ => false)
def onceB : List (Bool × Nat) → Bool
  | [] => true
  | x :: l => !(l.any fun y => Nat.beq y.2 x.2) && onceB l
/-- Whatever order is drawn, it is the plan's but for memory that is made ahead of its turn. -/
def planB (ops : List Oper) : Nat → List (Bool × Nat) → Array Bool → Bool
  | _, [], listed => (Region.ready .any ops.toArray listed).isEmpty
  | 0, _ :: _, _ => false
  | f + 1, (true, i) :: l, listed => (Region.ready .any ops.toArray listed).contains i && Region.free .any ops.toArray listed i && planB ops f l (listed.setIfInBounds i true)
  | f + 1, (false, e) :: l, listed =>
    if listed.getD e false then planB ops f l listed
    else (Region.ready .any ops.toArray listed).contains e && (Region.ready .any ops.toArray listed).all fun j =>
      if j == e then planB ops f l (listed.setIfInBounds e true)
      else mobile ops.toArray j && l.contains (false, j) && okEarly P ops ((false, e) :: l) j && planB ops f ((false, e) :: l) (listed.setIfInBounds j true)
/-- Does k wait for i? -/
def waits (ops : Array Oper) (i k : Nat) : Bool := (ancs .any i ops.toList []).getD k false

def isDefer (p : Prim) : Bool :=
  match p.kind with
  | .defer => true
  | _ => false
def reads (l : List (Nat × Op)) : List (Nat × Nat) := l.filterMap fun x => match readsHeap x.2.p with
  | true => x.2.dst.map (x.1, ·)
  | false => none
def mobs (ops : List Oper) (e : Nat) (items : List (Bool × Nat)) : List Nat :=
  (items.filter fun x => !x.1 && mobile ops.toArray x.2 && !waits ops.toArray e x.2 && okEarly P ops ((false, e) :: items) x.2).map (·.2)
def compSegs (ops : List Oper) : Plan → List (Nat × Nat) → Option (List Seg)
  | [], _ => some []
  | (q, e) :: r, rs => do
    let qs ← q.mapM (one P ops)
    if !(qs.all fun o => quietP o.p && (!readsHeap o.p || o.dst.isSome)) then none
    let rs := reads (q.zip qs) ++ rs
    match e with
    | none => do some (⟨qs, none, [], []⟩ :: (← compSegs ops r rs))
    | some i => do
      let o ← one P ops i
      if isDefer o.p then none
      let rs := rs.filter fun x => !waits ops.toArray x.1 i
      let mob ← (mobs P ops i (Plan.items r)).mapM (one P ops)
      some (⟨qs, some o, rs.map (·.2), mob⟩ :: (← compSegs ops r rs))

def compReg (ops : List Oper) (draw : Bool) (plan : Option Plan) : Option Code :=
  match draw with
  | false => do some (.reg (← ops.mapM (compOper P ops)))
  | true => match plan with
    | none => none
    | some pl =>
      if planB P ops (2 * ops.length) pl.items (Array.replicate ops.length false) && onceB pl.items && Nat.ble pl.items.length ops.length && Region.noSelect ops.toArray then do
        some (.draw (← compSegs P ops pl []) (ops.filterMap (·.dst)))
      else none

def compCode (plan : Nat → Option Plan) : Go.Code → Option Code
  | .skip => some .skip
  | .region id ops draw => compReg P ops.toList draw (plan id)
  | .seq a b => do some (.seq (← compCode plan a) (← compCode plan b))
  | .cond c a b => do some (.cond (← opdOf c) (← compCode plan a) (← compCode plan b))
  | .block id b => do some (.block id (← compCode plan b))
  | .loop b => do some (.loop [] (← compCode plan b))
  | .exit id => some (.exit id)
  | .ret => some .ret
  | _ => none

def compRes : ResultVar → Option RVar
  | .tmp t => some (.tmp t)
  | .cell a t => do some (.cell a (aggT P t) (← szT P t))

/-- A function that begins with 'recover()'. -/
def recoverHead : Go.Code → Option (Nat × Array Oper × List Oper × Go.Code)
  | .seq (.region _ ops false) rest => match ops.toList with
    | { dst := some r, op := .call { callee := .builtin .recover, .. }, guard := none, .. } :: os => some (r, ops, os, rest)
    | _ => none
  | _ => none

def compFunc (plan : Nat → Option Plan) (fn : Go.Func) : Option Func := do
  let c ← fn.body
  let rs ← fn.results.toList.mapM (compRes P)
  match recoverHead c with
  | some (r, ops, os, rest) => do some ⟨.seq (.reg (← os.mapM (compOper P ops.toList))) (← compCode P plan rest), rs, some r⟩
  | none => do some ⟨← compCode P plan c, rs, none⟩
end

/-- The code without what is said of the slots that are kept. -/
def erase : Code → Code
  | .seq (.keep _) b => erase b
  | .seq a (.keep _) => erase a
  | .seq a b => .seq (erase a) (erase b)
  | .cond c a b => .cond c (erase a) (erase b)
  | .block id b => .block id (erase b)
  | .loop _ b => .loop [] (erase b)
  | c => c
def Func.erase (f : Func) : Func := ⟨AM.erase f.body, f.results, f.rcv⟩
/-- Are all slots below a bound? -/
def dstN (N : Nat) : Option Nat → Bool
  | some d => Nat.blt d N
  | none => true
def okN (N : Nat) : Code → Bool
  | .reg ops => ops.all fun q => dstN N q.dst
  | .draw _ dsts => dsts.all fun d => Nat.blt d N && Nat.blt d 1000000
  | .seq a b => okN N a && okN N b
  | .cond c a b => opdLt c && okN N a && okN N b
  | .block _ b => okN N b
  | .loop _ b => okN N b
  | _ => true
def RVar.ok : RVar → Bool
  | .tmp t => Nat.blt t 1000000
  | .cell t _ _ => Nat.blt t 1000000
def Func.okF (N : Nat) (f : Func) : Bool := okN N f.body && f.results.all RVar.ok && dstN N f.rcv && dstLt f.rcv
end AM
end Go.Proofs.YtlelihddjacplaaGreat
namespace Go.Proofs.YtlelihddjacplaaGreat
namespace AM

/-- Where an object lies: its block, the offset, its cells, the cells of an element, the elements that there are besides, and whether it is never written. -/
structure Bk where
  blk : Nat
  base : Nat
  len : Nat
  esz : Nat
  extra : Nat
  ro : Bool
abbrev Inj := Nat → Option Bk
def capOf (b : Bk) (off cap : Nat) : Nat := cap + if off + cap * b.esz = b.len then b.extra else 0

mutual
inductive VR (ι : Inj) : Value → Value → Prop
  | bool (b : Bool) : VR ι (.bool b) (.bool b)
  | int (k : IntKind) (n : Int) : VR ι (.int k n) (.int k n)
  | float (k : FloatKind) (b : Nat) : VR ι (.float k b) (.float k b)
  | string (s : ByteArray) : VR ι (.string s) (.string s)
  | nilp : VR ι (.pointer none) (.pointer none)
  | ptr {A o : Nat} {bk : Bk} (h : ι A = some bk) : VR ι (.pointer (some ⟨A, o, none⟩)) (.pointer (some ⟨bk.blk, bk.base + o, none⟩))
  | nils (n c : Nat) : VR ι (.slice none n c) (.slice none n c)
  | slice {A o n c : Nat} {bk : Bk} (h0 : A ≠ 0) (h : ι A = some bk) : VR ι (.slice (some ⟨A, o, none⟩) n c) (.slice (some ⟨bk.blk, bk.base + o, none⟩) n (capOf bk o c))
  | void (o : Nat) (a : Addr) (c : Nat) (h : a.spot = none) : VR ι (.slice (some ⟨0, o, none⟩) 0 0) (.slice (some a) 0 c)
  | nilm : VR ι (.map none) (.map none)
  | map {A : Nat} {bk : Bk} (h : ι A = some bk) : VR ι (.map (some A)) (.map (some bk.blk))
  | nilf : VR ι .nilFunc .nilFunc
  | func (f : Nat) {xs ys us vs : List Value} (h1 : VRs ι xs us) (h2 : VRs ι ys vs) : VR ι (.func (.func f) ⟨xs⟩ ⟨ys⟩) (.func (.func f) ⟨us⟩ ⟨vs⟩)
  | iface (t : Nat) {v v' : Value} (h : VR ι v v') : VR ι (.iface t v) (.iface t v')
  | nili : VR ι .nilIface .nilIface
  | agg {xs ys : List Value} (h : VRs ι xs ys) : VR ι (.agg ⟨xs⟩) (.agg ⟨ys⟩)
  | tuple {xs ys : List Value} (h : VRs ι xs ys) : VR ι (.tuple ⟨xs⟩) (.tuple ⟨ys⟩)
inductive VRs (ι : Inj) : List Value → List Value → Prop
  | nil : VRs ι [] []
  | cons {v v' : Value} {l l' : List Value} (h : VR ι v v') (hs : VRs ι l l') : VRs ι (v :: l) (v' :: l')
end

def Sub (ι ι' : Inj) : Prop := ∀ A bk, ι A = some bk → ι' A = some bk
theorem Sub.refl (ι : Inj) : Sub ι ι := fun _ _ h => h
theorem Sub.trans {a b c : Inj} (h : Sub a b) (k : Sub b c) : Sub a c := fun A bk e => k A bk (h A bk e)

mutual
theorem VR.mono {ι ι' : Inj} (hs : Sub ι ι') : ∀ {v v' : Value}, VR ι v v' → VR ι' v v'
  | _, _, .bool b => .bool b
  | _, _, .int k n => .int k n
  | _, _, .float k b => .float k b
  | _, _, .string s => .string s
  | _, _, .nilp => .nilp
  | _, _, .ptr h => .ptr (hs _ _ h)
  | _, _, .nils n c => .nils n c
  | _, _, .slice h0 h => .slice h0 (hs _ _ h)
  | _, _, .void o a c h => .void o a c h
  | _, _, .nilm => .nilm
  | _, _, .map h => .map (hs _ _ h)
  | _, _, .nilf => .nilf
  | _, _, .func f h1 h2 => .func f (VRs.mono hs h1) (VRs.mono hs h2)
  | _, _, .iface t h => .iface t (VR.mono hs h)
  | _, _, .nili => .nili
  | _, _, .agg h => .agg (VRs.mono hs h)
  | _, _, .tuple h => .tuple (VRs.mono hs h)
theorem VRs.mono {ι ι' : Inj} (hs : Sub ι ι') : ∀ {l l' : List Value}, VRs ι l l' → VRs ι' l l'
  | _, _, .nil => .nil
  | _, _, .cons h hr => .cons (VR.mono hs h) (VRs.mono hs hr)
end

theorem VRs.length {ι : Inj} : ∀ {l l' : List Value}, VRs ι l l' → l'.length = l.length
  | _, _, .nil => rfl
  | _, _, .cons _ h => by simp [VRs.length h]
theorem VRs.get {ι : Inj} : ∀ {l l' : List Value}, VRs ι l l' → ∀ (i : Nat) (v : Value), l[i]? = some v → ∃ v', l'[i]? = some v' ∧ VR ι v v'
  | _, _, .nil, i, v, h => by simp at h
  | _, _, .cons h hr, 0, v, e => by simp at e; subst e; exact ⟨_, rfl, h⟩
  | _, _, .cons h hr, i + 1, v, e => by simpa using hr.get i v (by simpa using e)
theorem VRs.of_get {ι : Inj} : ∀ (l l' : List Value), l'.length = l.length → (∀ (i : Nat) (v : Value), l[i]? = some v → ∃ v', l'[i]? = some v' ∧ VR ι v v') → VRs ι l l'
  | [], [], _, _ => .nil
  | [], _ :: _, h, _ => by simp at h
  | _ :: _, [], h, _ => by simp at h
  | v :: l, v' :: l', h, hg => by
    obtain ⟨u, hu, hv⟩ := hg 0 v rfl
    simp at hu
    subst hu
    exact .cons hv (VRs.of_get l l' (by simpa using h) fun i w hw => by simpa using hg (i + 1) w (by simpa using hw))
theorem VRs.append {ι : Inj} : ∀ {a a' b b' : List Value}, VRs ι a a' → VRs ι b b' → VRs ι (a ++ b) (a' ++ b')
  | _, _, _, _, .nil, h => h
  | _, _, _, _, .cons h hr, k => .cons h (hr.append k)
theorem VRs.take {ι : Inj} : ∀ {a a' : List Value}, VRs ι a a' → ∀ n, VRs ι (a.take n) (a'.take n)
  | _, _, .nil, n => by simp; exact .nil
  | _, _, .cons h hr, 0 => by simp; exact .nil
  | _, _, .cons h hr, n + 1 => by simp; exact .cons h (hr.take n)
theorem VRs.drop {ι : Inj} : ∀ {a a' : List Value}, VRs ι a a' → ∀ n, VRs ι (a.drop n) (a'.drop n)
  | _, _, .nil, n => by simp; exact .nil
  | _, _, .cons h hr, 0 => by simp; exact .cons h hr
  | _, _, .cons h hr, n + 1 => by simp; exact hr.drop n
theorem VR.cells {ι : Inj} {v v' : Value} (h : VR ι v v') : VRs ι (cellsOf v) (cellsOf v') := by
  cases h <;> first | assumption | (exact .cons (by constructor <;> assumption) .nil) | skip
theorem cellsOf_eq (v : Value) : v.cells.toList = cellsOf v := by cases v <;> rfl
theorem VR.cellOk {ι : Inj} {v v' : Value} (h : VR ι v v') : cellOk v' = cellOk v := by cases h <;> rfl
theorem VRs.allOk {ι : Inj} : ∀ {l l' : List Value}, VRs ι l l' → l'.all AM.cellOk = l.all AM.cellOk
  | _, _, .nil => rfl
  | _, _, .cons h hr => by simp [h.cellOk, hr.allOk]
theorem cellOk_one (v : Value) : v.oneCell' = cellOk v := by cases v <;> rfl

/-! ### Lists -/
theorem lget_eq : ∀ (l : List Value) (i : Nat), lget l i = l[i]?
  | [], i => by simp [lget]
  | v :: r, 0 => rfl
  | v :: r, i + 1 => by simp [lget, lget_eq r i]
theorem ltake_eq : ∀ (l : List Value) (n : Nat), ltake l n = if n ≤ l.length then some (l.take n) else none
  | l, 0 => by simp [ltake]
  | [], n + 1 => by simp [ltake]
  | v :: r, n + 1 => by
    simp only [ltake, ltake_eq r n, List.length_cons, Nat.add_le_add_iff_right, List.take_succ_cons]
    split <;> rename_i h <;> split at h <;> simp_all
theorem lcut_eq : ∀ (l : List Value) (o n : Nat), lcut l o n = if o + n ≤ l.length then some ((l.drop o).take n) else none
  | l, 0, n => by simp [lcut, ltake_eq]
  | [], o + 1, n => by cases n <;> simp [lcut]
  | v :: r, o + 1, n => by
    simp only [lcut, lcut_eq r o n, List.length_cons, List.drop_succ_cons]
    by_cases h : o + n ≤ r.length
    · rw [if_pos h, if_pos (by omega)]
    · rw [if_neg h, if_neg (by omega)]
theorem lover_eq : ∀ (l vs : List Value), lover l vs = if vs.length ≤ l.length then some (vs ++ l.drop vs.length) else none
  | l, [] => by cases l <;> simp [lover]
  | [], v :: vs => by simp [lover]
  | u :: r, v :: vs => by
    simp only [lover, lover_eq r vs, List.length_cons, Nat.add_le_add_iff_right, List.cons_append, List.drop_succ_cons]
    split <;> rename_i h <;> split at h <;> simp_all
theorem lput_eq : ∀ (l : List Value) (o : Nat) (vs : List Value), lput l o vs = if o + vs.length ≤ l.length then some (l.take o ++ (vs ++ l.drop (o + vs.length))) else none
  | l, 0, vs => by simp [lput, lover_eq]
  | [], o + 1, vs => by simp [lput]
  | u :: r, o + 1, vs => by
    simp only [lput, lput_eq r o vs, List.length_cons, List.take_succ_cons]
    by_cases h : o + vs.length ≤ r.length
    · rw [if_pos h, if_pos (by omega)]
      simp [show o + 1 + vs.length = o + vs.length + 1 by omega]
    · rw [if_neg h, if_neg (by omega)]
theorem lput_some {l vs c : List Value} {o : Nat} (h : lput l o vs = some c) : o + vs.length ≤ l.length ∧ c = l.take o ++ (vs ++ l.drop (o + vs.length)) := by
  rw [lput_eq] at h
  split at h
  · exact ⟨by assumption, by simpa using h.symm⟩
  · cases h
theorem lcut_some {l c : List Value} {o n : Nat} (h : lcut l o n = some c) : o + n ≤ l.length ∧ c = (l.drop o).take n := by
  rw [lcut_eq] at h
  split at h
  · exact ⟨by assumption, by simpa using h.symm⟩
  · cases h

/-! ### The heap in the world -/
def cellsR (ι : Inj) (blk : Array Value) (base : Nat) (c : List Value) : Prop := ∀ i v, c[i]? = some v → ∃ v', blk[base + i]? = some v' ∧ VR ι v v'
inductive EsR (ι : Inj) : List MapEntry → List MapEntry → Prop
  | nil : EsR ι [] []
  | cons {e e' : MapEntry} {l l' : List MapEntry} (hk : VR ι e.key e'.key) (hv : VR ι e.val e'.val) (hb : e'.born = e.born) (h : EsR ι l l') : EsR ι (e :: l) (e' :: l')
theorem EsR.mono {ι ι' : Inj} (hs : Sub ι ι') : ∀ {l l' : List MapEntry}, EsR ι l l' → EsR ι' l l'
  | _, _, .nil => .nil
  | _, _, .cons hk hv hb h => .cons (hk.mono hs) (hv.mono hs) hb (h.mono hs)
theorem cellsR.mono {ι ι' : Inj} (hs : Sub ι ι') {blk : Array Value} {base : Nat} {c : List Value} (h : cellsR ι blk base c) : cellsR ι' blk base c :=
  fun i v hv => let ⟨v', a, b⟩ := h i v hv; ⟨v', a, b.mono hs⟩

structure CellsIn (ι : Inj) (w : World) (bk : Bk) (c : List Value) (e s : Nat) (m : AM.Mode) (blk : Array Value) (fz : Nat × Nat) : Prop where
  heap : w.heap[bk.blk]? = some (.cells blk e fz)
  len : bk.len = c.length
  esz : bk.esz = s
  ro : bk.ro = decide (m = .ro)
  fz : m ≠ .ro → fz = (0, 0)
  extra : m ≠ .grown → bk.extra = 0
  size : bk.base + c.length + bk.extra * s ≤ blk.size
  cells : cellsR ι blk bk.base c
  base0 : m = .exact → bk.base = 0

def ObjR (ι : Inj) (w : World) (bk : Bk) : AM.Obj → Prop
  | .cells c _ s m => ∃ blk fz te, CellsIn ι w bk c te s m blk fz
  | .map es clk => ∃ es', w.heap[bk.blk]? = some (.map es' clk) ∧ bk.ro = false ∧ EsR ι es es'.toList
  | .dead => True

structure R (ι : Inj) (σ : H) (w : World) : Prop where
  pos : 1 ≤ σ.next
  zero : ι 0 = none
  dom : ∀ A bk, ι A = some bk → A < σ.next
  lt : ∀ A o, σ.get A = some o → A < σ.next
  obj : ∀ A o, σ.get A = some o → o ≠ .dead → ∃ bk, ι A = some bk ∧ ObjR ι w bk o
  inj : ∀ A B oA oB bA bB, σ.get A = some oA → σ.get B = some oB → oA ≠ .dead → oB ≠ .dead → ι A = some bA → ι B = some bB → bA.ro = false → bA.blk = bB.blk → A = B
  blt : ∀ A bk, ι A = some bk → bk.blk < w.heap.size

structure Ext (ι : Inj) (w : World) (ι' : Inj) (w' : World) : Prop where
  sub : Sub ι ι'
  os : w'.os = w.os
  tape : w'.tape = w.tape
  output : w'.output = w.output
  size : w.heap.size ≤ w'.heap.size
  keep : ∀ b, b < w.heap.size → (∀ A bk, ι A = some bk → bk.ro = false → bk.blk ≠ b) → w'.heap[b]? = w.heap[b]?
  new : ∀ A bk, ι A = none → ι' A = some bk → bk.ro = false ∧ (w.heap.size ≤ bk.blk ∨ ∃ B bB, ι B = some bB ∧ bB.ro = false ∧ bB.blk = bk.blk)

theorem Ext.refl (ι : Inj) (w : World) : Ext ι w ι w := ⟨Sub.refl _, rfl, rfl, rfl, Nat.le_refl _, fun _ _ _ => rfl, fun A bk h1 h2 => by rw [h1] at h2; cases h2⟩
theorem Ext.trans {ι ι1 ι2 : Inj} {w w1 w2 : World} (h : Ext ι w ι1 w1) (k : Ext ι1 w1 ι2 w2) : Ext ι w ι2 w2 := by
  refine ⟨h.sub.trans k.sub, k.os.trans h.os, k.tape.trans h.tape, k.output.trans h.output, Nat.le_trans h.size k.size, fun b hb hn => ?_, fun A bk h0 h2 => ?_⟩
  · refine (k.keep b (Nat.lt_of_lt_of_le hb h.size) fun A bk hA hro e => ?_).trans (h.keep b hb hn)
    cases h0 : ι A with
    | some bk0 =>
      have := h.sub A bk0 h0
      rw [hA] at this
      cases this
      exact hn A bk h0 hro e
    | none =>
      obtain ⟨_, h1 | ⟨B, bB, h1, h2, h3⟩⟩ := h.new A bk h0 hA
      · omega
      · exact hn B bB h1 h2 (h3.trans e)
  · cases h1 : ι1 A with
    | some bk1 =>
      have := k.sub A bk1 h1
      rw [h2] at this
      cases this
      exact h.new A bk h0 h1
    | none =>
      obtain ⟨hro, hx | ⟨B, bB, hB, hBro, hBe⟩⟩ := k.new A bk h1 h2
      · exact ⟨hro, .inl (Nat.le_trans h.size hx)⟩
      · refine ⟨hro, ?_⟩
        cases hB0 : ι B with
        | some b0 =>
          have := h.sub B b0 hB0
          rw [hB] at this
          cases this
          exact .inr ⟨B, bB, hB0, hBro, hBe⟩
        | none =>
          obtain ⟨_, hx | ⟨C, bC, h4, h5, h6⟩⟩ := h.new B bB hB0 hB
          · exact .inl (by omega)
          · exact .inr ⟨C, bC, h4, h5, h6.trans hBe⟩

theorem ObjR.of_heap {ι : Inj} {w w' : World} {bk : Bk} {o : AM.Obj} (h : ObjR ι w bk o) (he : w'.heap[bk.blk]? = w.heap[bk.blk]?) : ObjR ι w' bk o := by
  cases o with
  | cells c e s m => obtain ⟨blk, fz, te, h⟩ := h; exact ⟨blk, fz, te, he.trans h.heap, h.len, h.esz, h.ro, h.fz, h.extra, h.size, h.cells, h.base0⟩
  | map es clk => obtain ⟨es', a, b, c⟩ := h; exact ⟨es', he.trans a, b, c⟩
  | dead => trivial
theorem ObjR.mono {ι ι' : Inj} {w : World} {bk : Bk} {o : AM.Obj} (h : ObjR ι w bk o) (hs : Sub ι ι') : ObjR ι' w bk o := by
  cases o with
  | cells c e s m => obtain ⟨blk, fz, te, h⟩ := h; exact ⟨blk, fz, te, h.heap, h.len, h.esz, h.ro, h.fz, h.extra, h.size, h.cells.mono hs, h.base0⟩
  | map es clk => obtain ⟨es', a, b, c⟩ := h; exact ⟨es', a, b, c.mono hs⟩
  | dead => trivial
theorem ObjR.lt {ι : Inj} {w : World} {bk : Bk} {o : AM.Obj} (h : ObjR ι w bk o) (ho : o ≠ .dead) : bk.blk < w.heap.size := by
  cases o with
  | cells c e s m => obtain ⟨blk, fz, te, h⟩ := h; exact (Array.getElem?_eq_some_iff.1 h.heap).1
  | map es clk => obtain ⟨es', a, b, c⟩ := h; exact (Array.getElem?_eq_some_iff.1 a).1
  | dead => exact absurd rfl ho

/-- The world's drawn answers don't count. -/
theorem R.same {ι : Inj} {σ : H} {w w' : World} (h : R ι σ w) (he : w'.heap = w.heap) : R ι σ w' :=
  ⟨h.pos, h.zero, h.dom, h.lt, fun A o hA ho => let ⟨bk, a, b⟩ := h.obj A o hA ho; ⟨bk, a, b.of_heap (by rw [he])⟩, h.inj, fun A bk hA => by rw [he]; exact h.blt A bk hA⟩
theorem Ext.same {ι : Inj} {w w' : World} (he : w'.heap = w.heap) (ho : w'.os = w.os) (ht : w'.tape = w.tape) (hp : w'.output = w.output) : Ext ι w ι w' :=
  ⟨Sub.refl _, ho, ht, hp, by rw [he]; exact Nat.le_refl _, fun _ _ _ => by rw [he], fun A bk h1 h2 => by rw [h1] at h2; cases h2⟩

def Inj.set (ι : Inj) (A : Nat) (bk : Bk) : Inj := fun B => if B = A then some bk else ι B
theorem Inj.set_sub {ι : Inj} {A : Nat} {bk : Bk} (h : ι A = none) : Sub ι (ι.set A bk) := fun B b hb => by
  unfold Inj.set
  split
  · rename_i e; subst e; rw [h] at hb; cases hb
  · exact hb
theorem Inj.set_same (ι : Inj) (A : Nat) (bk : Bk) : ι.set A bk A = some bk := by simp [Inj.set]
theorem R.fresh {ι : Inj} {σ : H} {w : World} (h : R ι σ w) : ι σ.next = none := by
  cases e : ι σ.next with
  | none => rfl
  | some bk => exact absurd (h.dom _ _ e) (Nat.lt_irrefl _)

/-- A new object in a block that lies in the world already, and that no object has. -/
theorem R.bind {ι : Inj} {σ : H} {w : World} (h : R ι σ w) (o : AM.Obj) (bk : Bk) (hro : bk.ro = false) (hblt : bk.blk < w.heap.size) (ho : ObjR (ι.set σ.next bk) w bk o)
    (hfree : ∀ A oA bA, σ.get A = some oA → oA ≠ .dead → ι A = some bA → bA.blk ≠ bk.blk) : R (ι.set σ.next bk) (σ.push o) w := by
  have hs : Sub ι (ι.set σ.next bk) := Inj.set_sub h.fresh
  refine ⟨by show 1 ≤ σ.next + 1; omega, ?_, fun A b hA => ?_, fun A oA hA => ?_, fun A oA hA hd => ?_, fun A B oA oB bA bB hA hB dA dB iA iB hr he => ?_, fun A b hA => by
    unfold Inj.set at hA
    split at hA
    · cases hA; exact hblt
    · exact h.blt A b hA⟩
  · unfold Inj.set; rw [if_neg (by have := h.pos; omega)]; exact h.zero
  · show A < σ.next + 1
    unfold Inj.set at hA
    split at hA
    · omega
    · have := h.dom A b hA; omega
  · show A < σ.next + 1
    rw [H.get_push] at hA
    split at hA
    · omega
    · have := h.lt A oA hA; omega
  · rw [H.get_push] at hA
    split at hA
    · rename_i e; subst e; cases hA; exact ⟨bk, Inj.set_same _ _ _, ho⟩
    · rename_i e
      obtain ⟨b, i1, i2⟩ := h.obj A oA hA hd
      exact ⟨b, hs _ _ i1, i2.mono hs⟩
  · rw [H.get_push] at hA hB
    unfold Inj.set at iA iB
    split at hA <;> split at hB
    · omega
    · rename_i e1 e2
      rw [if_pos e1.symm] at iA; rw [if_neg (fun e => e2 e.symm)] at iB
      cases iA
      exact absurd he.symm (hfree B oB bB hB dB iB)
    · rename_i e1 e2
      rw [if_pos e2.symm] at iB; rw [if_neg (fun e => e1 e.symm)] at iA
      cases iB
      exact absurd he (hfree A oA bA hA dA iA)
    · rename_i e1 e2
      rw [if_neg (fun e => e2 e.symm)] at iB; rw [if_neg (fun e => e1 e.symm)] at iA
      exact h.inj A B oA oB bA bB hA hB dA dB iA iB hr he

theorem heap_alloc_old (w : World) (o : Go.Obj) {b : Nat} (h : b < w.heap.size) : (w.alloc o).heap[b]? = w.heap[b]? := by
  show (w.heap.push o)[b]? = _
  rw [Array.getElem?_push, if_neg (by omega)]
theorem heap_alloc_new (w : World) (o : Go.Obj) : (w.alloc o).heap[w.heap.size]? = some o := by
  show (w.heap.push o)[w.heap.size]? = _
  simp
/-- The world has a block more that no object has. -/
theorem R.garbage {ι : Inj} {σ : H} {w : World} (h : R ι σ w) (o : Go.Obj) : R ι σ (w.alloc o) :=
  ⟨h.pos, h.zero, h.dom, h.lt, fun A oA hA ho => let ⟨bk, a, b⟩ := h.obj A oA hA ho; ⟨bk, a, b.of_heap (heap_alloc_old w o (b.lt ho))⟩, h.inj, fun A bk hA => by have := h.blt A bk hA; simp only [World.alloc, Array.size_push]; omega⟩
theorem Ext.alloc (ι : Inj) (w : World) (o : Go.Obj) : Ext ι w ι (w.alloc o) :=
  ⟨Sub.refl _, rfl, rfl, rfl, by simp, fun b hb _ => heap_alloc_old w o hb, fun A bk h1 h2 => by rw [h1] at h2; cases h2⟩
theorem Ext.set {ι : Inj} {w : World} {A : Nat} {bk : Bk} (h0 : ι A = none) (hro : bk.ro = false) (hb : w.heap.size ≤ bk.blk ∨ ∃ B bB, ι B = some bB ∧ bB.ro = false ∧ bB.blk = bk.blk) : Ext ι w (ι.set A bk) w :=
  ⟨Inj.set_sub h0, rfl, rfl, rfl, Nat.le_refl _, fun _ _ _ => rfl, fun B b h1 h2 => by
    unfold Inj.set at h2
    split at h2
    · cases h2; exact ⟨hro, hb⟩
    · rw [h1] at h2; cases h2⟩
/-- A new block that is an object's. -/
theorem R.made {ι : Inj} {σ : H} {w : World} (h : R ι σ w) (o : AM.Obj) (g : Go.Obj) (bk : Bk) (hb : bk.blk = w.heap.size) (hro : bk.ro = false) (ho : ObjR (ι.set σ.next bk) (w.alloc g) bk o) :
    Ext ι w (ι.set σ.next bk) (w.alloc g) ∧ R (ι.set σ.next bk) (σ.push o) (w.alloc g) := by
  have hs : Sub ι (ι.set σ.next bk) := Inj.set_sub h.fresh
  refine ⟨⟨hs, rfl, rfl, rfl, by simp, fun b hb _ => heap_alloc_old w g hb, fun B b h1 h2 => ?_⟩, (h.garbage g).bind o bk hro (by rw [hb]; simp) ho ?_⟩
  · unfold Inj.set at h2
    split at h2
    · cases h2; exact ⟨hro, .inl (by omega)⟩
    · rw [h1] at h2; cases h2
  · intro A oA bA hA dA iA
    obtain ⟨b, i1, i2⟩ := h.obj A oA hA dA
    rw [iA] at i1; cases i1
    have := i2.lt dA
    omega
/-- A new row. -/
theorem R.row {ι : Inj} {σ : H} {w : World} (h : R ι σ w) {c c' : List Value} (more : List Value) (e s : Nat) (m : AM.Mode) (hm : m ≠ .ro) (x : Nat) (hx : m ≠ .grown → x = 0) (hsz : x * s ≤ more.length)
    (hc : VRs ι c c') : ∃ ι', Ext ι w ι' (w.alloc (.cells ⟨c' ++ more⟩ e)) ∧ R ι' (σ.push (.cells c e s m)) (w.alloc (.cells ⟨c' ++ more⟩ e)) ∧ ι' σ.next = some ⟨w.heap.size, 0, c.length, s, x, false⟩ := by
  obtain ⟨h1, h2⟩ := h.made (.cells c e s m) (.cells ⟨c' ++ more⟩ e) ⟨w.heap.size, 0, c.length, s, x, false⟩ rfl rfl
    ⟨⟨c' ++ more⟩, (0, 0), e, heap_alloc_new _ _, rfl, rfl, by simp [hm], fun _ => rfl, hx, by
      show 0 + c.length + x * s ≤ (c' ++ more).length
      rw [List.length_append, hc.length]; omega, fun i v hv => by
      obtain ⟨v', h1, h2⟩ := hc.get i v hv
      refine ⟨v', ?_, h2.mono (Inj.set_sub h.fresh)⟩
      rw [List.getElem?_toArray, Nat.zero_add, List.getElem?_append_left (by have := (List.getElem?_eq_some_iff.1 h1).1; omega)]
      exact h1, fun _ => rfl⟩
  exact ⟨_, h1, h2, Inj.set_same _ _ _⟩

/-- What is read. -/
theorem R.read {ι : Inj} {σ : H} {w : World} (h : R ι σ w) {a : Addr} {n : Nat} {c : List Value} {bk : Bk} (hr : rdCells σ a n = some c) (hb : ι a.block = some bk) :
    a.spot = none ∧ c.length = n ∧ ∃ c', VRs ι c c' ∧ (∀ j v, c'[j]? = some v → w.cell? ⟨bk.blk, bk.base + a.off + j, none⟩ = some v) := by
  unfold rdCells at hr
  split at hr
  · cases hr
  · rename_i hsp
    split at hr
    · rename_i cs e s m hg
      obtain ⟨h1, h2⟩ := lcut_some hr
      obtain ⟨bk', i1, blk, fz, te, hc⟩ := h.obj _ _ hg (by simp)
      rw [hb] at i1; cases i1
      have hlen : c.length = n := by rw [h2]; simp; omega
      have hsz := hc.size
      refine ⟨hsp, hlen, ((blk.toList.drop (bk.base + a.off)).take n), VRs.of_get _ _ (by simp; omega) fun i v hv => ?_, fun j v hv => ?_⟩
      · have hi : i < n := by have := (List.getElem?_eq_some_iff.1 hv).1; omega
        rw [h2, List.getElem?_take_of_lt hi, List.getElem?_drop] at hv
        obtain ⟨v', a1, a2⟩ := hc.cells _ v hv
        refine ⟨v', ?_, a2⟩
        rw [List.getElem?_take_of_lt hi, List.getElem?_drop, Array.getElem?_toList, ← a1]
        congr 1; omega
      · have hj : j < n := by
          have := (List.getElem?_eq_some_iff.1 hv).1
          simp at this; omega
        rw [List.getElem?_take_of_lt hj, List.getElem?_drop, Array.getElem?_toList] at hv
        simp only [World.cell?, hc.heap, Option.isSome_none, Bool.false_eq_true, if_false]
        exact hv
    · cases hr

theorem heap_setCells (b : Nat) : ∀ (vs : List Value) (o : Nat) (w : World) (blk : Array Value) (e : Nat) (fz : Nat × Nat), w.heap[b]? = some (.cells blk e fz) → o + vs.length ≤ blk.size →
    ∃ blk', (w.setCells b o vs).heap[b]? = some (.cells blk' e fz) ∧ blk'.size = blk.size ∧ (∀ i, i < o ∨ o + vs.length ≤ i → blk'[i]? = blk[i]?) ∧ (∀ j, j < vs.length → blk'[o + j]? = vs[j]?)
  | [], o, w, blk, e, fz, h, _ => ⟨blk, h, rfl, fun _ _ => rfl, fun j hj => by simp at hj⟩
  | v :: r, o, w, blk, e, fz, h, hl => by
    have h1 : (w.setCell ⟨b, o, none⟩ v).heap[b]? = some (.cells (blk.setIfInBounds o v) e fz) := by
      simp only [World.setCell, Array.getElem?_modify, if_true, h, Option.map_some]
      simp
    obtain ⟨blk', a1, a2, a3, a4⟩ := heap_setCells b r (o + 1) _ _ e fz h1 (by simp at hl ⊢; omega)
    refine ⟨blk', a1, by simpa using a2, fun i hi => ?_, fun j hj => ?_⟩
    · rw [a3 i (by simp at hi; omega), Array.getElem?_setIfInBounds_ne (by simp at hi; omega)]
    · cases j with
      | zero =>
        rw [a3 (o + 0) (by omega), Nat.add_zero, Array.getElem?_setIfInBounds_self_of_lt (by simp at hl; omega)]
        rfl
      | succ j =>
        rw [show o + (j + 1) = o + 1 + j by omega, a4 j (by simpa using hj)]
        simp
theorem setCells_os (b : Nat) : ∀ (vs : List Value) (o : Nat) (w : World), (w.setCells b o vs).os = w.os ∧ (w.setCells b o vs).tape = w.tape ∧ (w.setCells b o vs).output = w.output ∧ (w.setCells b o vs).heap.size = w.heap.size
  | [], _, _ => ⟨rfl, rfl, rfl, rfl⟩
  | v :: r, o, w => by
    obtain ⟨a, b1, c, d⟩ := setCells_os b r (o + 1) (w.setCell ⟨b, o, none⟩ v)
    exact ⟨a, b1, c, d.trans (by simp)⟩

theorem cellsR.put {ι : Inj} {blk blk' : Array Value} {base off : Nat} {c vs vs' : List Value} (h : cellsR ι blk base c) (hv : VRs ι vs vs') (hl : off + vs.length ≤ c.length)
    (hout : ∀ i, i < base + off ∨ base + off + vs.length ≤ i → blk'[i]? = blk[i]?) (hin : ∀ j, j < vs.length → blk'[base + off + j]? = vs'[j]?) : cellsR ι blk' base (c.take off ++ (vs ++ c.drop (off + vs.length))) := by
  intro i v hi
  have hto : (c.take off).length = off := by simp; omega
  by_cases h1 : i < off
  · rw [List.getElem?_append_left (by omega), List.getElem?_take_of_lt h1] at hi
    obtain ⟨v', a, b⟩ := h i v hi
    exact ⟨v', (hout _ (by omega)).trans a, b⟩
  · rw [List.getElem?_append_right (by omega), hto] at hi
    by_cases h2 : i - off < vs.length
    · rw [List.getElem?_append_left h2] at hi
      obtain ⟨v', a, b⟩ := hv.get _ v hi
      refine ⟨v', ?_, b⟩
      rw [show base + i = base + off + (i - off) by omega, hin _ h2]
      exact a
    · rw [List.getElem?_append_right (by omega), List.getElem?_drop, show off + vs.length + (i - off - vs.length) = i by omega] at hi
      obtain ⟨v', a, b⟩ := h i v hi
      exact ⟨v', (hout _ (by omega)).trans a, b⟩

/-- An object is another one, over a world of which only its block has turned. -/
theorem R.put {ι : Inj} {σ : H} {w w' : World} (h : R ι σ w) {A : Nat} {o o' : AM.Obj} {bk : Bk} (hg : σ.get A = some o) (hd : o ≠ .dead) (hd' : o' ≠ .dead) (hb : ι A = some bk) (hro : bk.ro = false) (ho : ObjR ι w' bk o')
    (hos : w'.os = w.os) (ht : w'.tape = w.tape) (hp : w'.output = w.output) (hz : w'.heap.size = w.heap.size) (hk : ∀ b, b < w.heap.size → b ≠ bk.blk → w'.heap[b]? = w.heap[b]?) : R ι (σ.put A o') w' ∧ Ext ι w ι w' := by
  refine ⟨⟨h.pos, h.zero, h.dom, fun B oB hB => ?_, fun B oB hB dB => ?_, fun B C oB oC bB bC hB hC dB dC iB iC hr he => ?_, fun B b hB => by rw [hz]; exact h.blt B b hB⟩, ⟨Sub.refl _, hos, ht, hp, by omega, fun b hb2 hn => hk b hb2 (fun e => hn A bk hb hro e.symm), fun B b h1 h2 => by rw [h1] at h2; cases h2⟩⟩
  · rw [H.get_put] at hB
    split at hB
    · rename_i e; subst e; exact h.lt _ _ hg
    · exact h.lt _ _ hB
  · rw [H.get_put] at hB
    split at hB
    · rename_i e; subst e; cases hB; exact ⟨bk, hb, ho⟩
    · rename_i e
      obtain ⟨b, i1, i2⟩ := h.obj B oB hB dB
      refine ⟨b, i1, i2.of_heap (hk _ (i2.lt dB) fun e2 => e ?_)⟩
      exact h.inj A B o oB bk b hg hB hd dB hb i1 hro e2.symm
  · have fix : ∀ {X oX}, (σ.put A o').get X = some oX → oX ≠ .dead → ∃ o2, σ.get X = some o2 ∧ o2 ≠ .dead := by
      intro X oX hX dX
      rw [H.get_put] at hX
      split at hX
      · rename_i e; subst e; exact ⟨o, hg, hd⟩
      · exact ⟨oX, hX, dX⟩
    obtain ⟨_, gB, eB⟩ := fix hB dB
    obtain ⟨_, gC, eC⟩ := fix hC dC
    exact h.inj B C _ _ bB bC gB gC eB eC iB iC hr he

/-- What is written. -/
theorem R.write {ι : Inj} {σ σ' : H} {w : World} (h : R ι σ w) {a : Addr} {vs vs' : List Value} {bk : Bk} (hw : wrCells σ a vs = some σ') (hv : VRs ι vs vs') (hb : ι a.block = some bk) :
    a.spot = none ∧ (∀ j, j < vs'.length → (w.cell? ⟨bk.blk, bk.base + a.off + j, none⟩).isSome = true ∧ w.frozen? ⟨bk.blk, bk.base + a.off + j, none⟩ = false) ∧ (∀ v ∈ vs', v.oneCell' = true) ∧
      R ι σ' (w.setCells bk.blk (bk.base + a.off) vs') ∧ Ext ι w ι (w.setCells bk.blk (bk.base + a.off) vs') := by
  unfold wrCells at hw
  split at hw
  · cases hw
  rename_i hsp
  split at hw
  case h_2 => cases hw
  rename_i cs e s m hg
  have key : ∀ (hm : m ≠ .ro), (match vs.all AM.cellOk with
      | false => none
      | true => match lput cs a.off vs with
        | some c' => some (σ.put a.block (.cells c' e s m))
        | none => none) = some σ' → a.spot = none ∧ (∀ j, j < vs'.length → (w.cell? ⟨bk.blk, bk.base + a.off + j, none⟩).isSome = true ∧ w.frozen? ⟨bk.blk, bk.base + a.off + j, none⟩ = false) ∧ (∀ v ∈ vs', v.oneCell' = true) ∧
      R ι σ' (w.setCells bk.blk (bk.base + a.off) vs') ∧ Ext ι w ι (w.setCells bk.blk (bk.base + a.off) vs') := by
    intro hm hw
    split at hw
    · cases hw
    rename_i hall
    split at hw
    case h_2 => cases hw
    rename_i c' hc'
    cases hw
    obtain ⟨h1, h2⟩ := lput_some hc'
    obtain ⟨bk', i1, blk, fz, te, hc⟩ := h.obj _ _ hg (by simp)
    rw [hb] at i1; cases i1
    have hfz := hc.fz hm
    have hlen := hv.length
    have hsz := hc.size
    obtain ⟨blk', a1, a2, a3, a4⟩ := heap_setCells bk.blk vs' (bk.base + a.off) w blk te fz hc.heap (by omega)
    obtain ⟨o1, o2, o3, o4⟩ := setCells_os bk.blk vs' (bk.base + a.off) w
    have hro : bk.ro = false := by rw [hc.ro]; simp [hm]
    refine ⟨hsp, fun j hj => ⟨?_, ?_⟩, fun v hv2 => ?_, ?_⟩
    · simp only [World.cell?, hc.heap, Option.isSome_none, Bool.false_eq_true, if_false]
      rw [Array.getElem?_eq_getElem (by omega)]; rfl
    · simp only [World.frozen?, hc.heap, hfz]; simp
    · rw [cellOk_one]
      have := hv.allOk
      rw [hall] at this
      exact List.all_eq_true.1 this v hv2
    · refine h.put hg (by simp) (by simp) hb hro ⟨blk', fz, te, a1, ?_, hc.esz, hc.ro, hc.fz, hc.extra, ?_, ?_, hc.base0⟩ o1 o2 o3 o4 (fun b hb2 hne => World.heap_setCells_other w _ _ _ hb2 hne)
      · rw [hc.len, h2]; simp; omega
      · rw [a2, h2]; simp; omega
      · rw [h2]
        exact hc.cells.put hv h1 (fun i hi => a3 i (by omega)) (fun j hj => a4 j (by omega))
  cases m with
  | ro => cases hw
  | exact => exact key (by simp) hw
  | grown => exact key (by simp) hw
end AM
end Go.Proofs.YtlelihddjacplaaGreat
namespace Go.Proofs.YtlelihddjacplaaGreat
namespace AM
section
variable {P : Program} {ι : Inj} {σ σ' : H} {w : World}

/-- The program's computation answers what the machine answers. -/
def Good (P : Program) (ι : Inj) (σ' : H) (s : Sem Value) (w : World) (v : Value) : Prop :=
  ∃ ι' v' w', s.run P w = .ok v' w' ∧ VR ι' v v' ∧ R ι' σ' w' ∧ Ext ι w ι' w'
def GoodU (P : Program) (ι : Inj) (σ' : H) (s : Sem Unit) (w : World) : Prop :=
  ∃ ι' w', s.run P w = .ok () w' ∧ R ι' σ' w' ∧ Ext ι w ι' w'
/-- .. whatever the world. -/
def GoodQ (P : Program) (ι : Inj) (s : Sem Value) (v : Value) : Prop := ∃ v', (∀ w, s.run P w = .ok v' w) ∧ VR ι v v'
theorem Good.pure {v v' : Value} {s : Sem Value} (hr : R ι σ w) (hs : s.run P w = .ok v' w) (hv : VR ι v v') : Good P ι σ s w v := ⟨ι, v', w, hs, hv, hr, Ext.refl _ _⟩

theorem szT_some {t n : Nat} (h : szT P t = some n) : ∃ i, P.info? t = some i ∧ i.size = n := by
  unfold szT at h
  split at h
  rotate_left
  · cases h
  cases hi : P.info? t with
  | none => rw [hi] at h; cases h
  | some i => rw [hi] at h; exact ⟨i, rfl, by simpa using h⟩
theorem szT_lt {t n : Nat} (h : szT P t = some n) : t < P.types.size := by
  unfold szT at h
  split at h
  · rename_i hb; rw [nblt] at hb; exact of_decide_eq_true hb
  · cases h
theorem zeroT_lt {t : Nat} {z : Value} (h : zeroT P t = some z) : t < P.types.size := by
  unfold zeroT at h
  split at h
  · rename_i hb; rw [nblt] at hb; exact of_decide_eq_true hb
  · cases h
theorem run_sizeOf {t n : Nat} (h : szT P t = some n) (w : World) : (sizeOf t).run P w = .ok n w := by
  obtain ⟨i, hi, rfl⟩ := szT_some h
  simp [sizeOf, typeInfo, hi]
theorem zeroT_some {t : Nat} {z : Value} (h : zeroT P t = some z) : ∃ i, P.info? t = some i ∧ i.zero = some z ∧ (cellsOf z).all constOk = true ∧ (cellsOf z).length = i.size := by
  unfold zeroT at h
  split at h
  rotate_left
  · cases h
  cases hi : P.info? t with
  | none => rw [hi] at h; cases h
  | some i =>
    rw [hi] at h
    simp only [Option.bind_some, Option.filter] at h
    cases hz : i.zero with
    | none => rw [hz] at h; simp at h
    | some y =>
      rw [hz] at h
      simp at h
      obtain ⟨⟨h1, h2⟩, rfl⟩ := h
      exact ⟨i, rfl, hz, by rw [List.all_eq_true]; exact h1, h2⟩
theorem zeroT_size {t n : Nat} {z : Value} (h : zeroT P t = some z) (hs : szT P t = some n) : (cellsOf z).length = n := by
  obtain ⟨i, hi, _, _, hl⟩ := zeroT_some h
  obtain ⟨j, hj, rfl⟩ := szT_some hs
  rw [hi] at hj; cases hj
  exact hl
theorem run_zeroValue' {t : Nat} {z : Value} (h : zeroT P t = some z) (w : World) : (zeroValue t).run P w = .ok z w := by
  obtain ⟨i, hi, hz, _, _⟩ := zeroT_some h
  simp [zeroValue, typeInfo, hi, hz]
theorem constVR {ι : Inj} {v : Value} (h : constOk v = true) : VR ι v v := by
  cases v with
  | pointer a => cases a <;> simp [constOk] at h; exact .nilp
  | slice a n c => cases a <;> simp [constOk] at h; exact .nils _ _
  | map a => cases a <;> simp [constOk] at h; exact .nilm
  | bool b => exact .bool b
  | int k n => exact .int k n
  | float k b => exact .float k b
  | string s => exact .string s
  | nilFunc => exact .nilf
  | nilIface => exact .nili
  | _ => simp [constOk] at h
theorem constVRs {ι : Inj} : ∀ {l : List Value}, l.all constOk = true → VRs ι l l
  | [], _ => .nil
  | v :: r, h => by
    simp at h
    exact .cons (constVR h.1) (constVRs (by rw [List.all_eq_true]; exact h.2))
theorem zeroVRs {ι : Inj} {t : Nat} {z : Value} (h : zeroT P t = some z) : VRs ι z.cells.toList z.cells.toList := by
  obtain ⟨i, hi, hz, hc, _⟩ := zeroT_some h
  rw [cellsOf_eq]
  exact constVRs hc
theorem zeroVR {ι : Inj} {t : Nat} {z : Value} (h : zeroT P t = some z) : VR ι z z := by
  obtain ⟨i, hi, hz, hc, _⟩ := zeroT_some h
  cases z with
  | agg cs => exact .agg (constVRs hc)
  | _ => exact constVR (by simpa [cellsOf] using hc)
theorem run_isAgg {t : Nat} (hs : ∃ n, szT P t = some n) (hu : (P.underlying t).isSome = true) (w : World) : (isAgg t).run P w = .ok (aggT P t) w := by
  obtain ⟨d, hd⟩ := Option.isSome_iff_exists.1 hu
  simp only [isAgg, Sem.run_bind, run_underlying hd, Result.andThen_ok, aggT, hd]
  cases d <;> rfl

/-! ### Operands -/
theorem opd_const {x : Operand} {v : Value} (h : opdOf x = some (.c v)) (a : Act) : VR ι v (a.eval x) := by
  cases x with
  | tmp t => simp [opdOf] at h
  | const c =>
    simp only [opdOf] at h
    split at h
    · cases h; exact constVR (by assumption)
    · cases h
  | global g => simp [opdOf] at h
  | func f =>
    simp only [opdOf, Option.some.injEq, Opd.c.injEq] at h
    subst h
    exact .func f .nil .nil

/-! ### Pure operations -/
theorem good_pick {c a b v : Value} {c' a' b' : Value} (hr : R ι σ w) (h : pPick [c, a, b] σ = some (v, σ')) (hc : VR ι c c') (ha : VR ι a a') (hb : VR ι b b') :
    GoodQ P ι (do pure (if ← asBool c' then a' else b')) v ∧ σ' = σ := by
  cases hc <;> simp only [pPick] at h <;> try cases h
  rename_i b0
  refine ⟨⟨if b0 then a' else b', fun w => by simp [asBool], ?_⟩, rfl⟩
  cases b0 <;> simp <;> assumption
theorem good_func {f n : Nat} {vs xs ys : List Value} {v : Value} (hr : R ι σ w) (h : pFunc f n vs σ = some (v, σ')) (hv : VRs ι vs (xs ++ ys)) (hn : xs.length = n) :
    GoodQ P ι (Instr.makeFunc (.func f) ⟨xs⟩ ⟨ys⟩) v ∧ σ' = σ := by
  simp only [pFunc, Option.some.injEq, Prod.mk.injEq] at h
  obtain ⟨rfl, rfl⟩ := h
  refine ⟨⟨.func (.func f) ⟨xs⟩ ⟨ys⟩, fun w => rfl, .func f ?_ ?_⟩, rfl⟩
  · have := hv.take n; rwa [List.take_left' hn] at this
  · have := hv.drop n; rwa [List.drop_left' hn] at this
theorem good_iface {t : Nat} {x x' v : Value} {d : TypeDesc} (hr : R ι σ w) (h : pIface t [x] σ = some (v, σ')) (hx : VR ι x x') (hd : P.underlying t = some d) (hn : ∀ ms, d ≠ .interface ms) :
    GoodQ P ι (Instr.makeInterface t x') v ∧ σ' = σ := by
  simp only [pIface, Option.some.injEq, Prod.mk.injEq] at h
  obtain ⟨rfl, rfl⟩ := h
  refine ⟨⟨.iface t x', fun w => ?_, (.iface t hx)⟩, rfl⟩
  simp only [Instr.makeInterface, Sem.run_bind, run_underlying hd, Result.andThen_ok]
  cases d <;> simp_all
theorem good_extract {i : Nat} {x x' v : Value} (hr : R ι σ w) (h : pExtract i [x] σ = some (v, σ')) (hx : VR ι x x') : GoodQ P ι (Instr.extract x' i) v ∧ σ' = σ := by
  cases hx <;> simp only [pExtract] at h <;> try cases h
  rename_i xs ys hl
  rw [lget_eq] at h
  split at h
  · rename_i u hu
    simp only [Option.some.injEq, Prod.mk.injEq] at h
    obtain ⟨rfl, rfl⟩ := h
    obtain ⟨u', a, b⟩ := hl.get i u hu
    exact ⟨⟨_, fun w => (by simp [Instr.extract, a]), b⟩, rfl⟩
  · cases h
theorem good_toInt {s d : Nat} {k0 k : IntKind} {x x' v : Value} (hr : R ι σ w) (h : pToInt k [x] σ = some (v, σ')) (hx : VR ι x x') (hs : P.underlying s = some (.int k0)) (hd : P.underlying d = some (.int k)) :
    GoodQ P ι (convert s d x') v ∧ σ' = σ := by
  cases hx <;> simp only [pToInt] at h <;> try cases h
  rename_i kx n
  rw [wrapI_eq]
  refine ⟨⟨_, fun w => ?_, (.int k _)⟩, rfl⟩
  simp [convert, run_underlying hs, run_underlying hd, Conv.intToInt]
theorem good_toFloat {s d : Nat} {k0 : IntKind} {k : FloatKind} {x x' v : Value} (hr : R ι σ w) (h : pToFloat k [x] σ = some (v, σ')) (hx : VR ι x x') (hs : P.underlying s = some (.int k0)) (hd : P.underlying d = some (.float k)) :
    GoodQ P ι (convert s d x') v ∧ σ' = σ := by
  cases hx <;> simp only [pToFloat] at h <;> try cases h
  refine ⟨⟨_, fun w => ?_, (.float k _)⟩, rfl⟩
  simp [convert, run_underlying hs, run_underlying hd, Conv.intToFloat]
theorem isNil_VR {k : NK} {x x' : Value} (h : VR ι x x') : isNilV k x' = isNilV k x := by cases h <;> cases k <;> rfl
theorem good_nilCheck {x x' v : Value} {ρ : Operand → Value} {y : Operand} {dst ty pos after guard} (h : pNilCheck [x] σ = some (v, σ')) (hx : VR ι x x') (hy : ρ y = x') :
    (execOp ρ ⟨dst, .nilCheck y, ty, pos, after, guard⟩).run P w = .ok (.value x') w ∧ VR ι v x' ∧ σ' = σ := by
  cases hx <;> simp only [pNilCheck] at h <;> try (cases h; done)
  all_goals
    simp only [Option.some.injEq, Prod.mk.injEq] at h
    obtain ⟨rfl, rfl⟩ := h
    refine ⟨by simp [execOp, hy], ?_, rfl⟩
  · exact .ptr (by assumption)
  · exact .iface _ (by assumption)
theorem binI_ok {op : BinOp} {k : IntKind} {x y : Int} {v : Value} (h : binI op k x y = some v) (t : TypeId) (w : World) : (binOp op t (.int k x) (.int k y)).run P w = .ok v w := by
  cases op <;> simp only [binI, reduceCtorEq] at h
  case add => simp only [wrapI_eq, Option.some.injEq] at h; subst h; simp [binOp, Op.intArith]; try rfl
  case sub => simp only [wrapI_eq, Option.some.injEq] at h; subst h; simp [binOp, Op.intArith]; try rfl
  case mul => simp only [wrapI_eq, Option.some.injEq] at h; subst h; simp [binOp, Op.intArith]; try rfl
  case quo =>
    rw [eqI_eq] at h
    split at h
    · cases h
    · rename_i hz
      simp only [wrapI_eq, divI_eq, Option.some.injEq] at h
      simp at hz
      subst h
      simp [binOp, Op.intDiv, hz]
  case rem =>
    rw [eqI_eq] at h
    split at h
    · cases h
    · rename_i hz
      simp only [remI_eq, Option.some.injEq] at h
      simp at hz
      subst h
      simp [binOp, Op.intDiv, hz]
  case and => simp only [Option.some.injEq] at h; subst h; rw [bitI_eq k Nat.land (· &&& ·) x y (fun a b n ha hb => Nat.and_lt_two_pow a hb) (fun a b => BitVec.toNat_and a b)]; simp [binOp, Op.intBits]
  case or => simp only [Option.some.injEq] at h; subst h; rw [bitI_eq k Nat.lor (· ||| ·) x y (fun a b n ha hb => Nat.or_lt_two_pow ha hb) (fun a b => BitVec.toNat_or a b)]; simp [binOp, Op.intBits]
  case xor => simp only [Option.some.injEq] at h; subst h; rw [bitI_eq k Nat.xor (· ^^^ ·) x y (fun a b n ha hb => Nat.xor_lt_two_pow ha hb) (fun a b => BitVec.toNat_xor a b)]; simp [binOp, Op.intBits]
  all_goals
    simp only [ltI_eq, eqI_eq, Option.some.injEq] at h
    subst h
    simp [binOp, Op.intCmp]
  case eql => rfl
  case neq => rfl
  case leq => by_cases e : x ≤ y <;> simp [e] <;> omega
  case geq => by_cases e : y ≤ x <;> simp [e] <;> omega
theorem shiftI_ok {op : BinOp} {k k' : IntKind} {x y : Int} {v : Value} (hop : op = .shl ∨ op = .shr) (h : shiftI op k x y = some v) (t : TypeId) (w : World) : (binOp op t (.int k x) (.int k' y)).run P w = .ok v w := by
  simp only [shiftI, ltI_eq] at h
  split at h
  · cases h
  · rename_i hz
    simp at hz
    have hz' : ¬ y < 0 := by omega
    rcases hop with rfl | rfl
    · simp only [shlI_eq, shiftN_eq, Option.some.injEq] at h
      subst h
      simp [binOp, Op.shift, hz']
    · simp only [shrI_eq, shiftN_eq, Option.some.injEq] at h
      subst h
      simp [binOp, Op.shift, hz']
theorem binF_ok {op : BinOp} {k : FloatKind} {x y : Nat} {v : Value} (h : binF op k x y = some v) (t : TypeId) (w : World) : (binOp op t (.float k x) (.float k y)).run P w = .ok v w := by
  cases op <;> simp only [binF, reduceCtorEq, Option.map_eq_some_iff, Option.some.injEq] at h
  all_goals first
    | (obtain ⟨r, hr, rfl⟩ := h; simp [binOp, Op.floatArith, hr])
    | (subst h; simp [binOp, Op.floatCmp])

theorem live_cells {A : Nat} {bk : Bk} (hr : R ι σ w) (h : live σ A = true) (hb : ι A = some bk) : ∃ blk e, w.heap[bk.blk]? = some (.cells blk e (0, 0)) ∧ bk.ro = false ∧ ∃ o, σ.get A = some o ∧ o ≠ .dead := by
  unfold live at h
  split at h
  · cases h
  · rename_i c e s m hno hg
    obtain ⟨bk', i1, blk, fz, te, hc⟩ := hr.obj _ _ hg (by simp)
    rw [hb] at i1; cases i1
    have hm : m ≠ .ro := fun e => by subst e; simp at hno
    refine ⟨blk, te, ?_, by rw [hc.ro]; simp [hm], _, hg, by simp⟩
    rw [hc.heap, hc.fz hm]
  · cases h
theorem sameAddr_live {A B : Nat} {o1 o2 : Nat} {bA bB : Bk} (hr : R ι σ w) (hA : live σ A = true) (hB : live σ B = true) (iA : ι A = some bA) (iB : ι B = some bB) :
    (sameAddr ⟨bA.blk, bA.base + o1, none⟩ ⟨bB.blk, bB.base + o2, none⟩).run P w = .ok (A == B && o1 == o2) w := by
  obtain ⟨kA, eA, gA, rA, oA, sA, dA⟩ := live_cells hr hA iA
  obtain ⟨kB, eB, gB, rB, oB, sB, dB⟩ := live_cells hr hB iB
  by_cases he : bA.blk = bB.blk
  · have : A = B := hr.inj A B oA oB bA bB sA sB dA dB iA iB rA he
    subst this
    rw [iA] at iB; cases iB
    unfold sameAddr
    have : (({ block := bA.blk, off := bA.base + o1 } : Addr) == { block := bA.blk, off := bA.base + o2 }) = (o1 == o2) := by
      rw [Bool.eq_iff_iff]; simp
    simp [this]
  · have hne : A ≠ B := fun e => by subst e; rw [iA] at iB; cases iB; exact he rfl
    have h1 : ∀ o, w.frozen? ⟨bA.blk, o, none⟩ = false := fun o => by simp [World.frozen?, gA]
    have h2 : ∀ o, w.frozen? ⟨bB.blk, o, none⟩ = false := fun o => by simp [World.frozen?, gB]
    unfold sameAddr
    simp [he, h1, h2, noView, viewAt, World.shape?, gA, gB, mayBeOne, stringish, hne]
theorem equal_ptr {te t : Nat} (x y : Option Addr) (ht : P.underlying t = some (.pointer te)) : (Op.equal t (.pointer x) (.pointer y)).run P w =
    (match x, y with
    | none, b => pure b.isNone
    | some _, none => pure false
    | some a, some b => do
      if (← sizeOf te) ≠ 0 then sameAddr a b
      else if a == b then pure true
      else pure ((← choose .zeroSizeEq) = 1) : Sem Bool).run P w := by
  unfold Op.equal Op.maxDepth
  rw [show (10000 : Nat) = 9999 + 1 from rfl, Op.equalIn]
  simp only [Sem.run_bind, run_underlying ht, Result.andThen_ok]
  cases x <;> cases y <;> rfl
theorem binOp_eql_ptr {t : Nat} {x y : Option Addr} {b : Bool} (h : (Op.equal t (.pointer x) (.pointer y)).run P w = .ok b w) : (binOp .eql t (.pointer x) (.pointer y)).run P w = .ok (.bool b) w := by
  have : binOp .eql t (.pointer x) (.pointer y) = (do pure (.bool (← Op.equal t (.pointer x) (.pointer y)))) := by cases x <;> cases y <;> rfl
  rw [this, Sem.run_bind, h]; rfl
theorem binOp_neq_ptr {t : Nat} {x y : Option Addr} {b : Bool} (h : (Op.equal t (.pointer x) (.pointer y)).run P w = .ok b w) : (binOp .neq t (.pointer x) (.pointer y)).run P w = .ok (.bool !b) w := by
  have : binOp .neq t (.pointer x) (.pointer y) = (do pure (.bool (!(← Op.equal t (.pointer x) (.pointer y))))) := by cases x <;> cases y <;> rfl
  rw [this, Sem.run_bind, h]; rfl
theorem good_eqPtr {te : Nat} {neg : Bool} {t : Nat} {x y x' y' v : Value} {i : TypeInfo} (hr : R ι σ w) (h : pEqPtr neg [x, y] σ = some (v, σ')) (hx : VR ι x x') (hy : VR ι y y')
    (ht : P.underlying t = some (.pointer te)) (hi : P.info? te = some i) (hz : i.size ≠ 0) : (binOp (if neg then .neq else .eql) t x' y').run P w = .ok v w ∧ VR ι v v ∧ σ' = σ := by
  have hsz : (sizeOf te).run P w = .ok i.size w := by simp [sizeOf, typeInfo, hi]
  have fin : ∀ (x' y' : Option Addr) (r : Bool), (Op.equal t (.pointer x') (.pointer y')).run P w = .ok r w → (binOp (if neg then .neq else .eql) t (.pointer x') (.pointer y')).run P w = .ok (.bool (negB neg r)) w := by
    intro x' y' r h1
    cases neg
    · exact binOp_eql_ptr h1
    · exact binOp_neq_ptr h1
  cases hx <;> cases hy <;> simp only [pEqPtr, ptrEq] at h <;> try (cases h; done)
  · simp only [Option.some.injEq, Prod.mk.injEq] at h
    obtain ⟨rfl, rfl⟩ := h
    exact ⟨fin _ _ true (by rw [equal_ptr _ _ ht]; rfl), .bool _, rfl⟩
  · simp only [Option.some.injEq, Prod.mk.injEq] at h
    obtain ⟨rfl, rfl⟩ := h
    exact ⟨fin _ _ false (by rw [equal_ptr _ _ ht]; rfl), .bool _, rfl⟩
  · simp only [Option.some.injEq, Prod.mk.injEq] at h
    obtain ⟨rfl, rfl⟩ := h
    exact ⟨fin _ _ false (by rw [equal_ptr _ _ ht]; rfl), .bool _, rfl⟩
  · rename_i A o bA hA B o2 bB hB
    split at h
    · rename_i b hb
      split at hb
      · cases hb
      · rename_i hl
        simp only [Bool.and_eq_true] at hl
        simp only [Option.some.injEq, Prod.mk.injEq] at h hb
        obtain ⟨rfl, rfl⟩ := h
        subst hb
        refine ⟨fin _ _ _ ?_, .bool _, rfl⟩
        rw [equal_ptr _ _ ht]
        simp [hsz, hz, sameAddr_live (P := P) (o1 := o) (o2 := o2) hr hl.1 hl.2 hA hB, nbeq]
        rfl
    · cases h
theorem equal_bool {t : Nat} (x y : Bool) (ht : P.underlying t = some .bool) : (Op.equal t (.bool x) (.bool y)).run P w = .ok (x == y) w := by
  unfold Op.equal Op.maxDepth
  rw [show (10000 : Nat) = 9999 + 1 from rfl, Op.equalIn]
  simp only [Sem.run_bind, run_underlying ht, Result.andThen_ok]
  rfl
theorem good_eqBool {neg : Bool} {t : Nat} {x y x' y' v : Value} (h : pEqBool neg [x, y] σ = some (v, σ')) (hx : VR ι x x') (hy : VR ι y y') (ht : P.underlying t = some .bool) :
    (binOp (if neg then .neq else .eql) t x' y').run P w = .ok v w ∧ VR ι v v ∧ σ' = σ := by
  cases hx <;> cases hy <;> simp only [pEqBool] at h <;> try (cases h; done)
  rename_i a b
  simp only [Option.some.injEq, Prod.mk.injEq] at h
  obtain ⟨rfl, rfl⟩ := h
  refine ⟨?_, .bool _, rfl⟩
  cases neg
  · show (do pure (.bool (← Op.equal t (.bool a) (.bool b))) : Sem Value).run P w = _
    rw [Sem.run_bind, equal_bool _ _ ht]; rfl
  · show (do pure (.bool (!(← Op.equal t (.bool a) (.bool b)))) : Sem Value).run P w = _
    rw [Sem.run_bind, equal_bool _ _ ht]; rfl
theorem good_eqStr {neg : Bool} {t : Nat} {x y x' y' v : Value} (h : pEqStr neg [x, y] σ = some (v, σ')) (hx : VR ι x x') (hy : VR ι y y') :
    (binOp (if neg then .neq else .eql) t x' y').run P w = .ok v w ∧ VR ι v v ∧ σ' = σ := by
  cases hx <;> cases hy <;> simp only [pEqStr] at h <;> try (cases h; done)
  rename_i a b
  simp only [Option.some.injEq, Prod.mk.injEq] at h
  obtain ⟨rfl, rfl⟩ := h
  refine ⟨?_, .bool _, rfl⟩
  cases neg <;> simp [binOp, Op.stringOp, negB, ByteArray.toList_eq] <;> rfl
theorem good_bin {op : BinOp} {t : Nat} {x y x' y' v : Value} (h : pBin op [x, y] σ = some (v, σ')) (hx : VR ι x x') (hy : VR ι y y') :
    (binOp op t x' y').run P w = .ok v w ∧ VR ι v v ∧ σ' = σ ∧ (∀ c, x' ≠ .agg c) ∧ x' ≠ .nilIface := by
  simp only [pBin] at h
  split at h
  case h_2 => cases h
  rename_i u hu
  simp only [Option.some.injEq, Prod.mk.injEq] at h
  obtain ⟨rfl, rfl⟩ := h
  cases hx <;> cases hy <;> simp only [binV] at hu <;> try (cases hu; done)
  · rename_i k n k' n'
    have hv : ∀ {u}, (∃ b, u = Value.bool b) ∨ (∃ k n, u = Value.int k n) → VR ι u u := by
      rintro u (⟨b, rfl⟩ | ⟨k, n, rfl⟩)
      · exact .bool b
      · exact .int k n
    have hsh : ∀ op, shiftI op k n n' = some u → (op = .shl ∨ op = .shr) → (binOp op t (.int k n) (.int k' n')).run P w = .ok u w ∧ VR ι u u := by
      intro op h hop
      refine ⟨shiftI_ok hop h t w, hv ?_⟩
      simp only [shiftI] at h
      split at h
      · cases h
      · rcases hop with rfl | rfl <;> simp at h <;> exact .inr ⟨_, _, h.symm⟩
    have hbi : ∀ op, (match sameK k k' with | true => binI op k n n' | false => none) = some u → (binOp op t (.int k n) (.int k' n')).run P w = .ok u w ∧ VR ι u u := by
      intro op h
      rw [sameK_eq] at h
      split at h
      · rename_i hk
        simp at hk
        subst hk
        refine ⟨binI_ok h t w, hv ?_⟩
        cases op <;> simp only [binI, reduceCtorEq, Option.some.injEq] at h
        all_goals first
          | (exact .inl ⟨_, h.symm⟩)
          | (exact .inr ⟨_, _, h.symm⟩)
          | (split at h <;> simp at h; exact .inr ⟨_, _, h.symm⟩)
      · cases h
    cases op <;> simp only [] at hu
    case shl => exact ⟨(hsh _ hu (.inl rfl)).1, (hsh _ hu (.inl rfl)).2, rfl, by simp, by simp⟩
    case shr => exact ⟨(hsh _ hu (.inr rfl)).1, (hsh _ hu (.inr rfl)).2, rfl, by simp, by simp⟩
    all_goals exact ⟨(hbi _ hu).1, (hbi _ hu).2, rfl, by simp, by simp⟩
  · rename_i k b k' b'
    split at hu
    · rename_i hk
      simp at hk
      subst hk
      refine ⟨binF_ok hu t w, ?_, rfl, by simp, by simp⟩
      cases op <;> simp only [binF, reduceCtorEq, Option.map_eq_some_iff, Option.some.injEq] at hu
      all_goals first
        | (obtain ⟨r, hr, rfl⟩ := hu; exact .float _ _)
        | (subst hu; exact .bool _)
    · cases hu
end
end AM
end Go.Proofs.YtlelihddjacplaaGreat
namespace Go.Proofs.YtlelihddjacplaaGreat
namespace AM
section
variable {P : Program} {ι : Inj} {σ σ' : H} {w : World}

theorem good_un {op : UnOp} {x x' v : Value} (h : pUn op [x] σ = some (v, σ')) (hx : VR ι x x') : (Op.unary op x').run P w = .ok v w ∧ VR ι v v ∧ σ' = σ := by
  simp only [pUn] at h
  split at h
  case h_2 => cases h
  rename_i u hu
  simp only [Option.some.injEq, Prod.mk.injEq] at h
  obtain ⟨rfl, rfl⟩ := h
  cases op <;> cases hx <;> simp only [unV, reduceCtorEq, Option.some.injEq] at hu
  · subst hu
    refine ⟨?_, .int _ _, rfl⟩
    rw [wrapI_eq]
    simp only [Op.unary, Op.intArith]
    rfl
  rotate_left
  · rename_i b; subst hu; exact ⟨rfl, .bool _, rfl⟩
  · subst hu
    refine ⟨?_, .int _ _, rfl⟩
    rw [bitI_eq _ Nat.xor (· ^^^ ·) _ _ (fun a b n ha hb => Nat.xor_lt_two_pow ha hb) (fun a b => BitVec.toNat_xor a b)]
    simp [Op.unary, Op.intBits, Nat.xor_comm]

theorem equal_slice {t e : Nat} (x : Value) (n c : Nat) (hx : ∃ a n c, x = .slice a n c) (ht : P.underlying t = some (.slice e)) : (Op.equal t x (.slice none n c)).run P w = .ok ((isNilV .slice x).getD false) w ∧ (Op.equal t (.slice none n c) x).run P w = .ok ((isNilV .slice x).getD false) w := by
  obtain ⟨a, m, d, rfl⟩ := hx
  unfold Op.equal Op.maxDepth
  rw [show (10000 : Nat) = 9999 + 1 from rfl, Op.equalIn, Op.equalIn]
  simp only [Sem.run_bind, run_underlying ht, Result.andThen_ok]
  cases a <;> exact ⟨rfl, rfl⟩
theorem equal_map {t k e : Nat} (x : Value) (hx : ∃ a, x = .map a) (ht : P.underlying t = some (.map k e)) : (Op.equal t x (.map none)).run P w = .ok ((isNilV .map x).getD false) w ∧ (Op.equal t (.map none) x).run P w = .ok ((isNilV .map x).getD false) w := by
  obtain ⟨a, rfl⟩ := hx
  unfold Op.equal Op.maxDepth
  rw [show (10000 : Nat) = 9999 + 1 from rfl, Op.equalIn, Op.equalIn]
  simp only [Sem.run_bind, run_underlying ht, Result.andThen_ok]
  cases a <;> exact ⟨rfl, rfl⟩
theorem equal_func {t : Nat} {ps rs : Array Nat} {vr : Bool} (x : Value) (hx : x = .nilFunc ∨ ∃ f a b, x = .func f a b) (ht : P.underlying t = some (.func ps rs vr)) : (Op.equal t x .nilFunc).run P w = .ok ((isNilV .func x).getD false) w ∧ (Op.equal t .nilFunc x).run P w = .ok ((isNilV .func x).getD false) w := by
  unfold Op.equal Op.maxDepth
  rw [show (10000 : Nat) = 9999 + 1 from rfl, Op.equalIn, Op.equalIn]
  simp only [Sem.run_bind, run_underlying ht, Result.andThen_ok]
  rcases hx with rfl | ⟨f, a, b, rfl⟩ <;> exact ⟨rfl, rfl⟩
theorem equal_iface {t : Nat} {ms : Array (String × Nat)} (x : Value) (hx : x = .nilIface ∨ ∃ t v, x = .iface t v) (ht : P.underlying t = some (.interface ms)) : (Op.equal t x .nilIface).run P w = .ok ((isNilV .iface x).getD false) w ∧ (Op.equal t .nilIface x).run P w = .ok ((isNilV .iface x).getD false) w := by
  unfold Op.equal Op.maxDepth
  rw [show (10000 : Nat) = 9999 + 1 from rfl, Op.equalIn, Op.equalIn]
  simp only [Sem.run_bind, run_underlying ht, Result.andThen_ok]
  rcases hx with rfl | ⟨f, a, rfl⟩ <;> exact ⟨rfl, rfl⟩
/-- The computation of '==' or '!='. -/
def eqOp (neg : Bool) : BinOp := if neg then .neq else .eql
theorem binOp_other {t : Nat} {neg : Bool} {x y : Value} {b : Bool} (h : (Op.equal t x y).run P w = .ok b w)
    (hx : (∃ a n c, x = .slice a n c) ∨ (∃ a, x = .map a) ∨ x = .nilFunc ∨ (∃ f a b, x = .func f a b) ∨ x = .nilIface ∨ (∃ t v, x = .iface t v))
    (hy : (∃ a n c, y = .slice a n c) ∨ (∃ a, y = .map a) ∨ y = .nilFunc ∨ (∃ f a b, y = .func f a b) ∨ y = .nilIface ∨ (∃ t v, y = .iface t v)) : (binOp (eqOp neg) t x y).run P w = .ok (.bool (negB neg b)) w := by
  have : binOp (eqOp neg) t x y = (do pure (.bool (negB neg (← Op.equal t x y)))) := by
    rcases hx with ⟨_, _, _, rfl⟩ | ⟨_, rfl⟩ | rfl | ⟨_, _, _, rfl⟩ | rfl | ⟨_, _, rfl⟩ <;> rcases hy with ⟨_, _, _, rfl⟩ | ⟨_, rfl⟩ | rfl | ⟨_, _, _, rfl⟩ | rfl | ⟨_, _, rfl⟩ <;> cases neg <;> rfl
  rw [this, Sem.run_bind, h]; rfl
theorem good_isNil {k : NK} {neg : Bool} {t : Nat} {d : TypeDesc} {x x' v nl : Value} (h : pIsNil k neg [x] σ = some (v, σ')) (hx : VR ι x x') (ht : P.underlying t = some d) (hk : nkOf d = some k) (hn : nilOf k (.const nl) = true) :
    (binOp (eqOp neg) t x' nl).run P w = .ok v w ∧ (binOp (eqOp neg) t nl x').run P w = .ok v w ∧ VR ι v v ∧ σ' = σ ∧ (∀ c, x' ≠ .agg c) ∧ (∀ c, nl ≠ .agg c) := by
  simp only [pIsNil] at h
  split at h
  case h_2 => cases h
  rename_i b hb
  simp only [Option.some.injEq, Prod.mk.injEq] at h
  obtain ⟨rfl, rfl⟩ := h
  rw [← isNil_VR hx] at hb
  cases k
  · -- pointers
    cases d <;> simp [nkOf] at hk
    rename_i te
    cases nl <;> simp [nilOf] at hn
    rename_i a0
    cases a0 <;> simp at hn
    cases x' <;> simp [isNilV] at hb
    rename_i a
    subst hb
    refine ⟨?_, ?_, .bool _, rfl, by simp, by simp⟩
    · have : (Op.equal t (.pointer a) (.pointer none)).run P w = .ok a.isNone w := by rw [equal_ptr _ _ ht]; cases a <;> rfl
      cases neg
      · exact binOp_eql_ptr this
      · exact binOp_neq_ptr this
    · have : (Op.equal t (.pointer none) (.pointer a)).run P w = .ok a.isNone w := by rw [equal_ptr _ _ ht]; cases a <;> rfl
      cases neg
      · exact binOp_eql_ptr this
      · exact binOp_neq_ptr this
  · cases d <;> simp [nkOf] at hk
    cases nl <;> simp [nilOf] at hn
    rename_i a n c
    cases a <;> simp at hn
    cases x' <;> simp [isNilV] at hb
    rename_i a' n' c'
    have hs := equal_slice (w := w) (.slice a' n' c') n c ⟨_, _, _, rfl⟩ ht
    simp only [isNilV, Option.getD_some, hb] at hs
    exact ⟨binOp_other hs.1 (.inl ⟨_, _, _, rfl⟩) (.inl ⟨_, _, _, rfl⟩), binOp_other hs.2 (.inl ⟨_, _, _, rfl⟩) (.inl ⟨_, _, _, rfl⟩), .bool _, rfl, by simp, by simp⟩
  · cases d <;> simp [nkOf] at hk
    cases nl <;> simp [nilOf] at hn
    rename_i a
    cases a <;> simp at hn
    cases x' <;> simp [isNilV] at hb
    rename_i a'
    have hs := equal_map (w := w) (.map a') ⟨_, rfl⟩ ht
    simp only [isNilV, Option.getD_some, hb] at hs
    exact ⟨binOp_other hs.1 (.inr (.inl ⟨_, rfl⟩)) (.inr (.inl ⟨_, rfl⟩)), binOp_other hs.2 (.inr (.inl ⟨_, rfl⟩)) (.inr (.inl ⟨_, rfl⟩)), .bool _, rfl, by simp, by simp⟩
  · cases d <;> simp [nkOf] at hk
    cases nl <;> simp [nilOf] at hn
    have hq : x' = .nilFunc ∨ ∃ f a b, x' = .func f a b := by
      cases x' <;> simp [isNilV] at hb ⊢
    have hs := equal_func (w := w) x' hq ht
    simp only [hb, Option.getD_some] at hs
    have hq' : (∃ a n c, x' = .slice a n c) ∨ (∃ a, x' = .map a) ∨ x' = .nilFunc ∨ (∃ f a b, x' = .func f a b) ∨ x' = .nilIface ∨ (∃ t v, x' = .iface t v) := by
      rcases hq with h | h
      · exact .inr (.inr (.inl h))
      · exact .inr (.inr (.inr (.inl h)))
    exact ⟨binOp_other hs.1 hq' (.inr (.inr (.inl rfl))), binOp_other hs.2 (.inr (.inr (.inl rfl))) hq', .bool _, rfl, by rcases hq with rfl | ⟨_, _, _, rfl⟩ <;> simp, by simp⟩
  · cases d <;> simp [nkOf] at hk
    cases nl <;> simp [nilOf] at hn
    have hq : x' = .nilIface ∨ ∃ t v, x' = .iface t v := by
      cases x' <;> simp [isNilV] at hb ⊢
    have hs := equal_iface (w := w) x' hq ht
    simp only [hb, Option.getD_some] at hs
    have hq' : (∃ a n c, x' = .slice a n c) ∨ (∃ a, x' = .map a) ∨ x' = .nilFunc ∨ (∃ f a b, x' = .func f a b) ∨ x' = .nilIface ∨ (∃ t v, x' = .iface t v) := by
      rcases hq with h | h
      · exact .inr (.inr (.inr (.inr (.inl h))))
      · exact .inr (.inr (.inr (.inr (.inr h))))
    exact ⟨binOp_other hs.1 hq' (.inr (.inr (.inr (.inr (.inl rfl))))), binOp_other hs.2 (.inr (.inr (.inr (.inr (.inl rfl))))) hq', .bool _, rfl, by rcases hq with rfl | ⟨_, _, rfl⟩ <;> simp, by simp⟩
def isC : Operand → Bool
  | .const _ => true
  | _ => false
/-- The look that goes ahead of '==' lets these pass. -/
theorem eqGuard_other {op : BinOp} {t : Nat} {x y : Operand} {a b : Value} (h1 : ∀ c, a ≠ .agg c) (h2 : a = .nilIface → b = .nilIface → isC x = true ∨ isC y = true) : (eqGuard op t x y a b).run P w = .ok () w := by
  unfold eqGuard
  cases op <;> simp
  all_goals
    cases a <;> cases b <;> simp
    all_goals try exact absurd rfl (h1 _)
    rcases h2 rfl rfl with h | h
    · cases x <;> simp [isC] at h <;> simp
    · cases x <;> cases y <;> simp [isC] at h <;> simp

theorem bound_some {x : Int} {y n : Nat} (h : bound x y = some n) : 0 ≤ x ∧ x ≤ y ∧ n = x.toNat := by
  unfold bound at h
  rw [ltI_eq, ltI_eq] at h
  split at h
  · rename_i hc
    simp at hc h
    exact ⟨hc.1, hc.2, h.symm⟩
  · cases h
theorem run_sliceBound {x : Int} {k : IntKind} {y n : Nat} (h : bound x y = some n) (code : BoundsCode) : (Instr.sliceBound (.int k x) y code).run P w = .ok n w := by
  obtain ⟨h0, h1, rfl⟩ := bound_some h
  simp [Instr.sliceBound, asIntOf, h0, h1]
theorem intOf_VR {x x' : Value} {i : Int} (h : VR ι x x') (hi : intOf? x = some i) : ∃ k, x' = .int k i := by
  cases h <;> simp [intOf?] at hi
  subst hi
  exact ⟨_, rfl⟩
theorem good_fieldAddr {s i off : Nat} {fs : Array Field} {f : Field} {x x' v : Value} (hr : R ι σ w) (h : pFieldAddr off [x] σ = some (v, σ')) (hx : VR ι x x') (hs : P.underlying s = some (.struct fs)) (hf : fs[i]? = some f)
    (hz : ∃ n, szT P f.type = some n ∧ n ≠ 0) (ho : f.offset = off) : GoodQ P ι (Instr.fieldAt s x' i) v ∧ σ' = σ := by
  obtain ⟨n, hn, hn0⟩ := hz
  cases hx <;> simp only [pFieldAddr] at h <;> try (cases h; done)
  rename_i A o bk hA
  simp only [Option.some.injEq, Prod.mk.injEq] at h
  obtain ⟨rfl, rfl⟩ := h
  refine ⟨⟨.pointer (some ⟨bk.blk, bk.base + (o + off), none⟩), fun w => ?_, (.ptr hA)⟩, rfl⟩
  simp [Instr.fieldAt, run_underlying hs, hf, Instr.sureAddr, fieldPlace, run_sizeOf hn, hn0, Addr.add_mid, ho, Nat.add_assoc]
theorem good_idxAddr {t e esz : Nat} {x x' i i' v : Value} (hr : R ι σ w) (h : pIdxAddr esz [x, i] σ = some (v, σ')) (hx : VR ι x x') (hi : VR ι i i') (ht : P.underlying t = some (.slice e)) (he : szT P e = some esz) :
    GoodQ P ι (Instr.indexAt t x' i') v ∧ σ' = σ := by
  cases hx <;> simp only [pIdxAddr] at h <;> try (cases h; done)
  · rename_i A o n c bk h0 hA
    cases hi <;> simp only [] at h <;> try (cases h; done)
    rename_i k j
    rw [ltI_eq, ltI_eq] at h
    split at h
    · rename_i hc
      simp at hc h
      obtain ⟨rfl, rfl⟩ := h
      refine ⟨⟨.pointer (some ⟨bk.blk, bk.base + (o + j.toNat * esz), none⟩), fun w => ?_, (.ptr hA)⟩, rfl⟩
      simp [Instr.indexAt, asIntOf, run_underlying ht, hc, run_sizeOf he, Addr.add_mid, Nat.add_assoc]
    · cases h
  · cases hi <;> simp only [] at h <;> try (cases h; done)
    rename_i k j
    rw [ltI_eq, ltI_eq] at h
    split at h
    · rename_i hc; simp at hc
    · cases h
theorem good_idxAddrA {t e esz n : Nat} {x x' i i' v : Value} (hr : R ι σ w) (h : pIdxAddrA n esz [x, i] σ = some (v, σ')) (hx : VR ι x x') (hi : VR ι i i') (ht : P.underlying t = some (.array n e)) (he : szT P e = some esz) :
    GoodQ P ι (Instr.indexAt t x' i') v ∧ σ' = σ := by
  cases hx <;> simp only [pIdxAddrA] at h <;> try (cases h; done)
  rename_i A o bk hA
  cases hi <;> simp only [] at h <;> try (cases h; done)
  rename_i k j
  rw [ltI_eq, ltI_eq] at h
  split at h
  · rename_i hc
    simp at hc h
    obtain ⟨rfl, rfl⟩ := h
    refine ⟨⟨.pointer (some ⟨bk.blk, bk.base + (o + j.toNat * esz), none⟩), fun w => ?_, (.ptr hA)⟩, rfl⟩
    simp [Instr.indexAt, asIntOf, run_underlying ht, Instr.sureAddr, hc, run_sizeOf he, Addr.add_mid, Nat.add_assoc]
  · cases h
theorem run_part {t n : Nat} (c : List Value) (off : Nat) (ht : szT P t = some n) (hu : (P.underlying t).isSome = true) {v : Value}
    (h : (if aggT P t then (if off + n ≤ c.length then some (Value.agg ⟨(c.drop off).take n⟩) else none) else c[off]?) = some v) : (part t ⟨c⟩ off).run P w = .ok v w := by
  unfold part
  simp only [Sem.run_bind, run_isAgg ⟨n, ht⟩ hu, Result.andThen_ok]
  cases hg : aggT P t
  · rw [hg] at h
    simp at h
    simp [h]
  · rw [hg] at h
    simp only [if_true] at h
    split at h
    · rename_i hl
      simp at h
      subst h
      simp [run_sizeOf ht, List.drop_take]
    · cases h
theorem good_field {t i off n : Nat} {agg : Bool} {fs : Array Field} {f : Field} {x x' v : Value} (hr : R ι σ w) (h : pField off agg n [x] σ = some (v, σ')) (hx : VR ι x x') (ht : P.underlying t = some (.struct fs)) (hf : fs[i]? = some f)
    (ho : f.offset = off) (hn : szT P f.type = some n) (ha : aggT P f.type = agg) (hu : (P.underlying f.type).isSome = true) : GoodQ P ι (Instr.field t x' i) v ∧ σ' = σ := by
  cases hx <;> simp only [pField] at h <;> try (cases h; done)
  rename_i xs ys hl
  have hrun : ∀ v' (w : World), (part f.type ⟨ys⟩ f.offset).run P w = .ok v' w → (Instr.field t (.agg ⟨ys⟩) i).run P w = .ok v' w := by
    intro v' w hp
    simp [Instr.field, run_underlying ht, hf, asAgg, hp]
  cases agg
  · simp only [lget_eq] at h
    split at h
    · rename_i u hu2
      simp only [Option.some.injEq, Prod.mk.injEq] at h
      obtain ⟨rfl, rfl⟩ := h
      obtain ⟨u', a, b⟩ := hl.get _ _ hu2
      exact ⟨⟨u', fun w => hrun u' w (run_part _ _ hn hu (by rw [ha, ho]; simpa using a)), b⟩, rfl⟩
    · cases h
  · simp only [] at h
    split at h
    · rename_i l hl2
      simp only [Option.some.injEq, Prod.mk.injEq] at h
      obtain ⟨rfl, rfl⟩ := h
      obtain ⟨h1, rfl⟩ := lcut_some hl2
      exact ⟨⟨.agg ⟨(ys.drop off).take n⟩, fun w => hrun _ w (run_part _ _ hn hu (by rw [ha, ho]; simp [hl.length, h1])), .agg ((hl.drop _).take _)⟩, rfl⟩
    · cases h
theorem good_idx {t e len esz : Nat} {agg : Bool} {x x' i i' v : Value} (hr : R ι σ w) (h : pIdx len esz agg [x, i] σ = some (v, σ')) (hx : VR ι x x') (hi : VR ι i i') (ht : P.underlying t = some (.array len e))
    (hn : szT P e = some esz) (ha : aggT P e = agg) (hu : (P.underlying e).isSome = true) : GoodQ P ι (Instr.index t x' i') v ∧ σ' = σ := by
  cases hx <;> simp only [pIdx] at h <;> try (cases h; done)
  rename_i xs ys hl
  cases hi <;> simp only [] at h <;> try (cases h; done)
  rename_i k j
  rw [ltI_eq, ltI_eq] at h
  split at h
  · cases h
  rename_i hc
  simp at hc
  have hrun : ∀ v' (w : World), (part e ⟨ys⟩ (j.toNat * esz)).run P w = .ok v' w → (Instr.index t (.agg ⟨ys⟩) (.int k j)).run P w = .ok v' w := by
    intro v' w hp
    simp [Instr.index, asIntOf, run_underlying ht, hc, run_sizeOf hn, hp]
  cases agg
  · simp only [lget_eq] at h
    split at h
    · rename_i u hu2
      simp only [Option.some.injEq, Prod.mk.injEq] at h
      obtain ⟨rfl, rfl⟩ := h
      obtain ⟨u', a, b⟩ := hl.get _ _ hu2
      exact ⟨⟨u', fun w => hrun u' w (run_part _ _ hn hu (by rw [ha]; simpa using a)), b⟩, rfl⟩
    · cases h
  · simp only [] at h
    split at h
    · rename_i l hl2
      simp only [Option.some.injEq, Prod.mk.injEq] at h
      obtain ⟨rfl, rfl⟩ := h
      obtain ⟨h1, rfl⟩ := lcut_some hl2
      exact ⟨⟨.agg ⟨(ys.drop (j.toNat * esz)).take esz⟩, fun w => hrun _ w (run_part _ _ hn hu (by rw [ha]; simp [hl.length, h1])), .agg ((hl.drop _).take _)⟩, rfl⟩
    · cases h
theorem good_idxStr {t : Nat} {x x' i i' v : Value} (hr : R ι σ w) (h : pIdxStr [x, i] σ = some (v, σ')) (hx : VR ι x x') (hi : VR ι i i') (ht : P.underlying t = some .string) : GoodQ P ι (Instr.index t x' i') v ∧ σ' = σ := by
  cases hx <;> simp only [pIdxStr] at h <;> try (cases h; done)
  rename_i s
  cases hi <;> simp only [] at h <;> try (cases h; done)
  rename_i k j
  rw [ltI_eq] at h
  split at h
  · cases h
  rename_i hc
  simp at hc
  split at h
  · rename_i b hb
    simp only [Option.some.injEq, Prod.mk.injEq] at h
    obtain ⟨rfl, rfl⟩ := h
    refine ⟨⟨_, fun w => ?_, (.int _ _)⟩, rfl⟩
    have hb' : s[j.toNat]? = some b := by
      rw [Array.getElem?_toList] at hb
      obtain ⟨h1, h2⟩ := Array.getElem?_eq_some_iff.1 hb
      rw [getElem?_def, dif_pos (show j.toNat < s.size from h1)]
      exact congrArg some h2
    simp [Instr.index, asIntOf, run_underlying ht, hc, hb']
  · cases h
theorem good_assert {xt a : Nat} {ok : Bool} {z x x' v : Value} {d : TypeDesc} (hr : R ι σ w) (h : pAssert a z ok [x] σ = some (v, σ')) (hx : VR ι x x') (ha : P.underlying a = some d) (hn : ∀ ms, d ≠ .interface ms) (hz : zeroT P a = some z) :
    GoodQ P ι (Instr.typeAssert x' xt a ok) v ∧ σ' = σ := by
  have hzr := fun w => run_zeroValue' hz w
  have hzv : VR ι z z := zeroVR hz
  cases hx <;> simp only [pAssert] at h <;> try (cases h; done)
  · rename_i t u u' hu
    rw [nbeq] at h
    split at h
    · rename_i he
      simp at he
      subst he
      simp only [Option.some.injEq, Prod.mk.injEq] at h
      obtain ⟨rfl, rfl⟩ := h
      cases ok
      · refine ⟨⟨u', fun w => ?_, hu⟩, rfl⟩
        simp only [Instr.typeAssert, Sem.run_bind, run_underlying ha, Result.andThen_ok]
        cases d <;> simp_all
      · refine ⟨⟨.tuple #[u', .bool true], fun w => ?_, (.tuple (.cons hu (.cons (.bool _) .nil)))⟩, rfl⟩
        simp only [Instr.typeAssert, Sem.run_bind, run_underlying ha, Result.andThen_ok]
        cases d <;> simp_all
    · rename_i he
      simp at he
      cases ok <;> simp only [] at h <;> try (cases h; done)
      simp only [Option.some.injEq, Prod.mk.injEq] at h
      obtain ⟨rfl, rfl⟩ := h
      refine ⟨⟨.tuple #[z, .bool false], fun w => ?_, (.tuple (.cons hzv (.cons (.bool _) .nil)))⟩, rfl⟩
      simp only [Instr.typeAssert, Sem.run_bind, run_underlying ha, Result.andThen_ok]
      cases d <;> simp_all
  · cases ok <;> simp only [] at h <;> try (cases h; done)
    simp only [Option.some.injEq, Prod.mk.injEq] at h
    obtain ⟨rfl, rfl⟩ := h
    refine ⟨⟨.tuple #[z, .bool false], fun w => ?_, (.tuple (.cons hzv (.cons (.bool _) .nil)))⟩, rfl⟩
    simp only [Instr.typeAssert, Sem.run_bind, run_underlying ha, Result.andThen_ok]
    cases d <;> simp_all
end
end AM
end Go.Proofs.YtlelihddjacplaaGreat
namespace Go.Proofs.YtlelihddjacplaaGreat
namespace AM
section
variable {P : Program} {ι : Inj} {σ σ' : H} {w : World}

theorem alloc_def (w : World) (o : Go.Obj) : ({ w with heap := w.heap.push o } : World) = w.alloc o := rfl
theorem good_row {c c' : List Value} {e s : Nat} {v' : World → Value} {v : Value} {σ' : H} {sem : Sem Value} (m : AM.Mode) (hm : m ≠ .ro) (hr : R ι σ w) (hc : VRs ι c c') (hσ : σ' = σ.push (.cells c e s m))
    (hrun : sem.run P w = .ok (v' w) (w.alloc (.cells ⟨c'⟩ e))) (hv : ∀ ι', ι' σ.next = some ⟨w.heap.size, 0, c.length, s, 0, false⟩ → VR ι' v (v' w)) : Good P ι σ' sem w v := by
  obtain ⟨ι', h1, h2, h3⟩ := hr.row [] e s m hm 0 (fun _ => rfl) (by simp) hc
  rw [List.append_nil] at h1 h2
  subst hσ
  exact ⟨ι', v' w, _, hrun, hv ι' h3, h2, h1⟩
theorem good_new {e esz : Nat} {z v : Value} (hr : R ι σ w) (h : pNew e esz z.cells.toList [] σ = some (v, σ')) (hz : zeroT P e = some z) : Good P ι σ' (Instr.alloc e true (.tuple #[])) w v := by
  simp only [pNew, Option.some.injEq, Prod.mk.injEq] at h
  obtain ⟨rfl, rfl⟩ := h
  refine good_row (v' := fun w => .pointer (some ⟨w.heap.size, 0, none⟩)) .exact (by simp) hr (zeroVRs hz) rfl ?_ (fun ι' h => by simpa using VR.ptr (o := 0) h)
  simp [Instr.alloc, run_zeroValue' hz, newVar, newRow]
theorem good_box {e esz : Nat} {x x' v : Value} (hr : R ι σ w) (h : pBox e esz [x] σ = some (v, σ')) (hx : VR ι x x') : Good P ι σ' (Instr.box e x') w v := by
  simp only [pBox] at h
  split at h
  · simp only [Option.some.injEq, Prod.mk.injEq] at h
    obtain ⟨rfl, rfl⟩ := h
    refine good_row (v' := fun w => .pointer (some ⟨w.heap.size, 0, none⟩)) .exact (by simp) hr hx.cells rfl ?_ (fun ι' h => by simpa using VR.ptr (o := 0) h)
    simp [Instr.box, newVar, newRow, ← cellsOf_eq]
  · cases h

/-! ### Parts laid into cells -/
theorem foldl_set : ∀ (cs : List Value) (k off : Nat) (l : List Value), off + k + cs.length ≤ l.length →
    (cs.zipIdx k).foldl (fun (acc : Array Value) (p : Value × Nat) => acc.setIfInBounds (off + p.2) p.1) ⟨l⟩ = ⟨l.take (off + k) ++ (cs ++ l.drop (off + k + cs.length))⟩
  | [], k, off, l, h => by simp
  | c :: cs, k, off, l, h => by
    simp only [List.length_cons] at h
    simp only [List.zipIdx_cons, List.foldl_cons, List.setIfInBounds_toArray]
    rw [foldl_set cs (k + 1) off (l.set (off + k) c) (by simp; omega)]
    congr 1
    have h1 : (l.set (off + k) c).take (off + (k + 1)) = l.take (off + k) ++ [c] := by
      rw [show off + (k + 1) = (off + k) + 1 by omega, List.take_succ_eq_append_getElem (by simp; omega)]
      simp [List.take_set_of_le]
    have h2 : (l.set (off + k) c).drop (off + (k + 1) + cs.length) = l.drop (off + k + (cs.length + 1)) := by
      rw [List.drop_set_of_lt (by omega)]
      congr 1; omega
    rw [h1, h2]
    simp
theorem fill_ok {place : Nat → Option (Nat × Nat)} : ∀ (pl : List (Nat × Nat)) (idx : List Nat) (vs vs' cells cells' c : List Value), idx.map place = pl.map some → fillL cells pl vs = some c → VRs ι cells cells' → VRs ι vs vs' →
    ∃ c', Instr.fill place ⟨cells'⟩ (idx.zip vs') = some ⟨c'⟩ ∧ VRs ι c c'
  | [], idx, vs, vs', cells, cells', c, hp, h, hc, hv => by
    cases vs with
    | nil =>
      simp only [fillL, Option.some.injEq] at h
      subst h
      cases hv
      exact ⟨cells', by simp [Instr.fill], hc⟩
    | cons v vs => simp [fillL] at h
  | (off, size) :: pl, idx, vs, vs', cells, cells', c, hp, h, hc, hv => by
    cases hv with
    | nil => simp [fillL] at h
    | @cons v v' vs vs' hv hvs =>
      cases idx with
      | nil => simp at hp
      | cons i idx =>
        simp only [List.map_cons, List.cons.injEq] at hp
        simp only [fillL, nbeq] at h
        split at h
        · cases h
        rename_i hs
        simp at hs
        split at h
        · rename_i c1 hc1
          obtain ⟨h1, h2⟩ := lput_some hc1
          have hlen := hv.cells.length
          have hcl := hc.length
          have hfold := foldl_set (cellsOf v') 0 off cells' (by omega)
          obtain ⟨c', h3, h4⟩ := fill_ok pl idx vs vs' c1 (cells'.take off ++ (cellsOf v' ++ cells'.drop (off + (cellsOf v').length))) c hp.2 h (by
            rw [h2, hlen]
            exact (hc.take _).append (hv.cells.append (hc.drop _))) hvs
          refine ⟨c', ?_, h4⟩
          have e1 : v'.cells = ⟨cellsOf v'⟩ := by rw [← cellsOf_eq]
          simp only [List.zip_cons_cons, Instr.fill, hp.1]
          have hsz : v'.cells.size = size := by rw [e1]; simp; omega
          have hle : ¬ off + v'.cells.size > cells'.length := by rw [e1]; simp; omega
          simp only [hsz, ne_eq, not_true_eq_false, decide_false, Bool.false_or, List.size_toArray, decide_eq_true_eq]
          rw [if_neg (by rw [hsz] at hle; simpa using hle)]
          rw [← h3]
          congr 1
          rw [e1]
          simp only [Nat.add_zero] at hfold
          simpa using hfold
        · cases h
theorem run_places {fs : Array Field} {ps : List (Nat × Nat)} {parts : List Nat} (h : (parts.mapM fun i => (fs[i]?).bind fun f => (szT P f.type).map fun s => (f.offset, s)) = some ps)
    (hall : ∀ i (hi : i < fs.size), (szT P fs[i].type).isSome = true) : ∃ places : Array (Nat × Nat), (∀ w : World, (fs.mapM fun (f : Field) => (do pure (f.offset, ← sizeOf f.type) : Sem (Nat × Nat))).run P w = .ok places w) ∧ parts.map (places[·]?) = ps.map some := by
  have key : ∀ (w : World) (l : List Field), (∀ f ∈ l, (szT P f.type).isSome = true) → (l.mapM fun f => (do pure (f.offset, ← sizeOf f.type) : Sem (Nat × Nat))).run P w = .ok (l.map fun f => (f.offset, (szT P f.type).getD 0)) w := by
    intro w l
    induction l with
    | nil => intro _; rfl
    | cons f l ih =>
      intro hl
      obtain ⟨n, hn⟩ := Option.isSome_iff_exists.1 (hl f (by simp))
      simp only [List.mapM_cons, Sem.run_bind, run_sizeOf hn, Result.andThen_ok, Sem.run_pure, ih (fun g hg => hl g (by simp [hg]))]
      simp [hn]
  refine ⟨⟨fs.toList.map fun f => (f.offset, (szT P f.type).getD 0)⟩, ?_, ?_⟩
  · intro w
    have hk := key w fs.toList (fun f hf => by
      obtain ⟨i, hi, rfl⟩ := List.getElem_of_mem hf
      exact hall i (by simpa using hi))
    rw [Array.mapM_eq_mapM_toList, Sem.run_map, hk]
    rfl
  · clear hall key
    induction parts generalizing ps with
    | nil => simp at h; subst h; rfl
    | cons i parts ih =>
      rw [List.mapM_cons] at h
      simp only [Option.bind_eq_bind] at h
      obtain ⟨p, h1, h2⟩ := Option.bind_eq_some_iff.1 h
      obtain ⟨ps', h3, h4⟩ := Option.bind_eq_some_iff.1 h2
      simp at h4
      subst h4
      obtain ⟨f, hf, h5⟩ := Option.bind_eq_some_iff.1 h1
      obtain ⟨s, hs, rfl⟩ := Option.map_eq_some_iff.1 h5
      simp only [List.map_cons]
      rw [ih h3]
      congr 1
      simp only [List.getElem?_toArray, List.getElem?_map, Array.getElem?_toList, hf, Option.map_some, hs, Option.getD_some]
theorem good_buildStruct {t : Nat} {z v : Value} {fs : Array Field} {pl : List (Nat × Nat)} {idx : List Nat} {vs vs' : List Value} (hr : R ι σ w) (h : pBuild z.cells.toList pl vs σ = some (v, σ')) (hv : VRs ι vs vs') (hz : zeroT P t = some z)
    (ht : P.underlying t = some (.struct fs)) (hp : placesOf P t idx = some pl) (hall : ∀ i (hi : i < fs.size), (szT P fs[i].type).isSome = true) : GoodQ P ι (Instr.build t (idx.zip vs').toArray) v ∧ σ' = σ := by
  simp only [pBuild] at h
  split at h
  case h_2 => cases h
  rename_i c hc
  simp only [Option.some.injEq, Prod.mk.injEq] at h
  obtain ⟨rfl, rfl⟩ := h
  simp only [placesOf, ht] at hp
  obtain ⟨places, h1, h2⟩ := run_places hp hall
  obtain ⟨c', h3, h4⟩ := fill_ok (place := (places[·]?)) pl idx vs vs' _ _ c h2 hc (zeroVRs hz) hv
  refine ⟨⟨.agg ⟨c'⟩, fun w => ?_, (.agg h4)⟩, rfl⟩
  have h3' : Instr.fill (fun x => places[x]?) z.cells (idx.zip vs') = some ⟨c'⟩ := h3
  simp only [Instr.build, Sem.run_bind, run_zeroValue' hz, Result.andThen_ok, run_underlying ht, h1, h3']
  rfl
theorem good_buildArray {t n e s : Nat} {z v : Value} {pl : List (Nat × Nat)} {idx : List Nat} {vs vs' : List Value} (hr : R ι σ w) (h : pBuild z.cells.toList pl vs σ = some (v, σ')) (hv : VRs ι vs vs') (hz : zeroT P t = some z)
    (ht : P.underlying t = some (.array n e)) (hs : szT P e = some s) (hp : placesOf P t idx = some pl) : GoodQ P ι (Instr.build t (idx.zip vs').toArray) v ∧ σ' = σ := by
  simp only [pBuild] at h
  split at h
  case h_2 => cases h
  rename_i c hc
  simp only [Option.some.injEq, Prod.mk.injEq] at h
  obtain ⟨rfl, rfl⟩ := h
  simp only [placesOf, ht, hs, Option.map_some, Option.some.injEq] at hp
  obtain ⟨c', h3, h4⟩ := fill_ok (place := fun i => some (i * s, s)) pl idx vs vs' _ _ c (by rw [← hp]; simp) hc (zeroVRs hz) hv
  refine ⟨⟨.agg ⟨c'⟩, fun w => ?_, (.agg h4)⟩, rfl⟩
  have h3' : Instr.fill (fun i => some (i * s, s)) z.cells (idx.zip vs') = some ⟨c'⟩ := h3
  simp only [Instr.build, Sem.run_bind, run_zeroValue' hz, Result.andThen_ok, run_underlying ht, run_sizeOf hs, h3']
  rfl
theorem lrep_eq (z : List Value) (n : Nat) (hz : 0 < z.length) : (List.range (n * z.length)).map (fun i => (⟨z⟩ : Array Value)[i % z.length]!) = lrep z n := by
  induction n with
  | zero => simp [lrep]
  | succ n ih =>
    have h1 : (List.range ((n + 1) * z.length)) = List.range z.length ++ (List.range (n * z.length)).map (z.length + ·) := by
      rw [show (n + 1) * z.length = z.length + n * z.length by rw [Nat.succ_mul]; omega, List.range_add]
    rw [h1, List.map_append, List.map_map, lrep]
    congr 1
    · apply List.ext_getElem
      · simp
      · intro i h2 h3
        simp at h2
        simp [Nat.mod_eq_of_lt h2, h2]
    · rw [← ih]
      apply List.map_congr_left
      intro i _
      simp [Nat.add_mod_left]
theorem lrepVR {ι : Inj} {z z' : List Value} (h : VRs ι z z') : ∀ n, VRs ι (lrep z n) (lrep z' n)
  | 0 => .nil
  | n + 1 => h.append (lrepVR h n)
theorem lrep_len (z : List Value) : ∀ n, (lrep z n).length = n * z.length
  | 0 => by simp [lrep]
  | n + 1 => by rw [lrep, List.length_append, lrep_len z n, Nat.succ_mul]; omega
theorem buildSlice_run {t e esz n : Nat} {z : Value} {idx : List Nat} {vs' c' : List Value} (hz : zeroT P e = some z)
    (ht : P.underlying t = some (.slice e)) (hs : szT P e = some esz) (hn : n * esz ≤ 2 ^ 24) (h3' : Instr.fill (fun i => some (i * esz, esz)) ⟨lrep z.cells.toList n⟩ (idx.zip vs') = some ⟨c'⟩) (w : World) :
    (Instr.buildSlice t n (idx.zip vs').toArray).run P w = .ok (.slice (some ⟨w.heap.size, 0, none⟩) n n) (w.alloc (.cells ⟨c'⟩ e)) := by
  have hzl := zeroT_size hz hs
  have hcells : ((Array.range (n * esz)).map fun x => (if n * esz = 0 then #[] else z.cells)[x % (if n * esz = 0 then #[] else z.cells).size]!) = ⟨lrep z.cells.toList n⟩ := by
    by_cases h0 : n * esz = 0
    · rw [if_pos h0, h0]
      have : lrep z.cells.toList n = [] := List.eq_nil_of_length_eq_zero (by rw [lrep_len, cellsOf_eq, hzl, h0])
      rw [this]; simp
    · rw [if_neg h0]
      have hl : z.cells.toList.length = esz := by rw [cellsOf_eq]; exact hzl
      have := lrep_eq z.cells.toList n (by rw [hl]; rcases Nat.eq_zero_or_pos esz with h | h <;> first | exact h | (exact absurd (by rw [h, Nat.mul_zero]) h0))
      rw [← this, hl]
      apply Array.ext'
      simp [hl]
      intro a _
      rw [show z.cells.size = esz by simpa using hl]
  simp only [Instr.buildSlice, Sem.run_bind, run_underlying ht, Result.andThen_ok, run_sizeOf hs]
  rw [if_neg (by omega)]
  by_cases h0 : n * esz = 0
  · rw [if_pos h0] at hcells
    simp only [h0, if_true, Sem.run_pure, Sem.run_bind, Result.andThen_ok] at hcells ⊢
    rw [hcells]
    simp only [h3']
    simp [newRow]
  · rw [if_neg h0] at hcells
    simp only [h0, if_false, Sem.run_pure, Sem.run_bind, run_zeroValue' hz, Result.andThen_ok] at hcells ⊢
    rw [hcells]
    simp only [h3']
    simp [newRow]
theorem good_buildSlice {t e esz n : Nat} {z v : Value} {idx : List Nat} {vs vs' : List Value} (hr : R ι σ w) (h : pBuildSlice e esz n (lrep z.cells.toList n) (idx.map fun i => (i * esz, esz)) vs σ = some (v, σ')) (hv : VRs ι vs vs') (hz : zeroT P e = some z)
    (ht : P.underlying t = some (.slice e)) (hs : szT P e = some esz) (hn : n * esz ≤ 2 ^ 24) : Good P ι σ' (Instr.buildSlice t n (idx.zip vs').toArray) w v := by
  simp only [pBuildSlice] at h
  split at h
  case h_2 => cases h
  rename_i c hc
  split at h
  case h_2 => cases h
  simp only [Option.some.injEq, Prod.mk.injEq] at h
  obtain ⟨rfl, rfl⟩ := h
  obtain ⟨c', h3, h4⟩ := fill_ok (ι := ι) (place := fun i => some (i * esz, esz)) _ idx vs vs' _ (lrep z.cells.toList n) c (by simp) hc (lrepVR (zeroVRs hz) n) hv
  exact good_row (v' := fun w => .slice (some ⟨w.heap.size, 0, none⟩) n n) .exact (by simp) hr h4 rfl (buildSlice_run hz ht hs hn h3 w) (fun ι' h => by
    have := VR.slice (o := 0) (n := n) (c := n) (by have := hr.pos; omega) h
    simpa [capOf] using this)
theorem good_load {t n : Nat} {agg : Bool} {x x' v : Value} (hr : R ι σ w) (h : pLoad agg n [x] σ = some (v, σ')) (hx : VR ι x x') (hs : szT P t = some n) (ha : aggT P t = agg) (hu : (P.underlying t).isSome = true) :
    ∃ v', (Instr.loadAt t x').run P w = .ok v' w ∧ VR ι v v' ∧ σ' = σ := by
  cases hx <;> simp only [pLoad] at h <;> try (cases h; done)
  rename_i A o bk hA
  cases agg
  · simp only [] at h
    split at h
    · rename_i u hu2
      simp only [Option.some.injEq, Prod.mk.injEq] at h
      obtain ⟨rfl, rfl⟩ := h
      obtain ⟨_, _, c', hc, hcell⟩ := hr.read hu2 hA
      cases hc with
      | cons hc hn =>
        cases hn
        rename_i v'
        have := hcell 0 v' rfl
        rw [Nat.add_zero] at this
        exact ⟨v', by simp [Instr.loadAt, Instr.sureAddr, loadVar, run_isAgg ⟨n, hs⟩ hu, ha, this], hc, rfl⟩
    · cases h
  · simp only [] at h
    split at h
    · rename_i c hc0
      simp only [Option.some.injEq, Prod.mk.injEq] at h
      obtain ⟨rfl, rfl⟩ := h
      obtain ⟨_, hl, c', hc, hcell⟩ := hr.read hc0 hA
      have hlc := hc.length
      have := run_loadCells_list (P := P) w ⟨bk.blk, bk.base + o, none⟩ c' (fun j v hv => by rw [Addr.add_mid]; exact hcell j v hv)
      rw [hlc, hl] at this
      exact ⟨.agg ⟨c'⟩, by simp [Instr.loadAt, Instr.sureAddr, loadVar, run_isAgg ⟨n, hs⟩ hu, ha, run_sizeOf hs, this], .agg hc, rfl⟩
    · cases h
theorem good_store {t n : Nat} {x x' y y' v : Value} (hr : R ι σ w) (h : pStore n [x, y] σ = some (v, σ')) (hx : VR ι x x') (hy : VR ι y y') (hs : szT P t = some n) : v = .tuple #[] ∧ GoodU P ι σ' (Instr.storeAt t x' y') w := by
  cases hx <;> simp only [pStore] at h <;> try (cases h; done)
  rename_i A o bk hA
  rw [nbeq] at h
  split at h
  · cases h
  rename_i hl
  simp at hl
  split at h
  · rename_i σ1 hw
    simp only [Option.some.injEq, Prod.mk.injEq] at h
    obtain ⟨rfl, rfl⟩ := h
    obtain ⟨_, h1, h2, h3, h4⟩ := hr.write hw hy.cells hA
    refine ⟨rfl, ι, _, ?_, h3, h4⟩
    have hrun := run_storeCells_cells (P := P) bk.blk (bk.base + o) (cellsOf y') 0 w (fun j hj => by simpa using (h1 j hj).1) (fun j hj => by simpa using (h1 j hj).2) h2
    rw [Nat.add_zero] at hrun
    have hsz : y'.cells.size = n := by rw [← Array.length_toList, cellsOf_eq, hy.cells.length, hl]
    simp [Instr.storeAt, Instr.sureAddr, storeVar, run_sizeOf hs, hsz, cellsOf_eq, hrun]
  · cases h
end
end AM
end Go.Proofs.YtlelihddjacplaaGreat
namespace Go.Proofs.YtlelihddjacplaaGreat
namespace AM
section
variable {P : Program} {ι : Inj} {σ σ' : H} {w : World}

def cmp (bl : Bool) : Value → Value → Option Bool := match bl with | true => eqBool | false => eqInt
theorem cellT_und {bl : Bool} {t : Nat} (h : cellT P bl t = true) : (bl = true ∧ P.underlying t = some .bool) ∨ (bl = false ∧ ∃ k, P.underlying t = some (.int k)) := by
  unfold cellT at h
  cases bl
  · simp [intT] at h
    split at h
    · rename_i k hk; exact .inr ⟨rfl, k, hk⟩
    · cases h
  · simp [boolT] at h
    split at h
    · rename_i hk; exact .inl ⟨rfl, hk⟩
    · cases h
theorem cell_equal {bl : Bool} {t d : Nat} {a b : Value} {r : Bool} (ht : cellT P bl t = true) (h : cmp bl a b = some r) (w : World) : (Op.equalIn (d + 1) t a b).run P w = .ok r w := by
  rcases cellT_und ht with ⟨rfl, hu⟩ | ⟨rfl, k, hu⟩
  · cases a <;> cases b <;> simp [cmp, eqBool] at h
    subst h
    exact run_equalIn_bool' w d t _ _ hu
  · cases a <;> cases b <;> simp only [cmp, eqInt, reduceCtorEq] at h
    rename_i k1 x k2 y
    rw [sameK_eq] at h
    split at h
    · rename_i hk
      simp at hk h
      subst hk
      rw [eqI_eq] at h
      rw [run_equalIn_int w d t k1 k x y hu, ← h]
      rfl
    · cases h
theorem cell_part {bl : Bool} {t : Nat} (ht : cellT P bl t = true) (cs : Array Value) (i : Nat) (v : Value) (h : cs[i]? = some v) (w : World) : (part t cs i).run P w = .ok v w := by
  unfold part
  have : (isAgg t).run P w = .ok false w := by
    rcases cellT_und ht with ⟨rfl, hu⟩ | ⟨rfl, k, hu⟩ <;> simp [isAgg, run_underlying hu]
  simp [this, h]
theorem listEq_get {f : Value → Value → Option Bool} : ∀ (n : Nat) (x y : List Value) (r : Bool), listEq f n x y = some r → x.length = n ∧ y.length = n ∧
    (∀ (i : Nat) (a b : Value), x[i]? = some a → y[i]? = some b → ∃ c, f a b = some c)
  | 0, [], [], r, _ => ⟨rfl, rfl, fun i a b h => by simp at h⟩
  | 0, [], _ :: _, r, h => by simp [listEq] at h
  | 0, _ :: _, _, r, h => by simp [listEq] at h
  | n + 1, [], _, r, h => by simp [listEq] at h
  | n + 1, _ :: _, [], r, h => by simp [listEq] at h
  | n + 1, a :: x, b :: y, r, h => by
    simp only [listEq] at h
    have key : ∃ c r', f a b = some c ∧ listEq f n x y = some r' := by
      split at h
      · exact ⟨_, _, by assumption, h⟩
      · split at h
        · exact ⟨_, _, by assumption, by assumption⟩
        · cases h
      · cases h
    obtain ⟨c, r', h1, h2⟩ := key
    obtain ⟨l1, l2, l3⟩ := listEq_get n x y r' h2
    refine ⟨by simp [l1], by simp [l2], fun i a' b' ha hb => ?_⟩
    cases i with
    | zero => simp at ha hb; subst ha; subst hb; exact ⟨c, h1⟩
    | succ i => exact l3 i a' b' (by simpa using ha) (by simpa using hb)
theorem fields_equal {bl : Bool} {d : Nat} (xs ys : List Value) : ∀ (fs : List Field) (i : Nat) (x y : List Value) (r : Bool), fieldsB P bl fs i = true → xs.drop i = x → ys.drop i = y → listEq (cmp bl) fs.length x y = some r →
    ∀ w, (Op.eqFields (d + 1) ⟨xs⟩ ⟨ys⟩ fs).run P w = .ok r w
  | [], i, x, y, r, _, _, _, h, w => by
    cases x <;> cases y <;> simp [listEq] at h
    subst h; rfl
  | f :: fs, i, x, y, r, hf, hx, hy, h, w => by
    simp only [fieldsB, Bool.and_eq_true, bne_iff_ne, beq_iff_eq] at hf
    obtain ⟨⟨⟨f1, f2⟩, f3⟩, f4⟩ := hf
    cases x with
    | nil => simp [listEq] at h
    | cons a x =>
      cases y with
      | nil => simp [listEq] at h
      | cons b y =>
        have ha : xs[i]? = some a := by rw [← List.head?_drop, hx]; rfl
        have hb : ys[i]? = some b := by rw [← List.head?_drop, hy]; rfl
        have hx' : xs.drop (i + 1) = x := by rw [← List.drop_drop, hx]; rfl
        have hy' : ys.drop (i + 1) = y := by rw [← List.drop_drop, hy]; rfl
        have p1 := cell_part (P := P) f2 ⟨xs⟩ i a (by simpa using ha) w
        have p2 := cell_part (P := P) f2 ⟨ys⟩ i b (by simpa using hb) w
        simp only [List.length_cons, listEq] at h
        simp only [Op.eqFields]
        rw [if_pos f1, f3]
        split at h
        · rename_i hc
          have ih := fields_equal (d := d) xs ys fs (i + 1) x y r f4 hx' hy' h w
          simp [p1, p2, cell_equal (d := d) f2 hc, ih]
        · rename_i hc
          split at h
          · simp at h; subst h
            simp [p1, p2, cell_equal (d := d) f2 hc]
          · cases h
        · cases h
theorem array_equal {bl : Bool} {e : Nat} (he : cellT P bl e = true) (xs ys : List Value) (f : Nat → Option Bool × Unit → Sem (ForInStep (Option Bool × Unit)))
    (hf : ∀ i a b c, xs[i]? = some a → ys[i]? = some b → cmp bl a b = some c → ∀ w, (f i (none, ())).run P w = .ok (if c then .yield (none, ()) else .done (some false, ())) w) :
    ∀ (n i : Nat) (x y : List Value) (r : Bool), xs.drop i = x → ys.drop i = y → listEq (cmp bl) n x y = some r →
    ∀ w, (forIn (List.range' i n) ((none, ()) : Option Bool × Unit) f).run P w = .ok (if r then (none, ()) else (some false, ())) w
  | 0, i, x, y, r, _, _, h, w => by
    cases x <;> cases y <;> simp [listEq] at h
    subst h; rfl
  | n + 1, i, x, y, r, hx, hy, h, w => by
    cases x with
    | nil => simp [listEq] at h
    | cons a x =>
      cases y with
      | nil => simp [listEq] at h
      | cons b y =>
        have ha : xs[i]? = some a := by rw [← List.head?_drop, hx]; rfl
        have hb : ys[i]? = some b := by rw [← List.head?_drop, hy]; rfl
        have hx' : xs.drop (i + 1) = x := by rw [← List.drop_drop, hx]; rfl
        have hy' : ys.drop (i + 1) = y := by rw [← List.drop_drop, hy]; rfl
        simp only [listEq] at h
        rw [List.range'_succ, List.forIn_cons]
        split at h
        · rename_i hc
          have ih := array_equal he xs ys f hf n (i + 1) x y r hx' hy' h w
          simp [hf i a b _ ha hb hc, ih]
        · rename_i hc
          split at h
          · simp at h; subst h
            simp [hf i a b _ ha hb hc]
          · cases h
        · cases h
theorem flat_equal {bl : Bool} {t n d : Nat} {x y : List Value} {r : Bool} (ht : flatT P bl t = some n) (h : listEq (cmp bl) n x y = some r) (w : World) : (Op.equalIn (d + 2) t (.agg ⟨x⟩) (.agg ⟨y⟩)).run P w = .ok r w := by
  unfold flatT at ht
  split at ht
  · rename_i fs hu
    split at ht
    · rename_i hc
      simp only [Bool.and_eq_true, Bool.not_eq_true'] at hc
      simp only [Option.some.injEq] at ht
      have hfo : P.fieldsOf t = fs := by simp [Program.fieldsOf, hu]
      rw [run_equalIn_struct w (d + 1) t ⟨x⟩ ⟨y⟩ (by rw [hfo]; exact hu) hc.1.2, hfo]
      exact fields_equal (d := d) x y fs.toList 0 x y r hc.1.1 rfl rfl (by rw [← ht] at h; simpa using h) w
    · cases ht
  · rename_i len e hu
    split at ht
    · rename_i hc
      simp only [Bool.and_eq_true, beq_iff_eq] at hc
      simp only [Option.some.injEq] at ht
      subst ht
      rw [Op.equalIn]
      simp only [Sem.run_bind, run_underlying hu, Result.andThen_ok, run_sizeOf hc.1.2]
      have := array_equal hc.1.1 x y (fun i (r : Option Bool × Unit) => do
          let a ← part e ⟨x⟩ (i * 1)
          let b ← part e ⟨y⟩ (i * 1)
          let q ← Op.equalIn (d + 1) e a b
          if (!q) = true then pure (.done (some false, ())) else pure (.yield (none, ()))) (fun i a b c ha hb hcm w => by
        simp only [Nat.mul_one, Sem.run_bind, cell_part (P := P) hc.1.1 ⟨x⟩ i a (by simpa using ha) w, cell_part (P := P) hc.1.1 ⟨y⟩ i b (by simpa using hb) w, Result.andThen_ok, cell_equal (d := d) hc.1.1 hcm w]
        cases c <;> rfl) len 0 x y r rfl rfl h w
      rw [Std.Legacy.Range.forIn_eq_forIn_range']
      simp only [Std.Legacy.Range.size, Nat.sub_zero, Nat.add_sub_cancel, Nat.div_one]
      rw [this]
      cases r <;> rfl
    · cases ht
  · cases ht

theorem flat_agg {bl : Bool} {t n : Nat} (ht : flatT P bl t = some n) : P.eqGuardType P.depth t = false := by
  unfold flatT at ht
  split at ht
  · split at ht
    · rename_i hc; simp only [Bool.and_eq_true, Bool.not_eq_true'] at hc; exact hc.2
    · cases ht
  · split at ht
    · rename_i hc; simp only [Bool.and_eq_true, Bool.not_eq_true'] at hc; exact hc.2
    · cases ht
  · cases ht
theorem cmp_VR {bl : Bool} {x x' y y' : Value} {r : Bool} (h : cmp bl x y = some r) (hx : VR ι x x') (hy : VR ι y y') : x' = x ∧ y' = y := by
  cases bl <;> cases hx <;> cases hy <;> simp [cmp, eqBool, eqInt] at h <;> exact ⟨rfl, rfl⟩
theorem listEq_step {f : Value → Value → Option Bool} {n : Nat} {a b : Value} {x y : List Value} {r : Bool} (h : listEq f (n + 1) (a :: x) (b :: y) = some r) :
    ∃ c r', f a b = some c ∧ listEq f n x y = some r' ∧ r = (c && r') := by
  simp only [listEq] at h
  split at h
  · exact ⟨true, r, by assumption, h, rfl⟩
  · split at h
    · rename_i r' _
      simp at h
      exact ⟨false, r', by assumption, by assumption, by simp [h]⟩
    · cases h
  · cases h
theorem listEq_VR {bl : Bool} : ∀ (n : Nat) (x x' y y' : List Value) (r : Bool), listEq (cmp bl) n x y = some r → VRs ι x x' → VRs ι y y' → x' = x ∧ y' = y := by
  intro n
  induction n with
  | zero =>
    intro x x' y y' r h hx hy
    cases hx <;> cases hy <;> simp [listEq] at h <;> exact ⟨rfl, rfl⟩
  | succ n ih =>
    intro x x' y y' r h hx hy
    cases hx with
    | nil => simp [listEq] at h
    | cons hx hxs =>
      cases hy with
      | nil => simp [listEq] at h
      | cons hy hys =>
        obtain ⟨c, r', h1, h2, _⟩ := listEq_step h
        obtain ⟨e1, e2⟩ := cmp_VR h1 hx hy
        obtain ⟨e3, e4⟩ := ih _ _ _ _ r' h2 hxs hys
        rw [e1, e2, e3, e4]
        exact ⟨rfl, rfl⟩
theorem eqInt_true {a b : Value} (h : eqInt a b = some true) : a = b := by
  cases a <;> cases b <;> simp only [eqInt, reduceCtorEq] at h
  rw [sameK_eq] at h
  split at h
  · rename_i hs
    simp at hs h
    rw [eqI_eq] at h
    simp at h
    rw [hs, h]
  · cases h
theorem listEq_true : ∀ (n : Nat) (x y : List Value), listEq eqInt n x y = some true → x = y := by
  intro n
  induction n with
  | zero => intro x y h; cases x <;> cases y <;> simp [listEq] at h <;> rfl
  | succ n ih =>
    intro x y h
    cases x with
    | nil => simp [listEq] at h
    | cons a x =>
      cases y with
      | nil => simp [listEq] at h
      | cons b y =>
        obtain ⟨c, r', h1, h2, h3⟩ := listEq_step h
        have := h3.symm
        simp at this
        rw [this.1] at h1
        rw [this.2] at h2
        rw [eqInt_true h1, ih x y h2]
theorem good_eqAgg {bl neg : Bool} {n t : Nat} {x x' y y' v : Value} (h : pEqAgg bl n neg [x, y] σ = some (v, σ')) (hx : VR ι x x') (hy : VR ι y y') (ht : flatT P bl t = some n) (a b : Operand) :
    (eqGuard (eqOp neg) t a b x' y').run P w = .ok () w ∧ (binOp (eqOp neg) t x' y').run P w = .ok v w ∧ VR ι v v ∧ σ' = σ := by
  cases hx <;> simp only [pEqAgg] at h <;> try (cases h; done)
  cases hy <;> simp only [] at h <;> try (cases h; done)
  rename_i xs xs' hxs ys ys' hys
  split at h
  case h_2 => cases h
  rename_i r hr
  simp only [Option.some.injEq, Prod.mk.injEq] at h
  obtain ⟨rfl, rfl⟩ := h
  have hr' : listEq (cmp bl) n xs ys = some r := by cases bl <;> exact hr
  obtain ⟨rfl, rfl⟩ := listEq_VR _ _ _ _ _ _ hr' hxs hys
  refine ⟨run_eqGuard_agg w _ t a b _ _ (flat_agg ht), ?_, .bool _, rfl⟩
  cases neg
  · show (binOp .eql t _ _).run P w = _
    rw [run_eql_struct w t ⟨xs'⟩ ⟨ys'⟩, flat_equal (d := 9998) ht hr' w]
    rfl
  · show (binOp .neq t _ _).run P w = _
    rw [run_neq_struct w t ⟨xs'⟩ ⟨ys'⟩, flat_equal (d := 9998) ht hr' w]
    rfl

/-! ### Maps -/
theorem keyT_or {kt : Nat} {ks : Option Nat} (h : keyT P kt = some ks) : (ks = none ∧ ∃ k, P.underlying kt = some (.int k)) ∨ (∃ n, ks = some n ∧ flatT P false kt = some n) := by
  unfold keyT at h
  split at h
  · rename_i hi
    simp at h
    unfold intT at hi
    split at hi
    · rename_i k hk; exact .inl ⟨h.symm, k, hk⟩
    · cases hi
  · split at h
    · rename_i n hn
      simp at h
      exact .inr ⟨n, h.symm, hn⟩
    · cases h
theorem keyEq_cases {ks : Option Nat} {a b : Value} {r : Bool} (h : keyEq ks a b = some r) : (ks = none ∧ eqInt a b = some r) ∨ (∃ n x y, ks = some n ∧ a = .agg ⟨x⟩ ∧ b = .agg ⟨y⟩ ∧ listEq eqInt n x y = some r) := by
  unfold keyEq at h
  split at h
  · split at h
    · exact .inr ⟨_, _, _, rfl, rfl, rfl, h⟩
    · cases h
  · split at h
    · exact .inl ⟨rfl, h⟩
    · cases h
  · cases h
theorem keyEq_VR {ks : Option Nat} {a a' b b' : Value} {r : Bool} (h : keyEq ks a b = some r) (ha : VR ι a a') (hb : VR ι b b') : a' = a ∧ b' = b := by
  rcases keyEq_cases h with ⟨_, h1⟩ | ⟨n, x, y, _, rfl, rfl, h1⟩
  · exact cmp_VR (bl := false) h1 ha hb
  · cases ha; cases hb
    rename_i x' hx y' hy
    obtain ⟨rfl, rfl⟩ := listEq_VR (bl := false) _ _ _ _ _ _ h1 hx hy
    exact ⟨rfl, rfl⟩
theorem keyEq_true {ks : Option Nat} {a b : Value} (h : keyEq ks a b = some true) : a = b := by
  rcases keyEq_cases h with ⟨_, h1⟩ | ⟨n, x, y, _, rfl, rfl, h1⟩
  · exact eqInt_true h1
  · rw [listEq_true n x y h1]
theorem keyEq_run {ks : Option Nat} {kt : Nat} {a b : Value} {r : Bool} (hk : keyT P kt = some ks) (h : keyEq ks a b = some r) (w : World) : (Op.equal kt a b).run P w = .ok r w := by
  unfold Op.equal Op.maxDepth
  rcases keyEq_cases h with ⟨rfl, h1⟩ | ⟨n, x, y, rfl, rfl, rfl, h1⟩
  · rcases keyT_or hk with ⟨_, k, hu⟩ | ⟨n, hn, _⟩
    · exact cell_equal (bl := false) (d := 9999) (by simp [cellT, intT, hu]) h1 w
    · cases hn
  · rcases keyT_or hk with ⟨hn, _⟩ | ⟨m, hm, hf⟩
    · cases hn
    · cases hm
      exact flat_equal (bl := false) (d := 9998) hf h1 w
theorem find_run {ks : Option Nat} {kt : Nat} (hk : keyT P kt = some ks) : ∀ {es es' : List MapEntry} {k k' : Value} (i : Nat) {r : Option (Nat × Value)}, findL ks k es i = some r → EsR ι es es' → VR ι k k' →
    (k' = k ∨ es = []) → ∃ r', (Instr.findAsking kt k' es' i).run P w = .ok r' w ∧ (r = none → r' = none) ∧ (∀ j v, r = some (j, v) → ∃ v', r' = some (j, v') ∧ VR ι v v') ∧ (∀ j v, r = some (j, v) → i ≤ j ∧ ∃ e e', es[j - i]? = some e ∧ es'[j - i]? = some e' ∧ v = e.val ∧ e'.key = k' ∧ e.key = k)
  | [], es', k, k', i, r, h, he, hkv, _ => by
    cases he
    simp [findL] at h
    subst h
    exact ⟨none, rfl, fun _ => rfl, fun j v h => (by cases h), fun j v h => by cases h⟩
  | e :: es, es', k, k', i, r, h, he, hkv, hkk => by
    cases he with
    | @cons e e' l l' h1 h2 h3 h4 =>
      simp only [findL] at h
      have hk2 : k' = k := hkk.resolve_right (by simp)
      subst hk2
      split at h
      · rename_i hc
        simp at h
        subst h
        obtain ⟨e1, e2⟩ := keyEq_VR hc hkv h1
        have hrun := keyEq_run hk hc w
        refine ⟨some (i, e'.val), ?_, fun h => (by cases h), fun j v h => ?_, fun j v h => ?_⟩
        · rw [← e2] at hrun
          simp [Instr.findAsking, hrun]
        · cases h; exact ⟨_, rfl, h2⟩
        · cases h
          have : k' = e.key := keyEq_true hc
          exact ⟨Nat.le_refl _, e, e', by simp, by simp, rfl, by rw [e2, this], this.symm⟩
      · rename_i hc
        obtain ⟨e1, e2⟩ := keyEq_VR hc hkv h1
        have hrun := keyEq_run hk hc w
        obtain ⟨r', a1, a2, a3, a4⟩ := find_run hk (i + 1) h h4 hkv (.inl rfl)
        refine ⟨r', ?_, a2, a3, fun j v hj => ?_⟩
        · rw [← e2] at hrun
          simp [Instr.findAsking, hrun, a1]
        · obtain ⟨b1, f, f', b2, b3, b4⟩ := a4 j v hj
          refine ⟨by omega, f, f', ?_, ?_, b4⟩
          · rw [show j - i = (j - (i + 1)) + 1 by omega]; simpa using b2
          · rw [show j - i = (j - (i + 1)) + 1 by omega]; simpa using b3
      · cases h

theorem checkKey_int {em : Bool} {d kt : Nat} {k : IntKind} {v : Value} (hu : P.underlying kt = some (.int k)) (w : World) : (Instr.checkKey em (d + 1) kt v).run P w = .ok () w := by
  rw [Instr.checkKey]
  simp only [Sem.run_bind, run_underlying hu, Result.andThen_ok]
  cases v <;> rfl
theorem check_fields {em : Bool} {d : Nat} (xs : List Value) : ∀ (fs : List Field) (i : Nat) (x : List Value), fieldsB P false fs i = true → xs.drop i = x → x.length = fs.length →
    ∀ w, (forIn fs PUnit.unit fun (f : Field) (_ : PUnit) => (if f.name ≠ "_" then do
      let a ← part f.type ⟨xs⟩ f.offset
      Instr.checkKey em (d + 1) f.type a
      pure (ForInStep.yield PUnit.unit) else pure (ForInStep.yield PUnit.unit) : Sem (ForInStep PUnit))).run P w = .ok PUnit.unit w
  | [], i, x, _, _, _, w => rfl
  | f :: fs, i, x, hf, hx, hl, w => by
    simp only [fieldsB, Bool.and_eq_true, bne_iff_ne, beq_iff_eq] at hf
    obtain ⟨⟨⟨f1, f2⟩, f3⟩, f4⟩ := hf
    cases x with
    | nil => simp at hl
    | cons a x =>
      have ha : xs[i]? = some a := by rw [← List.head?_drop, hx]; rfl
      have hx' : xs.drop (i + 1) = x := by rw [← List.drop_drop, hx]; rfl
      have p1 := cell_part (P := P) f2 ⟨xs⟩ i a (by simpa using ha) w
      have ih := check_fields (em := em) (d := d) xs fs (i + 1) x f4 hx' (by simpa using hl) w
      obtain ⟨_, k, hu⟩ := (cellT_und f2).resolve_left (by simp)
      rw [List.forIn_cons]
      rw [if_pos f1, f3]
      simp only [Sem.run_bind, p1, Result.andThen_ok, checkKey_int (em := em) (d := d) hu, Sem.run_pure]
      exact ih
theorem check_array {em : Bool} {d e : Nat} (he : cellT P false e = true) (hs : szT P e = some 1) (xs : List Value) : ∀ (n i : Nat) (x : List Value), xs.drop i = x → x.length = n →
    ∀ w, (forIn (List.range' i n) PUnit.unit fun (i : Nat) (_ : PUnit) => (do
      let s ← sizeOf e
      let a ← part e ⟨xs⟩ (i * s)
      Instr.checkKey em (d + 1) e a
      pure (ForInStep.yield PUnit.unit) : Sem (ForInStep PUnit))).run P w = .ok PUnit.unit w
  | 0, i, x, hx, hl, w => rfl
  | n + 1, i, x, hx, hl, w => by
    cases x with
    | nil => simp at hl
    | cons a x =>
      have ha : xs[i]? = some a := by rw [← List.head?_drop, hx]; rfl
      have hx' : xs.drop (i + 1) = x := by rw [← List.drop_drop, hx]; rfl
      have p1 := cell_part (P := P) he ⟨xs⟩ i a (by simpa using ha) w
      have ih := check_array (em := em) (d := d) he hs xs n (i + 1) x hx' (by simpa using hl) w
      obtain ⟨_, k, hu⟩ := (cellT_und he).resolve_left (by simp)
      rw [List.range'_succ, List.forIn_cons]
      simp only [Sem.run_bind, run_sizeOf hs, Nat.mul_one, p1, Result.andThen_ok, checkKey_int (em := em) (d := d) hu, Sem.run_pure] at ih ⊢
      exact ih
theorem checkKey_run {em : Bool} {kt : Nat} {ks : Option Nat} {k : Value} (hk : keyT P kt = some ks) (h : keyOk ks k = true) (w : World) : (Instr.checkKey em 10000 kt k).run P w = .ok () w := by
  unfold keyOk at h
  split at h
  case h_2 => cases h
  rename_i r hr
  rcases keyEq_cases hr with ⟨rfl, h1⟩ | ⟨n, x, y, rfl, rfl, h2, h1⟩
  · rcases keyT_or hk with ⟨_, k', hu⟩ | ⟨n, hn, _⟩
    · exact checkKey_int (d := 9999) hu w
    · cases hn
  · rcases keyT_or hk with ⟨hn, _⟩ | ⟨m, hm, hf⟩
    · cases hn
    · cases hm
      obtain ⟨l1, _, _⟩ := listEq_get _ _ _ _ h1
      unfold flatT at hf
      split at hf
      · rename_i fs hu
        split at hf
        · rename_i hc
          simp only [Bool.and_eq_true, Bool.not_eq_true'] at hc
          simp only [Option.some.injEq] at hf
          rw [Instr.checkKey]
          simp only [Sem.run_bind, run_underlying hu, Result.andThen_ok]
          rw [← Array.forIn_toList]
          have := check_fields (em := em) (d := 9998) x fs.toList 0 x hc.1.1 rfl (by rw [l1, ← hf]; simp) w
          rw [this]; rfl
        · cases hf
      · rename_i len e hu
        split at hf
        · rename_i hc
          simp only [Bool.and_eq_true, beq_iff_eq] at hc
          simp only [Option.some.injEq] at hf
          rw [Instr.checkKey]
          simp only [Sem.run_bind, run_underlying hu, Result.andThen_ok]
          rw [Std.Legacy.Range.forIn_eq_forIn_range']
          simp only [Std.Legacy.Range.size, Nat.sub_zero, Nat.add_sub_cancel, Nat.div_one]
          have := check_array (em := em) (d := 9998) hc.1.1 hc.1.2 x len 0 x rfl (by rw [l1, hf]) w
          rw [this]; rfl
        · cases hf
      · cases hf

theorem findKey_run {ks : Option Nat} {kt : Nat} (hk : keyT P kt = some ks) {es es' : List MapEntry} {k k' : Value} {r : Option (Nat × Value)} (h : findL ks k es 0 = some r) (he : EsR ι es es') (hkv : VR ι k k') (hkk : k' = k) :
    ∃ r', (Instr.findKey kt k' es').run P w = .ok r' w ∧ (r = none → r' = none) ∧ (∀ j v, r = some (j, v) → ∃ v', r' = some (j, v') ∧ VR ι v v') ∧ (∀ j v, r = some (j, v) → ∃ e e', es[j]? = some e ∧ es'[j]? = some e' ∧ v = e.val ∧ e'.key = k' ∧ e.key = k) := by
  obtain ⟨r', a1, a2, a3, a4⟩ := find_run (w := w) hk 0 h he hkv (.inl hkk)
  have a4' : ∀ j v, r = some (j, v) → ∃ e e', es[j]? = some e ∧ es'[j]? = some e' ∧ v = e.val ∧ e'.key = k' ∧ e.key = k := fun j v hj => by
    obtain ⟨_, e, e', b⟩ := a4 j v hj
    exact ⟨e, e', by simpa using b⟩
  refine ⟨r', ?_, a2, a3, a4'⟩
  have hund : ∃ d, P.underlying kt = some d := by
    rcases keyT_or hk with ⟨_, k, hu⟩ | ⟨n, _, hf⟩
    · exact ⟨_, hu⟩
    · unfold flatT at hf
      split at hf
      · rename_i fs hu; exact ⟨_, hu⟩
      · rename_i fs hu; exact ⟨_, by assumption⟩
      · cases hf
  obtain ⟨d, hd⟩ := hund
  have now : ∀ (l : List MapEntry) (i : Nat) (q : Option (Nat × Value)), Instr.findNow d k' l i = some q → (Instr.findAsking kt k' l i).run P w = .ok r' w → q = r' → True := fun _ _ _ _ _ _ => trivial
  simp only [Instr.findKey, Sem.run_bind, run_underlying hd, Result.andThen_ok]
  -- what is found at once is what asking finds
  have same : ∀ (l l' : List MapEntry) (i : Nat) (q : Option (Nat × Value)) (r0 : Option (Nat × Value)), EsR ι l l' → findL ks k l i = some r0 → Instr.findNow d k' l' i = some q → (Instr.findAsking kt k' l' i).run P w = .ok q w := by
    intro l l' i q r0 hl hf hn
    induction hl generalizing i with
    | nil =>
      simp [Instr.findNow] at hn
      subst hn; rfl
    | @cons e e' l l' h1 h2 h3 h4 ih =>
      simp only [findL] at hf
      have hcase : ∃ c, keyEq ks k e.key = some c ∧ (c = false → findL ks k l (i + 1) = some r0) := by
        split at hf
        · exact ⟨true, by assumption, by simp⟩
        · exact ⟨false, by assumption, fun _ => hf⟩
        · cases hf
      obtain ⟨c, hc, hrest⟩ := hcase
      obtain ⟨e1, e2⟩ := keyEq_VR hc hkv h1
      have hrun := keyEq_run hk hc w
      rw [← e2, ← hkk] at hrun
      have hs : ∀ b, Instr.sameNow d k' e'.key = some b → b = c := by
        intro b hb
        rcases keyEq_cases hc with ⟨_, h5⟩ | ⟨n, x, y, _, h6, h7, h5⟩
        · rw [hkk, e2] at hb
          cases hk0 : k <;> cases hek : e.key <;> rw [hk0, hek] at h5 <;> simp only [eqInt, reduceCtorEq] at h5
          rw [sameK_eq] at h5
          rw [hk0, hek] at hb
          split at h5
          · rename_i hks
            simp at hks h5
            subst hks
            rw [eqI_eq] at h5
            cases d <;> simp [Instr.sameNow] at hb
            rw [← hb, ← h5]
            rfl
          · cases h5
        · rw [hkk, e2, h6, h7] at hb
          cases d <;> simp [Instr.sameNow] at hb
      simp only [Instr.findNow] at hn
      split at hn
      · rename_i hb
        have := hs _ hb
        subst this
        simp at hn
        subst hn
        simp [Instr.findAsking, hrun]
      · rename_i hb
        have := hs _ hb
        subst this
        simp only [Instr.findAsking, Sem.run_bind, hrun, Result.andThen_ok]
        exact ih (i + 1) (hrest rfl) hn
      · cases hn
  split
  · rename_i q hq
    have := same es es' 0 q r he h hq
    rw [a1] at this
    cases this
    rfl
  · exact a1
theorem R.entries {m m' : Value} {es : List MapEntry} (hr : R ι σ w) (h : entriesOf σ m = some es) (hm : VR ι m m') : (m' = .map none ∧ es = []) ∨ ∃ b es' clk bk A, m = .map (some A) ∧ ι A = some bk ∧ b = bk.blk ∧ m' = .map (some b) ∧ w.heap[b]? = some (.map es' clk) ∧ EsR ι es es'.toList ∧ σ.get A = some (.map es clk) ∧ bk.ro = false := by
  cases hm <;> simp only [entriesOf] at h <;> try (cases h; done)
  · simp at h; exact .inl ⟨rfl, h⟩
  · rename_i A bk hA
    split at h
    · rename_i es0 clk hg
      simp at h; subst h
      obtain ⟨bk', i1, es', h1, h2, h3⟩ := hr.obj _ _ hg (by simp)
      rw [hA] at i1; cases i1
      exact .inr ⟨_, es', clk, bk, A, rfl, hA, rfl, rfl, h1, h3, hg, h2⟩
    · cases h
theorem keyOk_VR {ks : Option Nat} {k k' : Value} (h : keyOk ks k = true) (hk : VR ι k k') : k' = k := by
  unfold keyOk at h
  split at h
  · rename_i r hr; exact (keyEq_VR hr hk hk).1
  · cases h
theorem run_getObj_map {b : Nat} {es : Array MapEntry} {clk : Nat} (h : w.heap[b]? = some (.map es clk)) : (getObj b).run P w = .ok (.map es clk) w := by
  simp [getObj, Sem.run, h]
theorem good_lookup {t kt e : Nat} {ks : Option Nat} {z m m' k k' v : Value} {ok : Bool} (hr : R ι σ w) (h : pLookup ks z ok [m, k] σ = some (v, σ')) (hm : VR ι m m') (hkv : VR ι k k') (ht : P.underlying t = some (.map kt e)) (hk : keyT P kt = some ks) (hz : zeroT P e = some z) :
    ∃ v', (Instr.lookup t m' k' ok).run P w = .ok v' w ∧ VR ι v v' ∧ σ' = σ := by
  simp only [pLookup] at h
  split at h
  · cases h
  rename_i hko
  have hkk := keyOk_VR hko hkv
  split at h
  · cases h
  rename_i es hes
  have hzr := run_zeroValue' hz w
  have hzv : VR ι z z := zeroVR hz
  have main : ∀ (es' : Array MapEntry), EsR ι es es'.toList → ∃ v' : Value, ((do
      Instr.checkKey es'.isEmpty 10000 kt k'
      let (v, okk) ← match ← Instr.findKey kt k' es'.toList with
        | some (_, v) => pure (v, true)
        | none => pure (← zeroValue e, false)
      pure (if ok then Value.tuple #[v, .bool okk] else v) : Sem Value)).run P w = .ok v' w ∧ VR ι v v' ∧ σ' = σ := by
    intro es' he
    have hck := checkKey_run (em := es'.isEmpty) (k := k') hk (by rw [hkk]; exact hko) w
    split at h
    · cases h
    · rename_i j u hf
      obtain ⟨r', a1, a2, a3, a4⟩ := findKey_run (w := w) hk hf he hkv hkk
      obtain ⟨v', hv1, hv2⟩ := a3 j u rfl
      simp only [Option.some.injEq, Prod.mk.injEq] at h
      obtain ⟨rfl, rfl⟩ := h
      subst hv1
      cases ok
      · exact ⟨v', by simp [hck, a1], hv2, rfl⟩
      · exact ⟨.tuple #[v', .bool true], by simp [hck, a1], .tuple (.cons hv2 (.cons (.bool _) .nil)), rfl⟩
    · rename_i hf
      obtain ⟨r', a1, a2, a3, a4⟩ := findKey_run (w := w) hk hf he hkv hkk
      have := a2 rfl
      subst this
      simp only [Option.some.injEq, Prod.mk.injEq] at h
      obtain ⟨rfl, rfl⟩ := h
      cases ok
      · exact ⟨z, by simp [hck, a1, hzr], hzv, rfl⟩
      · exact ⟨.tuple #[z, .bool false], by simp [hck, a1, hzr], .tuple (.cons hzv (.cons (.bool _) .nil)), rfl⟩
  rcases hr.entries hes hm with ⟨rfl, rfl⟩ | ⟨b, es', clk, bk, A, rfl, hA, rfl, rfl, hb, he, hg, hro⟩
  · obtain ⟨v', h1, h2⟩ := main #[] .nil
    refine ⟨v', ?_, h2⟩
    rw [← h1]
    simp only [Instr.lookup, Sem.run_bind, run_underlying ht, Result.andThen_ok, Sem.run_pure]
    rfl
  · obtain ⟨v', h1, h2⟩ := main es' he
    refine ⟨v', ?_, h2⟩
    rw [← h1]
    simp only [Instr.lookup, Sem.run_bind, run_underlying ht, Result.andThen_ok, Sem.run_pure, run_getObj_map hb]
    rfl

/-- A map's block gets other entries. -/
theorem R.putMap (hr : R ι σ w) {A clk clk2 : Nat} {es es2 : List MapEntry} {es2' : Array MapEntry} {bk : Bk} (hg : σ.get A = some (.map es clk)) (hA : ι A = some bk) (hro : bk.ro = false) (he : EsR ι es2 es2'.toList) {o : Go.Obj} (hb : w.heap[bk.blk]? = some o) :
    R ι (σ.put A (.map es2 clk2)) { w with heap := w.heap.setIfInBounds bk.blk (.map es2' clk2) } ∧ Ext ι w ι { w with heap := w.heap.setIfInBounds bk.blk (.map es2' clk2) } := by
  have hlt := (Array.getElem?_eq_some_iff.1 hb).1
  refine hr.put hg (by simp) (by simp) hA hro ⟨es2', ?_, hro, he⟩ rfl rfl rfl (by simp) (fun b hb hne => ?_)
  · show (w.heap.setIfInBounds _ _)[_]? = _
    rw [Array.getElem?_setIfInBounds_self_of_lt hlt]
  · show (w.heap.setIfInBounds _ _)[_]? = _
    rw [Array.getElem?_setIfInBounds_ne (Ne.symm hne)]
theorem run_setObj_map {b : Nat} {es : Array MapEntry} {clk : Nat} (h : w.heap[b]? = some (.map es clk)) (o : Go.Obj) : (setObj b o).run P w = .ok () { w with heap := w.heap.setIfInBounds b o } := by
  simp [setObj, Sem.run, h]
theorem EsR.snoc : ∀ {l l' : List MapEntry} {e e' : MapEntry}, EsR ι l l' → VR ι e.key e'.key → VR ι e.val e'.val → e'.born = e.born → EsR ι (l ++ [e]) (l' ++ [e'])
  | _, _, _, _, .nil, a, b, c => .cons a b c .nil
  | _, _, _, _, .cons h1 h2 h3 h, a, b, c => .cons h1 h2 h3 (h.snoc a b c)
theorem EsR.setL {k k' v v' : Value} (hk : VR ι k k') (hv : VR ι v v') : ∀ {l l' : List MapEntry} (i : Nat), EsR ι l l' → EsR ι (setL k v l i) (l'.modify i fun e => { e with key := k', val := v' })
  | _, _, i, .nil => by simp [AM.setL]; exact .nil
  | _, _, 0, .cons h1 h2 h3 h => by simp [AM.setL]; exact .cons hk hv h3 h
  | _, _, i + 1, .cons h1 h2 h3 h => by simp [AM.setL]; exact .cons h1 h2 h3 (h.setL hk hv i)
theorem EsR.dropL : ∀ {l l' : List MapEntry} (i : Nat), EsR ι l l' → EsR ι (dropL l i) (l'.eraseIdx i)
  | _, _, i, .nil => by simp [AM.dropL]; exact .nil
  | _, _, 0, .cons h1 h2 h3 h => by simp [AM.dropL]; exact h
  | _, _, i + 1, .cons h1 h2 h3 h => by simp [AM.dropL]; exact .cons h1 h2 h3 (h.dropL i)
theorem sameBits_key {ks : Option Nat} {a b : Value} (h : keyEq ks a b = some true) : Instr.sameBits 10000 b a = true := by
  have hab := keyEq_true h
  subst hab
  rcases keyEq_cases h with ⟨_, h1⟩ | ⟨n, x, y, _, rfl, h2, h1⟩
  · cases a <;> simp only [eqInt, reduceCtorEq] at h1
    simp [Instr.sameBits]
  · rw [show (10000 : Nat) = 9999 + 1 from rfl]
    simp only [Instr.sameBits, beq_self_eq_true, Bool.true_and]
    obtain ⟨_, _, h3⟩ := listEq_get _ _ _ _ h1
    cases h2
    rw [List.all_eq_true]
    intro p hp
    obtain ⟨i, hi, rfl⟩ := List.getElem_of_mem hp
    simp at hi
    obtain ⟨c, hc⟩ := h3 i x[i] x[i] (by simp) (by simp)
    simp only [List.getElem_zip]
    generalize x[i] = q at hc
    cases q <;> simp only [eqInt, reduceCtorEq] at hc
    simp [Instr.sameBits]
theorem keysEq_of {ks : Option Nat} {es : List MapEntry} {k : Value} {j i : Nat} {v : Value} (h : findL ks k es i = some (some (j, v))) : ∃ e, es[j - i]? = some e ∧ i ≤ j ∧ keyEq ks k e.key = some true := by
  induction es generalizing i with
  | nil => simp [findL] at h
  | cons e es ih =>
    simp only [findL] at h
    split at h
    · rename_i hc
      simp at h
      obtain ⟨rfl, rfl⟩ := h
      exact ⟨e, by simp, Nat.le_refl _, hc⟩
    · obtain ⟨e', h1, h2, h3⟩ := ih h
      exact ⟨e', by rw [show j - i = (j - (i + 1)) + 1 by omega]; simpa using h1, by omega, h3⟩
    · cases h
theorem good_mapSet {t kt e : Nat} {ks : Option Nat} {m m' k k' x x' v : Value} (hr : R ι σ w) (h : pMapSet ks [m, k, x] σ = some (v, σ')) (hm : VR ι m m') (hkv : VR ι k k') (hx : VR ι x x') (ht : P.underlying t = some (.map kt e)) (hk : keyT P kt = some ks) :
    v = .tuple #[] ∧ GoodU P ι σ' (Instr.mapUpdate t m' k' x') w := by
  cases hm <;> simp only [pMapSet] at h <;> try (cases h; done)
  rename_i A bk hA
  split at h
  · cases h
  rename_i hko
  have hkk := keyOk_VR hko hkv
  have hck := fun em => checkKey_run (em := em) (k := k') hk (by rw [hkk]; exact hko) w
  split at h
  case h_2 => cases h
  rename_i es clk hg
  obtain ⟨bk', i1, es', h1, h2, h3⟩ := hr.obj _ _ hg (by simp)
  rw [hA] at i1; cases i1
  split at h
  · cases h
  · rename_i j u hf
    simp only [Option.some.injEq, Prod.mk.injEq] at h
    obtain ⟨rfl, rfl⟩ := h
    obtain ⟨r', a1, a2, a3, a4⟩ := findKey_run (w := w) hk hf h3 hkv hkk
    obtain ⟨v', hv1, hv2⟩ := a3 j u rfl
    obtain ⟨e0, e0', b1, b2, b3, b4, b5⟩ := a4 j u rfl
    subst hv1
    obtain ⟨e1, c1, _, c3⟩ := keysEq_of hf
    simp only [Nat.sub_zero] at c1
    rw [b1] at c1; cases c1
    have hsb : Instr.sameBits 10000 e0'.key k' = true := by rw [b4, hkk]; rw [b5] at c3; exact sameBits_key c3
    obtain ⟨p1, p2⟩ := hr.putMap (es2 := setL k x es j) (es2' := es'.modify j fun e => { e with key := k', val := x' }) (clk2 := clk) hg hA h2 (by simpa using h3.setL hkv hx j) h1
    refine ⟨rfl, ι, _, ?_, p1, p2⟩
    have hget : es'[j]? = some e0' := by rw [← Array.getElem?_toList]; exact b2
    simp only [Instr.mapUpdate, Sem.run_bind, run_underlying ht, Result.andThen_ok, run_getObj_map h1, hck, a1, hget, Option.map_some, Option.getD_some, Instr.keyThatStays, hsb, if_true, Sem.run_pure, run_setObj_map h1]
  · rename_i hf
    simp only [Option.some.injEq, Prod.mk.injEq] at h
    obtain ⟨rfl, rfl⟩ := h
    obtain ⟨r', a1, a2, a3, a4⟩ := findKey_run (w := w) hk hf h3 hkv hkk
    have := a2 rfl
    subst this
    obtain ⟨p1, p2⟩ := hr.putMap (es2 := es ++ [⟨k, x, clk⟩]) (es2' := es'.push { key := k', val := x', born := clk }) (clk2 := clk + 1) hg hA h2 (by simpa using h3.snoc (e := ⟨k, x, clk⟩) (e' := ⟨k', x', clk⟩) hkv hx rfl) h1
    refine ⟨rfl, ι, _, ?_, p1, p2⟩
    simp only [Instr.mapUpdate, Sem.run_bind, run_underlying ht, Result.andThen_ok, run_getObj_map h1, hck, a1, run_setObj_map h1]

theorem good_delete {t kt e : Nat} {ks : Option Nat} {ts : Array Nat} {ty : Nat} {m m' k k' v : Value} (hr : R ι σ w) (h : pDelete ks [m, k] σ = some (v, σ')) (hm : VR ι m m') (hkv : VR ι k k') (ht : P.underlying t = some (.map kt e)) (hk : keyT P kt = some ks) (hts : ts[0]? = some t) :
    Good P ι σ' (Builtin.delete_ ts ty #[m', k']) w v := by
  cases hm <;> simp only [pDelete] at h <;> try (cases h; done)
  rename_i A bk hA
  split at h
  · cases h
  rename_i hko
  have hkk := keyOk_VR hko hkv
  have hck := fun em => checkKey_run (em := em) (k := k') hk (by rw [hkk]; exact hko) w
  split at h
  case h_2 => cases h
  rename_i es clk hg
  obtain ⟨bk', i1, es', h1, h2, h3⟩ := hr.obj _ _ hg (by simp)
  rw [hA] at i1; cases i1
  split at h
  · cases h
  · rename_i j u hf
    simp only [Option.some.injEq, Prod.mk.injEq] at h
    obtain ⟨rfl, rfl⟩ := h
    obtain ⟨r', a1, a2, a3, a4⟩ := findKey_run (w := w) hk hf h3 hkv hkk
    obtain ⟨v', hv1, hv2⟩ := a3 j u rfl
    obtain ⟨e0, e0', b1, b2, b3, b4, b5⟩ := a4 j u rfl
    subst hv1
    have hj : j < es'.size := by have := (List.getElem?_eq_some_iff.1 b2).1; simpa using this
    obtain ⟨p1, p2⟩ := hr.putMap (es2 := dropL es j) (es2' := es'.eraseIdxIfInBounds j) (clk2 := clk) hg hA h2 (by
      rw [Array.eraseIdxIfInBounds, dif_pos hj]; simpa using h3.dropL j) h1
    refine ⟨ι, .tuple #[], _, ?_, .tuple .nil, p1, p2⟩
    simp only [Builtin.delete_, hts, List.getElem?_toArray, List.getElem?_cons_zero, List.getElem?_cons_succ, Sem.run_bind, run_underlying ht, Result.andThen_ok, run_getObj_map h1, hck, a1, run_setObj_map h1]
    rfl
  · rename_i hf
    simp only [Option.some.injEq, Prod.mk.injEq] at h
    obtain ⟨rfl, rfl⟩ := h
    obtain ⟨r', a1, a2, a3, a4⟩ := findKey_run (w := w) hk hf h3 hkv hkk
    have := a2 rfl
    subst this
    have hlt := (Array.getElem?_eq_some_iff.1 h1)
    have hsame : ({ w with heap := w.heap.setIfInBounds bk.blk (.map es' clk) } : World) = w := by
      have : w.heap.setIfInBounds bk.blk (.map es' clk) = w.heap := by
        obtain ⟨hl, he⟩ := hlt
        rw [← he]
        apply Array.ext_getElem?
        intro i
        by_cases hi : bk.blk = i
        · subst hi; rw [Array.getElem?_setIfInBounds_self_of_lt hl, Array.getElem?_eq_getElem hl]
        · rw [Array.getElem?_setIfInBounds_ne hi]
      rw [this]
    refine Good.pure hr (v' := .tuple #[]) ?_ (.tuple .nil)
    simp only [Builtin.delete_, hts, List.getElem?_toArray, List.getElem?_cons_zero, List.getElem?_cons_succ, Sem.run_bind, run_underlying ht, Result.andThen_ok, run_getObj_map h1, hck, a1, run_setObj_map h1, hsame]
    rfl
theorem good_clearM {t kt e : Nat} {ts : Array Nat} {ty : Nat} {m m' v : Value} (hr : R ι σ w) (h : pClearM [m] σ = some (v, σ')) (hm : VR ι m m') (ht : P.underlying t = some (.map kt e)) (hts : ts[0]? = some t) : Good P ι σ' (Builtin.clear_ ts ty #[m']) w v := by
  cases hm <;> simp only [pClearM] at h <;> try (cases h; done)
  · simp only [Option.some.injEq, Prod.mk.injEq] at h
    obtain ⟨rfl, rfl⟩ := h
    refine Good.pure hr (v' := .tuple #[]) ?_ (.tuple .nil)
    simp only [Builtin.clear_, hts, List.getElem?_toArray, List.getElem?_cons_zero, Sem.run_bind, run_underlying ht, Result.andThen_ok]
    rfl
  · rename_i A bk hA
    split at h
    case h_2 => cases h
    rename_i es clk hg
    obtain ⟨bk', i1, es', h1, h2, h3⟩ := hr.obj _ _ hg (by simp)
    rw [hA] at i1; cases i1
    simp only [Option.some.injEq, Prod.mk.injEq] at h
    obtain ⟨rfl, rfl⟩ := h
    obtain ⟨p1, p2⟩ := hr.putMap (es2 := []) (es2' := #[]) (clk2 := clk) hg hA h2 .nil h1
    refine ⟨ι, .tuple #[], _, ?_, .tuple .nil, p1, p2⟩
    simp only [Builtin.clear_, hts, List.getElem?_toArray, List.getElem?_cons_zero, Sem.run_bind, run_underlying ht, Result.andThen_ok, run_getObj_map h1, run_setObj_map h1]
    rfl
theorem EsR.length : ∀ {l l' : List MapEntry}, EsR ι l l' → l'.length = l.length
  | _, _, .nil => rfl
  | _, _, .cons _ _ _ h => by simp [h.length]
theorem good_lenM {t kt e : Nat} {ts : Array Nat} {ty : Nat} {m m' v : Value} (hr : R ι σ w) (h : pLenM [m] σ = some (v, σ')) (hm : VR ι m m') (ht : P.underlying t = some (.map kt e)) (hts : ts[0]? = some t) :
    (Builtin.len_ ts ty #[m']).run P w = .ok v w ∧ VR ι v v ∧ σ' = σ := by
  cases hm <;> simp only [pLenM] at h <;> try (cases h; done)
  · simp only [Option.some.injEq, Prod.mk.injEq] at h
    obtain ⟨rfl, rfl⟩ := h
    refine ⟨?_, .int _ _, rfl⟩
    simp only [Builtin.len_, hts, List.getElem?_toArray, List.getElem?_cons_zero, Sem.run_bind, run_underlying ht, Result.andThen_ok]
    rfl
  · rename_i A bk hA
    split at h
    case h_2 => cases h
    rename_i es clk hg
    obtain ⟨bk', i1, es', h1, h2, h3⟩ := hr.obj _ _ hg (by simp)
    rw [hA] at i1; cases i1
    simp only [Option.some.injEq, Prod.mk.injEq] at h
    obtain ⟨rfl, rfl⟩ := h
    refine ⟨?_, .int _ _, rfl⟩
    have := h3.length
    simp only [Builtin.len_, hts, List.getElem?_toArray, List.getElem?_cons_zero, Sem.run_bind, run_underlying ht, Result.andThen_ok, run_getObj_map h1, Sem.run_pure, goInt]
    rw [← this]
    simp
end
end AM
end Go.Proofs.YtlelihddjacplaaGreat
namespace Go.Proofs.YtlelihddjacplaaGreat
namespace AM
section
variable {P : Program} {ι : Inj} {σ σ' : H} {w : World}

theorem good_lenS {t e : Nat} {ts : Array Nat} {ty : Nat} {x x' v : Value} (h : pLenS [x] σ = some (v, σ')) (hx : VR ι x x') (ht : P.underlying t = some (.slice e)) (hts : ts[0]? = some t) :
    (Builtin.len_ ts ty #[x']).run P w = .ok v w ∧ VR ι v v ∧ σ' = σ := by
  cases hx <;> simp only [pLenS] at h <;> try (cases h; done)
  all_goals
    simp only [Option.some.injEq, Prod.mk.injEq] at h
    obtain ⟨rfl, rfl⟩ := h
    refine ⟨?_, .int _ _, rfl⟩
    simp only [Builtin.len_, hts, List.getElem?_toArray, List.getElem?_cons_zero, Sem.run_bind, run_underlying ht, Result.andThen_ok]
    rfl
theorem good_lenC {t e n : Nat} {ts : Array Nat} {ty : Nat} {x x' v : Value} (h : pLenC n [x] σ = some (v, σ')) (ht : P.underlying t = some (.array n e)) (hts : ts[0]? = some t) (hx : VR ι x x') :
    (Builtin.len_ ts ty #[x']).run P w = .ok v w ∧ VR ι v v ∧ σ' = σ := by
  simp only [pLenC, Option.some.injEq, Prod.mk.injEq] at h
  obtain ⟨rfl, rfl⟩ := h
  refine ⟨?_, .int _ _, rfl⟩
  simp only [Builtin.len_, hts, List.getElem?_toArray, List.getElem?_cons_zero, Sem.run_bind, run_underlying ht, Result.andThen_ok]
  cases hx <;> rfl
theorem good_min {a a' b b' v : Value} {ts : Array Nat} {ty : Nat} (h : pMin [a, b] σ = some (v, σ')) (ha : VR ι a a') (hb : VR ι b b') : (Builtin.min_ ts ty #[a', b']).run P w = .ok v w ∧ VR ι v v ∧ σ' = σ := by
  cases ha <;> simp only [pMin] at h <;> try (cases h; done)
  cases hb <;> simp only [] at h <;> try (cases h; done)
  simp only [Option.some.injEq, Prod.mk.injEq] at h
  obtain ⟨rfl, rfl⟩ := h
  refine ⟨?_, .int _ _, rfl⟩
  rename_i k x k2 y
  rw [ltI_eq]
  by_cases h : y < x <;> simp [Builtin.min_, Builtin.min2, h]
theorem good_max {a a' b b' v : Value} {ts : Array Nat} {ty : Nat} (h : pMax [a, b] σ = some (v, σ')) (ha : VR ι a a') (hb : VR ι b b') : (Builtin.max_ ts ty #[a', b']).run P w = .ok v w ∧ VR ι v v ∧ σ' = σ := by
  cases ha <;> simp only [pMax] at h <;> try (cases h; done)
  cases hb <;> simp only [] at h <;> try (cases h; done)
  simp only [Option.some.injEq, Prod.mk.injEq] at h
  obtain ⟨rfl, rfl⟩ := h
  refine ⟨?_, .int _ _, rfl⟩
  rename_i k x k2 y
  rw [ltI_eq]
  by_cases h : x < y <;> simp [Builtin.max_, Builtin.max2, h]

/-- The object of a block that is bound. -/
theorem R.rowSize (hr : R ι σ w) {A s : Nat} {bk : Bk} (h : rowSize σ A = s) (hs : s ≠ 0) (hA : ι A = some bk) : ∃ c e m blk fz te, σ.get A = some (.cells c e s m) ∧ CellsIn ι w bk c te s m blk fz := by
  unfold AM.rowSize at h
  split at h
  · rename_i c e s' m hg
    subst h
    obtain ⟨bk', i1, blk, fz, te, hc⟩ := hr.obj _ _ hg (by simp)
    rw [hA] at i1; cases i1
    exact ⟨c, e, m, blk, fz, te, hg, hc⟩
  · exact absurd h.symm hs
theorem atEnd_cells {a : Addr} {c : List Value} {e s : Nat} {m : AM.Mode} (hg : σ.get a.block = some (.cells c e s m)) (cap : Nat) : atEnd σ a cap = (decide (m = .grown) && decide (a.off + cap * s = c.length)) := by
  unfold atEnd
  rw [hg]
  cases m <;> simp [nbeq]
/-- Not at the end: the capacity is what is known. -/
theorem CellsIn.capOf_eq {bk : Bk} {c : List Value} {e s : Nat} {m : AM.Mode} {blk : Array Value} {fz : Nat × Nat} (hc : CellsIn ι w bk c e s m blk fz) {o cap : Nat} (h : (decide (m = .grown) && decide (o + cap * s = c.length)) = false) : capOf bk o cap = cap := by
  unfold capOf
  rw [hc.esz, hc.len]
  split
  · rename_i he
    have : m ≠ .grown := by intro hm; simp [hm, he] at h
    rw [hc.extra this]; omega
  · rfl
theorem CellsIn.capOf_end {bk : Bk} {c : List Value} {e s : Nat} {m : AM.Mode} {blk : Array Value} {fz : Nat × Nat} (hc : CellsIn ι w bk c e s m blk fz) {o cap : Nat} (h : o + cap * s = c.length) : capOf bk o cap = cap + bk.extra := by
  unfold capOf
  rw [hc.esz, hc.len, if_pos h]

/-- A bound of a cut, as the program has it. -/
def BR (ι : Inj) (i : Option Int) (x : Option Value) : Prop := (i = none ∧ x = none) ∨ ∃ k n, i = some n ∧ x = some (.int k n)
theorem optInts_BR : ∀ (xs : List (Option Value)) (vs : List Value) (l : List (Option Int)), optInts (xs.map Option.isSome) vs = some l → VRs ι vs (xs.flatMap Option.toList) →
    ∀ (i : Nat) (li : Option Int), l[i]? = some li → ∃ x, xs[i]? = some x ∧ BR ι li x
  | [], vs, l, h, hv, i, li, hi => by
    cases vs <;> simp [optInts] at h
    subst h; simp at hi
  | none :: xs, vs, l, h, hv, i, li, hi => by
    simp only [List.map_cons, Option.isSome, optInts] at h
    split at h
    · rename_i l' hl'
      simp at h; subst h
      cases i with
      | zero => simp at hi; subst hi; exact ⟨none, rfl, .inl ⟨rfl, rfl⟩⟩
      | succ i =>
        have := optInts_BR xs vs l' (by simpa using hl') (by simpa using hv) i li (by simpa using hi)
        simpa using this
    · cases h
  | some x :: xs, vs, l, h, hv, i, li, hi => by
    simp only [List.flatMap_cons, Option.toList, List.singleton_append] at hv
    cases hv with
    | cons hv hvs =>
      simp only [List.map_cons, Option.isSome, optInts] at h
      split at h
      · cases h
      · rename_i n hn
        split at h
        · rename_i l' hl'
          simp at h; subst h
          cases i with
          | zero =>
            simp at hi; subst hi
            obtain ⟨k, rfl⟩ := intOf_VR hv hn
            exact ⟨_, rfl, .inr ⟨k, n, rfl, rfl⟩⟩
          | succ i =>
            have := optInts_BR xs _ l' (by simpa using hl') hvs i li (by simpa using hi)
            simpa using this
        · cases h
theorem bounds3 {xl xh xm : Option Value} {vs : List Value} {l h m : Option Int} (ho : optInts [xl.isSome, xh.isSome, xm.isSome] vs = some [l, h, m])
    (hv : VRs ι vs (xl.toList ++ (xh.toList ++ xm.toList))) : BR ι l xl ∧ BR ι h xh ∧ BR ι m xm := by
  have := optInts_BR [xl, xh, xm] vs [l, h, m] ho (by simpa using hv)
  refine ⟨?_, ?_, ?_⟩
  · obtain ⟨x, h1, h2⟩ := this 0 l rfl; simp at h1; subst h1; exact h2
  · obtain ⟨x, h1, h2⟩ := this 1 h rfl; simp at h1; subst h1; exact h2
  · obtain ⟨x, h1, h2⟩ := this 2 m rfl; simp at h1; subst h1; exact h2
theorem run_bounds {isS : Bool} {len cap cap' : Nat} {lo hi mx : Option Int} {xl xh xm : Option Value} {l h m : Nat} (h1 : BR ι lo xl) (h2 : BR ι hi xh) (h3 : BR ι mx xm)
    (hm : cutMax mx cap = some m) (hc : cap ≤ cap') (hh : cutHigh hi mx len m = some h) (hl : cutLow lo h = some l) :
    (Instr.sliceBounds isS len cap' xl xh xm).run P w = .ok (l, h, if mx.isSome then m else cap') w := by
  have mono : ∀ {v : Int} {a b n : Nat}, bound v a = some n → a ≤ b → bound v b = some n := by
    intro v a b n h hab
    obtain ⟨h0, h1, rfl⟩ := bound_some h
    unfold bound
    rw [ltI_eq, ltI_eq]
    have e1 : decide (v < 0) = false := by simpa using h0
    have e2 : decide ((b : Int) < v) = false := by simp; omega
    simp [e1, e2]
  rcases h1 with ⟨rfl, rfl⟩ | ⟨kl, nl, rfl, rfl⟩ <;> rcases h2 with ⟨rfl, rfl⟩ | ⟨kh, nh, rfl, rfl⟩ <;> rcases h3 with ⟨rfl, rfl⟩ | ⟨km, nm, rfl, rfl⟩ <;> simp only [cutMax] at hm <;> simp only [cutHigh] at hh <;> simp only [cutLow] at hl
  all_goals try (cases hh; done)
  · cases hm; cases hh; cases hl
    simp only [Instr.sliceBounds, Sem.run_bind, Sem.run_pure, Result.andThen_ok, Option.isSome, Bool.false_eq_true, if_false]
  · cases hm; cases hl
    simp only [Instr.sliceBounds, Sem.run_bind, Sem.run_pure, Result.andThen_ok, Option.isSome, Bool.false_eq_true, if_false, run_sliceBound (mono hh hc)]
  · cases hl
    simp only [Instr.sliceBounds, Sem.run_bind, Sem.run_pure, Result.andThen_ok, Option.isSome, if_true, run_sliceBound (mono hm hc), run_sliceBound hh]
  · cases hm; cases hh
    simp only [Instr.sliceBounds, Sem.run_bind, Sem.run_pure, Result.andThen_ok, Option.isSome, Bool.false_eq_true, if_false, run_sliceBound hl]
  · cases hm
    simp only [Instr.sliceBounds, Sem.run_bind, Sem.run_pure, Result.andThen_ok, Option.isSome, Bool.false_eq_true, if_false, run_sliceBound (mono hh hc), run_sliceBound hl]
  · simp only [Instr.sliceBounds, Sem.run_bind, Sem.run_pure, Result.andThen_ok, Option.isSome, if_true, run_sliceBound (mono hm hc), run_sliceBound hh, run_sliceBound hl]
theorem cut_le {lo hi mx : Option Int} {len cap m h l : Nat} (hm : cutMax mx cap = some m) (hh : cutHigh hi mx len m = some h) (hl : cutLow lo h = some l) : l ≤ h ∧ m ≤ cap ∧ (mx.isSome → h ≤ m) ∧ (mx = none → m = cap) ∧ (hi.isSome → h ≤ m) := by
  have b : ∀ {v : Int} {y n : Nat}, bound v y = some n → n ≤ y := fun h => by obtain ⟨_, q1, q2⟩ := bound_some h; omega
  cases mx with
  | none =>
    simp [cutMax] at hm; subst hm
    cases hi with
    | none => simp [cutHigh] at hh; cases lo with
      | none => simp [cutLow] at hl; exact ⟨by omega, Nat.le_refl _, by simp, fun _ => rfl, by simp⟩
      | some lv => exact ⟨b hl, Nat.le_refl _, by simp, fun _ => rfl, by simp⟩
    | some hv => cases lo with
      | none => simp [cutLow] at hl; exact ⟨by omega, Nat.le_refl _, by simp, fun _ => rfl, fun _ => b hh⟩
      | some lv => exact ⟨b hl, Nat.le_refl _, by simp, fun _ => rfl, fun _ => b hh⟩
  | some mv =>
    have hmc := b hm
    cases hi with
    | none => simp [cutHigh] at hh
    | some hv => cases lo with
      | none => simp [cutLow] at hl; exact ⟨by omega, hmc, fun _ => b hh, by simp, fun _ => b hh⟩
      | some lv => exact ⟨b hl, hmc, fun _ => b hh, by simp, fun _ => b hh⟩
theorem good_slice {t e esz : Nat} {xl xh xm : Option Value} {x x' v : Value} {vs : List Value} (hr : R ι σ w) (h : pSlice esz xl.isSome xh.isSome xm.isSome (x :: vs) σ = some (v, σ')) (hx : VR ι x x')
    (hv : VRs ι vs (xl.toList ++ (xh.toList ++ xm.toList))) (ht : P.underlying t = some (.slice e)) (hs : szT P e = some esz) (h0 : esz ≠ 0) : GoodQ P ι (Instr.sliceAt t x' xl xh xm) v ∧ σ' = σ := by
  have hdef : ∀ a n c l h m, (∀ w : World, (Instr.sliceBounds true n c xl xh xm).run P w = .ok (l, h, m) w) → ∀ w : World, (Instr.sliceAt t (.slice a n c) xl xh xm).run P w = .ok (.slice (if m = l then a else a.map (·.add (l * esz))) (h - l) (m - l)) w := by
    intro a n c l h m hb w
    simp only [Instr.sliceAt, Instr.slice, Sem.run_bind, run_underlying ht, Result.andThen_ok, hb, run_sizeOf hs, Sem.run_pure]
  cases x <;> simp only [pSlice] at h <;> try (cases h; done)
  rename_i a len cap
  split at h
  case h_2 => cases h
  rename_i l h' m ho
  obtain ⟨b1, b2, b3⟩ := bounds3 ho hv
  split at h
  case h_2 => cases h
  rename_i v0 hv0
  simp only [Option.some.injEq, Prod.mk.injEq] at h
  obtain ⟨rfl, rfl⟩ := h
  unfold sliceV at hv0
  split at hv0
  · cases hv0
  rename_i m' hm'
  split at hv0
  · cases hv0
  rename_i h2 hh2
  split at hv0
  · cases hv0
  rename_i l' hl'
  obtain ⟨c1, c2, c3, c4, c5⟩ := cut_le hm' hh2 hl'
  rw [nble] at hv0
  split at hv0
  · cases hv0
  rename_i hhm
  simp at hhm
  split at hv0
  · -- nil
    simp at hv0; subst hv0
    cases hx
    have hb := fun w => run_bounds (P := P) (w := w) (isS := true) (cap' := cap) b1 b2 b3 hm' (Nat.le_refl _) hh2 hl'
    have : (if m.isSome then m' else cap) = m' := by
      cases m with
      | none => simp [c4 rfl]
      | some _ => rfl
    simp only [this] at hb
    refine ⟨⟨.slice none (h2 - l') (m' - l'), fun w => ?_, .nils _ _⟩, rfl⟩
    rw [hdef _ _ _ _ _ _ hb]; simp
  rename_i a
  rw [nbeq] at hv0
  split at hv0
  · -- the void
    rename_i hblk
    simp at hblk
    rw [nbeq] at hv0
    split at hv0
    · rename_i hcap
      simp at hcap hv0
      subst hv0 hcap
      cases hx with
      | slice h0 h => exact absurd hblk h0
      | void o a' c hsp =>
        have hb := fun w => run_bounds (P := P) (w := w) (isS := true) (cap' := c) b1 b2 b3 hm' (Nat.zero_le _) hh2 hl'
        have e1 : m' = 0 := by omega
        have e2 : h2 = 0 := by omega
        have e3 : l' = 0 := by omega
        subst e2 e3
        refine ⟨⟨_, hdef _ _ _ _ _ _ hb, ?_⟩, rfl⟩
        simp only [Nat.zero_mul, Option.map_some, Addr.add, if_true, ite_self, Nat.sub_zero]
        exact .void 0 _ _ hsp
    · cases hv0
  rename_i hblk
  simp at hblk
  rw [nbeq] at hv0
  split at hv0
  · cases hv0
  rename_i hrow
  simp at hrow
  cases hx with
  | void o a' c hsp => exact absurd rfl hblk
  | @slice A o n c bk h0' hA =>
  obtain ⟨cs, e', md, blk, fz, te, hg, hc⟩ := hr.rowSize hrow h0 hA
  have hend : ∀ (o' cp : Nat), atEnd σ ⟨A, o', none⟩ cp = (decide (md = .grown) && decide (o' + cp * esz = cs.length)) := fun o' cp => atEnd_cells (σ := σ) (a := (⟨A, o', none⟩ : Addr)) (c := cs) (e := e') (s := esz) (m := md) hg cp
  have hge : cap ≤ capOf bk o cap := by unfold capOf; omega
  have hb := fun w => run_bounds (P := P) (w := w) (isS := true) (cap' := capOf bk o cap) b1 b2 b3 hm' hge hh2 hl'
  have hrun := hdef (some ⟨bk.blk, bk.base + o, none⟩) len (capOf bk o cap) l' h2 (if m.isSome then m' else capOf bk o cap) hb
  have moved : ∀ k, (⟨bk.blk, bk.base + o, none⟩ : Addr).add (k * esz) = ⟨bk.blk, bk.base + (o + k * esz), none⟩ := fun k => by rw [Addr.add_mid]; congr 1; omega
  have hmul : ∀ (k c : Nat), k ≤ c → o + k * esz + (c - k) * esz = o + c * esz := fun k c hk => by
    rw [Nat.add_assoc, ← Nat.add_mul]; congr 2; omega
  split at hv0
  · -- no max
    have hm0 := c4 rfl
    subst hm0
    simp only [Option.isSome, Bool.false_eq_true, if_false] at hrun
    rw [hend] at hv0
    split at hv0
    · rename_i he
      simp at he
      have hce := hc.capOf_end (cap := m') he.2
      rw [nbeq] at hv0
      split at hv0
      · rename_i hlm
        simp at hlm hv0
        subst hv0 hlm
        have e2 : h2 = l' := by omega
        subst e2
        refine ⟨⟨_, hrun, ?_⟩, rfl⟩
        simp only [Nat.sub_self]
        split
        · exact .void 0 _ _ rfl
        · simp only [Option.map_some, moved]; exact .void 0 _ _ rfl
      · rename_i hlm
        simp at hlm hv0
        subst hv0
        refine ⟨⟨_, hrun, ?_⟩, rfl⟩
        rw [if_neg (by omega), Option.map_some, moved]
        have e1 := hc.capOf_end (o := o + l' * esz) (cap := m' - l') (by rw [hmul l' m' (by omega)]; exact he.2)
        have : capOf bk o m' - l' = capOf bk (o + l' * esz) (m' - l') := by rw [hce, e1]; omega
        rw [this]
        exact .slice h0' hA
    · rename_i he
      have he' : (decide (md = .grown) && decide (o + m' * esz = cs.length)) = false := by simpa using he
      have hce := hc.capOf_eq (cap := m') he'
      rw [nbeq] at hv0
      split at hv0
      · rename_i hlm
        simp at hlm
        rw [hend] at hv0
        split at hv0
        · cases hv0
        · rename_i he0
          simp only [Option.some.injEq] at hv0
          subst hv0 hlm
          have he0' : (decide (md = .grown) && decide (o + 0 * esz = cs.length)) = false := by simpa using he0
          refine ⟨⟨_, hrun, ?_⟩, rfl⟩
          rw [hce, if_pos rfl, Nat.sub_self]
          have := VR.slice (n := h2 - l') (c := 0) (o := o) h0' hA
          rwa [hc.capOf_eq he0'] at this
      · rename_i hlm
        simp at hlm hv0
        subst hv0
        refine ⟨⟨_, hrun, ?_⟩, rfl⟩
        rw [hce, if_neg (by omega), Option.map_some, moved]
        have e1 := hc.capOf_eq (o := o + l' * esz) (cap := m' - l') (by rw [hmul l' m' (by omega)]; exact he')
        have := VR.slice (n := h2 - l') (c := m' - l') (o := o + l' * esz) h0' hA
        rwa [e1] at this
  · -- a max
    rename_i mv
    simp only [Option.isSome, if_true] at hrun
    rw [hend] at hv0
    split at hv0
    · cases hv0
    rename_i he
    have he' : (decide (md = .grown) && decide (o + m' * esz = cs.length)) = false := by simpa using he
    rw [nbeq] at hv0
    split at hv0
    · rename_i hlm
      simp at hlm
      rw [hend] at hv0
      split at hv0
      · cases hv0
      · rename_i he0
        simp only [Option.some.injEq] at hv0
        subst hv0 hlm
        have he0' : (decide (md = .grown) && decide (o + 0 * esz = cs.length)) = false := by simpa using he0
        refine ⟨⟨_, hrun, ?_⟩, rfl⟩
        rw [if_pos rfl, Nat.sub_self]
        have := VR.slice (n := h2 - l') (c := 0) (o := o) h0' hA
        rwa [hc.capOf_eq he0'] at this
    · rename_i hlm
      simp at hlm hv0
      subst hv0
      refine ⟨⟨_, hrun, ?_⟩, rfl⟩
      rw [if_neg (by omega), Option.map_some, moved]
      have e1 := hc.capOf_eq (o := o + l' * esz) (cap := m' - l') (by rw [hmul l' m' (by omega)]; exact he')
      have := VR.slice (n := h2 - l') (c := m' - l') (o := o + l' * esz) h0' hA
      rwa [e1] at this
end
end AM
end Go.Proofs.YtlelihddjacplaaGreat
namespace Go.Proofs.YtlelihddjacplaaGreat
namespace AM
section
variable {P : Program} {ι : Inj} {σ σ' : H} {w : World}

theorem szP_some {t n : Nat} (h : szP P t = some n) : szT P t = some n ∧ n ≠ 0 := by
  unfold szP at h
  cases hs : szT P t with
  | none => rw [hs] at h; cases h
  | some m =>
    rw [hs] at h
    simp [Option.filter] at h
    exact ⟨by rw [h.2], by rw [← h.2]; exact h.1⟩
theorem bytesT_some {t n : Nat} (h : bytesT P t = some n) : ∃ i, P.info? t = some i ∧ i.bytes = n := by
  unfold bytesT at h
  cases hi : P.info? t with
  | none => rw [hi] at h; cases h
  | some i => rw [hi] at h; exact ⟨i, rfl, by simpa using h⟩
theorem R.zeroGet (hr : R ι σ w) {o : AM.Obj} (h : σ.get 0 = some o) : o = .dead := Classical.byContradiction fun hd => by
  obtain ⟨bk, i1, _⟩ := hr.obj 0 o h hd
  rw [hr.zero] at i1; cases i1
/-- The cells of a slice that are read. -/
theorem src_run (hr : R ι σ w) {esz n m c : Nat} {x : Option Addr} {x' : Value} {new : List Value} (h : srcCells σ esz x n = some new) (hx : VR ι (.slice x m c) x') : new.length = n * esz ∧
    ∃ b c' new', x' = .slice b m c' ∧ VRs ι new new' ∧ ∀ w2 : World, w2.heap = w.heap → (Builtin.firstCells esz n x').run P w2 = .ok ⟨new'⟩ w2 := by
  unfold srcCells at h
  split at h
  · simp at h; subst h
    refine ⟨by simp, ?_⟩
    cases hx with
    | nils => exact ⟨_, _, [], rfl, .nil, fun _ _ => by simp [Builtin.firstCells]⟩
    | slice => exact ⟨_, _, [], rfl, .nil, fun _ _ => by simp [Builtin.firstCells, loadCells, loadCellsFrom]⟩
    | void => exact ⟨_, _, [], rfl, .nil, fun _ _ => by simp [Builtin.firstCells, loadCells, loadCellsFrom]⟩
  · cases x with
    | none => cases h
    | some a =>
      simp only [] at h
      cases hx with
      | void o a c hsp =>
        unfold rdCells at h
        simp only [] at h
        split at h
        · rename_i hg; exact absurd (hr.zeroGet hg) (by simp)
        · cases h
      | slice h0 hA =>
        obtain ⟨_, hl, c', hc, hcell⟩ := hr.read h hA
        refine ⟨hl, _, _, c', rfl, hc, fun w2 hw2 => ?_⟩
        have := run_loadCells_list (P := P) w2 _ c' (fun j v hv => by rw [Addr.add_mid]; have := hcell j v hv; simpa [World.cell?, hw2] using this)
        rw [hc.length, hl] at this
        simpa [Builtin.firstCells] using this
theorem nextcap_le (n c : Nat) (h : c < n) : Builtin.nextslicecap n c ≤ 2 * n := by
  have hg : ∀ (r c : Nat), c ≤ 2 * n → 256 ≤ c → Builtin.growBy n r c ≤ 2 * n := by
    intro r
    induction r with
    | zero => intro c h1 _; simpa [Builtin.growBy] using h1
    | succ r ih =>
      intro c h1 h2
      simp only [Builtin.growBy]
      split
      · exact h1
      · exact ih _ (by omega) (by omega)
  unfold Builtin.nextslicecap
  split
  · omega
  · split
    · omega
    · exact hg 4 c (by omega) (by omega)
theorem zeroCells_len (z : Array Value) (n : Nat) : (Builtin.zeroCells z n).size = n * z.size := by simp [Builtin.zeroCells]

/-- What 'append' does, once it is known what is appended. -/
def appendTail (P : Program) (e esz : Nat) (z : Value) (s' : Value) (base : Option Addr) (sLen sCap n : Nat) (new' : List Value) : Sem Value :=
  if sLen + n ≤ sCap then do
    if let some a := base then storeCells (a.add (sLen * esz)) new'
    pure (.slice base (sLen + n) sCap)
  else do
    let newCap ← choose (.appendCap (sLen + n) sCap e)
    let old ← Builtin.firstCells esz sLen s'
    pure (.slice (some (← newRow e (old ++ ⟨new'⟩ ++ Builtin.zeroCells z.cells (newCap - (sLen + n))))) (sLen + n) newCap)

theorem good_tail {e esz bytes n sLen sCap : Nat} {base : Option Addr} {z v s' : Value} {new new' : List Value} (hr : R ι σ w) (h : appendV σ e esz bytes base sLen sCap n new = some (v, σ')) (hs : VR ι (.slice base sLen sCap) s')
    (hv : VRs ι new new') (hl : new.length = n * esz) (h0 : esz ≠ 0) (hz : zeroT P e = some z) (hsz : szT P e = some esz) (sem : Sem Value)
    (hsem : ∀ b c, s' = .slice b sLen c → (sLen + n ≤ c ∨ (c < sLen + n ∧ (sLen + n) * bytes ≤ room ∧ 1 ≤ bytes ∧ ∃ old', (Builtin.firstCells esz sLen s').run P w.drew = .ok old' w.drew)) → sem.run P w = (appendTail P e esz z s' b sLen c n new').run P w) : Good P ι σ' sem w v := by
  have hzl := zeroT_size hz hsz
  have hzc : z.cells.size = esz := by rw [← Array.length_toList, cellsOf_eq]; exact hzl
  unfold appendV at h
  split at h
  · -- nothing
    rw [nble] at h
    split at h
    · rename_i hle
      simp at hle
      simp only [Option.some.injEq, Prod.mk.injEq] at h
      obtain ⟨rfl, rfl⟩ := h
      have hn : new = [] := List.eq_nil_of_length_eq_zero (by omega)
      subst hn
      cases hv
      have fin : ∀ b c, s' = .slice b sLen c → sCap ≤ c → Good P ι σ sem w (.slice base sLen sCap) := by
        intro b c hb hc
        refine Good.pure hr (v' := s') ?_ hs
        rw [hsem b c hb (.inl (by omega)), hb]
        unfold appendTail
        rw [if_pos (by omega)]
        cases b <;> simp [storeCells]
      cases hs with
      | nils => exact fin _ _ rfl (Nat.le_refl _)
      | slice h0 hA => exact fin _ _ rfl (by unfold capOf; omega)
      | void o a c hsp => exact fin _ _ rfl (Nat.zero_le _)
    · cases h
  rename_i n
  have hl' : new.length = (n + 1) * esz := hl
  clear hl
  have hl := hl'
  clear hl'
  rw [nble] at h
  split at h
  · -- in place
    rename_i hle
    simp at hle
    split at h
    · cases h
    rename_i a
    split at h
    · cases h
    rename_i σ1 hw
    simp only [Option.some.injEq, Prod.mk.injEq] at h
    obtain ⟨rfl, rfl⟩ := h
    cases hs with
    | void o a c hsp => omega
    | @slice A o _ _ bk h0' hA =>
      obtain ⟨_, h1, h2, h3, h4⟩ := hr.write hw hv hA
      refine ⟨ι, .slice (some ⟨bk.blk, bk.base + o, none⟩) (sLen + (n + 1)) (capOf bk o sCap), _, ?_, .slice h0' hA, h3, h4⟩
      rw [hsem _ _ rfl (.inl (by unfold capOf; omega))]
      unfold appendTail
      rw [if_pos (by unfold capOf; omega)]
      simp only at h1
      have hrun := run_storeCells_cells (P := P) bk.blk (bk.base + (o + sLen * esz)) new' 0 w (fun j hj => by simpa using (h1 j hj).1) (fun j hj => by simpa using (h1 j hj).2) h2
      rw [Nat.add_zero] at hrun
      simp only [Addr.add_mid, Sem.run_bind, Nat.add_assoc, hrun, Result.andThen_ok, Sem.run_pure]
  · -- it grows
    rename_i hgt
    simp at hgt
    unfold grow at h
    split at h
    · cases h
    rename_i hchk
    simp only [Bool.and_eq_true, nble, decide_eq_true_eq] at hchk
    obtain ⟨⟨⟨k1, k2⟩, k3⟩, _⟩ := hchk
    have hforced : (Question.appendCap (sLen + (n + 1)) 0 e).forced = false := rfl
    -- a new block
    have fresh : ∀ (σ1 : H) (b : Option Addr) (c : Nat) (old old' : List Value), R ι σ1 w → σ1.next = σ.next → s' = .slice b sLen c → c < sLen + (n + 1) → VRs ι old old' → old.length = sLen * esz → (Builtin.firstCells esz sLen s').run P w.drew = .ok ⟨old'⟩ w.drew →
        Good P ι (σ1.push (.cells (old ++ new) e esz .grown)) sem w (.slice (some ⟨σ1.next, 0, none⟩) (sLen + (n + 1)) (sLen + (n + 1))) := by
      intro σ1 b c old old' hr1 hn1 hb hc ho hol hold
      have hq : (Question.appendCap (sLen + (n + 1)) c e).forced = false := rfl
      obtain ⟨N, hN⟩ : ∃ N, N = (Question.appendCap (sLen + (n + 1)) c e).cut (w.tape w.drawn (.appendCap (sLen + (n + 1)) c e)) := ⟨_, rfl⟩
      have hNge : sLen + (n + 1) ≤ N := by rw [hN]; simp [Question.cut]
      have hr2 : R ι σ1 w.drew := hr1.same rfl
      obtain ⟨ι', x1, x2, x3⟩ := hr2.row (Builtin.zeroCells z.cells (N - (sLen + (n + 1)))).toList e esz .grown (by simp) (N - (sLen + (n + 1))) (by simp) (by rw [Array.length_toList, zeroCells_len, hzc]; exact Nat.le_refl _) (ho.append hv)
      have hlen : (old ++ new).length = (sLen + (n + 1)) * esz := by rw [List.length_append, hol, hl, ← Nat.add_mul]
      refine ⟨ι', .slice (some ⟨w.heap.size, 0, none⟩) (sLen + (n + 1)) N, _, ?_, ?_, x2, (Ext.same (w := w) (w' := w.drew) rfl rfl rfl rfl).trans x1⟩
      · rw [hsem b c hb (.inr ⟨hc, k1, k2, _, hold⟩)]
        unfold appendTail
        rw [if_neg (by omega)]
        have hd : ({ w with drawn := w.drawn + 1 } : World) = w.drew := rfl
        simp only [Sem.run_bind, run_choose, hq, Bool.false_eq_true, if_false, Result.andThen_ok, ← hN, hd, hold, newRow, run_newObj, Sem.run_pure]
        congr 1
        have : (⟨old'⟩ ++ ⟨new'⟩ ++ Builtin.zeroCells z.cells (N - (sLen + (n + 1))) : Array Value) = ⟨old' ++ new' ++ (Builtin.zeroCells z.cells (N - (sLen + (n + 1)))).toList⟩ := by
          apply Array.ext'; simp
        rw [this]
        rfl
      · have hpos : σ1.next ≠ 0 := by have := hr1.pos; omega
        have := VR.slice (o := 0) (n := sLen + (n + 1)) (c := sLen + (n + 1)) hpos x3
        have hcap : capOf ⟨w.heap.size, 0, (old ++ new).length, esz, N - (sLen + (n + 1)), false⟩ 0 (sLen + (n + 1)) = N := by
          unfold capOf
          simp only [hlen, Nat.zero_add, if_true]
          omega
        rw [show w.drew.heap.size = w.heap.size from rfl, hcap] at this
        exact this
    split at h
    · -- nil
      split at h
      · simp only [Option.some.injEq, Prod.mk.injEq] at h
        obtain ⟨rfl, rfl⟩ := h
        cases hs
        have := fresh σ none sCap [] [] hr rfl rfl (by omega) .nil (by simp) (by simp [Builtin.firstCells])
        simpa using this
      · cases h
    rename_i a
    rw [nbeq] at h
    split at h
    · cases h
    rename_i hrow
    simp at hrow
    split at h
    · cases h
    rename_i old hold
    cases hs with
    | void o a' c hsp =>
      exfalso
      unfold rowSize at hrow
      simp only [] at hrow
      split at hrow
      · rename_i hg; exact absurd (hr.zeroGet hg) (by simp)
      · exact h0 hrow.symm
    | @slice A o _ _ bk h0' hA =>
      obtain ⟨cs, e', md, blk, fz, te, hg, hc⟩ := hr.rowSize hrow h0 hA
      obtain ⟨_, hol, old', ho, hcell⟩ := hr.read hold hA
      simp only at hcell
      have hload : ∀ w2 : World, w2.heap = w.heap → (Builtin.firstCells esz sLen (.slice (some ⟨bk.blk, bk.base + o, none⟩) sLen (capOf bk o sCap))).run P w2 = .ok ⟨old'⟩ w2 := by
        intro w2 hw2
        have := run_loadCells_list (P := P) w2 ⟨bk.blk, bk.base + o, none⟩ old' (fun j v hv => by rw [Addr.add_mid]; have := hcell j v hv; simpa [World.cell?, hw2] using this)
        rw [ho.length, hol] at this
        simpa [Builtin.firstCells] using this
      have hae := atEnd_cells (σ := σ) (a := (⟨A, o, none⟩ : Addr)) (c := cs) (e := e') (s := esz) (m := md) hg sCap
      rw [hae] at h
      split at h
      · -- the end of a row of which more may be there
        rename_i he
        simp at he
        have hce := hc.capOf_end (cap := sCap) he.2
        split at h
        · cases h
        rename_i hlive
        simp only [Option.some.injEq, Prod.mk.injEq] at h
        obtain ⟨rfl, rfl⟩ := h
        have hro : bk.ro = false := by rw [hc.ro, he.1]; rfl
        -- the old object is dead
        have hdead : R ι (σ.put A .dead) w := by
          refine ⟨hr.pos, hr.zero, hr.dom, fun B oB hB => ?_, fun B oB hB dB => ?_, fun B C oB oC bB bC hB hC dB dC iB iC hro2 hbe => ?_, hr.blt⟩
          · rw [H.get_put] at hB
            split at hB
            · rename_i e; subst e; exact hr.lt _ _ hg
            · exact hr.lt _ _ hB
          · rw [H.get_put] at hB
            split at hB
            · cases hB; exact absurd rfl dB
            · exact hr.obj B oB hB dB
          · rw [H.get_put] at hB hC
            split at hB
            · cases hB; exact absurd rfl dB
            · split at hC
              · cases hC; exact absurd rfl dC
              · exact hr.inj B C oB oC bB bC hB hC dB dC iB iC hro2 hbe
        by_cases hfit : sLen + (n + 1) ≤ capOf bk o sCap
        · -- there is more: it stays where it is
          have hlen : (old ++ new).length = (sLen + (n + 1)) * esz := by rw [List.length_append, hol, hl, ← Nat.add_mul]
          have hsz := hc.size
          have he2 : o + sCap * esz = cs.length := he.2
          have hold2 := hold
          unfold rdCells at hold2
          simp only [hg] at hold2
          obtain ⟨q1, q2⟩ := lcut_some hold2
          have hnl := hv.length
          have hmul : (sLen + (n + 1)) * esz ≤ (sCap + bk.extra) * esz := Nat.mul_le_mul_right _ (by rw [hce] at hfit; exact hfit)
          have hm1 : (sLen + (n + 1)) * esz = sLen * esz + (n + 1) * esz := Nat.add_mul _ _ _
          have hm2 : (sCap + bk.extra) * esz = sCap * esz + bk.extra * esz := Nat.add_mul _ _ _
          obtain ⟨blk', a1, a2, a3, a4⟩ := heap_setCells bk.blk new' (bk.base + o + sLen * esz) w blk te fz hc.heap (by omega)
          obtain ⟨o1, o2, o3, o4⟩ := setCells_os bk.blk new' (bk.base + o + sLen * esz) w
          have hfz := hc.fz (by rw [he.1]; simp)
          have hother : ∀ b, b < w.heap.size → b ≠ bk.blk → (w.setCells bk.blk (bk.base + o + sLen * esz) new').heap[b]? = w.heap[b]? := fun b hb hne => World.heap_setCells_other w _ _ _ hb hne
          -- the world with the new cells, the object dead
          have hdead2 : R ι (σ.put A .dead) (w.setCells bk.blk (bk.base + o + sLen * esz) new') := by
            refine ⟨hdead.pos, hdead.zero, hdead.dom, hdead.lt, fun B oB hB dB => ?_, hdead.inj, fun B b hB => by rw [o4]; exact hr.blt B b hB⟩
            obtain ⟨b, i1, i2⟩ := hdead.obj B oB hB dB
            refine ⟨b, i1, i2.of_heap (hother _ (i2.lt dB) fun e => ?_)⟩
            have hBA : B ≠ A := fun e2 => by subst e2; rw [H.get_put, if_pos rfl] at hB; cases hB; exact dB rfl
            rw [H.get_put, if_neg (Ne.symm hBA)] at hB
            exact hBA (hr.inj A B _ oB bk b hg hB (by simp) dB hA i1 hro e.symm).symm
          let bk2 : Bk := ⟨bk.blk, bk.base + o, (old ++ new).length, esz, sCap + bk.extra - (sLen + (n + 1)), false⟩
          have hsub : Sub ι (ι.set σ.next bk2) := Inj.set_sub hr.fresh
          have hbind := hdead2.bind (.cells (old ++ new) e esz .grown) bk2 rfl (by rw [o4]; exact hr.blt A bk hA) ⟨blk', fz, te, a1, rfl, rfl, by simp [bk2], fun _ => hfz, by simp, by
              show bk.base + o + (old ++ new).length + (sCap + bk.extra - (sLen + (n + 1))) * esz ≤ blk'.size
              have : (sCap + bk.extra - (sLen + (n + 1))) * esz = (sCap + bk.extra) * esz - (sLen + (n + 1)) * esz := Nat.sub_mul _ _ _
              omega, fun i v hi => by
              show ∃ v', blk'[bk.base + o + i]? = some v' ∧ _
              by_cases h1 : i < old.length
              · rw [List.getElem?_append_left h1] at hi
                have hi2 : cs[o + i]? = some v := by
                  rw [q2, List.getElem?_take_of_lt (by omega), List.getElem?_drop] at hi
                  exact hi
                obtain ⟨v', c1, c2⟩ := hc.cells _ _ hi2
                refine ⟨v', ?_, c2.mono hsub⟩
                rw [a3 _ (by omega), ← c1]
                congr 1; omega
              · rw [List.getElem?_append_right (by omega)] at hi
                obtain ⟨v', c1, c2⟩ := hv.get _ _ hi
                refine ⟨v', ?_, c2.mono hsub⟩
                have hlt : i - old.length < new'.length := (List.getElem?_eq_some_iff.1 c1).1
                rw [← c1, ← a4 _ hlt]
                congr 1; omega, fun h => by cases h⟩ (by
            intro B oB bB hB dB iB
            have hBA : B ≠ A := fun e2 => by subst e2; rw [H.get_put, if_pos rfl] at hB; cases hB; exact dB rfl
            rw [H.get_put, if_neg (Ne.symm hBA)] at hB
            intro e2
            exact hBA (hr.inj A B _ oB bk bB hg hB (by simp) dB hA iB hro e2.symm).symm)
          have hnext : (σ.put A .dead).next = σ.next := rfl
          rw [hnext] at hbind
          have hcell? : ∀ j, j < new'.length → (w.cell? ⟨bk.blk, bk.base + o + sLen * esz + j, none⟩).isSome = true ∧ w.frozen? ⟨bk.blk, bk.base + o + sLen * esz + j, none⟩ = false := fun j hj => by
            constructor
            · simp only [World.cell?, hc.heap, Option.isSome_none, Bool.false_eq_true, if_false]
              rw [Array.getElem?_eq_getElem (by omega)]; rfl
            · simp [World.frozen?, hc.heap, hfz]
          have hone : ∀ v ∈ new', v.oneCell' = true := fun v hv2 => by
            rw [cellOk_one]
            have := hv.allOk
            rw [k3] at this
            exact List.all_eq_true.1 this v hv2
          have hrun := run_storeCells_cells (P := P) bk.blk (bk.base + o + sLen * esz) new' 0 w (fun j hj => by simpa using (hcell? j hj).1) (fun j hj => by simpa using (hcell? j hj).2) hone
          rw [Nat.add_zero] at hrun
          refine ⟨ι.set σ.next bk2, .slice (some ⟨bk.blk, bk.base + o, none⟩) (sLen + (n + 1)) (capOf bk o sCap), _, ?_, ?_, hbind, ?_⟩
          · rw [hsem _ _ rfl (.inl hfit)]
            unfold appendTail
            rw [if_pos hfit]
            simp only [Addr.add_mid, Sem.run_bind, hrun, Result.andThen_ok, Sem.run_pure]
          · have hpos : σ.next ≠ 0 := by have := hr.pos; omega
            have := VR.slice (ι := ι.set σ.next bk2) (o := 0) (n := sLen + (n + 1)) (c := sLen + (n + 1)) hpos (Inj.set_same _ _ _)
            have hcap : capOf bk2 0 (sLen + (n + 1)) = capOf bk o sCap := by
              rw [hce]
              unfold capOf
              show sLen + (n + 1) + (if 0 + (sLen + (n + 1)) * esz = (old ++ new).length then sCap + bk.extra - (sLen + (n + 1)) else 0) = _
              rw [hlen, Nat.zero_add, if_pos rfl]
              rw [hce] at hfit
              omega
            rw [hcap] at this
            exact this
          · refine ⟨hsub, o1, o2, o3, by omega, fun b hb hn2 => hother b hb (fun e2 => hn2 A bk hA hro e2.symm), fun B b h1 h2 => ?_⟩
            unfold Inj.set at h2
            split at h2
            · cases h2; exact ⟨rfl, .inr ⟨A, bk, hA, hro, rfl⟩⟩
            · rw [h1] at h2; cases h2
        · exact fresh (σ.put A .dead) _ _ old old' hdead rfl rfl (by omega) ho hol (hload _ rfl)
      · rename_i he
        have hce := hc.capOf_eq (cap := sCap) (by simpa using he)
        simp only [Option.some.injEq, Prod.mk.injEq] at h
        obtain ⟨rfl, rfl⟩ := h
        exact fresh σ _ _ old old' hr rfl rfl (by omega) ho hol (hload _ rfl)
end
end AM
end Go.Proofs.YtlelihddjacplaaGreat
namespace Go.Proofs.YtlelihddjacplaaGreat
namespace AM
section
variable {P : Program} {ι : Inj} {σ σ' : H} {w : World}

theorem good_append {t u e e2 esz bytes ty : Nat} {s s' x x' v z : Value} (hr : R ι σ w) (h : pAppend e esz bytes [s, x] σ = some (v, σ')) (hs : VR ι s s') (hx : VR ι x x') (ht : P.underlying t = some (.slice e)) (hu : P.underlying u = some (.slice e2))
    (he : szP P e = some esz) (hb : bytesT P e = some bytes) (hz : zeroT P e = some z) : Good P ι σ' (Builtin.append_ #[t, u] ty #[s', x']) w v := by
  obtain ⟨hsz, h0⟩ := szP_some he
  obtain ⟨i, hi, hib⟩ := bytesT_some hb
  cases s <;> simp only [pAppend] at h <;> try (cases h; done)
  rename_i base sLen sCap
  cases x <;> simp only [] at h <;> try (cases h; done)
  rename_i xb n xc
  split at h
  · cases h
  rename_i new hnew
  obtain ⟨hl, b, c', new', rfl, hv, hload⟩ := src_run (P := P) hr hnew hx
  refine good_tail hr h hs hv hl h0 hz hsz _ (fun b2 c2 hs2 hcond => ?_)
  subst hs2
  have hsr := run_sizeOf hsz
  have hinfo : ∀ w : World, (typeInfo e).run P w = .ok i w := fun w => by simp [typeInfo, hi]
  simp only [Builtin.append_, List.getElem?_toArray, List.getElem?_cons_zero, List.getElem?_cons_succ, Sem.run_bind, run_underlying ht, run_underlying hu, Result.andThen_ok, hsr, Sem.run_pure, Builtin.lenOf, Bool.false_eq_true, if_false]
  unfold appendTail
  by_cases hle : sLen + n ≤ c2
  · simp only [hle, if_true, Bool.not_false, Sem.run_bind, hload w rfl, Result.andThen_ok]
    cases b2 <;> simp
  · obtain ⟨k1, k2, k3, old', k4⟩ := hcond.resolve_left hle
    have hcap := nextcap_le (sLen + n) c2 k1
    have hroom : room = 140737488355328 := rfl
    have hbig : Builtin.nextslicecap (sLen + n) c2 * bytes ≤ 2 * (sLen + n) * bytes := Nat.mul_le_mul_right _ hcap
    have hbig2 : 2 * (sLen + n) * bytes = 2 * ((sLen + n) * bytes) := by rw [Nat.mul_assoc]
    have hn1 : (sLen + n) * 1 ≤ (sLen + n) * bytes := Nat.mul_le_mul_left _ k3
    have c1 : ¬ (Builtin.nextslicecap (sLen + n) c2 * bytes > 2 ^ 48) := by rw [show (2 : Nat) ^ 48 = 281474976710656 by rfl]; omega
    have c2' : ¬ bytes = 0 := by omega
    have hq : (Question.appendCap (sLen + n) c2 e).forced = false := rfl
    have hd : ({ w with drawn := w.drawn + 1 } : World) = w.drew := rfl
    have hzr := run_zeroValue' hz
    simp only [hle, if_false, hinfo, Result.andThen_ok, hib, c2', Bool.false_eq_true, false_or, and_false, Sem.run_bind, run_choose, hq, hd, run_askRoom, Bool.not_false, if_true, hzr, c1, Sem.run_pure, decide_false]
    simp only [k4, hload w.drew rfl, Result.andThen_ok]
theorem good_appendZ {t u e esz bytes ty : Nat} {k : IntKind} {s s' x x' v z : Value} (hr : R ι σ w) (h : pAppendZ e esz bytes z.cells.toList [s, x] σ = some (v, σ')) (hs : VR ι s s') (hx : VR ι x x') (ht : P.underlying t = some (.slice e)) (hu : P.underlying u = some (.int k))
    (he : szP P e = some esz) (hb : bytesT P e = some bytes) (hz : zeroT P e = some z) : Good P ι σ' (Builtin.append_ #[t, u] ty #[s', x']) w v := by
  obtain ⟨hsz, h0⟩ := szP_some he
  obtain ⟨i, hi, hib⟩ := bytesT_some hb
  cases s <;> simp only [pAppendZ] at h <;> try (cases h; done)
  rename_i base sLen sCap
  cases hx <;> simp only [] at h <;> try (cases h; done)
  rename_i k2 n
  rw [ltI_eq, ltI_eq] at h
  split at h
  case h_2 => cases h
  rename_i hn
  simp only [Bool.and_eq_true, nble, decide_eq_true_eq, Bool.not_eq_true', decide_eq_false_iff_not] at hn
  obtain ⟨m, rfl⟩ := Int.eq_ofNat_of_zero_le (show 0 ≤ n by omega)
  rw [Int.toNat_natCast] at h hn
  have hm : m < room := by omega
  have hzl := zeroT_size hz hsz
  have hzc : z.cells.size = esz := by rw [← Array.length_toList, cellsOf_eq]; exact hzl
  have hroom : room = 140737488355328 := rfl
  have hw : IntKind.i64.wrap (m : Int) = m := wrap_lt .i64 m (by show m < 9223372036854775808; omega)
  refine good_tail (new' := lrep z.cells.toList m) hr h hs (lrepVR (zeroVRs hz) m) (by rw [lrep_len, cellsOf_eq, hzl]) h0 hz hsz _ (fun b2 c2 hs2 hcond => ?_)
  subst hs2
  have hsr := run_sizeOf hsz
  have hinfo : ∀ w : World, (typeInfo e).run P w = .ok i w := fun w => by simp [typeInfo, hi]
  have hzr := run_zeroValue' hz
  have hnb : ((m : Int) < 0) = False := by simp
  have happ : ∀ w : World, ((if m * esz = 0 then pure #[] else do pure (Builtin.zeroCells (← zeroValue e).cells m) : Sem (Array Value))).run P w = .ok ⟨lrep z.cells.toList m⟩ w := by
    intro w
    split
    · rename_i hz0
      have : lrep z.cells.toList m = [] := List.eq_nil_of_length_eq_zero (by rw [lrep_len, cellsOf_eq, hzl, hz0])
      rw [this]; rfl
    · have hl : z.cells.toList.length = esz := by rw [cellsOf_eq]; exact hzl
      have := lrep_eq z.cells.toList m (by rw [hl]; omega)
      simp only [Sem.run_bind, hzr, Result.andThen_ok, Sem.run_pure]
      congr 1
      rw [← this]
      apply Array.ext'
      simp [Builtin.zeroCells]
  have hbig : ¬ (m : Int) * i.bytes > 2 ^ 48 := by
    rw [hib, show (2 : Int) ^ 48 = 281474976710656 by rfl, ← Int.natCast_mul]
    omega
  · simp only [Builtin.append_, List.getElem?_toArray, List.getElem?_cons_zero, List.getElem?_cons_succ, Sem.run_bind, run_underlying ht, run_underlying hu, Result.andThen_ok, hsr, Sem.run_pure, asInt, asIntOf, if_true, hw, hnb, if_false, hinfo, hbig, Int.toNat_natCast]
    unfold appendTail
    by_cases hle : sLen + m ≤ c2
    · simp only [hle, if_true, Bool.not_true, Bool.false_eq_true, if_false, Sem.run_bind, happ, Result.andThen_ok]
      cases b2 <;> simp
    · obtain ⟨k1, k2, k3, old', k4⟩ := hcond.resolve_left hle
      have hcap := nextcap_le (sLen + m) c2 k1
      have hbig : Builtin.nextslicecap (sLen + m) c2 * bytes ≤ 2 * (sLen + m) * bytes := Nat.mul_le_mul_right _ hcap
      have hbig2 : 2 * (sLen + m) * bytes = 2 * ((sLen + m) * bytes) := by rw [Nat.mul_assoc]
      have hn1 : (sLen + m) * 1 ≤ (sLen + m) * bytes := Nat.mul_le_mul_left _ k3
      have c1 : ¬ (Builtin.nextslicecap (sLen + m) c2 * bytes > 2 ^ 48) := by rw [show (2 : Nat) ^ 48 = 281474976710656 by rfl]; omega
      have c63 : ¬ (((sLen + m : Nat) : Int) > IntKind.i64.max) := by
        rw [show IntKind.i64.max = 9223372036854775807 by rfl]; omega
      have hq : (Question.appendCap (sLen + m) c2 e).forced = false := rfl
      have hd : ({ w with drawn := w.drawn + 1 } : World) = w.drew := rfl
      simp only [hle, if_false, hinfo, Result.andThen_ok, hib, Bool.false_eq_true, Sem.run_bind, run_choose, hq, hd, run_askRoom, Bool.not_true, hzr, c1, c63, false_and, Sem.run_pure, decide_false, k4, happ]

theorem good_copy {t u e e2 esz ty : Nat} {s s' x x' v : Value} (hr : R ι σ w) (h : pCopy esz [s, x] σ = some (v, σ')) (hs : VR ι s s') (hx : VR ι x x') (ht : P.underlying t = some (.slice e)) (he : szP P e = some esz) :
    Good P ι σ' (Builtin.copy_ #[t, u] ty #[s', x']) w v := by
  obtain ⟨hsz, h0⟩ := szP_some he
  have hsr := run_sizeOf hsz
  cases s <;> simp only [pCopy] at h <;> try (cases h; done)
  rename_i base dLen dCap
  cases x <;> simp only [] at h <;> try (cases h; done)
  rename_i xb n xc
  split at h
  · cases h
  rename_i new hnew
  obtain ⟨hl, b, c', new', rfl, hv, hload⟩ := src_run (P := P) hr hnew hx
  have hdef : ∀ b2 c2, (Builtin.copy_ #[t, u] ty #[.slice b2 dLen c2, .slice b n c']).run P w = ((do
      if let some a := b2 then storeCells a new'
      pure (goInt (Nat.min n dLen)) : Sem Value)).run P w := by
    intro b2 c2
    simp only [Builtin.copy_, List.getElem?_toArray, List.getElem?_cons_zero, List.getElem?_cons_succ, Sem.run_bind, run_underlying ht, Result.andThen_ok, Builtin.lenOf, Sem.run_pure, hsr]
    have hcells : (Builtin.firstCells esz (Nat.min n dLen) (.slice b n c')).run P w = .ok ⟨new'⟩ w := hload w rfl
    rw [hcells]
    cases b2 <;> simp
  split at h
  · simp only [Option.some.injEq, Prod.mk.injEq] at h
    obtain ⟨rfl, rfl⟩ := h
    cases hs
    exact Good.pure hr (by rw [hdef]; rfl) (.int _ _)
  · rename_i a
    split at h
    · simp only [Option.some.injEq, Prod.mk.injEq] at h
      obtain ⟨rfl, rfl⟩ := h
      cases hv
      cases hs <;> exact Good.pure hr (by rw [hdef]; rfl) (.int _ _)
    · split at h
      · rename_i σ1 hw
        simp only [Option.some.injEq, Prod.mk.injEq] at h
        obtain ⟨rfl, rfl⟩ := h
        cases hs with
        | void o a' c hsp =>
          exfalso
          unfold wrCells at hw
          simp only [] at hw
          split at hw
          · rename_i hg; exact absurd (hr.zeroGet hg) (by simp)
          · cases hw
        | @slice A o _ _ bk h0' hA =>
          obtain ⟨_, h1, h2, h3, h4⟩ := hr.write hw hv hA
          refine ⟨ι, .int .i64 (Nat.min n dLen), _, ?_, .int _ _, h3, h4⟩
          rw [hdef]
          have hrun := run_storeCells_cells (P := P) bk.blk (bk.base + o) new' 0 w (fun j hj => by simpa using (h1 j hj).1) (fun j hj => by simpa using (h1 j hj).2) h2
          rw [Nat.add_zero] at hrun
          simp [hrun, goInt]
      · cases h
theorem good_clearS {t e esz ty : Nat} {ts : Array Nat} {s s' v z : Value} (hr : R ι σ w) (h : pClearS z.cells.toList [s] σ = some (v, σ')) (hs : VR ι s s') (ht : P.underlying t = some (.slice e)) (hz : zeroT P e = some z) (hsz : szT P e = some esz) (h0 : esz ≠ 0) (hts : ts[0]? = some t) :
    Good P ι σ' (Builtin.clear_ ts ty #[s']) w v := by
  have hzl := zeroT_size hz hsz
  have hl : z.cells.toList.length = esz := by rw [cellsOf_eq]; exact hzl
  have hzr := run_zeroValue' hz
  have hdef : ∀ a n c, n ≠ 0 → (Builtin.clear_ ts ty #[.slice (some a) n c]).run P w = ((do storeCells a (lrep z.cells.toList n); pure (.tuple #[]) : Sem Value)).run P w := by
    intro a n c hn
    have := lrep_eq z.cells.toList n (by rw [hl]; omega)
    have hzc : (Builtin.zeroCells z.cells n).toList = lrep z.cells.toList n := by
      rw [← this]; simp [Builtin.zeroCells]
    simp only [Builtin.clear_, hts, List.getElem?_toArray, List.getElem?_cons_zero, Sem.run_bind, run_underlying ht, Result.andThen_ok]
    cases n with
    | zero => exact absurd rfl hn
    | succ n => simp only [Sem.run_bind, hzr, Result.andThen_ok, hzc]
  have none_ : ∀ a n c, (a = none ∨ n = 0) → (Builtin.clear_ ts ty #[.slice a n c]).run P w = .ok (.tuple #[]) w := by
    intro a n c hh
    simp only [Builtin.clear_, hts, List.getElem?_toArray, List.getElem?_cons_zero, Sem.run_bind, run_underlying ht, Result.andThen_ok]
    rcases hh with rfl | rfl
    · rfl
    · cases a <;> rfl
  cases s <;> simp only [pClearS] at h <;> try (cases h; done)
  rename_i a n c
  split at h
  · simp only [Option.some.injEq, Prod.mk.injEq] at h
    obtain ⟨rfl, rfl⟩ := h
    cases hs
    exact Good.pure hr (none_ _ _ _ (.inl rfl)) (.tuple .nil)
  · simp only [Option.some.injEq, Prod.mk.injEq] at h
    obtain ⟨rfl, rfl⟩ := h
    cases hs <;> exact Good.pure hr (none_ _ _ _ (.inr rfl)) (.tuple .nil)
  · rename_i a n hn
    split at h
    · rename_i σ1 hw
      simp only [Option.some.injEq, Prod.mk.injEq] at h
      obtain ⟨rfl, rfl⟩ := h
      cases hs with
      | void o a' c hsp => exact absurd rfl (hn)
      | @slice A o _ _ bk h0' hA =>
        obtain ⟨_, h1, h2, h3, h4⟩ := hr.write hw (lrepVR (zeroVRs hz) _) hA
        refine ⟨ι, .tuple #[], _, ?_, .tuple .nil, h3, h4⟩
        rw [hdef _ _ _ (by intro e; exact hn e)]
        have hrun := run_storeCells_cells (P := P) bk.blk (bk.base + o) _ 0 w (fun j hj => by simpa using (h1 j hj).1) (fun j hj => by simpa using (h1 j hj).2) h2
        rw [Nat.add_zero] at hrun
        simp [hrun]
    · cases h
theorem good_arrPtr {t e n : Nat} {x x' v : Value} (hr : R ι σ w) (h : pArrPtr n [x] σ = some (v, σ')) (hx : VR ι x x') (ht : P.underlying t = some (.array n e)) : GoodQ P ι (Instr.arrayAt t x') v ∧ σ' = σ := by
  cases hx <;> simp only [pArrPtr] at h <;> try (cases h; done)
  · rename_i A o m c bk h0 hA
    rw [nble, nbeq] at h
    split at h
    · rename_i hc
      simp at hc h
      obtain ⟨rfl, rfl⟩ := h
      exact ⟨⟨_, fun w => by simp [Instr.arrayAt, run_underlying ht, show ¬ m < n by omega], .ptr hA⟩, rfl⟩
    · cases h
  · rw [nble, nbeq] at h
    split at h
    · rename_i hc; simp at hc
    · cases h
theorem toBytes_eq : ∀ (l : List Value) (s r : ByteArray), toBytes l s = some r → ∃ ns : List Int, l = ns.map (Value.int .u8) ∧ r = ns.foldl (fun r n => r.push (UInt8.ofNat n.toNat)) s
  | [], s, r, h => by simp [toBytes] at h; exact ⟨[], rfl, h.symm⟩
  | v :: l, s, r, h => by
    unfold toBytes at h
    split at h
    · rename_i he; cases he
    · rename_i n r' he
      cases he
      obtain ⟨ns, h1, h2⟩ := toBytes_eq _ _ r h
      exact ⟨n :: ns, by rw [h1]; rfl, h2⟩
    · cases h
theorem good_toStr {s d e : Nat} {x x' v : Value} (hr : R ι σ w) (h : pToStr [x] σ = some (v, σ')) (hx : VR ι x x') (hs : P.underlying s = some (.slice e)) (he : P.underlying e = some (.int .u8)) (hd : P.underlying d = some .string) :
    (convert s d x').run P w = .ok v w ∧ VR ι v v ∧ σ' = σ := by
  cases x <;> simp only [pToStr] at h <;> try (cases h; done)
  rename_i a n c
  split at h
  · cases h
  rename_i l hl
  split at h
  · rename_i r hr2
    simp only [Option.some.injEq, Prod.mk.injEq] at h
    obtain ⟨rfl, rfl⟩ := h
    obtain ⟨ns, rfl, rfl⟩ := toBytes_eq _ _ _ hr2
    obtain ⟨hlen, b, c', new', rfl, hv, hload⟩ := src_run (P := P) hr hl hx
    have hnew : new' = ns.map (Value.int .u8) := by
      have : ∀ (ns : List Int) (l' : List Value), VRs ι (ns.map (Value.int .u8)) l' → l' = ns.map (Value.int .u8) := by
        intro ns
        induction ns with
        | nil => intro l' h; cases h; rfl
        | cons n ns ih => intro l' h; cases h with | cons h1 h2 => cases h1; rw [ih _ h2]; rfl
      exact this ns new' hv
    subst hnew
    refine ⟨?_, .string _, rfl⟩
    rw [run_convert_bytes_string w s d e b n c' hs he hd]
    cases b with
    | none =>
      cases hx
      have : n = 0 := by
        cases n with
        | zero => rfl
        | succ n => simp [srcCells] at hl
      subst this
      simp at hlen
      subst hlen
      rfl
    | some a' =>
      refine run_bytesToString w a' n c' ns ?_
      have := hload w rfl
      simpa [Builtin.firstCells] using this
  · cases h
theorem good_newMap {v : Value} {sem : Sem Value} (hr : R ι σ w) (h : pNewMap [] σ = some (v, σ')) (hsem : sem.run P w = .ok (.map (some w.heap.size)) (w.alloc (.map #[] 0))) : Good P ι σ' sem w v := by
  simp only [pNewMap, Option.some.injEq, Prod.mk.injEq] at h
  obtain ⟨rfl, rfl⟩ := h
  obtain ⟨h1, h2⟩ := hr.made (.map [] 0) (.map #[] 0) ⟨w.heap.size, 0, 0, 0, 0, false⟩ rfl rfl ⟨#[], heap_alloc_new _ _, rfl, .nil⟩
  exact ⟨_, _, _, hsem, .map (Inj.set_same _ _ _), h2, h1⟩
theorem good_newSlice {t e esz bytes : Nat} {l l' c c' v z : Value} (hr : R ι σ w) (h : pNewSlice e esz bytes z.cells.toList [l, c] σ = some (v, σ')) (hl : VR ι l l') (hc : VR ι c c') (ht : P.underlying t = some (.slice e)) (hsz : szT P e = some esz) (hb : bytesT P e = some bytes) (hz : zeroT P e = some z) :
    Good P ι σ' (Instr.makeSlice t l' c') w v := by
  obtain ⟨i, hi, hib⟩ := bytesT_some hb
  have hzl := zeroT_size hz hsz
  have hll : z.cells.toList.length = esz := by rw [cellsOf_eq]; exact hzl
  have hzr := run_zeroValue' hz
  simp only [pNewSlice] at h
  split at h
  case h_2 => cases h
  rename_i k1 l k2 c
  cases hl; cases hc
  split at h
  case h_2 => cases h
  rename_i hchk
  simp only [Bool.and_eq_true, Bool.not_eq_true', ltI_eq, nble, decide_eq_true_eq, decide_eq_false_iff_not] at hchk
  obtain ⟨⟨⟨q1, q2⟩, q3⟩, q4⟩ := hchk
  obtain ⟨L, rfl⟩ := Int.eq_ofNat_of_zero_le (show 0 ≤ l by omega)
  obtain ⟨C, rfl⟩ := Int.eq_ofNat_of_zero_le (show 0 ≤ c by omega)
  simp only [Int.toNat_natCast, Option.some.injEq, Prod.mk.injEq] at h q3
  obtain ⟨rfl, rfl⟩ := h
  have hroom : room = 140737488355328 := rfl
  have hC : C * 1 ≤ C * bytes := Nat.mul_le_mul_left _ q4
  have w1 : IntKind.i64.wrap (L : Int) = L := wrap_lt .i64 L (by show L < 9223372036854775808; omega)
  have w2 : IntKind.i64.wrap (C : Int) = C := wrap_lt .i64 C (by show C < 9223372036854775808; omega)
  refine good_row (v' := fun w => .slice (some ⟨w.heap.size, 0, none⟩) L C) .exact (by simp) hr (lrepVR (zeroVRs hz) C) rfl ?_ (fun ι' h => by
    have := VR.slice (o := 0) (n := L) (c := C) (by have := hr.pos; omega) h
    simpa [capOf] using this)
  have hinfo : ∀ w : World, (typeInfo e).run P w = .ok i w := fun w => by simp [typeInfo, hi]
  have d1 : (decide ((C : Int) < 0) || decide (((i.bytes : Int) * C) > 2 ^ 48)) = false := by
    rw [hib, show (2 : Int) ^ 48 = 281474976710656 by rfl, ← Int.natCast_mul, Nat.mul_comm]
    simp; omega
  have d2 : decide ((L : Int) < 0) = false := by simp
  have d3 : decide ((L : Int) > C) = false := by simp; omega
  have hcells : ((Array.range (C * esz)).map fun x => (if C * esz = 0 then #[] else z.cells)[x % (if C * esz = 0 then #[] else z.cells).size]!) = ⟨lrep z.cells.toList C⟩ := by
    by_cases h0 : C * esz = 0
    · rw [if_pos h0, h0]
      have : lrep z.cells.toList C = [] := List.eq_nil_of_length_eq_zero (by rw [lrep_len, hll, h0])
      rw [this]; simp
    · rw [if_neg h0]
      have := lrep_eq z.cells.toList C (by rw [hll]; rcases Nat.eq_zero_or_pos esz with h | h <;> first | exact h | (exact absurd (by rw [h, Nat.mul_zero]) h0))
      rw [← this, hll]
      apply Array.ext'
      simp
      intro a _
      rw [show z.cells.size = esz by simpa using hll]
  simp only [Instr.makeSlice, Sem.run_bind, run_underlying ht, Result.andThen_ok, asInt, asIntOf, Sem.run_pure, hinfo, w1, w2, d1, d2, d3, Bool.or_self, Bool.false_eq_true, if_false, run_askRoom, run_sizeOf hsz, Int.toNat_natCast]
  by_cases h0 : C * esz = 0
  · rw [if_pos h0] at hcells
    simp only [h0, if_true, Sem.run_pure, Sem.run_bind, Result.andThen_ok] at hcells ⊢
    rw [hcells]
    simp [newRow]
  · rw [if_neg h0] at hcells
    simp only [h0, if_false, Sem.run_pure, Sem.run_bind, hzr, Result.andThen_ok] at hcells ⊢
    rw [hcells]
    simp [newRow]
theorem good_cap {t e : Nat} {ts : Array Nat} {ty : Nat} {x x' v : Value} (hr : R ι σ w) (h : pCap [x] σ = some (v, σ')) (hx : VR ι x x') (ht : P.underlying t = some (.slice e)) (hts : ts[0]? = some t) :
    (Builtin.cap_ ts ty #[x']).run P w = .ok v w ∧ VR ι v v ∧ σ' = σ := by
  have hdef : ∀ a n c, (Builtin.cap_ ts ty #[.slice a n c]).run P w = .ok (.int .i64 c) w := by
    intro a n c
    simp only [Builtin.cap_, hts, List.getElem?_toArray, List.getElem?_cons_zero, Sem.run_bind, run_underlying ht, Result.andThen_ok]
    rfl
  cases hx <;> simp only [pCap] at h <;> try (cases h; done)
  · simp only [Option.some.injEq, Prod.mk.injEq] at h
    obtain ⟨rfl, rfl⟩ := h
    exact ⟨hdef _ _ _, .int _ _, rfl⟩
  · rename_i A o n c bk h0 hA
    split at h
    · cases h
    · rename_i hc
      simp only [Bool.or_eq_false_iff, nbeq] at hc
      simp only [Option.some.injEq, Prod.mk.injEq] at h
      obtain ⟨rfl, rfl⟩ := h
      have hcap : capOf bk o c = c := by
        have h2 := hc.2
        unfold atEnd at h2
        simp only [] at h2
        split at h2
        · rename_i cs e' s hg
          obtain ⟨bk', i1, blk, fz, te, hcc⟩ := hr.obj _ _ hg (by simp)
          rw [hA] at i1; cases i1
          rw [nbeq] at h2
          exact hcc.capOf_eq (by simp at h2; simp [h2])
        · rename_i cs e' s m hno hg
          obtain ⟨bk', i1, blk, fz, te, hcc⟩ := hr.obj _ _ hg (by simp)
          rw [hA] at i1; cases i1
          have hm : m ≠ .grown := fun e => by subst e; simp at hno
          exact hcc.capOf_eq (by simp [hm])
        · cases h2
      refine ⟨?_, .int _ _, rfl⟩
      rw [hdef, hcap]
theorem good_mapsClone {x x' v : Value} (hr : R ι σ w) (h : pMapsClone [x] σ = some (v, σ')) (hx : VR ι x x') : Good P ι σ' (Extern.MapsClone.clone #[x']) w v := by
  cases hx <;> simp only [pMapsClone] at h <;> try (cases h; done)
  rename_i t u u' hu
  cases hu <;> simp only [] at h <;> try (cases h; done)
  rename_i A bk hA
  split at h
  case h_2 => cases h
  rename_i es clk hg
  simp only [Option.some.injEq, Prod.mk.injEq] at h
  obtain ⟨rfl, rfl⟩ := h
  obtain ⟨bk', i1, es', g1, g2, g3⟩ := hr.obj _ _ hg (by simp)
  rw [hA] at i1; cases i1
  obtain ⟨h1, h2⟩ := hr.made (.map es clk) (.map es' clk) ⟨w.heap.size, 0, 0, 0, 0, false⟩ rfl rfl ⟨es', heap_alloc_new _ _, rfl, g3.mono (Inj.set_sub hr.fresh)⟩
  refine ⟨_, .iface t (.map (some w.heap.size)), _, ?_, .iface t (.map (Inj.set_same _ _ _)), h2, h1⟩
  show ((do
    let .map entries clock ← getObj bk.blk | stuck "maps.clone: a map expected"
    pure (.iface t (.map (some (← newObj (.map entries clock))))) : Sem Value)).run P w = _
  simp only [Sem.run_bind, run_getObj_map g1, Result.andThen_ok, run_newObj, Sem.run_pure]
  rfl
end
end AM
end Go.Proofs.YtlelihddjacplaaGreat
namespace Go.Proofs.YtlelihddjacplaaGreat
namespace AM
section
variable {P : Program} {ι : Inj} {σ σ' : H} {w : World}

/-- The slots that are known hold what is known of them. -/
def EnvR (ι : Inj) (e : Env) (tmps : Array Value) : Prop := ∀ t v, e.get t = some v → t < 1000000 → ∃ v', tmps[t]? = some v' ∧ VR ι v v'
theorem EnvR.mono {ι ι' : Inj} (hs : Sub ι ι') {e : Env} {tmps : Array Value} (h : EnvR ι e tmps) : EnvR ι' e tmps := fun t v hv hlt => let ⟨v', a, b⟩ := h t v hv hlt; ⟨v', a, b.mono hs⟩
theorem Env.get_cons (k : Nat) (v : Value) (e : Env) (i : Nat) : Env.get ((k, v) :: e) i = if k = i then some v else Env.get e i := by
  simp only [Env.get, nbeq]
  by_cases h : k = i <;> simp [h]
theorem Env.get_put (e : Env) (d : Option Nat) (v : Value) (i : Nat) : (Env.put e d v).get i = if d = some i then some v else e.get i := by
  cases d with
  | none => simp [Env.put]
  | some d => simp only [Env.put, Env.get_cons, Option.some.injEq]
theorem EnvR.put {e : Env} {a : Act} {d : Option Nat} {v v' : Value} (h : EnvR ι e a.tmps) (hd : ∀ k, d = some k → k < a.tmps.size) (hv : VR ι v v') : EnvR ι (Env.put e d v) (a.put d v').tmps := by
  intro t u hu hlt
  rw [Env.get_put] at hu
  cases d with
  | none => exact h t u (by simpa using hu) hlt
  | some k =>
    simp only [Act.put]
    split at hu
    · rename_i he
      cases he
      cases hu
      exact ⟨v', by rw [Array.getElem?_setIfInBounds_self_of_lt (hd _ rfl)], hv⟩
    · rename_i he
      obtain ⟨u', h1, h2⟩ := h t u hu hlt
      refine ⟨u', ?_, h2⟩
      rw [Array.getElem?_setIfInBounds_ne (by intro e2; exact he (by rw [e2]))]
      exact h1
theorem EnvR.ev {e : Env} {a : Act} {x : Operand} {d : Opd} {v : Value} (h : EnvR ι e a.tmps) (hx : opdOf x = some d) (hv : e.ev d = some v) (hlt : ∀ i, d = .t i → i < 1000000) : VR ι v (a.eval x) := by
  cases d with
  | c c =>
    simp only [Env.ev, Option.some.injEq] at hv
    subst hv
    exact opd_const hx a
  | t i =>
    cases x with
    | tmp t =>
      simp only [opdOf, Option.some.injEq, Opd.t.injEq] at hx
      subst hx
      obtain ⟨v', h1, h2⟩ := h t v hv (hlt t rfl)
      simpa [Act.eval, Array.getD_eq_getD_getElem?, h1] using h2
    | const c => simp only [opdOf] at hx; split at hx <;> simp at hx
    | global g => simp [opdOf] at hx
    | func f => simp [opdOf] at hx
theorem evs_cons {e : Env} {d : Opd} {ds : List Opd} {vs : List Value} (h : e.evs (d :: ds) = some vs) : ∃ v r, vs = v :: r ∧ e.ev d = some v ∧ e.evs ds = some r := by
  simp only [Env.evs] at h
  split at h
  · cases h
  · split at h
    · cases h; exact ⟨_, _, rfl, by assumption, by assumption⟩
    · cases h
theorem evs_append {e : Env} : ∀ {ds es : List Opd} {vs : List Value}, e.evs (ds ++ es) = some vs → ∃ a b, vs = a ++ b ∧ e.evs ds = some a ∧ e.evs es = some b
  | [], es, vs, h => ⟨[], vs, rfl, rfl, h⟩
  | d :: ds, es, vs, h => by
    obtain ⟨v, r, rfl, h1, h2⟩ := evs_cons h
    obtain ⟨a, b, rfl, h3, h4⟩ := evs_append h2
    exact ⟨v :: a, b, rfl, by simp [Env.evs, h1, h3], h4⟩
theorem evs_nil {e : Env} {vs : List Value} (h : e.evs [] = some vs) : vs = [] := by simpa [Env.evs] using h.symm
theorem opdLt_t {d : Opd} (h : opdLt d = true) : ∀ i, d = .t i → i < 1000000 := by
  rintro i rfl
  simpa [opdLt, nblt] using h
theorem EnvR.evs {e : Env} {a : Act} (h : EnvR ι e a.tmps) : ∀ {xs : List Operand} {ds : List Opd} {vs : List Value}, xs.mapM opdOf = some ds → e.evs ds = some vs → ds.all opdLt = true → VRs ι vs (xs.map a.eval)
  | [], ds, vs, hx, hv, hl => by
    simp at hx; subst hx
    rw [evs_nil hv]; exact .nil
  | x :: xs, ds, vs, hx, hv, hl => by
    rw [List.mapM_cons] at hx
    simp only [Option.bind_eq_bind] at hx
    obtain ⟨d, h1, h2⟩ := Option.bind_eq_some_iff.1 hx
    obtain ⟨ds', h3, h4⟩ := Option.bind_eq_some_iff.1 h2
    simp at h4; subst h4
    obtain ⟨v, r, rfl, h5, h6⟩ := evs_cons hv
    simp only [List.all_cons, Bool.and_eq_true] at hl
    exact .cons (h.ev h1 h5 (opdLt_t hl.1)) (h.evs h3 h6 hl.2)

theorem toList_optmap {α β : Type} (f : α → β) (o : Option α) : (o.map f).toList = o.toList.map f := by cases o <;> rfl
theorem VRs.two {a b : Value} {l : List Value} (h : VRs ι [a, b] l) : ∃ a' b', l = [a', b'] ∧ VR ι a a' ∧ VR ι b b' := by
  cases h with
  | cons h1 h2 => cases h2 with
    | cons h3 h4 => cases h4; exact ⟨_, _, rfl, h1, h3⟩
theorem VRs.one {a : Value} {l : List Value} (h : VRs ι [a] l) : ∃ a', l = [a'] ∧ VR ι a a' := by
  cases h with
  | cons h1 h2 => cases h2; exact ⟨_, rfl, h1⟩
/-- The arguments of a call. -/
theorem call_args {xs : Array Operand} {ds : List Opd} {e : Env} {a : Act} {vs : List Value} (hx : xs.toList.mapM opdOf = some ds) (he : EnvR ι e a.tmps) (hv : e.evs ds = some vs) (hl : ds.all opdLt = true) : ∃ l, xs.map a.eval = ⟨l⟩ ∧ VRs ι vs l :=
  ⟨xs.toList.map a.eval, Array.ext' (by simp), he.evs hx hv hl⟩
def constsOf (c : Call) : Array Bool := c.args.map fun | .const _ => true | _ => false
theorem exec_builtin {ρ : Operand → Value} {c : Call} {b : Builtin} {dst ty pos after guard} (h : c.callee = .builtin b) : execOp ρ ⟨dst, .call c, ty, pos, after, guard⟩ = builtin b c.argTypes ty (constsOf c) (c.args.map ρ) := by
  simp only [execOp, resolve, h]
  rfl
theorem exec_func {a : Act} {c : Call} {f : Nat} {dst ty pos after guard} (h : c.callee = .value (.func f)) : execOp a.eval ⟨dst, .call c, ty, pos, after, guard⟩ = callFunc f (c.args.map a.eval) := by
  simp only [execOp, resolve, h, Act.eval, Deferred.ofValue]
  show callFunc f ((#[] ++ c.args.map a.eval) ++ #[]) = _
  simp
/-- A quiet operation: it answers the same whatever the world. -/
def QuietOp (P : Program) (ι : Inj) (ρ : Operand → Value) (o : Oper) (v : Value) : Prop := ∃ v', (∀ w, (execOp ρ o).run P w = .ok (.value v') w) ∧ VR ι v v'
theorem QuietOp.of {ρ : Operand → Value} {o : Oper} {v : Value} {s : Sem Value} (h : GoodQ P ι s v) (he : execOp ρ o = (do pure (.value (← s)))) : QuietOp P ι ρ o v := by
  obtain ⟨v', h1, h2⟩ := h
  exact ⟨v', fun w => by rw [he, Sem.run_bind, h1]; rfl, h2⟩
theorem QuietOp.of_run {ρ : Operand → Value} {o : Oper} {v : Value} {s : Sem Value} (h : (∀ w, s.run P w = .ok v w) ∧ VR ι v v) (he : execOp ρ o = (do pure (.value (← s)))) : QuietOp P ι ρ o v :=
  .of ⟨v, h.1, h.2⟩ he

/-- Does an operation look at the heap? -/
def looks : Prim → Bool
  | .load .. | .toStr | .lookup .. | .lenM | .eqPtr _ => true
  | _ => false
theorem und_some {t : Nat} {d : TypeDesc} (h : P.underlying t = some d) : (P.underlying t).isSome = true := by rw [h]; rfl
theorem szT_und {t n : Nat} (h : szT P t = some n) : True := trivial

/-- What is asked of the program's tables. -/
structure Tables (P : Program) : Prop where
  mixed : P.follows .mixedOrders = true
  und : ∀ t : Nat, t < P.types.size → (P.info? t).isSome = true → (P.underlying t).isSome = true
  fields : ∀ (t : Nat) (fs : Array Field), t < P.types.size → P.underlying t = some (.struct fs) → ∀ i (hi : i < fs.size), (szT P fs[i].type).isSome = true
  bits : ∀ (f : Nat) (fn : Go.Func), P.funcs[f]? = some fn → fn.body = none → fn.name = "math.Float64bits" → ∀ (b : Nat) (w : World), (callFunc f #[.float .f64 b]).run P w = .ok (.value (.int .u64 b)) w
  from_ : ∀ (f : Nat) (fn : Go.Func), P.funcs[f]? = some fn → fn.body = none → fn.name = "math.Float64frombits" → ∀ (n : Int) (w : World), (callFunc f #[.int .u64 n]).run P w = .ok (.value (.float .f64 n.toNat)) w
  clone : ∀ (f : Nat) (fn : Go.Func), P.funcs[f]? = some fn → fn.body = none → fn.name = "maps.clone" → ∀ (x : Value) (w : World), (callFunc f #[x]).run P w = ((Extern.MapsClone.clone #[x]).run P w).andThen fun v w' => .ok (.value v) w'
theorem Tables.size (T : Tables P) {t n : Nat} (h : szT P t = some n) : (P.underlying t).isSome = true := T.und _ (szT_lt h) (by obtain ⟨i, hi, _⟩ := szT_some h; rw [hi]; rfl)

theorem arg1 {x : Operand} {q p : Prim} {args : List Opd} {e : Env} {a : Act} {vs : List Value} (hc : (opdOf x).bind (fun d => some (q, [d])) = some (p, args)) (he : EnvR ι e a.tmps) (hv : e.evs args = some vs) (hlt : args.all opdLt = true) :
    p = q ∧ ∃ v, vs = [v] ∧ VR ι v (a.eval x) := by
  obtain ⟨d, h1, h2⟩ := Option.bind_eq_some_iff.1 hc
  simp at h2; obtain ⟨rfl, rfl⟩ := h2
  obtain ⟨u, r, rfl, e1, e2⟩ := evs_cons hv
  have := evs_nil e2; subst this
  simp at hlt
  exact ⟨rfl, u, rfl, he.ev h1 e1 (opdLt_t hlt)⟩
theorem arg2 {x y : Operand} {q p : Prim} {args : List Opd} {e : Env} {a : Act} {vs : List Value} (hc : (opdOf x).bind (fun d => (opdOf y).bind fun d2 => some (q, [d, d2])) = some (p, args)) (he : EnvR ι e a.tmps) (hv : e.evs args = some vs) (hlt : args.all opdLt = true) :
    p = q ∧ ∃ v u, vs = [v, u] ∧ VR ι v (a.eval x) ∧ VR ι u (a.eval y) := by
  obtain ⟨d, h1, h2⟩ := Option.bind_eq_some_iff.1 hc
  obtain ⟨d2, h3, h4⟩ := Option.bind_eq_some_iff.1 h2
  simp at h4; obtain ⟨rfl, rfl⟩ := h4
  obtain ⟨u, r, rfl, e1, e2⟩ := evs_cons hv
  obtain ⟨u2, r2, rfl, e3, e4⟩ := evs_cons e2
  have := evs_nil e4; subst this
  simp at hlt
  exact ⟨rfl, u, u2, rfl, he.ev h1 e1 (opdLt_t hlt.1), he.ev h3 e3 (opdLt_t hlt.2)⟩
theorem arg3 {x y z : Operand} {q p : Prim} {args : List Opd} {e : Env} {a : Act} {vs : List Value} (hc : (opdOf x).bind (fun d => (opdOf y).bind fun d2 => (opdOf z).bind fun d3 => some (q, [d, d2, d3])) = some (p, args)) (he : EnvR ι e a.tmps) (hv : e.evs args = some vs) (hlt : args.all opdLt = true) :
    p = q ∧ ∃ v u t, vs = [v, u, t] ∧ VR ι v (a.eval x) ∧ VR ι u (a.eval y) ∧ VR ι t (a.eval z) := by
  obtain ⟨d, h1, h2⟩ := Option.bind_eq_some_iff.1 hc
  obtain ⟨d2, h3, h4⟩ := Option.bind_eq_some_iff.1 h2
  obtain ⟨d3, h5, h6⟩ := Option.bind_eq_some_iff.1 h4
  simp at h6; obtain ⟨rfl, rfl⟩ := h6
  obtain ⟨u, r, rfl, e1, e2⟩ := evs_cons hv
  obtain ⟨u2, r2, rfl, e3, e4⟩ := evs_cons e2
  obtain ⟨u3, r3, rfl, e5, e6⟩ := evs_cons e4
  have := evs_nil e6; subst this
  simp at hlt
  exact ⟨rfl, u, u2, u3, rfl, he.ev h1 e1 (opdLt_t hlt.1), he.ev h3 e3 (opdLt_t hlt.2.1), he.ev h5 e5 (opdLt_t hlt.2.2)⟩
theorem isC_of_nil {k : NK} {y : Operand} (h : nilOf k y = true) : ∃ c, y = .const c ∧ nilOf k (.const c) = true := by
  cases y <;> cases k <;> simp [nilOf] at h ⊢
  all_goals exact h
/-- '==' and '!=' behind the look that goes ahead. -/
theorem QuietOp.binop {op : BinOp} {t yt : Nat} {x y : Operand} {a : Act} {v : Value} {dst ty pos after guard} (h1 : ∀ w : World, (eqGuard op t x y (a.eval x) (a.eval y)).run P w = .ok () w) (h2 : ∀ w, (binOp op t (a.eval x) (a.eval y)).run P w = .ok v w) (h3 : VR ι v v) :
    QuietOp P ι a.eval ⟨dst, .binOp op t x y yt, ty, pos, after, guard⟩ v :=
  ⟨v, fun w => by simp only [execOp, Sem.run_bind, h1, h2, Result.andThen_ok, Sem.run_pure], h3⟩

theorem eqStr_shape {neg : Bool} {x y x' v : Value} (h : pEqStr neg [x, y] σ = some (v, σ')) (hx : VR ι x x') : (∀ c, x' ≠ .agg c) ∧ x' ≠ .nilIface := by
  cases hx <;> simp only [pEqStr] at h <;> try (cases h; done)
  exact ⟨by simp, by simp⟩
theorem eqBool_shape {neg : Bool} {x y x' v : Value} (h : pEqBool neg [x, y] σ = some (v, σ')) (hx : VR ι x x') : (∀ c, x' ≠ .agg c) ∧ x' ≠ .nilIface := by
  cases hx <;> simp only [pEqBool] at h <;> try (cases h; done)
  exact ⟨by simp, by simp⟩
theorem isC_nil {k : NK} {y : Operand} (h : nilOf k y = true) : isC y = true := by
  cases y <;> cases k <;> simp [nilOf] at h ⊢ <;> rfl
theorem quiet_nil {neg : Bool} {d : TypeDesc} {t yt : Nat} {x y : Operand} {p : Prim} {args : List Opd} {e : Env} {a : Act} {vs : List Value} {v : Value} {dst ty pos after guard} (ht : P.underlying t = some d) (hc : compNil P neg d x y = some (p, args)) (he : EnvR ι e a.tmps) (hv : e.evs args = some vs) (hlt : args.all opdLt = true)
    (hl : looks p = false) (h : prim p vs σ = some (v, σ')) (w : World) : QuietOp P ι a.eval ⟨dst, .binOp (eqOp neg) t x y yt, ty, pos, after, guard⟩ v ∧ σ' = σ := by
  unfold compNil at hc
  simp only [Option.bind_eq_bind] at hc
  obtain ⟨k, hk, h2⟩ := Option.bind_eq_some_iff.1 hc
  split at h2
  · rename_i hy hx0
    obtain ⟨c, rfl, hn⟩ := isC_of_nil hy
    obtain ⟨rfl, u, rfl, hx⟩ := arg1 h2 he hv hlt
    have := fun w => good_isNil (P := P) (w := w) (t := t) (show pIsNil k neg [u] σ = _ from h) hx ht hk hn
    exact ⟨.binop (fun w => eqGuard_other (this w).2.2.2.2.1 (fun _ _ => .inr rfl)) (fun w => (this w).1) (this w).2.2.1, (this w).2.2.2.1⟩
  · rename_i hy0 hx0
    obtain ⟨c, rfl, hn⟩ := isC_of_nil hx0
    obtain ⟨rfl, u, rfl, hx⟩ := arg1 h2 he hv hlt
    have := fun w => good_isNil (P := P) (w := w) (t := t) (show pIsNil k neg [u] σ = _ from h) hx ht hk hn
    exact ⟨.binop (fun w => eqGuard_other (this w).2.2.2.2.2 (fun _ _ => .inl rfl)) (fun w => (this w).2.1) (this w).2.2.1, (this w).2.2.2.1⟩
  · split at h2
    · split at h2
      · cases h2
      · obtain ⟨rfl, _⟩ := arg2 h2 he hv hlt
        cases hl
    · cases h2
theorem quiet_agg {neg : Bool} {t yt : Nat} {x y : Operand} {p : Prim} {args : List Opd} {e : Env} {a : Act} {vs : List Value} {v : Value} {dst ty pos after guard} (hc : compAgg P neg t x y = some (p, args)) (he : EnvR ι e a.tmps) (hv : e.evs args = some vs) (hlt : args.all opdLt = true)
    (h : prim p vs σ = some (v, σ')) (w : World) : QuietOp P ι a.eval ⟨dst, .binOp (eqOp neg) t x y yt, ty, pos, after, guard⟩ v ∧ σ' = σ := by
  unfold compAgg at hc
  split at hc
  · rename_i n hn
    obtain ⟨rfl, u1, u2, rfl, h1, h2⟩ := arg2 hc he hv hlt
    have := fun w => good_eqAgg (P := P) (w := w) (show pEqAgg false n neg [u1, u2] σ = _ from h) h1 h2 hn x y
    exact ⟨.binop (fun w => (this w).1) (fun w => (this w).2.1) (this w).2.2.1, (this w).2.2.2⟩
  · split at hc
    · rename_i n hn
      obtain ⟨rfl, u1, u2, rfl, h1, h2⟩ := arg2 hc he hv hlt
      have := fun w => good_eqAgg (P := P) (w := w) (show pEqAgg true n neg [u1, u2] σ = _ from h) h1 h2 hn x y
      exact ⟨.binop (fun w => (this w).1) (fun w => (this w).2.1) (this w).2.2.1, (this w).2.2.2⟩
    · cases hc

theorem quiet_builtin {b : Builtin} {cargs : Array Operand} {cts : Array Nat} {ds : List Opd} {p : Prim} {args : List Opd} {e : Env} {a : Act} {vs : List Value} {v : Value} {dst ty pos after guard} (hc : compBuiltin P b ds cts.toList = some (p, args)) (hx : cargs.toList.mapM opdOf = some ds) (he : EnvR ι e a.tmps) (hv : e.evs args = some vs) (hlt : args.all opdLt = true)
    (hq : quietP p = true) (hl : looks p = false) (h : prim p vs σ = some (v, σ')) (w : World) : QuietOp P ι a.eval ⟨dst, .call ⟨.builtin b, cargs, cts⟩, ty, pos, after, guard⟩ v ∧ σ' = σ := by
  unfold compBuiltin at hc
  split at hc
  · rename_i t hts
    have hts' : cts[0]? = some t := by rw [← Array.getElem?_toList, hts]; rfl
    split at hc
    · rename_i el ht
      simp at hc; obtain ⟨rfl, rfl⟩ := hc
      obtain ⟨l, hl1, hl2⟩ := call_args hx he hv hlt
      rcases vs with _ | ⟨u, _ | ⟨u2, r⟩⟩ <;> try (simp [prim, pLenS] at h; done)
      obtain ⟨u', rfl, hu⟩ := hl2.one
      have := fun w => good_lenS (P := P) (w := w) (ts := cts) (ty := ty) (show pLenS [u] σ = _ from h) hu ht hts'
      exact ⟨.of_run ⟨fun w => (this w).1, (this w).2.1⟩ (by rw [exec_builtin rfl, hl1]; rfl), (this w).2.2⟩
    · simp at hc; obtain ⟨rfl, rfl⟩ := hc; cases hl
    · rename_i n el ht
      simp at hc; obtain ⟨rfl, rfl⟩ := hc
      obtain ⟨l, hl1, hl2⟩ := call_args hx he hv hlt
      rcases vs with _ | ⟨u, _ | ⟨u2, r⟩⟩ <;> try (simp [prim, pLenC] at h; done)
      obtain ⟨u', rfl, hu⟩ := hl2.one
      have := fun w => good_lenC (P := P) (w := w) (ts := cts) (ty := ty) (show pLenC n [u] σ = _ from h) ht hts' hu
      exact ⟨.of_run ⟨fun w => (this w).1, (this w).2.1⟩ (by rw [exec_builtin rfl, hl1]; rfl), (this w).2.2⟩
    · cases hc
  · split at hc
    · simp at hc; obtain ⟨rfl, rfl⟩ := hc; cases hq
    · cases hc
  · split at hc
    · simp only [Option.bind_eq_bind] at hc
      obtain ⟨_, _, h2⟩ := Option.bind_eq_some_iff.1 hc
      obtain ⟨_, _, h4⟩ := Option.bind_eq_some_iff.1 h2
      obtain ⟨_, _, h6⟩ := Option.bind_eq_some_iff.1 h4
      simp at h6; obtain ⟨rfl, rfl⟩ := h6; cases hq
    · simp only [Option.bind_eq_bind] at hc
      obtain ⟨_, _, h2⟩ := Option.bind_eq_some_iff.1 hc
      obtain ⟨_, _, h4⟩ := Option.bind_eq_some_iff.1 h2
      obtain ⟨_, _, h6⟩ := Option.bind_eq_some_iff.1 h4
      simp at h6; obtain ⟨rfl, rfl⟩ := h6; cases hq
    · cases hc
  · split at hc
    · simp only [Option.bind_eq_bind] at hc
      obtain ⟨_, _, h2⟩ := Option.bind_eq_some_iff.1 hc
      simp at h2; obtain ⟨rfl, rfl⟩ := h2; cases hq
    · cases hc
  · split at hc
    · simp at hc; obtain ⟨rfl, rfl⟩ := hc
      obtain ⟨l, hl1, hl2⟩ := call_args hx he hv hlt
      rcases vs with _ | ⟨u, _ | ⟨u2, _ | ⟨u3, r⟩⟩⟩ <;> try (simp [prim, pMin] at h; done)
      obtain ⟨a', b', rfl, h1, h2⟩ := hl2.two
      have := fun w => good_min (P := P) (w := w) (ts := cts) (ty := ty) (show pMin [u, u2] σ = _ from h) h1 h2
      exact ⟨.of_run ⟨fun w => (this w).1, (this w).2.1⟩ (by rw [exec_builtin rfl, hl1]; rfl), (this w).2.2⟩
    · cases hc
  · split at hc
    · simp at hc; obtain ⟨rfl, rfl⟩ := hc
      obtain ⟨l, hl1, hl2⟩ := call_args hx he hv hlt
      rcases vs with _ | ⟨u, _ | ⟨u2, _ | ⟨u3, r⟩⟩⟩ <;> try (simp [prim, pMax] at h; done)
      obtain ⟨a', b', rfl, h1, h2⟩ := hl2.two
      have := fun w => good_max (P := P) (w := w) (ts := cts) (ty := ty) (show pMax [u, u2] σ = _ from h) h1 h2
      exact ⟨.of_run ⟨fun w => (this w).1, (this w).2.1⟩ (by rw [exec_builtin rfl, hl1]; rfl), (this w).2.2⟩
    · cases hc
  · split at hc
    · simp at hc; obtain ⟨rfl, rfl⟩ := hc; cases hq
    · simp only [Option.bind_eq_bind] at hc
      obtain ⟨_, _, h2⟩ := Option.bind_eq_some_iff.1 hc
      obtain ⟨_, _, h2⟩ := Option.bind_eq_some_iff.1 h2
      simp at h2; obtain ⟨rfl, rfl⟩ := h2; cases hq
    · cases hc
  · split at hc
    · simp only [Option.bind_eq_bind] at hc
      obtain ⟨_, _, h2⟩ := Option.bind_eq_some_iff.1 hc
      simp at h2; obtain ⟨rfl, rfl⟩ := h2; cases hq
    · cases hc
  · simp at hc; obtain ⟨rfl, rfl⟩ := hc; cases hq
  · cases hc

theorem quiet_sound (T : Tables P) {o : Oper} {p : Prim} {args : List Opd} {e : Env} {a : Act} {vs : List Value} {v : Value} (hc : compOp P o.op = some (p, args)) (hq : quietP p = true) (hl : looks p = false) (hlt : args.all opdLt = true)
    (he : EnvR ι e a.tmps) (hv : e.evs args = some vs) (hr : R ι σ w) (h : prim p vs σ = some (v, σ')) : QuietOp P ι a.eval o v ∧ σ' = σ := by
  obtain ⟨dst, op, ty, pos, after, guard⟩ := o
  simp only at hc
  cases op <;> simp only [compOp, reduceCtorEq, Option.bind_eq_bind, Option.pure_def] at hc
  case move x =>
    obtain ⟨rfl, u, rfl, hx⟩ := arg1 hc he hv hlt
    simp only [prim, pMove, Option.some.injEq, Prod.mk.injEq] at h
    obtain ⟨rfl, rfl⟩ := h
    exact ⟨⟨a.eval x, fun w => rfl, hx⟩, rfl⟩
  case assign x =>
    obtain ⟨rfl, u, rfl, hx⟩ := arg1 hc he hv hlt
    simp only [prim, pMove, Option.some.injEq, Prod.mk.injEq] at h
    obtain ⟨rfl, rfl⟩ := h
    exact ⟨⟨a.eval x, fun w => rfl, hx⟩, rfl⟩
  case pick c x y =>
    obtain ⟨rfl, u1, u2, u3, rfl, h1, h2, h3⟩ := arg3 hc he hv hlt
    obtain ⟨hg, hs⟩ := good_pick (P := P) hr h h1 h2 h3
    refine ⟨?_, hs⟩
    obtain ⟨v', h4, h5⟩ := hg
    refine ⟨v', fun w => ?_, h5⟩
    have := h4 w
    simp only [Sem.run_bind] at this
    simp only [execOp, Sem.run_bind]
    cases hb : (asBool (a.eval c)).run P w with
    | halt x w' => rw [hb] at this; cases this
    | ok b w' =>
      rw [hb] at this
      simp only [Result.andThen_ok, Sem.run_pure, Result.ok.injEq] at this ⊢
      rw [this.1, this.2]
      exact ⟨rfl, rfl⟩
  case alloc t =>
    obtain ⟨_, _, h2⟩ := Option.bind_eq_some_iff.1 hc
    obtain ⟨_, _, h4⟩ := Option.bind_eq_some_iff.1 h2
    simp at h4; obtain ⟨rfl, rfl⟩ := h4; cases hq
  case box t x =>
    obtain ⟨_, _, h2⟩ := Option.bind_eq_some_iff.1 hc
    obtain ⟨_, _, h4⟩ := Option.bind_eq_some_iff.1 h2
    simp at h4; obtain ⟨rfl, rfl⟩ := h4; cases hq
  case build t ps =>
    obtain ⟨z, hz, h2⟩ := Option.bind_eq_some_iff.1 hc
    obtain ⟨pl, hp, h4⟩ := Option.bind_eq_some_iff.1 h2
    obtain ⟨ds, hd, h6⟩ := Option.bind_eq_some_iff.1 h4
    simp at h6; obtain ⟨rfl, rfl⟩ := h6
    have hvs : VRs ι vs (ps.toList.map fun p => a.eval p.2) := by
      have := he.evs (xs := ps.toList.map (·.2)) (by rw [List.mapM_map]; exact hd) hv hlt
      simpa [Function.comp_def] using this
    have hparts : ps.map (fun (x : Nat × Operand) => (x.1, a.eval x.2)) = ((ps.toList.map (·.1)).zip (ps.toList.map fun p => a.eval p.2)).toArray := by
      apply Array.ext'
      simp [List.zip_map']
    have hplaces := hp
    unfold placesOf at hplaces
    split at hplaces
    · rename_i fs hu
      obtain ⟨hg, hs⟩ := good_buildStruct (P := P) hr h hvs hz hu hp (T.fields t fs (zeroT_lt hz) hu)
      exact ⟨.of hg (by simp only [execOp, ← hparts]), hs⟩
    · rename_i n el hu
      obtain ⟨s, hs0, _⟩ := Option.map_eq_some_iff.1 hplaces
      obtain ⟨hg, hs⟩ := good_buildArray (P := P) hr h hvs hz hu hs0 hp
      exact ⟨.of hg (by simp only [execOp, ← hparts]), hs⟩
    · cases hplaces
  case buildSlice t n ps =>
    split at hc
    · obtain ⟨_, _, h2⟩ := Option.bind_eq_some_iff.1 hc
      split at h2
      · cases h2
      · obtain ⟨_, _, h4⟩ := Option.bind_eq_some_iff.1 h2
        obtain ⟨_, _, h6⟩ := Option.bind_eq_some_iff.1 h4
        simp at h6; obtain ⟨rfl, rfl⟩ := h6; cases hq
    · cases hc
  case load t x =>
    obtain ⟨_, _, h2⟩ := Option.bind_eq_some_iff.1 hc
    obtain ⟨_, _, h4⟩ := Option.bind_eq_some_iff.1 h2
    simp at h4; obtain ⟨rfl, rfl⟩ := h4; cases hl
  case store t x y =>
    obtain ⟨_, _, h2⟩ := Option.bind_eq_some_iff.1 hc
    obtain ⟨_, _, h4⟩ := Option.bind_eq_some_iff.1 h2
    obtain ⟨_, _, h6⟩ := Option.bind_eq_some_iff.1 h4
    simp at h6; obtain ⟨rfl, rfl⟩ := h6; cases hq
  case nilCheck x =>
    obtain ⟨rfl, u, rfl, hx⟩ := arg1 hc he hv hlt
    have := fun w => good_nilCheck (P := P) (w := w) (ρ := a.eval) (y := x) (dst := dst) (ty := ty) (pos := pos) (after := after) (guard := guard) h hx rfl
    exact ⟨⟨a.eval x, fun w => (this w).1, (this w).2.1⟩, (this w).2.2⟩
  case unOp op t x =>
    obtain ⟨rfl, u, rfl, hx⟩ := arg1 hc he hv hlt
    have := fun w => good_un (P := P) (w := w) h hx
    exact ⟨.of_run ⟨fun w => (this w).1, (this w).2.1⟩ rfl, (this w).2.2⟩
  case makeInterface t x =>
    split at hc
    · cases hc
    · rename_i d hnd hd
      obtain ⟨rfl, u, rfl, hx⟩ := arg1 hc he hv hlt
      obtain ⟨hg, hs⟩ := good_iface (P := P) hr h hx hd (fun ms e => hnd ms e)
      exact ⟨.of hg rfl, hs⟩
    · cases hc
  case extract t i =>
    obtain ⟨rfl, u, rfl, hx⟩ := arg1 hc he hv hlt
    obtain ⟨hg, hs⟩ := good_extract (P := P) hr h hx
    exact ⟨.of hg rfl, hs⟩
  case sliceToArrayPointer d x =>
    split at hc
    · rename_i n el hd
      obtain ⟨rfl, u, rfl, hx⟩ := arg1 hc he hv hlt
      obtain ⟨hg, hs⟩ := good_arrPtr (P := P) hr h hx hd
      exact ⟨.of hg rfl, hs⟩
    · cases hc
  case panic x =>
    obtain ⟨rfl, u, rfl, hx⟩ := arg1 hc he hv hlt
    cases hq
  case binOp op t x y yt =>
    split at hc
    · -- struct ==
      exact quiet_agg (neg := false) hc he hv hlt h w
    · exact quiet_agg (neg := false) hc he hv hlt h w
    · exact quiet_agg (neg := true) hc he hv hlt h w
    · exact quiet_agg (neg := true) hc he hv hlt h w
    · obtain ⟨rfl, u1, u2, rfl, h1, h2⟩ := arg2 hc he hv hlt
      have := fun w => good_bin (P := P) (w := w) (t := t) h h1 h2
      exact ⟨.binop (fun w => eqGuard_other (this w).2.2.2.1 (fun e => absurd e (this w).2.2.2.2)) (fun w => (this w).1) (this w).2.1, (this w).2.2.1⟩
    · obtain ⟨rfl, u1, u2, rfl, h1, h2⟩ := arg2 hc he hv hlt
      have := fun w => good_bin (P := P) (w := w) (t := t) h h1 h2
      exact ⟨.binop (fun w => eqGuard_other (this w).2.2.2.1 (fun e => absurd e (this w).2.2.2.2)) (fun w => (this w).1) (this w).2.1, (this w).2.2.1⟩
    · obtain ⟨rfl, u1, u2, rfl, h1, h2⟩ := arg2 hc he hv hlt
      obtain ⟨g1, g2⟩ := eqStr_shape (show pEqStr false [u1, u2] σ = _ from h) h1
      have := fun w => good_eqStr (P := P) (w := w) (t := t) (show pEqStr false [u1, u2] σ = _ from h) h1 h2
      exact ⟨.binop (fun w => eqGuard_other g1 (fun e => absurd e g2)) (fun w => (this w).1) (this w).2.1, (this w).2.2⟩
    · obtain ⟨rfl, u1, u2, rfl, h1, h2⟩ := arg2 hc he hv hlt
      obtain ⟨g1, g2⟩ := eqStr_shape (show pEqStr true [u1, u2] σ = _ from h) h1
      have := fun w => good_eqStr (P := P) (w := w) (t := t) (show pEqStr true [u1, u2] σ = _ from h) h1 h2
      exact ⟨.binop (fun w => eqGuard_other g1 (fun e => absurd e g2)) (fun w => (this w).1) (this w).2.1, (this w).2.2⟩
    · rename_i ht
      obtain ⟨rfl, u1, u2, rfl, h1, h2⟩ := arg2 hc he hv hlt
      obtain ⟨g1, g2⟩ := eqBool_shape (show pEqBool false [u1, u2] σ = _ from h) h1
      have := fun w => good_eqBool (P := P) (w := w) (t := t) (show pEqBool false [u1, u2] σ = _ from h) h1 h2 ht
      exact ⟨.binop (fun w => eqGuard_other g1 (fun e => absurd e g2)) (fun w => (this w).1) (this w).2.1, (this w).2.2⟩
    · rename_i ht
      obtain ⟨rfl, u1, u2, rfl, h1, h2⟩ := arg2 hc he hv hlt
      obtain ⟨g1, g2⟩ := eqBool_shape (show pEqBool true [u1, u2] σ = _ from h) h1
      have := fun w => good_eqBool (P := P) (w := w) (t := t) (show pEqBool true [u1, u2] σ = _ from h) h1 h2 ht
      exact ⟨.binop (fun w => eqGuard_other g1 (fun e => absurd e g2)) (fun w => (this w).1) (this w).2.1, (this w).2.2⟩
    · rename_i ht
      exact quiet_nil (neg := false) ht hc he hv hlt hl h w
    · rename_i ht
      exact quiet_nil (neg := true) ht hc he hv hlt hl h w
    · cases hc
  case convert s d x =>
    split at hc
    · rename_i k0 k hs hd
      obtain ⟨rfl, u, rfl, hx⟩ := arg1 hc he hv hlt
      obtain ⟨hg, hs⟩ := good_toInt (P := P) hr h hx hs hd
      exact ⟨.of hg rfl, hs⟩
    · rename_i k0 k hs hd
      obtain ⟨rfl, u, rfl, hx⟩ := arg1 hc he hv hlt
      obtain ⟨hg, hs⟩ := good_toFloat (P := P) hr h hx hs hd
      exact ⟨.of hg rfl, hs⟩
    · split at hc
      · obtain ⟨rfl, u, rfl, hx⟩ := arg1 hc he hv hlt
        cases hl
      · cases hc
    · cases hc
  case makeFunc f first cap =>
    cases f <;> simp only [compOp, reduceCtorEq, Option.bind_eq_bind, Option.pure_def] at hc
    rename_i f
    obtain ⟨d1, h1, h2⟩ := Option.bind_eq_some_iff.1 hc
    obtain ⟨d2, h3, h4⟩ := Option.bind_eq_some_iff.1 h2
    simp at h4; obtain ⟨rfl, rfl⟩ := h4
    simp only [List.all_append, Bool.and_eq_true] at hlt
    obtain ⟨v1, v2, rfl, e1, e2⟩ := evs_append hv
    have g1 := he.evs h1 e1 hlt.1
    have g2 := he.evs h3 e2 hlt.2
    obtain ⟨hg, hs⟩ := good_func (P := P) (f := f) (n := first.size) (xs := first.toList.map a.eval) (ys := cap.toList.map a.eval) hr h (g1.append g2) (by simp)
    refine ⟨.of hg ?_, hs⟩
    simp only [execOp]
    rw [show (⟨first.toList.map a.eval⟩ : Array Value) = first.map a.eval from Array.ext' (by simp), show (⟨cap.toList.map a.eval⟩ : Array Value) = cap.map a.eval from Array.ext' (by simp)]
  case makeMap t r =>
    split at hc
    · simp at hc; obtain ⟨rfl, rfl⟩ := hc; cases hq
    · split at hc
      · simp at hc; obtain ⟨rfl, rfl⟩ := hc; cases hq
      · cases hc
    · cases hc
  case makeSlice t l c =>
    split at hc
    · obtain ⟨_, _, h2⟩ := Option.bind_eq_some_iff.1 hc
      obtain ⟨_, _, h4⟩ := Option.bind_eq_some_iff.1 h2
      obtain ⟨_, _, h6⟩ := Option.bind_eq_some_iff.1 h4
      obtain ⟨_, _, h8⟩ := Option.bind_eq_some_iff.1 h6
      obtain ⟨_, _, h10⟩ := Option.bind_eq_some_iff.1 h8
      simp at h10; obtain ⟨rfl, rfl⟩ := h10; cases hq
    · cases hc
  case fieldAddr s x i =>
    split at hc
    · rename_i fs hs
      obtain ⟨f, hf, h2⟩ := Option.bind_eq_some_iff.1 hc
      obtain ⟨n, hn, h4⟩ := Option.bind_eq_some_iff.1 h2
      split at h4
      · cases h4
      · rename_i h0
        obtain ⟨rfl, u, rfl, hx⟩ := arg1 h4 he hv hlt
        obtain ⟨hg, hs⟩ := good_fieldAddr (P := P) hr h hx hs hf ⟨n, hn, by simpa using h0⟩ rfl
        exact ⟨.of hg rfl, hs⟩
    · cases hc
  case field s x i =>
    split at hc
    · rename_i fs hs
      obtain ⟨f, hf, h2⟩ := Option.bind_eq_some_iff.1 hc
      obtain ⟨n, hn, h4⟩ := Option.bind_eq_some_iff.1 h2
      obtain ⟨rfl, u, rfl, hx⟩ := arg1 h4 he hv hlt
      obtain ⟨hg, hs⟩ := good_field (P := P) hr h hx hs hf rfl hn rfl (T.size hn)
      exact ⟨.of hg rfl, hs⟩
    · cases hc
  case indexAddr t x i =>
    split at hc
    · rename_i el ht
      obtain ⟨n, hn, h2⟩ := Option.bind_eq_some_iff.1 hc
      obtain ⟨rfl, u1, u2, rfl, h1, h2⟩ := arg2 h2 he hv hlt
      obtain ⟨hg, hs⟩ := good_idxAddr (P := P) hr h h1 h2 ht hn
      exact ⟨.of hg rfl, hs⟩
    · rename_i m el ht
      obtain ⟨n, hn, h2⟩ := Option.bind_eq_some_iff.1 hc
      obtain ⟨rfl, u1, u2, rfl, h1, h2⟩ := arg2 h2 he hv hlt
      obtain ⟨hg, hs⟩ := good_idxAddrA (P := P) hr h h1 h2 ht hn
      exact ⟨.of hg rfl, hs⟩
    · cases hc
  case index t x i =>
    split at hc
    · rename_i m el ht
      obtain ⟨n, hn, h2⟩ := Option.bind_eq_some_iff.1 hc
      obtain ⟨rfl, u1, u2, rfl, h1, h2⟩ := arg2 h2 he hv hlt
      obtain ⟨hg, hs⟩ := good_idx (P := P) hr h h1 h2 ht hn rfl (T.size hn)
      exact ⟨.of hg rfl, hs⟩
    · rename_i ht
      obtain ⟨rfl, u1, u2, rfl, h1, h2⟩ := arg2 hc he hv hlt
      obtain ⟨hg, hs⟩ := good_idxStr (P := P) hr h h1 h2 ht
      exact ⟨.of hg rfl, hs⟩
    · cases hc
  case lookup t x i ok =>
    split at hc
    · obtain ⟨_, _, h2⟩ := Option.bind_eq_some_iff.1 hc
      obtain ⟨_, _, h4⟩ := Option.bind_eq_some_iff.1 h2
      obtain ⟨rfl, u1, u2, rfl, h1, h2⟩ := arg2 h4 he hv hlt
      cases hl
    · cases hc
  case mapUpdate t m k x =>
    split at hc
    · obtain ⟨_, _, h2⟩ := Option.bind_eq_some_iff.1 hc
      obtain ⟨rfl, u1, u2, u3, rfl, h1, h2, h3⟩ := arg3 h2 he hv hlt
      cases hq
    · cases hc
  case typeAssert x xt t ok =>
    split at hc
    · cases hc
    · rename_i d hnd hd
      obtain ⟨z, hz, h2⟩ := Option.bind_eq_some_iff.1 hc
      obtain ⟨rfl, u, rfl, hx⟩ := arg1 h2 he hv hlt
      obtain ⟨hg, hs⟩ := good_assert (P := P) hr h hx hd (fun ms e => hnd ms e) hz
      exact ⟨.of hg rfl, hs⟩
    · cases hc
  case «defer» c =>
    split at hc
    · split at hc
      · obtain ⟨rfl, u, rfl, hx⟩ := arg1 hc he hv hlt
        cases hq
      · cases hc
    · cases hc
  case slice t x lo hi mx =>
    split at hc
    · rename_i el ht
      obtain ⟨n, hn, h2⟩ := Option.bind_eq_some_iff.1 hc
      obtain ⟨dx, hdx, h4⟩ := Option.bind_eq_some_iff.1 h2
      obtain ⟨d1, hd1, h6⟩ := Option.bind_eq_some_iff.1 h4
      obtain ⟨d2, hd2, h8⟩ := Option.bind_eq_some_iff.1 h6
      obtain ⟨d3, hd3, h10⟩ := Option.bind_eq_some_iff.1 h8
      simp at h10; obtain ⟨rfl, rfl⟩ := h10
      obtain ⟨u, r, rfl, e1, e2⟩ := evs_cons hv
      simp only [List.all_cons, List.all_append, Bool.and_eq_true] at hlt
      obtain ⟨v1, r1, rfl, e3, e4⟩ := evs_append e2
      obtain ⟨v2, v3, rfl, e5, e6⟩ := evs_append e4
      have hvs := (he.evs hd1 e3 hlt.2.1).append ((he.evs hd2 e5 hlt.2.2.1).append (he.evs hd3 e6 hlt.2.2.2))
      obtain ⟨hsz, h0⟩ := szP_some hn
      obtain ⟨hg, hs⟩ := good_slice (P := P) (xl := lo.map a.eval) (xh := hi.map a.eval) (xm := mx.map a.eval) (e := el) (esz := n) hr (by simpa [prim] using h) (he.ev hdx e1 (opdLt_t hlt.1)) (by simpa only [toList_optmap] using hvs) ht hsz h0
      exact ⟨.of hg rfl, hs⟩
    · cases hc
  case call c =>
    obtain ⟨args0, hargs, h2⟩ := Option.bind_eq_some_iff.1 hc
    obtain ⟨cal, cargs, cts⟩ := c
    split at h2
    · rename_i b hb
      subst hb
      exact quiet_builtin h2 hargs he hv hlt hq hl h w
    · rename_i r m hb
      subst hb
      obtain ⟨_, _, h4⟩ := Option.bind_eq_some_iff.1 h2
      simp at h4; obtain ⟨rfl, rfl⟩ := h4; cases hq
    · rename_i f hb
      subst hb
      split at h2
      · rename_i fn hf
        split at h2
        · simp at h2; obtain ⟨rfl, rfl⟩ := h2; cases hq
        · rename_i hb
          have hbn : fn.body = none := by simpa using hb
          unfold extern at h2
          split at h2
          · rename_i hname
            simp at h2; obtain ⟨rfl, rfl⟩ := h2
            obtain ⟨l, hl1, hl2⟩ := call_args hargs he hv hlt
            rcases vs with _ | ⟨u, _ | ⟨u2, r⟩⟩ <;> try (simp [prim, pF64bits] at h; done)
            obtain ⟨u', rfl, hu⟩ := hl2.one
            cases hu <;> simp only [prim, pF64bits] at h <;> try (cases h; done)
            rename_i k b
            cases k <;> simp only [] at h <;> try (cases h; done)
            simp only [Option.some.injEq, Prod.mk.injEq] at h
            obtain ⟨rfl, rfl⟩ := h
            exact ⟨⟨_, fun w => by rw [exec_func rfl, hl1]; exact T.bits f fn hf hbn (by simpa using hname) b w, .int _ _⟩, rfl⟩
          · split at h2
            · rename_i hname
              simp at h2; obtain ⟨rfl, rfl⟩ := h2
              obtain ⟨l, hl1, hl2⟩ := call_args hargs he hv hlt
              rcases vs with _ | ⟨u, _ | ⟨u2, r⟩⟩ <;> try (simp [prim, pF64from] at h; done)
              obtain ⟨u', rfl, hu⟩ := hl2.one
              cases hu <;> simp only [prim, pF64from] at h <;> try (cases h; done)
              rename_i k n
              cases k <;> simp only [] at h <;> try (cases h; done)
              simp only [Option.some.injEq, Prod.mk.injEq] at h
              obtain ⟨rfl, rfl⟩ := h
              exact ⟨⟨_, fun w => by rw [exec_func rfl, hl1]; exact T.from_ f fn hf hbn (by simpa using hname) n w, .float _ _⟩, rfl⟩
            · split at h2
              · simp at h2; obtain ⟨rfl, rfl⟩ := h2; cases hq
              · split at h2
                · simp at h2; obtain ⟨rfl, rfl⟩ := h2; cases hq
                · cases h2
      · cases h2
    · obtain ⟨_, _, h4⟩ := Option.bind_eq_some_iff.1 h2
      simp at h4; obtain ⟨rfl, rfl⟩ := h4; cases hq
end
end AM
end Go.Proofs.YtlelihddjacplaaGreat
