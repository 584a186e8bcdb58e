/- A drawn region walked once, in one order: what only reads is taken first, from cells that the later steps leave alone; the effects come in their only order. -/
import Derived.OrdersHeld
import Derived.Deep.RegionHeld3
import Derived.Tactics
namespace Go.Proofs.YtdbbkaeoinalpaaGreat
section
variable {P : Program} {ops : Array Oper} {Q : Exit → Act → World → Prop} {md : Region.Mode} {S : World → Prop} {need : Nat → Bool}

def DownC (md : Region.Mode) (ops : Array Oper) (listed : Array Bool) : Prop :=
  listed.size = ops.size ∧ ∀ j oj, ops[j]? = some oj → listed.getD j false = true → ∀ e ∈ oj.after, Region.binds md e = true → listed.getD e.on false = true

theorem getD_t {listed : Array Bool} {i : Nat} (h : listed.getD i true = false) : listed.getD i false = false := by
  rcases Nat.lt_or_ge i listed.size with h' | h'
  · simp [h'] at h ⊢; exact h
  · simp [Array.getElem?_eq_none h'] at h

theorem DownC.set {i : Nat} {listed : Array Bool} (inv : DownC md ops listed) (hi : i ∈ Region.ready md ops listed) : DownC md ops (listed.setIfInBounds i true) := by
  obtain ⟨_, oi, hoi, hall⟩ := mem_ready.1 hi
  refine ⟨by simp [inv.1], fun j oj hj hl e he hb => ?_⟩
  by_cases hij : i = j
  · subst hij
    have : oj = oi := Option.some.inj (hj.symm.trans hoi)
    subst this
    exact getD_set_true (hall e he hb)
  · rw [getD_set_ne false hij] at hl
    exact getD_set_true (inv.2 j oj hj hl e he hb)

def ancs (md : Region.Mode) (i : Nat) : List Oper → List Bool → List Bool
  | [], acc => acc
  | o :: l, acc => ancs md i l (acc ++ [o.after.any fun e => Region.binds md e && (e.on == i || acc.getD e.on false)])

def Anc (md : Region.Mode) (ops : Array Oper) (i k : Nat) : Prop :=
  ∀ (listed : Array Bool) (o : Oper), DownC md ops listed → ops[k]? = some o → (∀ e ∈ o.after, Region.binds md e = true → listed.getD e.on false = true) → listed.getD i false = true

theorem ancs_sound (i : Nat) : ∀ (l : List Oper) (acc : List Bool), (∀ j, l[j]? = ops[acc.length + j]?) → (∀ k, acc.getD k false = true → Anc md ops i k) →
    ∀ k, (ancs md i l acc).getD k false = true → Anc md ops i k
  | [], acc, _, h, k, hk => h k hk
  | o :: l, acc, hl, h, k, hk => by
    have h0 : ops[acc.length]? = some o := by simpa using (hl 0).symm
    refine ancs_sound i l _ (fun j => ?_) (fun k hk => ?_) k hk
    · have := hl (j + 1)
      simp only [List.getElem?_cons_succ] at this
      rw [this]; simp only [List.length_append, List.length_cons, List.length_nil]; congr 1; omega
    · rcases Nat.lt_trichotomy k acc.length with hlt | heq | hgt
      · rw [List.getD_eq_getElem?_getD, List.getElem?_append_left hlt, ← List.getD_eq_getElem?_getD] at hk; exact h k hk
      · subst heq
        simp only [List.getD_eq_getElem?_getD, List.getElem?_append_right (Nat.le_refl _), Nat.sub_self, List.getElem?_cons_zero, Option.getD_some] at hk
        obtain ⟨e, he, hb⟩ := Array.any_eq_true'.1 hk
        simp only [Bool.and_eq_true, Bool.or_eq_true, beq_iff_eq] at hb
        intro listed o' inv ho' hall
        have : o' = o := Option.some.inj (ho'.symm.trans h0)
        subst this
        have hon := hall e he hb.1
        rcases hb.2 with rfl | hb2
        · exact hon
        · have hsz : e.on < ops.size := by
            rcases Nat.lt_or_ge e.on listed.size with h' | h'
            · rw [inv.1] at h'; exact h'
            · simp [Array.getElem?_eq_none h'] at hon
          exact h e.on hb2 listed _ inv (Array.getElem?_eq_getElem hsz) (inv.2 e.on _ (Array.getElem?_eq_getElem hsz) hon)
      · rw [List.getD_eq_getElem?_getD, List.getElem?_append_right (by omega), List.getElem?_eq_none (by simp; omega)] at hk
        cases hk

def needB (md : Region.Mode) (ops : Array Oper) (need : Nat → Bool) (i : Nat) : Bool :=
  (List.range ops.size).all fun j => j == i || need j || (ancs md i ops.toList []).getD j false

theorem needB_spec {i : Nat} (h : needB md ops need i = true) {listed : Array Bool} {j : Nat} (inv : DownC md ops listed) (hj : j ∈ Region.ready md ops listed)
    (hi : listed.getD i true = false) (hji : j ≠ i) : need j = true := by
  obtain ⟨_, oj, hoj, hall⟩ := mem_ready.1 hj
  have hlt : j < ops.size := (Array.getElem?_eq_some_iff.1 hoj).1
  have := List.all_eq_true.1 h j (List.mem_range.2 hlt)
  simp only [Bool.or_eq_true, beq_iff_eq] at this
  rcases this with (h1 | h1) | h1
  · exact absurd h1 hji
  · exact h1
  · have := ancs_sound (md := md) (ops := ops) i ops.toList [] (fun j => by simp) (fun k hk => by simp at hk) j h1 listed oj inv hoj hall
    rw [getD_t hi] at this; cases this

/-- Whatever order is picked; S behind every operation that needs it. -/
def wpAnyN (P : Program) (md : Region.Mode) (ops : Array Oper) (Q : Exit → Act → World → Prop) (S : World → Prop) (need : Nat → Bool) : Nat → Array Bool → Act → World → Prop
  | 0, listed, a, w => Region.ready md ops listed = [] ∧ Q .normal a w
  | fuel + 1, listed, a, w =>
    (Region.ready md ops listed = [] → Q .normal a w) ∧
    ∀ i ∈ Region.ready md ops listed, wpOp P ops Q i (fun a' w' => (need i = true → S w') ∧ wpAnyN P md ops Q S need fuel (listed.setIfInBounds i true) a' w') a w

theorem wpAny_of_N : ∀ (fuel : Nat) (listed : Array Bool) (a : Act) (w : World), wpAnyN P md ops Q S need fuel listed a w → wpAny P md ops Q fuel listed a w
  | 0, _, _, _, h => h
  | fuel + 1, _, _, _, h => ⟨h.1, fun i hi => wpOp_mono (fun a' w' h' => wpAny_of_N fuel _ a' w' h'.2) (h.2 i hi)⟩

theorem wpAnyN_first {i : Nat} {oi : Oper} {v : Value} (hi : ops[i]? = some oi) (hsel : ∀ (j : Nat) (o : Oper) cs b, ops[j]? = some o → o.op ≠ .select cs b)
    (hQ : ∀ c a w, Q (.panic c) (a.put oi.dst v) w → Q (.panic c) a w) (hneed : needB md ops need i = true) :
    ∀ (fuel : Nat) (listed : Array Bool) (a : Act) (w : World), DownC md ops listed →
      (∀ j oj, ops[j]? = some oj → j ≠ i → listed.getD j true = false → (∀ e ∈ oj.after, Region.binds md e = true → e.on ≠ i) → oi.apart ops oj = true) →
      i ∈ Region.ready md ops listed → YieldsIf P ops S oi v a → S w →
      wpAnyN P md ops Q S need fuel (listed.setIfInBounds i true) (a.put oi.dst v) w → wpAnyN P md ops Q S need (fuel + 1) listed a w := by
  intro fuel
  induction fuel with
  | zero =>
    intro listed a w _ _ hr hy hS H
    refine ⟨fun h => (by rw [h] at hr; cases hr), fun j hj => ?_⟩
    by_cases hji : j = i
    · subst hji; exact hy.wpOp hi hS ⟨fun _ => hS, H⟩
    · have := ready_mono hj hji
      rw [H.1] at this
      cases this
  | succ fuel ih =>
    intro listed a w inv hfree hr hy hS H
    refine ⟨fun h => (by rw [h] at hr; cases hr), fun j hj => ?_⟩
    by_cases hji : j = i
    · subst hji; exact hy.wpOp hi hS ⟨fun _ => hS, H⟩
    · have h1 := H.2 j (ready_mono hj hji)
      obtain ⟨hjun, oj, hoj, hall⟩ := mem_ready.1 hj
      have hun := (mem_ready.1 hr).1
      have hnj := needB_spec hneed inv hj hun hji
      have hnot : ∀ e ∈ oj.after, Region.binds md e = true → e.on ≠ i := fun e he hb heq => by
        have h1 := hall e he hb
        rw [heq, getD_t hun] at h1; cases h1
      have h2 := wpOp_putIf hoj (hfree j oj hoj hji hjun hnot) (fun cs b => hsel i oi cs b hi) (fun cs b => hsel j oj cs b hoj) hQ hy h1
      have hfree' : ∀ k ok, ops[k]? = some ok → k ≠ i → (listed.setIfInBounds j true).getD k true = false →
          (∀ e ∈ ok.after, Region.binds md e = true → e.on ≠ i) → oi.apart ops ok = true := fun k ok hk hki hun hno => by
        refine hfree k ok hk hki ?_ hno
        by_cases hjk : j = k
        · subst hjk; exact hjun
        · rw [getD_set_ne true hjk] at hun; exact hun
      refine wpOp_mono (fun a' w' h3 => ⟨fun _ => h3.2.1 hnj, ih (listed.setIfInBounds j true) a' w' (inv.set hj) hfree' (ready_mono hr (Ne.symm hji)) h3.1 (h3.2.1 hnj) ?_⟩) h2
      rw [Array.setIfInBounds_comm _ _ hji]
      exact h3.2.2

/-- The chosen order: (true, i): taken first; (false, i): the only one that can come. -/
def ordB (md : Region.Mode) (ops : Array Oper) (need : Nat → Bool) : List (Bool × Nat) → Bool → Array Bool → Bool
  | [], _, listed => (Region.ready md ops listed).isEmpty
  | (true, i) :: r, known, listed => known && (Region.ready md ops listed).contains i && Region.free md ops listed i && needB md ops need i && ordB md ops need r known (listed.setIfInBounds i true)
  | (false, i) :: r, _, listed => (Region.ready md ops listed == [i]) && ordB md ops need r (need i) (listed.setIfInBounds i true)

def wpOrd (P : Program) (ops : Array Oper) (Q : Exit → Act → World → Prop) (S : World → Prop) (need : Nat → Bool) : List (Bool × Nat) → Act → World → Prop
  | [], a, w => Q .normal a w
  | (true, i) :: r, a, w => ∀ o, ops[i]? = some o → ∃ v, YieldsIf P ops S o v a ∧ wpOrd P ops Q S need r (a.put o.dst v) w
  | (false, i) :: r, a, w => wpOp P ops Q i (fun a' w' => (need i = true → S w') ∧ wpOrd P ops Q S need r a' w') a w

theorem wpAnyN_of_ord (hsel : Region.noSelect ops = true) (hQ : ∀ d v c a w, Q (.panic c) (a.put d v) w → Q (.panic c) a w) :
    ∀ (l : List (Bool × Nat)) (known : Bool) (listed : Array Bool) (a : Act) (w : World), ordB md ops need l known listed = true → DownC md ops listed → (known = true → S w) →
    wpOrd P ops Q S need l a w → wpAnyN P md ops Q S need l.length listed a w
  | [], _, _, _, _, hB, _, _, h => ⟨by simpa [ordB] using hB, h⟩
  | (true, i) :: r, known, listed, a, w, hB, inv, hS, h => by
    simp only [ordB, Bool.and_eq_true] at hB
    obtain ⟨⟨⟨⟨hk, hr⟩, hf⟩, hn⟩, hB⟩ := hB
    have hr' : i ∈ Region.ready md ops listed := by simpa using hr
    obtain ⟨_, oi, hoi, _⟩ := mem_ready.1 hr'
    obtain ⟨v, hy, hK⟩ := h oi hoi
    exact wpAnyN_first hoi (Region.noSelect_spec hsel) (fun c a w => hQ _ _ c a w) hn r.length listed a w inv (Region.free_spec hoi hf) hr' hy (hS hk)
      (wpAnyN_of_ord hsel hQ r known _ _ w hB (inv.set hr') hS hK)
  | (false, i) :: r, known, listed, a, w, hB, inv, hS, h => by
    simp only [ordB, Bool.and_eq_true, beq_iff_eq] at hB
    have hr' : i ∈ Region.ready md ops listed := by rw [hB.1]; simp
    refine ⟨fun h0 => (by rw [h0] at hr'; cases hr'), fun j hj => ?_⟩
    rw [hB.1] at hj
    have : j = i := by simpa using hj
    subst this
    exact wpOp_mono (fun a' w' h' => ⟨h'.1, wpAnyN_of_ord hsel hQ r (need j) _ a' w' hB.2 (inv.set hr') h'.1 h'.2⟩) h

/-! The form that the walk takes: the operations themselves. -/
def thenQ (Q : Exit → Act → World → Prop) (K : Act → World → Prop) : Exit → Act → World → Prop
  | .normal, a, w => K a w
  | e, a, w => Q e a w

def wpY (P : Program) (ops : Array Oper) (S : World → Prop) (K : Act → Prop) : List Oper → Act → Prop
  | [], a => K a
  | o :: r, a => ∃ v, YieldsIf P ops S o v a ∧ wpY P ops S K r (a.put o.dst v)

theorem wpY_nil {K : Act → Prop} {a : Act} (h : K a) : wpY P ops S K [] a := h
theorem wpY_take {K : Act → Prop} {a : Act} {o : Oper} {r : List Oper} {v : Value} (hw : Region.wanted o (yielded ops a.tmps) = true)
    (h : ∀ w, S w → (execOp a.eval o).run P w = .ok (.value v) w) (hr : wpY P ops S K r (a.put o.dst v)) : wpY P ops S K (o :: r) a := ⟨v, .inl ⟨hw, h⟩, hr⟩
theorem wpY_skip {K : Act → Prop} {a : Act} {o : Oper} {r : List Oper} (hw : Region.wanted o (yielded ops a.tmps) = false)
    (hr : wpY P ops S K r (a.put o.dst undef)) : wpY P ops S K (o :: r) a := ⟨undef, .inr ⟨hw, rfl⟩, hr⟩

def wpSegs (P : Program) (ops : Array Oper) (Q : Exit → Act → World → Prop) (S : World → Prop) : List (List Oper × List Oper) → List Oper → Act → World → Prop
  | [], fin, a, w => wpList P ops Q fin a w
  | (q, e) :: r, fin, a, w => wpY P ops S (fun a' => wpList P ops (thenQ Q fun a2 w2 => S w2 ∧ wpSegs P ops Q S r fin a2 w2) e a' w) q a

def segItems : List (List Nat × List Nat) → List Nat → List (Bool × Nat)
  | [], fin => fin.map (false, ·)
  | (q, e) :: r, fin => q.map (true, ·) ++ (e.map (false, ·) ++ segItems r fin)

def picks (ops : Array Oper) (q : List Nat) : List Oper := q.filterMap (ops[·]?)

theorem opWp_then {o : Oper} {a : Act} {w : World} {K K2 : Act → World → Prop} (h : o.wp P a w K (thenQ Q K2)) : o.wp P a w K Q := by
  unfold Oper.wp at *
  generalize (execOp a.eval o).run P w = r at *
  cases r with
  | ok n w' =>
    cases n <;> simp only [Oper.upon] at h ⊢ <;>
      first
        | exact h
        | exact Calls.mono h (fun e w'' he => by cases e <;> first | exact he | (obtain ⟨a, w, h⟩ := he; exact ⟨a, w, h⟩))
  | halt x w' => cases x <;> simp only [Oper.upon] at h ⊢ <;> exact h

theorem wpOrd_quiet {K : List (Bool × Nat)} {w : World} : ∀ {q : List Nat}, (q.all fun i => decide (i < ops.size)) = true →
    ∀ (a : Act), wpY P ops S (fun a' => wpOrd P ops Q S need K a' w) (picks ops q) a → wpOrd P ops Q S need (q.map (true, ·) ++ K) a w
  | [], _, _, h => h
  | i :: q, hq, a, h => by
    simp only [List.all_cons, Bool.and_eq_true, decide_eq_true_eq] at hq
    have h0 : ops[i]? = some ops[i] := Array.getElem?_eq_getElem hq.1
    simp only [picks, List.filterMap_cons, h0] at h
    obtain ⟨v, hy, hr⟩ := h
    show ∀ o, ops[i]? = some o → ∃ v, YieldsIf P ops S o v a ∧ wpOrd P ops Q S need (q.map (true, ·) ++ K) (a.put o.dst v) w
    intro o ho
    obtain rfl : ops[i] = o := Option.some.inj (h0.symm.trans ho)
    exact ⟨v, hy, wpOrd_quiet hq.2 _ hr⟩

theorem wpOp_of_list {i : Nat} {o : Oper} {K2 : Act → World → Prop} {Q' : Exit → Act → World → Prop} {r : List Oper} {a : Act} {w : World} (hi : ops[i]? = some o) (h : wpList P ops (thenQ Q K2) (o :: r) a w) :
    wpOp P ops Q i (wpList P ops (thenQ Q K2) r) a w := by
  unfold wpOp
  simp only [hi]
  simp only [wpList] at h
  split
  · rename_i hw
    rw [if_pos hw] at h
    rcases h with h | ⟨h1, b, w2, h2⟩
    · exact .inl (opWp_then h)
    · exact .inr ⟨h1, b, w2, h2⟩
  · rename_i hw
    rw [if_neg hw] at h
    exact h

theorem thenQ_self : thenQ Q (fun a w => Q .normal a w) = Q := by
  funext e a w; cases e <;> rfl

theorem wpOrd_fin : ∀ {q : List Nat}, (q.all fun i => decide (i < ops.size) && !need i) = true →
    ∀ (a : Act) (w : World), wpList P ops Q (picks ops q) a w → wpOrd P ops Q S need (q.map (false, ·)) a w
  | [], _, _, _, h => h
  | i :: q, hq, a, w, h => by
    simp only [List.all_cons, Bool.and_eq_true, decide_eq_true_eq, Bool.not_eq_true'] at hq
    have h0 : ops[i]? = some ops[i] := Array.getElem?_eq_getElem hq.1.1
    simp only [picks, List.filterMap_cons, h0] at h
    rw [← thenQ_self (Q := Q)] at h
    refine wpOp_mono (fun a' w' h' => ⟨fun hn => (by rw [hq.1.2] at hn; cases hn), ?_⟩) (wpOp_of_list (Q' := Q) h0 h)
    rw [thenQ_self] at h'
    exact wpOrd_fin hq.2 _ _ h'

theorem wpOrd_segs : ∀ {segs : List (List Nat × List Nat)} {fin : List Nat}, (segs.all fun s => (s.1.all fun i => decide (i < ops.size)) && (s.2.all fun i => decide (i < ops.size)) && decide (s.2.length ≤ 1)) = true →
    (fin.all fun i => decide (i < ops.size) && !need i) = true →
    ∀ {a : Act} {w : World}, wpSegs P ops Q S (segs.map fun s => (picks ops s.1, picks ops s.2)) (picks ops fin) a w → wpOrd P ops Q S need (segItems segs fin) a w
  | [], fin, _, hf, a, w, h => wpOrd_fin hf a w h
  | (q, e) :: r, fin, hs, hf, a, w, h => by
    simp only [List.all_cons, Bool.and_eq_true, decide_eq_true_eq] at hs
    obtain ⟨⟨⟨h1, h2⟩, h3⟩, h4⟩ := hs
    simp only [segItems]
    refine wpOrd_quiet h1 a ?_
    have hmono : ∀ {l : List Oper} {K K' : Act → Prop} {a : Act}, (∀ a, K a → K' a) → wpY P ops S K l a → wpY P ops S K' l a := by
      intro l; induction l with
      | nil => intro K K' a hk h; exact hk _ h
      | cons o l ih => intro K K' a hk ⟨v, hy, h⟩; exact ⟨v, hy, ih hk h⟩
    refine hmono (fun a' h' => ?_) h
    match e, h2, h3, h' with
    | [], _, _, h' => exact wpOrd_segs h4 hf h'.2
    | [i], h2, _, h' =>
      simp only [List.all_cons, List.all_nil, Bool.and_true, decide_eq_true_eq] at h2
      have h0 : ops[i]? = some ops[i] := Array.getElem?_eq_getElem h2
      simp only [picks, List.filterMap_cons, h0, List.filterMap_nil] at h'
      exact wpOp_mono (fun a2 w2 h5 => ⟨fun _ => h5.1, wpOrd_segs h4 hf h5.2⟩) (wpOp_of_list (Q' := Q) h0 h')
    | _ :: _ :: _, _, h3, _ => simp at h3

def regionB (l : List Oper) (segs : List (List Nat × List Nat)) (fin : List Nat) : Bool :=
  Region.noSelect l.toArray && (segItems segs fin).length == l.length &&
  (segs.all fun s => (s.1.all fun i => decide (i < l.toArray.size)) && (s.2.all fun i => decide (i < l.toArray.size)) && decide (s.2.length ≤ 1)) &&
  (fin.all fun i => decide (i < l.toArray.size)) &&
  ordB .any l.toArray (fun i => !fin.contains i) (segItems segs fin) true (Array.replicate l.toArray.size false)

theorem wp_region_ord {id : Nat} {l : List Oper} {a : Act} {w : World} (S : World → Prop) (segs : List (List Nat × List Nat)) (fin : List Nat) (hm : P.follows .mixedOrders = true)
    (hB : regionB l segs fin = true) (hS : S w.drew)
    (h : wpSegs P l.toArray (NoPanic Q) S (segs.map fun s => (picks l.toArray s.1, picks l.toArray s.2)) (picks l.toArray fin) a w.drew) : (Code.region id l.toArray true).wp P Q a w := by
  simp only [regionB, Bool.and_eq_true, beq_iff_eq] at hB
  obtain ⟨⟨⟨⟨hsel, hlen⟩, hs⟩, hf⟩, ho⟩ := hB
  have hf' : (fin.all fun i => decide (i < l.toArray.size) && !(fun i => !fin.contains i) i) = true := by
    rw [List.all_eq_true] at hf ⊢
    intro i hi
    simp only [Bool.and_eq_true, hf i hi, Bool.not_not, true_and]
    simpa using hi
  have inv0 : DownC .any l.toArray (Array.replicate l.toArray.size false) := ⟨by simp, fun j oj _ hl => by
    have : (Array.replicate l.toArray.size false).getD j false = false := by
      rcases Nat.lt_or_ge j l.toArray.size with h | h
      · simp at h; simp [h]
      · simp at h; simp [h]
    rw [this] at hl; cases hl⟩
  have := wpAnyN_of_ord (md := .any) (S := S) (Q := NoPanic Q) hsel (fun _ _ _ _ _ h => h) (segItems segs fin) true _ a w.drew ho inv0 (fun _ => hS) (wpOrd_segs hs hf' h)
  rw [hlen, show l.length = l.toArray.size by simp] at this
  exact wp_region_noPanic (wp_region_any hm (wpAny_of_N _ _ _ _ this))
end
end Go.Proofs.YtdbbkaeoinalpaaGreat
