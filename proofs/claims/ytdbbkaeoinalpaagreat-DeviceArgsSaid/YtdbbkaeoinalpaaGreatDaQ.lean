/- The law DeviceArgs, walked. -/
import Derived.Test.YtdbbkaeoinalpaaGreatDaP
import Derived.Test.YtdbbkaeoinalpaaGreatDaHa
import Derived.Test.YtdbbkaeoinalpaaGreatDaJ
set_option linter.unusedVariables false
namespace Go.Proofs.YtdbbkaeoinalpaaGreat
namespace AM
noncomputable abbrev argsAw : Aw := ⟨ownA⟩
/-- 'awake' answers true, and changes nothing that was there. -/
theorem awake13_own : OwnOK Tryz.prog 13 awakeT := by
  refine ⟨has13, fun {args σ r σ'} h ι args' w hr hv => ?_⟩
  unfold awakeT at h
  split at h
  · cases h
    cases hv
    obtain ⟨n, σ2, h1⟩ := aw13
    refine ((callF_sound tables (orc_ok (base_prog sorted_own) n) (fun k F h => ftab_ok k F h) (args' := []) h1).2 (base_R w) .nil).mono ?_
    rintro e w' ⟨ι', hx, hr', hret⟩
    have hk : ∀ b, b < w.heap.size → w'.heap[b]? = w.heap[b]? := fun b hb => hx.keep b hb fun A bk h => by cases h
    refine ⟨ι, ⟨Sub.refl _, hx.os, hx.tape, hx.output, hx.size, fun b hb _ => hk b hb, fun A bk h1 h2 => by rw [h1] at h2; cases h2⟩, hr.kept hx.size hk, ?_⟩
    cases e <;> simp only [RetR] at hret ⊢
    cases hret
    exact .bool true
  · cases h
theorem args_prog : ProgOK Tryz.prog (@prog argsAw) where
  tables := tables
  fs := fun k F h => ftab_ok k F h
  meth := meth_ok
  own := fun k f h => by
    simp only [prog] at h
    split at h
    · replace h : ownA k = some f := h
      unfold ownA at h
      split at h
      · rename_i hk
        rw [nbeq] at hk
        have hk := of_decide_eq_true hk
        subst hk
        cases h
        exact sorted_own
      · split at h
        · rename_i hk
          rw [nbeq] at hk
          have hk := of_decide_eq_true hk
          subst hk
          cases h
          exact awake13_own
        · cases h
    · cases h
/-- The model, as far as the law asks it. -/
def ModH (σ : H) (m : Nat) (F : Foot) : Prop := m < σ.next ∧ ¬ F m ∧ ∃ x y w t, σ.get m = some (.cells [x, y, .pointer (some ⟨w, 0, none⟩)] t 3 .exact) ∧ w < σ.next ∧ ¬ F w ∧ ∃ z p c t', σ.get w = some (.cells [z, .slice p 0 c] t' 2 .exact)
theorem ModH.same {S F : Foot} {σ σ' : H} {m : Nat} (h : ModH σ m F) (hs : Same S σ σ') (hf : ∀ x, S x → F x) : ModH σ' m F := by
  obtain ⟨h1, f1, x, y, w, t, h2, h3, f2, z, p, c, t', h4⟩ := h
  exact ⟨Nat.lt_of_lt_of_le h1 hs.le, f1, x, y, w, t, by rw [hs.get m h1 fun h => f1 (hf _ h)]; exact h2, Nat.lt_of_lt_of_le h3 hs.le, f2, z, p, c, t', by rw [hs.get w h3 fun h => f2 (hf _ h)]; exact h4⟩
structure Sh (σ : H) (d m e b : Nat) (c : Crn) (F : Foot) : Prop where
  dev : DevH σ d e b
  eng : ∃ pp rr ss sl, EngH σ e c pp rr ss sl false
  sec : c.sectors = 30
  buf : Bufr σ b [] F
  fd : ¬ F d
  fe : ¬ F e
  mod : ModH σ m F
theorem shp_of {σ : H} {d m : Nat} {K : Crn → Bool} (h : shp σ d m K = true) : ∃ e b c F, Sh σ d m e b c F ∧ K c = true := by
  unfold shp at h
  simp only [Bool.and_eq_true, nblt, decide_eq_true_eq] at h
  obtain ⟨hd, hm, a1⟩ := h
  obtain ⟨cs, td, g1, a2⟩ := cB_of a1
  obtain ⟨x, y, e1, a3⟩ := two_of a2
  obtain ⟨e, e2, a4⟩ := pB_of a3
  obtain ⟨b, e3, a5⟩ := pB_of a4
  rw [e1, e2, e3] at g1
  simp only [Bool.and_eq_true, decide_eq_true_eq] at a5
  obtain ⟨he, ⟨⟨hb, a6⟩, a7⟩, a8⟩ := a5
  obtain ⟨cs2, tb, g2, b1⟩ := cB_of a6
  obtain ⟨x2, y2, e4, b2⟩ := two_of b1
  obtain ⟨n, e5, b3⟩ := iB_of b2
  simp only [Bool.and_eq_true, eqI_eq, decide_eq_true_eq] at b3
  obtain ⟨e6, b4⟩ := b3
  split at b4
  case h_2 => cases b4
  rename_i mm
  simp only [Bool.and_eq_true, decide_eq_true_eq] at b4
  obtain ⟨hmm, b5⟩ := b4
  unfold emptyM at b5
  split at b5
  case h_2 => cases b5
  rename_i clk g3
  rw [e4, e5, e6] at g2
  obtain ⟨cs3, tm, g4, c1⟩ := cB_of a7
  obtain ⟨x1, x2', x3, e7, c2⟩ := three_of c1
  obtain ⟨w, e8, c3⟩ := pB_of c2
  rw [e7, e8] at g4
  simp only [Bool.and_eq_true, decide_eq_true_eq] at c3
  obtain ⟨hw, c4⟩ := c3
  obtain ⟨cs4, tw, g5, c5⟩ := cB_of c4
  obtain ⟨y1, y2', e9, c6⟩ := two_of c5
  have hS : ∃ p c, y2' = .slice p 0 c := by
    unfold emptyS at c6
    split at c6
    · rw [nbeq] at c6
      have c6 := of_decide_eq_true c6
      subst c6
      exact ⟨_, _, rfl⟩
    · cases c6
  obtain ⟨p0, c0, e10⟩ := hS
  rw [e9, e10] at g5
  obtain ⟨cs5, te, g6, d1⟩ := cB_of a8
  have hE : ∃ pp rr ss sl c, cs5 = [pp, .int .i64 c.gen, .int .i64 c.blocks, .int .i64 c.sectors, .float .f64 c.gain, .int .i64 c.at_, .int .i64 c.n, .int .i64 c.kgen, .int .i64 c.height, rr, ss, .pointer (some ⟨sl, 0, none⟩), .bool false] ∧ c.sectors = 30 ∧ K c = true := by
    unfold engB at d1
    split at d1
    case h_2 => cases d1
    split at d1
    case h_2 => cases d1
    obtain ⟨sl, q1, d2⟩ := pB_of d1
    simp only [Bool.and_eq_true] at d2
    obtain ⟨hfz, d3⟩ := d2
    obtain ⟨g, q2, d4⟩ := iB_of d3
    obtain ⟨bl, q3, d5⟩ := iB_of d4
    obtain ⟨s, q4, d6⟩ := iB_of d5
    obtain ⟨ga, q5, d7⟩ := flB_of d6
    obtain ⟨at_, q6, d8⟩ := iB_of d7
    obtain ⟨nn, q7, d9⟩ := iB_of d8
    obtain ⟨kg, q8, d10⟩ := iB_of d9
    obtain ⟨hh, q9, d11⟩ := iB_of d10
    simp only [Bool.and_eq_true, eqI_eq, decide_eq_true_eq] at d11
    unfold notFz at hfz
    split at hfz
    case h_2 => cases hfz
    simp only [Bool.not_eq_true'] at hfz
    rw [q1, q2, q3, q4, q5, q6, q7, q8, q9, hfz]
    exact ⟨_, _, _, sl, ⟨g, bl, s, ga, at_, nn, kg, hh⟩, rfl, d11.1, d11.2⟩
  obtain ⟨pp, rr, ss, sl, c, e11, e12, hK⟩ := hE
  rw [e11] at g6
  refine ⟨e, b, c, fun x => x = b ∨ x = mm, ⟨⟨⟨td, g1⟩, hd⟩, ⟨pp, rr, ss, _, ⟨te, g6⟩, he⟩, e12, ⟨⟨mm, [], tb, g2, ⟨⟨[], clk, g3, .nil, by simp [bornOk, nble]⟩, .nil⟩, .nil, .inr rfl, (fun e => by rw [e, g2] at g3; cases g3), by simp⟩, .inl rfl, fun x hx => by rcases hx with rfl | rfl <;> assumption, by simp⟩, fun hx => ?_, fun hx => ?_, hm, fun hx => ?_, x1, x2', w, tm, g4, hw, fun hx => ?_, y1, p0, c0, tw, g5⟩, hK⟩
  · rcases hx with rfl | rfl
    · rw [g1] at g2; cases g2
    · rw [g1] at g3; cases g3
  · rcases hx with rfl | rfl
    · rw [g6] at g2; cases g2
    · rw [g6] at g3; cases g3
  · rcases hx with rfl | rfl
    · rw [g4] at g2; cases g2
    · rw [g4] at g3; cases g3
  · rcases hx with rfl | rfl
    · rw [g5] at g2; cases g2
    · rw [g5] at g3; cases g3
theorem Sh.same0 {σ σ' : H} {d m e b : Nat} {c : Crn} {F : Foot} (h : Sh σ d m e b c F) (hs : Same0 σ σ') : Sh σ' d m e b c F := by
  obtain ⟨pp, rr, ss, sl, he⟩ := h.eng
  exact ⟨h.dev.same hs fun h => h, ⟨pp, rr, ss, sl, he.same hs fun h => h⟩, h.sec, h.buf.same hs (Disj.none _), h.fd, h.fe, h.mod.same hs fun _ h => h.elim⟩
section
variable [Aw]
set_option maxRecDepth 100000 in
/-- What is known of a new device. -/
theorem fresh_of (hW : ∀ k, Aw.own k = ownA k) (row : List Value) : Ru 14 [.int .i64 256, .int .i64 30, .float .f64 4607182418800017408] h0 fun r σ => ∃ p d m e b c F, r = .ok (.tuple #[p, .pointer (some ⟨d, 0, none⟩), .pointer (some ⟨m, 0, none⟩)]) ∧ Sh σ d m e b c F ∧ σ.next ≠ 0 ∧
    ∀ i : Nat, i < 30 → Ru 17 [.pointer (some ⟨d, 0, none⟩), .int .i64 i] (crnH (crnH (σ.push (.cells row 5 1 .exact)) c) c) fun r σ' => (∃ v, r = .ok (.tuple #[v, .int .i64 0])) ∧ ∃ e b c F, Sh σ' d m e b c F ∧ σ'.next ≠ 0 := by
  obtain ⟨n, r, σ', h1, h2⟩ := kCallF_of (orcK_ok hW ovS_ok 100000) (fresh_k row)
  have hcall : Ru 14 [.int .i64 256, .int .i64 30, .float .f64 4607182418800017408] h0 (fun r σ => chk row r σ = true) := ⟨n + 1, r, σ', h1, h2⟩
  refine hcall.mono ?_
  intro r σ h
  unfold chk three3 at h
  split at h
  case h_2 => cases h
  rename_i cs
  obtain ⟨p, x, y, e1, a1⟩ := three_of h
  obtain ⟨d, e2, a2⟩ := pB_of a1
  obtain ⟨m, e3, a3⟩ := pB_of a2
  obtain ⟨e, b, c, F, hS, a4⟩ := shp_of a3
  refine ⟨p, d, m, e, b, c, F, by rw [e1, e2, e3], hS, by have := hS.dev.lt; omega, fun i hi => ?_⟩
  have a5 := allN_of a4 i hi
  have a6 := run_of (W := ownA) (V := ovS) (n := 100000) (k := 17) hW ovS_ok a5
  refine a6.mono ?_
  intro r σ' h
  simp only [Bool.and_eq_true] at h
  obtain ⟨h1, h2⟩ := h
  obtain ⟨e, b, c, F, hS, _⟩ := shp_of h2
  refine ⟨?_, e, b, c, F, hS, by have := hS.dev.lt; omega⟩
  unfold isRd at h1
  split at h1
  case h_2 => cases h1
  obtain ⟨v, x, e1, a1⟩ := two_of h1
  obtain ⟨e, e2, a2⟩ := iB_of a1
  rw [eqI_eq] at a2
  have a2 := of_decide_eq_true a2
  exact ⟨v, by rw [e1, e2, a2]⟩
omit [Aw] in
theorem fits0 (s : Int) (n : Nat) (hn : n ≤ 60) (pend : Pend) (hp : pend.length ≤ 1) : fitsM pend (rangeI s n) = true := by
  have := absent_len pend (rangeI s n)
  rw [rangeI_len] at this
  exact decide_eq_true (by omega)
/-- A trim of a device of 30 sectors. -/
theorem trim30 {σ : H} {d e b : Nat} {c : Crn} {pp rr ss : Value} {sl : Addr} {pend : Pend} {F : Foot} (hd : DevH σ d e b) (he : EngH σ e c pp rr ss sl false) (hc : c.sectors = 30) (hB : Bufr σ b pend F) (hp : pend.length ≤ 1) (s n : Int) (hn : -9223372036854775808 ≤ n ∧ n ≤ 9223372036854775807) :
    Ru 18 [.pointer (some ⟨d, 0, none⟩), .int .i64 s, .int .i64 n] σ fun r σ' => r = .ok (.int .i64 (if knownB 30 s n then 0 else 1)) ∧ (knownB 30 s n = false → Same0 σ σ') ∧ Same F σ σ' := by
  have h0 : σ.next ≠ 0 := by have := hd.lt; omega
  cases hk : knownB 30 s n with
  | false =>
    refine (trim_bad hd he s n (by omega) hn.2 (by rw [hc]; exact hk)).mono ?_
    rintro r σ' ⟨rfl, h⟩
    exact ⟨rfl, fun _ => h, h.mono fun _ _ h => h.elim⟩
  | true =>
    have hk' := hk
    simp only [knownB, decide_eq_true_eq] at hk'
    obtain ⟨k, rfl⟩ := Int.eq_ofNat_of_zero_le hk'.1
    refine (trim_fit hd he hB h0 s k (by omega) (by rw [hc]; exact hk) (by omega) (by omega) (fits0 s k (by omega) pend hp)).mono ?_
    rintro r σ' ⟨rfl, _, h⟩
    exact ⟨rfl, (fun h => by cases h), h⟩
theorem args_law (ha : ∀ σ, Ru 13 [] σ fun r σ' => r = .ok (.bool true) ∧ σ' = σ) (hW : ∀ k, Aw.own k = ownA k) (s : Int) (z : Nat) (n : Int) (hz : z < 65536) (hs : -9223372036854775808 ≤ s ∧ s ≤ 9223372036854775807) (hn : -9223372036854775808 ≤ n ∧ n ≤ 9223372036854775807) :
    Ru 4 [.int .i64 s, .int .u16 (z : Int), .int .i64 n] h0 fun r σ' => r = .ok (.bool true) := by
  refine ru_fn (F := f4) rfl rfl rfl (by simp) ?_
  simp [f4]
  refine (ha h0).mono ?_
  rintro r σ1 ⟨rfl, rfl⟩
  simp
  refine (fresh_of hW (lrep [.int .u8 0] (z % 300))).mono ?_
  rintro r σ ⟨p, d, m, e, b, c, F, rfl, hS, hn0, hrd⟩
  have hw : IntKind.i64.wrap (z : Int) = (z : Int) := wrap64 (by omega) (by omega)
  obtain ⟨k, hk⟩ : ∃ k, k = z % 300 := ⟨_, rfl⟩
  have hk3 : k < 300 := by omega
  have ht : ((z : Nat) : Int).tmod 300 = (k : Int) := by rw [hk]; exact (Int.ofNat_tmod _ 300).symm
  rw [← hk] at hrd
  have hw2 : IntKind.i64.wrap (k : Int) = (k : Int) := wrap64 (by omega) (by omega)
  have hnew := prim_newSlice (σ := σ) (elem := 5) (esz := 1) (bytes := 1) (z := [.int .u8 0]) (n := k) .i64 .i64 (by decide) (by omega)
  simp [hw, ht, hw2, hnew]
  have hp1 : Same0 σ (σ.push (.cells (lrep [.int .u8 0] k) 5 1 .exact)) := (Same.refl _ _).push _
  have hby : Byts (σ.push (.cells (lrep [.int .u8 0] k) 5 1 .exact)) (.slice (some ⟨σ.next, 0, none⟩) k k) (List.replicate k 0) := by
    have := Sl.fresh (σ := σ) hn0 (lrep [.int .u8 0] k) 5 1 k .exact (by simp [lrep_len'])
    rw [lrep_one] at this ⊢
    simpa [Byts, bv] using this
  have hS1 := hS.same0 hp1
  obtain ⟨σ1, hσ1⟩ : ∃ σ1, σ1 = σ.push (.cells (lrep [.int .u8 0] k) 5 1 .exact) := ⟨_, rfl⟩
  rw [← hσ1] at hby hS1 hrd ⊢
  obtain ⟨pp, rr, ss, sl, hE1⟩ := hS1.eng
  have hc := hS.sec
  by_cases hin : 0 ≤ s ∧ s < 30
  · obtain ⟨i, rfl⟩ := Int.eq_ofNat_of_zero_le hin.1
    have hi : i < 30 := by omega
    have hk1 : knownB c.sectors (i : Int) 1 = true := by
      rw [hc]; simp only [knownB, decide_eq_true_eq]; omega
    have hs0 : (0 : Int) ≤ i := hin.1
    have hs30 : (i : Int) < 30 := hin.2
    have hle30 : (i : Int) ≤ 30 := by omega
    have hw3 : IntKind.i64.wrap (30 - (i : Int)) = 30 - (i : Int) := wrap64 (by omega) (by omega)
    by_cases hk128 : k = 128
    · -- the write is taken
      subst hk128
      have hpl : fitsM [] [(i : Int)] = true := by
        have := absent_len [] [(i : Int)]
        exact decide_eq_true (by simp at this ⊢; omega)
      simp [hs0, hs30, hi]
      refine (write_fit hS1.dev hE1 hS1.buf (by have := hS1.dev.lt; omega) (i : Int) (by omega) hby hk1 (by simp) (by simp) hpl).mono ?_
      rintro r σ2 ⟨rfl, F2, hB2, hG2, hs2⟩
      have hd2 := hS1.dev.same hs2 hS1.fd
      have he2 := hE1.same hs2 hS1.fe
      simp
      refine (read_waits hd2 he2 hB2 (by have := hd2.lt; omega) (i : Int) (by omega) hk1 (x := some (List.replicate 128 0)) (by simp [kvSet, kvGet]) (by simp [kvSet])).mono ?_
      rintro r σ3 ⟨v, rfl, _, hs3⟩
      simp
      refine (trim30 (hd2.same hs3 fun h => h) (he2.same hs3 fun h => h) hc (hB2.same hs3 (Disj.none _)) (by simp [kvSet]) (i : Int) n hn).mono ?_
      rintro r σ4 ⟨rfl, _⟩
      by_cases h1 : 0 ≤ n
      · by_cases h2 : n ≤ 30 - (i : Int)
        · have hkn : knownB 30 (i : Int) n = true := by simp only [knownB, decide_eq_true_eq]; omega
          simp [hkn, hs0, h1, hle30, hw3, h2]
        · have hkn : knownB 30 (i : Int) n = false := by simp only [knownB, decide_eq_false_iff_not]; omega
          simp [hkn, hs0, h1, hle30, hw3, h2]
      · have hkn : knownB 30 (i : Int) n = false := by simp only [knownB, decide_eq_false_iff_not]; omega
        simp [hkn, hs0, h1]
    · -- its size is wrong
      have hk128' : ¬ ((k : Int) = 128) := by omega
      simp [hs0, hs30, hi, hk128, hk128']
      refine (write_bad hS1.dev hE1 (i : Int) (by omega) hby (.inr (by simpa using hk128))).mono ?_
      rintro r σ2 ⟨rfl, hs2, hx2⟩
      have hx2 := hx2 hk1
      have hS2 := hS1.same0 hs2
      simp
      refine (pending_run hS2.dev hS2.buf).mono ?_
      rintro r σ2' ⟨rfl, rfl⟩
      simp
      have hr := hrd i hi
      rw [← hx2] at hr
      refine hr.mono ?_
      rintro r σ3 ⟨⟨v, rfl⟩, e3, b3, c3, F3, hS3, _⟩
      obtain ⟨pp3, rr3, ss3, sl3, hE3⟩ := hS3.eng
      simp
      refine (trim30 hS3.dev hE3 hS3.sec hS3.buf (by simp) (i : Int) n hn).mono ?_
      rintro r σ4 ⟨rfl, hs4, hs4'⟩
      obtain ⟨_, _, x, y, w, t, g1, _, _, z', p', c', t', g2⟩ := hS3.mod.same hs4' fun _ h => h
      by_cases h1 : 0 ≤ n
      · by_cases h2 : n ≤ 30 - (i : Int)
        · have hkn : knownB 30 (i : Int) n = true := by simp only [knownB, decide_eq_true_eq]; omega
          simp [hkn, hs0, h1, hle30, hw3, h2, g1, g2]
        · have hkn : knownB 30 (i : Int) n = false := by simp only [knownB, decide_eq_false_iff_not]; omega
          have hS4 := hS3.same0 (hs4 hkn)
          simp [hkn, hs0, h1, hle30, hw3, h2]
          refine (pending_run hS4.dev hS4.buf).mono ?_
          rintro r σ4' ⟨rfl, rfl⟩
          simp [g1, g2]
      · have hkn : knownB 30 (i : Int) n = false := by simp only [knownB, decide_eq_false_iff_not]; omega
        have hS4 := hS3.same0 (hs4 hkn)
        simp [hkn, hs0, h1]
        refine (pending_run hS4.dev hS4.buf).mono ?_
        rintro r σ4' ⟨rfl, rfl⟩
        simp [g1, g2]
  · have hk1 : knownB c.sectors s 1 = false := by
      rw [hc]; simp only [knownB, decide_eq_false_iff_not]; omega
    by_cases hs0 : 0 ≤ s
    · have hs30 : ¬ s < 30 := by omega
      simp [hs0, hs30]
      refine (write_bad hS1.dev hE1 s (by omega) hby (.inl hk1)).mono ?_
      rintro r σ2 ⟨rfl, hs2, _⟩
      simp
      have hS2 := hS1.same0 hs2
      obtain ⟨pp2, rr2, ss2, sl2, hE2⟩ := hS2.eng
      refine (pending_run hS2.dev hS2.buf).mono ?_
      rintro r σ2 ⟨rfl, rfl⟩
      simp
      refine (read_bad hS2.dev hE2 s (by omega) hk1).mono ?_
      rintro r σ3 ⟨rfl, hs3⟩
      have hS3 := hS2.same0 hs3
      obtain ⟨pp3, rr3, ss3, sl3, hE3⟩ := hS3.eng
      simp
      refine (trim30 hS3.dev hE3 hS3.sec hS3.buf (by simp) s n hn).mono ?_
      rintro r σ4 ⟨rfl, hs4, hs4'⟩
      obtain ⟨_, _, x, y, w, t, g1, _, _, z', p', c', t', g2⟩ := hS3.mod.same hs4' fun _ h => h
      by_cases h1 : 0 ≤ n
      · by_cases h2 : s ≤ 30
        · have hw3 : IntKind.i64.wrap (30 - s) = 30 - s := wrap64 (by omega) (by omega)
          by_cases h3 : n ≤ 30 - s
          · have hkn : knownB 30 s n = true := by simp only [knownB, decide_eq_true_eq]; omega
            simp [hkn, hs0, h1, h2, hw3, h3, g1, g2]
          · have hkn : knownB 30 s n = false := by simp only [knownB, decide_eq_false_iff_not]; omega
            have hS4 := hS3.same0 (hs4 hkn)
            simp [hkn, hs0, h1, h2, hw3, h3]
            refine (pending_run hS4.dev hS4.buf).mono ?_
            rintro r σ4' ⟨rfl, rfl⟩
            simp [g1, g2]
        · have hkn : knownB 30 s n = false := by simp only [knownB, decide_eq_false_iff_not]; omega
          have hS4 := hS3.same0 (hs4 hkn)
          simp [hkn, hs0, h1, h2]
          refine (pending_run hS4.dev hS4.buf).mono ?_
          rintro r σ4' ⟨rfl, rfl⟩
          simp [g1, g2]
      · have hkn : knownB 30 s n = false := by simp only [knownB, decide_eq_false_iff_not]; omega
        have hS4 := hS3.same0 (hs4 hkn)
        simp [hkn, hs0, h1]
        refine (pending_run hS4.dev hS4.buf).mono ?_
        rintro r σ4' ⟨rfl, rfl⟩
        simp [g1, g2]
    · simp [hs0]
      refine (write_bad hS1.dev hE1 s (by omega) hby (.inl hk1)).mono ?_
      rintro r σ2 ⟨rfl, hs2, _⟩
      simp
      have hS2 := hS1.same0 hs2
      obtain ⟨pp2, rr2, ss2, sl2, hE2⟩ := hS2.eng
      refine (pending_run hS2.dev hS2.buf).mono ?_
      rintro r σ2 ⟨rfl, rfl⟩
      simp
      refine (read_bad hS2.dev hE2 s (by omega) hk1).mono ?_
      rintro r σ3 ⟨rfl, hs3⟩
      have hS3 := hS2.same0 hs3
      obtain ⟨pp3, rr3, ss3, sl3, hE3⟩ := hS3.eng
      simp
      refine (trim30 hS3.dev hE3 hS3.sec hS3.buf (by simp) s n hn).mono ?_
      rintro r σ4 ⟨rfl, hs4, _⟩
      have hkn : knownB 30 s n = false := by simp only [knownB, decide_eq_false_iff_not]; omega
      have hS4 := hS3.same0 (hs4 hkn)
      simp [hkn, hs0]
      refine (pending_run hS4.dev hS4.buf).mono ?_
      rintro r σ4 ⟨rfl, rfl⟩
      obtain ⟨_, _, x, y, w, t, g1, _, _, z', p', c', t', g2⟩ := hS4.mod
      simp [g1, g2]
end
end AM
end Go.Proofs.YtdbbkaeoinalpaaGreat
