/- Plain: what is found is so; trimming, adding and reversing rules. -/
import Derived.Test.YtogjcfcfgnbmkaaPlainB
namespace Go.Proofs.Ytogjcfcfgnbmkaa
set_option linter.unusedVariables false
set_option linter.unusedSimpArgs false

/-! ### a scheme is valid: as a list -/
theorem validTo_iff {S : Sch} : validTo S S.rules.length ↔ (∀ r ∈ S.rules, rightB S.modes r = true) ∧ S.rules.Pairwise fun q r => eqRl r q = false := by
  constructor
  · intro h
    refine ⟨fun r hr => ?_, ?_⟩
    · obtain ⟨i, hi, rfl⟩ := List.getElem_of_mem hr
      have := h i hi hi
      rw [goodAt, Bool.and_eq_true] at this
      exact this.1
    · rw [List.pairwise_iff_getElem]
      intro i j hi hj hij
      have := h j hj hj
      rw [goodAt, Bool.and_eq_true] at this
      have h2 : (S.rules.take j).any (eqRl S.rules[j]) = false := by simpa using this.2
      rw [List.any_eq_false] at h2
      have h3 := h2 S.rules[i] (by rw [List.mem_iff_getElem]; exact ⟨i, by rw [List.length_take]; omega, List.getElem_take⟩)
      simpa using h3
  · rintro ⟨h1, h2⟩ i hi _
    rw [goodAt, h1 _ (List.getElem_mem hi)]
    rw [List.pairwise_iff_getElem] at h2
    have : (S.rules.take i).any (eqRl S.rules[i]) = false := by
      rw [List.any_eq_false]
      intro q hq
      obtain ⟨j, hj, rfl⟩ := List.getElem_of_mem hq
      rw [List.length_take] at hj
      rw [List.getElem_take]
      have := h2 j i (by omega) hi (by omega)
      simpa using this
    rw [this]; rfl
theorem validB_list {S : Sch} : validB S = true ↔ headB S = true ∧ (∀ r ∈ S.rules, rightB S.modes r = true) ∧ S.rules.Pairwise fun q r => eqRl r q = false := by
  rw [validB_iff, Valid, validTo_iff]
theorem headB_iff {S : Sch} : headB S = true ↔ 1 ≤ S.modes ∧ S.modes ≤ 8 ∧ S.rules.length ≤ 64 ∧ 1 ≤ S.acc ∧ S.acc < 2 ^ S.modes.toNat := by
  unfold headB; simp only [Bool.and_eq_true, decide_eq_true_eq]

/-! ### what is found is so -/
theorem deadF_lt {S : Sch} {k : Nat} : ∀ i ∈ deadF S k, i < k := fun i h => (deadF_mem.1 h).1
theorem deadF_sorted (S : Sch) (k : Nat) : (deadF S k).Pairwise (· < ·) := List.Pairwise.filter _ List.pairwise_lt_range
theorem proves_found {S : Sch} (hv : validB S = true) (hS : Fit S) : provesF S (ints (deadF S S.rules.length)) (ints (stuckF S)) (ints (endF S)) = true := by
  refine pf_true hv (fun k hk => ?_) ?_ ?_
  · have hk2 : k < (deadF S S.rules.length).length := by rwa [ints_len] at hk
    have hg : (ints (deadF S S.rules.length)).getD k 0 = ((deadF S S.rules.length)[k] : Int) := by rw [getD_at hk]; simp [ints]
    obtain ⟨h1, h2, h3⟩ := deadF_mem.1 (List.getElem_mem hk2)
    unfold okAt
    rw [hg]
    simp only [Int.toNat_natCast]
    rw [dif_pos h2, h3]
    by_cases h0 : k = 0
    · subst h0; simp
    · have hk3 : k - 1 < (deadF S S.rules.length).length := by omega
      have hg2 : (ints (deadF S S.rules.length)).getD (k - 1) 0 = ((deadF S S.rules.length)[k - 1] : Int) := by rw [getD_at (by rw [ints_len]; exact hk3)]; simp [ints]
      rw [hg2]
      have := (List.pairwise_iff_getElem.1 (deadF_sorted S S.rules.length)) (k - 1) k hk3 hk2 (by omega)
      simp; exact .inr this
  · unfold stuckOk
    rcases stuckF_least hS with ⟨h1, _⟩ | ⟨h1, ⟨h2, h3, t, h4, h5⟩, _⟩
    · rw [h1]; rfl
    · have hf := leads_follow hS (fun _ => true) (stuckF S) 0
      rw [show leads (fun _ => true) S.rules 0 (stuckF S) = some t from h4] at hf
      simp only [Int.natCast_zero, Option.map_some] at hf
      rw [hf]
      simp [h2, h5]
  · unfold endOk
    rcases endF_least hS _ (Nat.le_refl _) with ⟨h1, _⟩ | ⟨h1, ⟨m, hm, hc, hd, hl⟩, _⟩
    · rw [show endF S = [] from h1]; rfl
    · have hne : endF S ≠ [] := h1
      have hle : leads emptyR S.rules m (endF S) = some m := hl
      rcases hE : endF S with _ | ⟨i, cs⟩
      · exact absurd hE hne
      · rw [hE] at hle
        obtain ⟨u, ⟨hi, hf, he, hd2⟩, h2⟩ := leads_cons.1 hle
        have hg : (ints (i :: cs)).getD 0 0 = (i : Int) := rfl
        obtain ⟨f0, f1, t0, t1⟩ := hS.at0 i hi
        have hfl := leads_follow hS emptyR (i :: cs) m
        rw [hle, Option.map_some] at hfl
        have e : S.rules[i].frm = (m : Int) := by omega
        rw [hg]
        simp only [Int.toNat_natCast]
        have hfl2 : followF emptyR S.rules S.rules[i].frm (ints (i :: cs)) = some (m : Int) := by rw [e]; exact hfl
        rw [dif_pos hi, hfl2]
        simp only [cbit, Bool.and_eq_true] at hc
        simp [hc.1, hc.2, e]

/-! ### without the dead rules -/
def trimR (S : Sch) : List Rl := S.rules.filter fun r => !deadB (reachS S) (liveS S) r
def trimS (S : Sch) : Sch := ⟨S.modes, S.acc, trimR S⟩
theorem trim_mem {S : Sch} {r : Rl} : r ∈ trimR S ↔ r ∈ S.rules ∧ (reachS S).testBit r.frm.toNat = true ∧ (liveS S).testBit r.dst.toNat = true := by
  unfold trimR deadB
  rw [List.mem_filter]
  simp
theorem trim_fit {S : Sch} (hS : Fit S) : Fit (trimS S) := by
  refine ⟨hS.m0, hS.m1, hS.a0, hS.a1, Nat.le_trans (List.length_filter_le _ _) hS.len, fun i hi => ?_⟩
  exact hS.rule (trim_mem.1 (List.getElem_mem hi)).1
theorem trim_valid {S : Sch} (hv : validB S = true) : validB (trimS S) = true := by
  rw [validB_list] at hv ⊢
  obtain ⟨h1, h2, h3⟩ := hv
  rw [headB_iff] at h1
  refine ⟨headB_iff.2 ⟨h1.1, h1.2.1, Nat.le_trans (List.length_filter_le _ _) h1.2.2.1, h1.2.2.2⟩, fun r hr => h2 r (trim_mem.1 hr).1, h3.filter _⟩
theorem trim_sub {S : Sch} {use : Rl → Bool} {n u t : Nat} (h : PathN use (trimS S).rules n u t) : PathN use S.rules n u t := h.mono fun r hr hu => ⟨(trim_mem.1 hr).1, hu⟩
/-- a path between a reached mode and a live one is kept -/
theorem trim_keep {S : Sch} (hS : Fit S) {use : Rl → Bool} {n u t : Nat} (h : PathN use S.rules n u t) (hu : (reachS S).testBit u = true) (ht : (liveS S).testBit t = true) (htl : t < S.modes.toNat) : PathN use (trimS S).rules n u t := by
  obtain ⟨R', h1, h2⟩ := h.inner (P := fun r => (reachS S).testBit r.frm.toNat = true ∧ (liveS S).testBit r.dst.toNat = true) fun r hr hru i j hi hj => by
    obtain ⟨k, hk⟩ := (reach0 hS).1 hu
    refine ⟨(reach0 hS).2 ⟨k + i, hk.trans (hi.mono fun q hq _ => ⟨hq, rfl⟩)⟩, ?_⟩
    have := hS.rule hr
    obtain ⟨l, v, hv, hav⟩ := (live_path hS htl).1 ht
    exact (live_path hS (by omega)).2 ⟨j + l, v, (hj.mono fun q hq _ => ⟨hq, rfl⟩).trans hv, hav⟩
  exact h2.mono fun r hr hu => ⟨trim_mem.2 ⟨(h1 r hr).1, (h1 r hr).2⟩, hu⟩
theorem live_acc {S : Sch} (hS : Fit S) {t : Nat} (ht : t < S.modes.toNat) (ha : S.acc.toNat.testBit t = true) : (liveS S).testBit t = true := (live_path hS ht).2 ⟨0, t, .nil t, ha⟩
theorem reach_zero {S : Sch} (hS : Fit S) : (reachS S).testBit 0 = true := (reach0 hS).2 ⟨0, .nil 0⟩
theorem trim_live {S : Sch} (hS : Fit S) {u : Nat} (hul : u < S.modes.toNat) (hu : (reachS S).testBit u = true) : (liveS (trimS S)).testBit u = (liveS S).testBit u := by
  rw [Bool.eq_iff_iff, live_path (trim_fit hS) hul, live_path hS hul]
  constructor
  · rintro ⟨n, t, h, ha⟩; exact ⟨n, t, trim_sub h, ha⟩
  · rintro ⟨n, t, h, ha⟩
    have htl := path_lt hS h hul
    exact ⟨n, t, trim_keep hS h hu (live_acc hS htl ha) htl, ha⟩
theorem trim_reach {S : Sch} (hS : Fit S) {u : Nat} (hul : u < S.modes.toNat) (hl : (liveS S).testBit u = true) : (reachS (trimS S)).testBit u = (reachS S).testBit u := by
  rw [Bool.eq_iff_iff, reach0 (trim_fit hS), reach0 hS]
  constructor
  · rintro ⟨n, h⟩; exact ⟨n, trim_sub h⟩
  · rintro ⟨n, h⟩; exact ⟨n, trim_keep hS h (reach_zero hS) hl hul⟩
theorem frm_live {S : Sch} (hS : Fit S) {r : Rl} (hr : r ∈ S.rules) (h : (liveS S).testBit r.dst.toNat = true) : (liveS S).testBit r.frm.toNat = true := by
  have := hS.rule hr
  obtain ⟨n, t, hn, ha⟩ := (live_path hS (by omega)).1 h
  exact (live_path hS (by omega)).2 ⟨n + 1, t, .cons r hr rfl hn, ha⟩
theorem dst_reach {S : Sch} (hS : Fit S) {r : Rl} (hr : r ∈ S.rules) (h : (reachS S).testBit r.frm.toNat = true) : (reachS S).testBit r.dst.toNat = true := by
  obtain ⟨n, hn⟩ := (reach0 hS).1 h
  exact (reach0 hS).2 ⟨n + 1, hn.trans (.cons r hr rfl (.nil _))⟩
theorem trim_dead {S : Sch} (hS : Fit S) : deadF (trimS S) (trimS S).rules.length = [] := by
  rw [List.eq_nil_iff_forall_not_mem]
  intro i hi
  obtain ⟨_, h, hd⟩ := deadF_mem.1 hi
  obtain ⟨h1, h2, h3⟩ := trim_mem.1 (List.getElem_mem h)
  have hb := hS.rule h1
  rw [deadB, trim_reach hS (by omega) (frm_live hS h1 h3), trim_live hS (by omega) (dst_reach hS h1 h2)] at hd
  rw [h2, h3] at hd; cases hd
theorem trim_stuck {S : Sch} (hS : Fit S) : stuckF (trimS S) = [] := by
  rcases stuckF_least (trim_fit hS) with ⟨h, _⟩ | ⟨h1, ⟨h2, h3, t, h4, h5⟩, _⟩
  · exact h
  · exfalso
    obtain ⟨d, i, hdi⟩ := (snoc_cases (stuckF (trimS S))).resolve_left h3
    rw [hdi] at h4
    obtain ⟨u, _, ⟨hi, hf, _, hdst⟩⟩ := leads_snoc.1 h4
    obtain ⟨g1, g2, g3⟩ := trim_mem.1 (List.getElem_mem hi)
    have hb := hS.rule g1
    rw [← hdst, trim_live hS (by omega) (dst_reach hS g1 g2)] at h5
    rw [g3] at h5; cases h5
/-- is there a circle -/
theorem endF_iff {S : Sch} (hS : Fit S) : endF S ≠ [] ↔ ∃ m n, m < S.modes.toNat ∧ (reachS S).testBit m = true ∧ (liveS S).testBit m = true ∧ PathN emptyR S.rules (n + 1) m m := by
  constructor
  · intro h
    rcases endF_least hS _ (Nat.le_refl _) with ⟨h1, _⟩ | ⟨h1, ⟨m, hm, hc, hd, hl⟩, _⟩
    · exact absurd h1 h
    · simp only [cbit, Bool.and_eq_true] at hc
      have := pathN_of_leads hl
      obtain ⟨k, hk⟩ : ∃ k, ((List.range S.modes.toNat).foldl (endStep S) []).length = k + 1 := ⟨_, (Nat.succ_pred_eq_of_pos (List.length_pos_iff.2 hd)).symm⟩
      rw [hk] at this
      exact ⟨m, k, hm, hc.1, hc.2, this⟩
  · rintro ⟨m, n, hm, hr, hl, hp⟩
    obtain ⟨c, hc, h⟩ := leads_of_pathN hp
    exact (endl_first hS hm hr hl (fun e => by rw [e] at hc; simp at hc) h).1
theorem trim_endl {S : Sch} (hS : Fit S) : endF (trimS S) = [] ↔ endF S = [] := by
  have h : endF (trimS S) ≠ [] ↔ endF S ≠ [] := by
    rw [endF_iff (trim_fit hS), endF_iff hS]
    constructor
    · rintro ⟨m, n, hm, hr, hl, hp⟩
      have hr2 : (reachS S).testBit m = true := by obtain ⟨k, hk⟩ := (reach0 (trim_fit hS)).1 hr; exact (reach0 hS).2 ⟨k, trim_sub hk⟩
      have hm' : m < S.modes.toNat := hm
      exact ⟨m, n, hm, hr2, by rw [← trim_live hS hm' hr2]; exact hl, trim_sub hp⟩
    · rintro ⟨m, n, hm, hr, hl, hp⟩
      exact ⟨m, n, hm, by rw [trim_reach hS hm hl]; exact hr, by rw [trim_live hS hm hr]; exact hl, trim_keep hS hp hr hl hm⟩
  exact ⟨fun h1 => Classical.byContradiction fun h2 => h.2 h2 h1, fun h1 => Classical.byContradiction fun h2 => h.1 h2 h1⟩
theorem sound_zero {S : Sch} (hv : validB S = true) (hS : Fit S) : soundF S = 0 ↔ (liveS S).testBit 0 = true ∧ stuckF S = [] ∧ endF S = [] := by
  rw [soundF, if_pos hv]
  by_cases h0 : (liveS S).testBit 0 = true
  · rw [if_pos h0]
    have ho := out_iff hS h0
    by_cases h1 : outB (reachS S) (liveS S) = true
    · rw [if_pos h1]
      exact ⟨(fun h => by cases h), fun h => absurd h.2.1 (ho.1 h1)⟩
    · rw [if_neg h1]
      have hs : stuckF S = [] := by
        by_cases e : stuckF S = []
        · exact e
        · exact absurd (ho.2 e) h1
      by_cases h2 : endF S = []
      · rw [if_pos h2]; exact ⟨fun _ => ⟨h0, hs, h2⟩, fun _ => rfl⟩
      · rw [if_neg h2]; exact ⟨(fun h => by cases h), fun h => absurd h.2.2 h2⟩
  · rw [if_neg h0]
    exact ⟨(fun h => by cases h), fun h => absurd h.1 h0⟩
theorem trim_sound {S : Sch} (hv : validB S = true) (hS : Fit S) : soundF (trimS S) = 0 ↔ (liveS S).testBit 0 = true ∧ endF S = [] := by
  rw [sound_zero (trim_valid hv) (trim_fit hS), trim_live hS hS.pos (reach_zero hS), trim_endl hS]
  exact ⟨fun h => ⟨h.1, h.2.2⟩, fun h => ⟨h.1, trim_stuck hS, h.2⟩⟩
end Go.Proofs.Ytogjcfcfgnbmkaa
