/- Plain: chains that numbers choose, dead rules, and the first chains. -/
import Derived.Test.YtogjcfcfgnbmkaaWalk
import Derived.Test.YtogjcfcfgnbmkaaLawA
namespace Go.Proofs.Ytogjcfcfgnbmkaa
set_option linter.unusedVariables false
set_option linter.unusedSimpArgs false

theorem leads_follow {S : Sch} (hS : Fit S) (use : Rl → Bool) : ∀ (c : List Nat) (m : Nat), followF use S.rules (m : Int) (ints c) = (leads use S.rules m c).map (fun (t : Nat) => (t : Int))
  | [], m => rfl
  | i :: c, m => by
    show followF use S.rules (m : Int) ((i : Int) :: ints c) = _
    rw [followF, leads]
    by_cases hi : i < S.rules.length
    · obtain ⟨f0, f1, t0, t1⟩ := hS.at0 i hi
      rw [dif_pos ⟨by omega, by simpa using hi⟩, dif_pos hi]
      simp only [Int.toNat_natCast]
      by_cases h : S.rules[i].frm.toNat = m ∧ use S.rules[i] = true
      · rw [if_pos h, if_pos ⟨by omega, h.2⟩]
        have e : S.rules[i].dst = (S.rules[i].dst.toNat : Int) := by omega
        have e2 := leads_follow hS use c S.rules[i].dst.toNat
        rw [← e] at e2
        exact e2
      · rw [if_neg h, if_neg (fun h2 => h ⟨by omega, h2.2⟩)]; rfl
    · rw [dif_neg (fun h => hi (by simpa using h.2)), dif_neg hi]; rfl
theorem leads_take {use : Rl → Bool} {R : List Rl} {m t : Nat} {c : List Nat} (h : leads use R m c = some t) (n : Nat) : ∃ u, leads use R m (c.take n) = some u := by
  rw [← List.take_append_drop n c] at h
  obtain ⟨u, h1, _⟩ := leads_append.1 h
  exact ⟨u, h1⟩
theorem walk_leads {S : Sch} (hS : Fit S) : ∀ (xs : List Int) (f : Nat), ∃ t, leads anyU S.rules f (walkF S.rules (f : Int) xs) = some t
  | [], f => ⟨f, rfl⟩
  | x :: xs, f => by
    rw [walkF]
    split
    · exact ⟨f, rfl⟩
    · rename_i hne
      have hp : pickF (canF S.rules f S.rules.length) x ∈ canF S.rules f S.rules.length := by
        unfold pickF
        have hpos : 0 < (canF S.rules f S.rules.length).length := List.length_pos_iff.2 hne
        have := Nat.mod_lt x.toNat hpos
        rw [List.getD_eq_getElem?_getD, List.getElem?_eq_getElem this]
        exact List.getElem_mem _
      obtain ⟨hr, -, hf⟩ := canF_mem S.rules f S.rules.length _ hp
      obtain ⟨f0, f1, t0, t1⟩ := hS.at0 _ hr
      obtain ⟨t, ht⟩ := walk_leads hS xs (S.rules[pickF (canF S.rules f S.rules.length) x]).dst.toNat
      have e : S.rules.getD (pickF (canF S.rules f S.rules.length) x) ⟨0, 0, ⟨#[]⟩, ⟨#[]⟩, 0⟩ = S.rules[pickF (canF S.rules f S.rules.length) x] := by
        rw [List.getD_eq_getElem?_getD, List.getElem?_eq_getElem hr]; rfl
      rw [e]
      refine ⟨t, leads_cons.2 ⟨_, ⟨hr, by omega, rfl, rfl⟩, ?_⟩⟩
      have e2 : ((S.rules[pickF (canF S.rules f S.rules.length) x]).dst.toNat : Int) = (S.rules[pickF (canF S.rules f S.rules.length) x]).dst := by omega
      rw [e2] at ht
      exact ht
/-- where a beginning of such a chain leads -/
theorem walk_pre {S : Sch} (hS : Fit S) (xs : List Int) (f n : Nat) (hf : f < S.modes.toNat) : ∃ t, t < S.modes.toNat ∧ leads anyU S.rules f ((walkF S.rules (f : Int) xs).take n) = some t ∧ followF (fun _ => true) S.rules (f : Int) (ints ((walkF S.rules (f : Int) xs).take n)) = some (t : Int) := by
  obtain ⟨u, hu⟩ := walk_leads hS xs f
  obtain ⟨t, ht⟩ := leads_take hu n
  refine ⟨t, leads_lt hS hf ht, ht, ?_⟩
  rw [leads_follow hS, show leads (fun _ => true) S.rules f _ = some t from ht]; rfl
/-- each rule of a chain stands between two parts of it -/
theorem leads_mid {use : Rl → Bool} {R : List Rl} {m t i : Nat} {c : List Nat} (h : leads use R m c = some t) (hi : i ∈ c) : ∃ c1 c2 u v, leads use R m c1 = some u ∧ Stp use R u i v ∧ leads use R v c2 = some t := by
  obtain ⟨c1, c2, rfl⟩ := List.append_of_mem hi
  obtain ⟨u, h1, h2⟩ := leads_append.1 h
  obtain ⟨v, h3, h4⟩ := leads_cons.1 h2
  exact ⟨c1, c2, u, v, h1, h3, h4⟩
theorem Fit.pos {S : Sch} (h : Fit S) : 0 < S.modes.toNat := by have := h.m0; omega
theorem dead_route {S : Sch} (hS : Fit S) {c : List Nat} {m i : Nat} (h : leads anyU S.rules 0 c = some m) (ha : S.acc.toNat.testBit m = true) (hi : i ∈ c) : ∃ hl : i < S.rules.length, deadB (reachS S) (liveS S) S.rules[i] = false := by
  obtain ⟨c1, c2, u, v, h1, ⟨hl, hf, _, hd⟩, h3⟩ := leads_mid h hi
  refine ⟨hl, ?_⟩
  have hr : (reachS S).testBit u = true := by rw [reachS_eq]; exact (reach_spec hS hS.pos).2 ⟨c1, h1⟩
  have hv : (liveS S).testBit v = true := (live_spec hS (by have := hS.at0 i hl; omega)).2 ⟨c2, m, h3, ha⟩
  rw [deadB, hf, hd, hr, hv]; rfl
theorem deadF_mem {S : Sch} {k i : Nat} : i ∈ deadF S k ↔ i < k ∧ ∃ h : i < S.rules.length, deadB (reachS S) (liveS S) S.rules[i] = true := by
  simp only [deadF, List.mem_filter, List.mem_range]
  constructor
  · rintro ⟨h1, h2⟩
    split at h2
    · rename_i h; exact ⟨h1, h, h2⟩
    · cases h2
  · rintro ⟨h1, h, h2⟩
    exact ⟨h1, by rw [dif_pos h]; exact h2⟩
theorem hasB_ints {l : List Nat} {n : Nat} : hasB (ints l) (n : Int) = decide (n ∈ l) := by
  rw [Bool.eq_iff_iff, decide_eq_true_iff, hasB, List.any_eq_true]
  simp only [ints, List.mem_map, decide_eq_true_eq]
  constructor
  · rintro ⟨x, ⟨y, hy, rfl⟩, h⟩
    have : y = n := by omega
    rw [← this]; exact hy
  · intro h; exact ⟨n, ⟨n, h, rfl⟩, rfl⟩
theorem has_dead {S : Sch} {i : Nat} (h : i < S.rules.length) : hasB (ints (deadF S S.rules.length)) (i : Int) = deadB (reachS S) (liveS S) S.rules[i] := by
  rw [hasB_ints, Bool.eq_iff_iff, decide_eq_true_iff, deadF_mem]
  exact ⟨fun ⟨_, _, h2⟩ => h2, fun h2 => ⟨h, h, h2⟩⟩
theorem has_route {S : Sch} (hS : Fit S) {c : List Nat} {m i : Nat} (h : leads anyU S.rules 0 c = some m) (ha : S.acc.toNat.testBit m = true) (hi : i ∈ c) : hasB (ints (deadF S S.rules.length)) (i : Int) = false := by
  obtain ⟨hl, hd⟩ := dead_route hS h ha hi
  rw [has_dead hl, hd]
end Go.Proofs.Ytogjcfcfgnbmkaa
