/- Plain: the masks of reached and live modes say what chains there are. -/
import Derived.Test.YtogjcfcfgnbmkaaFlaw2
import Derived.Test.YtogjcfcfgnbmkaaBfs
namespace Go.Proofs.Ytogjcfcfgnbmkaa
set_option linter.unusedVariables false
set_option linter.unusedSimpArgs false

def maskL (n L : Nat) : List Bool := (List.range n).map L.testBit
theorem maskL_len (n L : Nat) : (maskL n L).length = n := by simp [maskL]
theorem maskL_get {n L i : Nat} (h : i < n) : (maskL n L)[i]? = some (L.testBit i) := by
  rw [maskL, List.getElem?_map, List.getElem?_range h]; rfl
theorem maskL_set {n L t : Nat} (h : t < n) : (maskL n L).set t true = maskL n (L ||| 2 ^ t) := by
  apply List.ext_getElem?
  intro i
  rw [List.getElem?_set]
  by_cases hi : i < n
  · rw [maskL_get hi, maskL_get hi, maskL_len, Nat.testBit_or, Nat.testBit_two_pow]
    by_cases e : t = i
    · subst e; simp [h]
    · simp [e]
  · have h1 : (maskL n L)[i]? = none := by rw [List.getElem?_eq_none]; rw [maskL_len]; omega
    have h2 : (maskL n (L ||| 2 ^ t))[i]? = none := by rw [List.getElem?_eq_none]; rw [maskL_len]; omega
    rw [h1, h2, if_neg (by omega)]

/-! ### a step function that only adds, iterated -/
theorem testBit_or_pow (L t i : Nat) : (L ||| 2 ^ t).testBit i = (L.testBit i || decide (t = i)) := by rw [Nat.testBit_or, Nat.testBit_two_pow]
theorem stepR_mono {L : Nat} {x : Ed} {i : Nat} (h : L.testBit i = true) : (stepR L x).testBit i = true := by
  unfold stepR; split
  · rw [testBit_or_pow, h]; rfl
  · exact h
theorem stepL_mono {L : Nat} {x : Ed} {i : Nat} (h : L.testBit i = true) : (stepL L x).testBit i = true := by
  unfold stepL; split
  · rw [testBit_or_pow, h]; rfl
  · exact h
theorem foldR_mono : ∀ (E : List Ed) {L i : Nat}, L.testBit i = true → (E.foldl stepR L).testBit i = true
  | [], _, _, h => h
  | x :: E, _, _, h => foldR_mono E (stepR_mono h)
theorem foldL_mono : ∀ (E : List Ed) {L i : Nat}, L.testBit i = true → (E.foldl stepL L).testBit i = true
  | [], _, _, h => h
  | x :: E, _, _, h => foldL_mono E (stepL_mono h)
theorem foldR_edge : ∀ {E : List Ed} {x : Ed} {L : Nat}, x ∈ E → L.testBit x.f = true → (E.foldl stepR L).testBit x.t = true
  | y :: E, x, L, h, hb => by
    rcases List.mem_cons.1 h with rfl | h
    · refine foldR_mono E ?_
      unfold stepR; rw [if_pos hb, testBit_or_pow]; simp
    · exact foldR_edge (E := E) h (stepR_mono hb)
theorem foldL_edge : ∀ {E : List Ed} {x : Ed} {L : Nat}, x ∈ E → L.testBit x.t = true → (E.foldl stepL L).testBit x.f = true
  | y :: E, x, L, h, hb => by
    rcases List.mem_cons.1 h with rfl | h
    · refine foldL_mono E ?_
      unfold stepL; rw [if_pos hb, testBit_or_pow]; simp
    · exact foldL_edge (E := E) h (stepL_mono hb)
theorem cnt_mono {f g : Nat → Bool} (h : ∀ i, f i = true → g i = true) : ∀ n, cntF n g ≤ cntF n f
  | 0 => Nat.le_refl _
  | n + 1 => by
    have := cnt_mono h n
    simp only [cntF]
    cases hf : f n with
    | false => split <;> simp <;> omega
    | true => rw [h n hf]; simp; exact this
theorem cnt_lt {f g : Nat → Bool} (h : ∀ i, f i = true → g i = true) {j : Nat} (hj : g j = true) (hf : f j = false) : ∀ n, j < n → cntF n g < cntF n f
  | n + 1, hn => by
    simp only [cntF]
    by_cases e : j = n
    · subst e
      have := cnt_mono h j
      rw [hj, hf]; simp; omega
    · have := cnt_lt h hj hf n (by omega)
      cases hfn : f n with
      | false => split <;> simp <;> omega
      | true => rw [h n hfn]; simp; exact this
theorem cnt_zero {f : Nat → Bool} : ∀ {n : Nat}, cntF n f = 0 → ∀ i, i < n → f i = true
  | n + 1, h, i, hi => by
    simp only [cntF] at h
    by_cases e : i = n
    · subst e; cases hf : f i with
      | true => rfl
      | false => rw [hf] at h; simp at h
    · exact cnt_zero (n := n) (by omega) i (by omega)
/-- within n rounds the set is closed -/
theorem iter_closed {F : Nat → Nat} {n : Nat} (hm : ∀ L i, L.testBit i = true → (F L).testBit i = true) (hF : ∀ L i, n ≤ i → (F L).testBit i = L.testBit i) (x : Nat) :
    ∀ i, i < n → (F (iterN F n x)).testBit i = true → (iterN F n x).testBit i = true := by
  have grow : ∀ k, (∃ j, j ≤ k ∧ ∀ i, i < n → (F (iterN F j x)).testBit i = true → (iterN F j x).testBit i = true) ∨ cntF n (iterN F k x).testBit + k ≤ n := by
    intro k
    induction k with
    | zero => exact .inr (cntF_le _ n)
    | succ k ih =>
      rcases ih with ⟨j, hj, h⟩ | h
      · exact .inl ⟨j, by omega, h⟩
      · by_cases hc : ∀ i, i < n → (F (iterN F k x)).testBit i = true → (iterN F k x).testBit i = true
        · exact .inl ⟨k, by omega, hc⟩
        · obtain ⟨i, hi⟩ := Classical.not_forall.1 hc
          have hi' : i < n ∧ (F (iterN F k x)).testBit i = true ∧ (iterN F k x).testBit i = false := by
            refine ⟨?_, ?_, ?_⟩
            · exact Classical.byContradiction fun h2 => hi fun h3 => absurd h3 h2
            · exact Classical.byContradiction fun h2 => hi fun _ h4 => absurd h4 h2
            · cases hb : (iterN F k x).testBit i with
              | false => rfl
              | true => exact absurd (fun _ _ => hb) hi
          have := cnt_lt (f := (iterN F k x).testBit) (g := (iterN F (k + 1) x).testBit) (fun j hj => hm _ _ hj) hi'.2.1 hi'.2.2 n hi'.1
          exact .inr (by omega)
  rcases grow n with ⟨j, hj, h⟩ | h
  · have hfix : F (iterN F j x) = iterN F j x := by
      apply Nat.eq_of_testBit_eq
      intro i
      by_cases hi : i < n
      · cases hb : (iterN F j x).testBit i with
        | true => exact hm _ _ hb
        | false =>
          cases hb2 : (F (iterN F j x)).testBit i with
          | false => rfl
          | true => rw [h i hi hb2] at hb; cases hb
      · exact hF _ i (by omega)
    have hk : ∀ k, iterN F (j + k) x = iterN F j x := by
      intro k
      induction k with
      | zero => rfl
      | succ k ih => show F (iterN F (j + k) x) = _; rw [ih, hfix]
    obtain ⟨k, rfl⟩ : ∃ k, n = j + k := ⟨n - j, by omega⟩
    rw [hk, hfix]
    exact fun _ _ h => h
  · intro i hi _
    exact cnt_zero (by omega) i hi
theorem stepR_high {n L : Nat} {x : Ed} (hx : x.t < n) {i : Nat} (hi : n ≤ i) : (stepR L x).testBit i = L.testBit i := by
  unfold stepR; split
  · rw [testBit_or_pow, decide_eq_false (by omega), Bool.or_false]
  · rfl
theorem stepL_high {n L : Nat} {x : Ed} (hx : x.f < n) {i : Nat} (hi : n ≤ i) : (stepL L x).testBit i = L.testBit i := by
  unfold stepL; split
  · rw [testBit_or_pow, decide_eq_false (by omega), Bool.or_false]
  · rfl
theorem foldR_high {n : Nat} : ∀ {E : List Ed} {L i : Nat}, Within n E → n ≤ i → (E.foldl stepR L).testBit i = L.testBit i
  | [], _, _, _, _ => rfl
  | x :: E, _, _, h, hi => (foldR_high (E := E) (fun y hy => h y (by simp [hy])) hi).trans (stepR_high (h x (by simp)).2 hi)
theorem foldL_high {n : Nat} : ∀ {E : List Ed} {L i : Nat}, Within n E → n ≤ i → (E.foldl stepL L).testBit i = L.testBit i
  | [], _, _, _, _ => rfl
  | x :: E, _, _, h, hi => (foldL_high (E := E) (fun y hy => h y (by simp [hy])) hi).trans (stepL_high (h x (by simp)).1 hi)
theorem iter_mono {F : Nat → Nat} (hm : ∀ L i, L.testBit i = true → (F L).testBit i = true) {x i : Nat} (h : x.testBit i = true) : ∀ n, (iterN F n x).testBit i = true
  | 0 => h
  | n + 1 => hm _ _ (iter_mono hm h n)

/-! ### the same, in chains -/
def anyU : Rl → Bool := fun _ => true
def reachFrom (S : Sch) (m : Nat) : Nat := iterN (fun L => S.eds.foldl stepR L) S.modes.toNat (2 ^ m)
theorem reachS_eq (S : Sch) : reachS S = reachFrom S 0 := rfl
theorem ed_mem {S : Sch} {x : Ed} : x ∈ S.eds ↔ ∃ i u t, Stp anyU S.rules u i t ∧ x.f = u ∧ x.t = t ∧ ∃ h : i < S.rules.length, x = S.rules[i].ed := by
  constructor
  · intro h
    obtain ⟨r, hr, rfl⟩ := List.mem_map.1 h
    obtain ⟨i, hi, rfl⟩ := List.mem_iff_getElem.1 hr
    exact ⟨i, _, _, ⟨hi, rfl, rfl, rfl⟩, rfl, rfl, hi, rfl⟩
  · rintro ⟨i, u, t, _, _, _, hi, rfl⟩
    exact List.mem_map.2 ⟨_, List.getElem_mem hi, rfl⟩
theorem stp_ed {S : Sch} {u i t : Nat} (h : Stp anyU S.rules u i t) : ∃ x ∈ S.eds, x.f = u ∧ x.t = t := by
  obtain ⟨hi, h1, _, h2⟩ := h
  exact ⟨S.rules[i].ed, List.mem_map.2 ⟨_, List.getElem_mem hi, rfl⟩, h1, h2⟩
theorem Fit.withinN {S : Sch} (h : Fit S) : Within S.modes.toNat S.eds := by
  intro x hx
  obtain ⟨r, hr, rfl⟩ := List.mem_map.1 hx
  exact h.small r hr
theorem foldR_sound {S : Sch} {P : Nat → Prop} (hP : ∀ u i t, P u → Stp anyU S.rules u i t → P t) : ∀ (E : List Ed), (∀ x ∈ E, x ∈ S.eds) → ∀ L, (∀ i, L.testBit i = true → P i) → ∀ i, (E.foldl stepR L).testBit i = true → P i
  | [], _, _, h, i, hi => h i hi
  | x :: E, hE, L, h, i, hi => by
    refine foldR_sound hP E (fun y hy => hE y (by simp [hy])) (stepR L x) (fun j hj => ?_) i hi
    unfold stepR at hj
    split at hj
    · rename_i hx
      rw [testBit_or_pow] at hj
      simp only [Bool.or_eq_true, decide_eq_true_eq] at hj
      rcases hj with hj | rfl
      · exact h j hj
      · obtain ⟨k, u, t, hs, h1, h2, _⟩ := ed_mem.1 (hE x (by simp))
        exact hP u k _ (h u (by rw [← h1]; exact hx)) (h2 ▸ hs)
    · exact h j hj
theorem foldL_sound {S : Sch} {P : Nat → Prop} (hP : ∀ u i t, P t → Stp anyU S.rules u i t → P u) : ∀ (E : List Ed), (∀ x ∈ E, x ∈ S.eds) → ∀ L, (∀ i, L.testBit i = true → P i) → ∀ i, (E.foldl stepL L).testBit i = true → P i
  | [], _, _, h, i, hi => h i hi
  | x :: E, hE, L, h, i, hi => by
    refine foldL_sound hP E (fun y hy => hE y (by simp [hy])) (stepL L x) (fun j hj => ?_) i hi
    unfold stepL at hj
    split at hj
    · rename_i hx
      rw [testBit_or_pow] at hj
      simp only [Bool.or_eq_true, decide_eq_true_eq] at hj
      rcases hj with hj | rfl
      · exact h j hj
      · obtain ⟨k, u, t, hs, h1, h2, _⟩ := ed_mem.1 (hE x (by simp))
        exact hP _ k t (h t (by rw [← h2]; exact hx)) (h1 ▸ hs)
    · exact h j hj
theorem leads_lt {S : Sch} (hS : Fit S) {use : Rl → Bool} : ∀ {c : List Nat} {m t : Nat}, m < S.modes.toNat → leads use S.rules m c = some t → t < S.modes.toNat
  | [], m, t, hm, h => by cases h; exact hm
  | i :: c, m, t, hm, h => by
    obtain ⟨u, ⟨hi, _, _, rfl⟩, h2⟩ := leads_cons.1 h
    exact leads_lt hS (hS.small _ (List.getElem_mem hi)).2 h2
theorem reach_spec {S : Sch} (hS : Fit S) {m t : Nat} (hm : m < S.modes.toNat) : (reachFrom S m).testBit t = true ↔ ∃ c, leads anyU S.rules m c = some t := by
  constructor
  · have key : ∀ k t, (iterN (fun L => S.eds.foldl stepR L) k (2 ^ m)).testBit t = true → ∃ c, leads anyU S.rules m c = some t := by
      intro k
      induction k with
      | zero =>
        intro t h
        rw [iterN, Nat.testBit_two_pow] at h
        obtain rfl : m = t := by simpa using h
        exact ⟨[], rfl⟩
      | succ k ih =>
        intro t h
        exact foldR_sound (P := fun t => ∃ c, leads anyU S.rules m c = some t) (fun u i t ⟨c, hc⟩ hs => ⟨c ++ [i], leads_snoc.2 ⟨u, hc, hs⟩⟩) S.eds (fun _ h => h) _ ih t h
    exact key _ t
  · have hcl := iter_closed (F := fun L => S.eds.foldl stepR L) (n := S.modes.toNat) (fun L i h => foldR_mono _ h) (fun L i hi => foldR_high hS.withinN hi) (2 ^ m)
    rintro ⟨c, hc⟩
    have key : ∀ (N : Nat) (c : List Nat) (t : Nat), c.length = N → leads anyU S.rules m c = some t → (reachFrom S m).testBit t = true := by
      intro N
      induction N with
      | zero =>
        intro c t hc h
        obtain rfl := List.eq_nil_of_length_eq_zero hc
        cases h
        exact iter_mono (F := fun L => S.eds.foldl stepR L) (fun L i h => foldR_mono _ h) (by rw [Nat.testBit_two_pow]; simp) _
      | succ N ih =>
        intro c t hc h
        rcases snoc_cases c with rfl | ⟨c, i, rfl⟩
        · simp at hc
        obtain ⟨u, h1, h2⟩ := leads_snoc.1 h
        have hu := ih c u (by simpa using hc) h1
        obtain ⟨x, hx, rfl, rfl⟩ := stp_ed h2
        exact hcl _ (hS.withinN x hx).2 (foldR_edge hx hu)
    exact key _ c t rfl hc
theorem live_spec {S : Sch} (hS : Fit S) {m : Nat} (hm : m < S.modes.toNat) : (liveS S).testBit m = true ↔ ∃ c t, leads anyU S.rules m c = some t ∧ S.acc.toNat.testBit t = true := by
  constructor
  · have key : ∀ k m, (iterN (fun L => S.eds.foldl stepL L) k S.acc.toNat).testBit m = true → ∃ c t, leads anyU S.rules m c = some t ∧ S.acc.toNat.testBit t = true := by
      intro k
      induction k with
      | zero => exact fun t h => ⟨[], t, rfl, h⟩
      | succ k ih =>
        intro t h
        exact foldL_sound (P := fun m => ∃ c t, leads anyU S.rules m c = some t ∧ S.acc.toNat.testBit t = true) (fun u i t ⟨c, v, hc, hv⟩ hs => ⟨i :: c, v, leads_cons.2 ⟨t, hs, hc⟩, hv⟩) S.eds (fun _ h => h) _ ih t h
    exact key _ m
  · have hcl := iter_closed (F := fun L => S.eds.foldl stepL L) (n := S.modes.toNat) (fun L i h => foldL_mono _ h) (fun L i hi => foldL_high hS.withinN hi) S.acc.toNat
    rintro ⟨c, t, hc, ht⟩
    have key : ∀ (c : List Nat) (m : Nat), leads anyU S.rules m c = some t → (liveS S).testBit m = true := by
      intro c
      induction c with
      | nil => intro m h; cases h; exact iter_mono (F := fun L => S.eds.foldl stepL L) (fun L i h => foldL_mono _ h) ht _
      | cons i c ih =>
        intro m h
        obtain ⟨u, h1, h2⟩ := leads_cons.1 h
        have hu := ih u h2
        obtain ⟨x, hx, rfl, rfl⟩ := stp_ed h1
        exact hcl _ (hS.withinN x hx).1 (foldL_edge hx hu)
    exact key c m hc
/-- the reference's own words for live -/
theorem live_ref {S : Sch} (hS : Fit S) {m : Nat} (hm : m < S.modes.toNat) : (liveS S).testBit m = (List.range S.modes.toNat).any (fun k => (reachFrom S m).testBit k && S.acc.toNat.testBit k) := by
  rw [Bool.eq_iff_iff, live_spec hS hm, List.any_eq_true]
  constructor
  · rintro ⟨c, t, hc, ht⟩
    exact ⟨t, by simp [leads_lt hS hm hc], by rw [(reach_spec hS hm).2 ⟨c, hc⟩, ht]; rfl⟩
  · rintro ⟨t, _, h⟩
    simp only [Bool.and_eq_true] at h
    obtain ⟨c, hc⟩ := (reach_spec hS hm).1 h.1
    exact ⟨c, t, hc, h.2⟩
end Go.Proofs.Ytogjcfcfgnbmkaa
