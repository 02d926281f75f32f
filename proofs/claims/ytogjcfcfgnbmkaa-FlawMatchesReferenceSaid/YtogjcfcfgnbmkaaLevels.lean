/- Plain: the reference's levels find the same chains as the search. -/
import Derived.Test.YtogjcfcfgnbmkaaNext
namespace Go.Proofs.Ytogjcfcfgnbmkaa
set_option linter.unusedVariables false
set_option linter.unusedSimpArgs false

theorem beforeB_lex : ∀ {a b : List Nat}, a.length = b.length → (beforeB (ints a) (ints b) = true ↔ lexlt a b)
  | [], [], _ => by simp [ints, beforeB, lexlt]
  | [], _ :: _, h => by simp at h
  | _ :: _, [], h => by simp at h
  | x :: a, y :: b, h => by
    have ih := beforeB_lex (a := a) (b := b) (by simpa using h)
    show beforeB ((x : Int) :: ints a) ((y : Int) :: ints b) = true ↔ (x < y ∨ (x = y ∧ lexlt a b))
    rw [beforeB]
    by_cases e : x = y
    · subst e
      rw [if_pos rfl, ih]
      simp
    · rw [if_neg (by omega), decide_eq_true_iff]
      constructor
      · intro h; exact .inl (by omega)
      · rintro (h | h)
        · omega
        · exact absurd h.1 e
theorem beforeB_sl {a b : List Nat} (h : a.length = b.length) : beforeB (ints a) (ints b) = true ↔ sl a b := by
  rw [beforeB_lex h]
  constructor
  · intro h2; exact .inr ⟨h, h2⟩
  · rintro (h2 | h2)
    · omega
    · exact h2.2

/-- K has the first chains of n rules to each mode -/
structure LevelOK (use : Rl → Bool) (R : List Rl) (start n : Nat) (K : Wk) : Prop where
  is : ∀ t, K.is t = true ↔ ∃ c, c.length = n ∧ leads use R start c = some t
  ch : ∀ t, K.is t = true → (K.ch t).length = n ∧ leads use R start (K.ch t) = some t
  least : ∀ t c, c.length = n → leads use R start c = some t → sle (K.ch t) c
/-- O, behind the first k rules -/
structure PartOK (use : Rl → Bool) (R : List Rl) (start n k : Nat) (O : Wk) : Prop where
  is : ∀ t, O.is t = true ↔ ∃ c i, c.length = n ∧ i < k ∧ leads use R start (c ++ [i]) = some t
  ch : ∀ t, O.is t = true → (O.ch t).length = n + 1 ∧ leads use R start (O.ch t) = some t
  least : ∀ t c i, c.length = n → i < k → leads use R start (c ++ [i]) = some t → sle (O.ch t) (c ++ [i])
theorem leads_mem {use : Rl → Bool} {R : List Rl} {u i t : Nat} : Stp use R u i t ↔ ∃ h : i < R.length, R[i].frm.toNat = u ∧ use R[i] = true ∧ R[i].dst.toNat = t := Iff.rfl
theorem part_step {use : Rl → Bool} {R : List Rl} {start n k : Nat} {K O : Wk} (hK : LevelOK use R start n K) (hO : PartOK use R start n k O) (hk : k < R.length) : PartOK use R start n (k + 1) (stepK use K O k R[k]) := by
  unfold stepK
  by_cases h1 : (K.is R[k].frm.toNat && use R[k]) = true
  · rw [if_pos h1]
    simp only [Bool.and_eq_true] at h1
    obtain ⟨hl, hc⟩ := hK.ch _ h1.1
    have hnew : leads use R start (K.ch R[k].frm.toNat ++ [k]) = some R[k].dst.toNat := leads_snoc.2 ⟨_, hc, hk, rfl, h1.2, rfl⟩
    have hlen : (K.ch R[k].frm.toNat ++ [k]).length = n + 1 := by rw [List.length_append, hl]; rfl
    -- any chain that ends in the rule k comes no earlier than the new one
    have hlast : ∀ t c, c.length = n → leads use R start (c ++ [k]) = some t → t = R[k].dst.toNat ∧ sle (K.ch R[k].frm.toNat ++ [k]) (c ++ [k]) := by
      intro t c hcl hct
      obtain ⟨u, h2, h3, h4, h5, h6⟩ := leads_snoc.1 hct
      subst h4
      exact ⟨h6.symm, sle_snoc (hK.least _ c hcl h2) k⟩
    by_cases h2 : (!O.is R[k].dst.toNat || beforeB (ints (K.ch R[k].frm.toNat ++ [k])) (ints (O.ch R[k].dst.toNat))) = true
    · rw [if_pos h2]
      refine ⟨fun t => ?_, fun t ht => ?_, fun t c i hcl hi hct => ?_⟩
      · show (if t = R[k].dst.toNat then true else O.is t) = true ↔ _
        by_cases e : t = R[k].dst.toNat
        · subst e
          rw [if_pos rfl]
          exact ⟨fun _ => ⟨K.ch R[k].frm.toNat, k, hl, by omega, hnew⟩, fun _ => rfl⟩
        · rw [if_neg e, hO.is]
          constructor
          · rintro ⟨c, i, h3, h4, h5⟩; exact ⟨c, i, h3, by omega, h5⟩
          · rintro ⟨c, i, h3, h4, h5⟩
            by_cases e2 : i = k
            · subst e2; exact absurd (hlast t c h3 h5).1 e
            · exact ⟨c, i, h3, by omega, h5⟩
      · show (if t = R[k].dst.toNat then K.ch R[k].frm.toNat ++ [k] else O.ch t).length = n + 1 ∧ leads use R start (if t = R[k].dst.toNat then K.ch R[k].frm.toNat ++ [k] else O.ch t) = some t
        by_cases e : t = R[k].dst.toNat
        · subst e; rw [if_pos rfl]; exact ⟨hlen, hnew⟩
        · rw [if_neg e]
          refine hO.ch t ?_
          have : (if t = R[k].dst.toNat then true else O.is t) = true := ht
          rwa [if_neg e] at this
      · show sle (if t = R[k].dst.toNat then K.ch R[k].frm.toNat ++ [k] else O.ch t) (c ++ [i])
        by_cases e2 : i = k
        · subst e2
          obtain ⟨h3, h4⟩ := hlast t c hcl hct
          rw [if_pos h3]; exact h4
        · have h5 := hO.least t c i hcl (by omega) hct
          by_cases e : t = R[k].dst.toNat
          · rw [if_pos e]
            subst e
            have his : O.is R[k].dst.toNat = true := (hO.is _).2 ⟨c, i, hcl, by omega, hct⟩
            rw [his] at h2
            simp only [Bool.not_true, Bool.false_or] at h2
            have h6 := (beforeB_sl (hlen.trans (hO.ch _ his).1.symm)).1 h2
            exact sle_trans (.inr h6) h5
          · rw [if_neg e]; exact h5
    · rw [if_neg h2]
      have h2' : O.is R[k].dst.toNat = true ∧ beforeB (ints (K.ch R[k].frm.toNat ++ [k])) (ints (O.ch R[k].dst.toNat)) = false := by
        cases ha : O.is R[k].dst.toNat <;> cases hb : beforeB (ints (K.ch R[k].frm.toNat ++ [k])) (ints (O.ch R[k].dst.toNat)) <;> simp [ha, hb] at h2 ⊢
      have hle : sle (O.ch R[k].dst.toNat) (K.ch R[k].frm.toNat ++ [k]) := by
        rcases sl_or_sle (K.ch R[k].frm.toNat ++ [k]) (O.ch R[k].dst.toNat) with h3 | h3
        · rw [(beforeB_sl (hlen.trans (hO.ch _ h2'.1).1.symm)).2 h3] at h2'; cases h2'.2
        · exact h3
      refine ⟨fun t => ?_, hO.ch, fun t c i hcl hi hct => ?_⟩
      · rw [hO.is]
        constructor
        · rintro ⟨c, i, h3, h4, h5⟩; exact ⟨c, i, h3, by omega, h5⟩
        · rintro ⟨c, i, h3, h4, h5⟩
          by_cases e2 : i = k
          · subst e2
            obtain ⟨h6, _⟩ := hlast t c h3 h5
            subst h6
            exact (hO.is _).1 h2'.1
          · exact ⟨c, i, h3, by omega, h5⟩
      · by_cases e2 : i = k
        · subst e2
          obtain ⟨h6, h7⟩ := hlast t c hcl hct
          subst h6
          exact sle_trans hle h7
        · exact hO.least t c i hcl (by omega) hct
  · rw [if_neg h1]
    have hno : ∀ t c, c.length = n → leads use R start (c ++ [k]) = some t → False := by
      intro t c hcl hct
      obtain ⟨u, h2, h3, h4, h5, h6⟩ := leads_snoc.1 hct
      subst h4
      exact h1 (by rw [(hK.is _).2 ⟨c, hcl, h2⟩, h5]; rfl)
    refine ⟨fun t => ?_, hO.ch, fun t c i hcl hi hct => ?_⟩
    · rw [hO.is]
      constructor
      · rintro ⟨c, i, h3, h4, h5⟩; exact ⟨c, i, h3, by omega, h5⟩
      · rintro ⟨c, i, h3, h4, h5⟩
        by_cases e2 : i = k
        · subst e2; exact (hno t c h3 h5).elim
        · exact ⟨c, i, h3, by omega, h5⟩
    · by_cases e2 : i = k
      · subst e2; exact (hno t c hcl hct).elim
      · exact hO.least t c i hcl (by omega) hct
theorem part_all {use : Rl → Bool} {R : List Rl} {start n : Nat} {K : Wk} (hK : LevelOK use R start n K) : ∀ k, k ≤ R.length → PartOK use R start n k (nextTo use R K k)
  | 0, _ => ⟨fun t => ⟨fun h => (by cases h), fun ⟨_, _, _, h, _⟩ => absurd h (by omega)⟩, fun t h => (by cases h), fun _ _ _ _ h _ => absurd h (by omega)⟩
  | k + 1, hk => by
    rw [nextTo, dif_pos (show k < R.length by omega)]
    exact part_step hK (part_all hK k (by omega)) (by omega)
theorem level_next {use : Rl → Bool} {R : List Rl} {start n : Nat} {K : Wk} (hK : LevelOK use R start n K) : LevelOK use R start (n + 1) (nextK use R K) := by
  have h := part_all hK R.length (Nat.le_refl _)
  have split : ∀ t c, c.length = n + 1 → leads use R start c = some t → ∃ d i, c = d ++ [i] ∧ d.length = n ∧ i < R.length := by
    intro t c hc hl
    rcases snoc_cases c with rfl | ⟨d, i, rfl⟩
    · simp at hc
    · obtain ⟨u, h2, h3, _⟩ := leads_snoc.1 hl
      exact ⟨d, i, rfl, by simpa using hc, h3⟩
  refine ⟨fun t => ?_, h.ch, fun t c hc hl => ?_⟩
  · rw [show (nextK use R K).is t = (nextTo use R K R.length).is t from rfl, h.is]
    constructor
    · rintro ⟨c, i, h1, _, h2⟩; exact ⟨c ++ [i], by simp [h1], h2⟩
    · rintro ⟨c, h1, h2⟩
      obtain ⟨d, i, rfl, h3, h4⟩ := split t c h1 h2
      exact ⟨d, i, h3, h4, h2⟩
  · obtain ⟨d, i, rfl, h3, h4⟩ := split t c hc hl
    exact h.least t d i h3 h4 hl
/-- the first level: only the start -/
def wk0 (m : Nat) (b : Bool) : Wk := ⟨fun t => if t = m then b else false, fun _ => []⟩
theorem level_zero {use : Rl → Bool} {R : List Rl} {start : Nat} : LevelOK use R start 0 (wk0 start true) := by
  refine ⟨fun t => ?_, fun t ht => ?_, fun t c hc _ => ?_⟩
  · show (if t = start then true else false) = true ↔ _
    constructor
    · intro h
      by_cases e : t = start
      · subst e; exact ⟨[], rfl, rfl⟩
      · rw [if_neg e] at h; cases h
    · rintro ⟨c, hc, hl⟩
      obtain rfl := List.eq_nil_of_length_eq_zero hc
      cases hl
      rw [if_pos rfl]
  · have h : (if t = start then true else false) = true := ht
    by_cases e : t = start
    · subst e; exact ⟨rfl, rfl⟩
    · rw [if_neg e] at h; cases h
  · obtain rfl := List.eq_nil_of_length_eq_zero hc
    exact sle_refl _
def levelK (use : Rl → Bool) (R : List Rl) (start : Nat) (b : Bool) : Nat → Wk
  | 0 => wk0 start b
  | n + 1 => nextK use R (levelK use R start b n)
theorem level_all {use : Rl → Bool} {R : List Rl} {start : Nat} : ∀ n, LevelOK use R start n (levelK use R start true n)
  | 0 => level_zero
  | n + 1 => level_next (level_all n)
end Go.Proofs.Ytogjcfcfgnbmkaa
