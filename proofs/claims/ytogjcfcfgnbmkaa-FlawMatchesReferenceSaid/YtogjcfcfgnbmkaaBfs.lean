/- Plain: chains of rules, their order, and what the breadth-first search finds: the first chain. -/
import Derived.Test.YtogjcfcfgnbmkaaFirstP
namespace Go.Proofs.Ytogjcfcfgnbmkaa
set_option linter.unusedVariables false
set_option linter.unusedSimpArgs false

/-! ### the order of chains -/
def lexlt : List Nat → List Nat → Prop
  | a :: xs, b :: ys => a < b ∨ (a = b ∧ lexlt xs ys)
  | _, _ => False
def sl (a b : List Nat) : Prop := a.length < b.length ∨ (a.length = b.length ∧ lexlt a b)
def sle (a b : List Nat) : Prop := a = b ∨ sl a b
theorem lexlt_irrefl : ∀ a, ¬ lexlt a a
  | [] => id
  | a :: xs => fun h => h.elim (Nat.lt_irrefl _) fun h => lexlt_irrefl xs h.2
theorem lexlt_trans : ∀ {a b c : List Nat}, lexlt a b → lexlt b c → lexlt a c
  | a :: xs, b :: ys, c :: zs, h, h2 => by
    rcases h with h | ⟨rfl, h⟩
    · rcases h2 with h2 | ⟨rfl, h2⟩
      · exact .inl (Nat.lt_trans h h2)
      · exact .inl h
    · rcases h2 with h2 | ⟨rfl, h2⟩
      · exact .inl h2
      · exact .inr ⟨rfl, lexlt_trans h h2⟩
  | [], _, _, h, _ => h.elim
  | _ :: _, [], _, h, _ => h.elim
  | _ :: _, _ :: _, [], _, h => h.elim
theorem lexlt_total : ∀ {a b : List Nat}, a.length = b.length → a = b ∨ lexlt a b ∨ lexlt b a
  | [], [], _ => .inl rfl
  | [], _ :: _, h => by simp at h
  | _ :: _, [], h => by simp at h
  | a :: xs, b :: ys, h => by
    rcases Nat.lt_trichotomy a b with h1 | h1 | h1
    · exact .inr (.inl (.inl h1))
    · subst h1
      rcases lexlt_total (a := xs) (b := ys) (by simpa using h) with h2 | h2 | h2
      · exact .inl (by rw [h2])
      · exact .inr (.inl (.inr ⟨rfl, h2⟩))
      · exact .inr (.inr (.inr ⟨rfl, h2⟩))
    · exact .inr (.inr (.inl h1))
theorem lexlt_append : ∀ {a b : List Nat} (x y : List Nat), lexlt a b → lexlt (a ++ x) (b ++ y)
  | a :: xs, b :: ys, x, y, h => h.elim (fun h => .inl h) fun h => .inr ⟨h.1, lexlt_append x y h.2⟩
  | [], _, _, _, h => h.elim
  | _ :: _, [], _, _, h => h.elim
theorem lexlt_left : ∀ (a : List Nat) {x y : List Nat}, lexlt x y → lexlt (a ++ x) (a ++ y)
  | [], _, _, h => h
  | _ :: xs, _, _, h => .inr ⟨rfl, lexlt_left xs h⟩
theorem sl_irrefl (a : List Nat) : ¬ sl a a := fun h => h.elim (Nat.lt_irrefl _) fun h => lexlt_irrefl a h.2
theorem sl_trans {a b c : List Nat} (h : sl a b) (h2 : sl b c) : sl a c := by
  rcases h with h | ⟨h, hl⟩ <;> rcases h2 with h2 | ⟨h2, hl2⟩
  · exact .inl (by omega)
  · exact .inl (by omega)
  · exact .inl (by omega)
  · exact .inr ⟨by omega, lexlt_trans hl hl2⟩
theorem sl_total (a b : List Nat) : a = b ∨ sl a b ∨ sl b a := by
  rcases Nat.lt_trichotomy a.length b.length with h | h | h
  · exact .inr (.inl (.inl h))
  · rcases lexlt_total h with h2 | h2 | h2
    · exact .inl h2
    · exact .inr (.inl (.inr ⟨h, h2⟩))
    · exact .inr (.inr (.inr ⟨h.symm, h2⟩))
  · exact .inr (.inr (.inl h))
theorem sl_snoc {a b : List Nat} (h : sl a b) (x y : Nat) : sl (a ++ [x]) (b ++ [y]) := by
  rcases h with h | ⟨h, hl⟩
  · exact .inl (by simp; omega)
  · exact .inr ⟨by simp; omega, lexlt_append _ _ hl⟩
theorem sl_last (a : List Nat) {x y : Nat} (h : x < y) : sl (a ++ [x]) (a ++ [y]) := .inr ⟨by simp, lexlt_left a (x := [x]) (y := [y]) (show x < y ∨ _ from .inl h)⟩
theorem sl_grow (a : List Nat) (x : Nat) : sl a (a ++ [x]) := .inl (by simp)
theorem sle_refl (a : List Nat) : sle a a := .inl rfl
theorem sle_trans {a b c : List Nat} (h : sle a b) (h2 : sle b c) : sle a c := by
  rcases h with rfl | h
  · exact h2
  · rcases h2 with rfl | h2
    · exact .inr h
    · exact .inr (sl_trans h h2)
theorem sle_snoc {a b : List Nat} (h : sle a b) (x : Nat) : sle (a ++ [x]) (b ++ [x]) := by
  rcases h with rfl | h
  · exact sle_refl _
  · exact .inr (sl_snoc h x x)
theorem sle_antisymm {a b : List Nat} (h : sle a b) (h2 : sle b a) : a = b := by
  rcases h with h | h
  · exact h
  · rcases h2 with h2 | h2
    · exact h2.symm
    · exact absurd (sl_trans h h2) (sl_irrefl _)
theorem sl_of_sl_sle {a b c : List Nat} (h : sl a b) (h2 : sle b c) : sl a c := by
  rcases h2 with rfl | h2
  · exact h
  · exact sl_trans h h2
theorem sl_or_sle (a b : List Nat) : sl a b ∨ sle b a := by
  rcases sl_total a b with h | h | h
  · exact .inr (.inl h.symm)
  · exact .inl h
  · exact .inr (.inr h)
theorem sle_len {a b : List Nat} (h : sle a b) : a.length ≤ b.length := by
  rcases h with rfl | h | ⟨h, _⟩ <;> omega

/-! ### chains -/
def leads (use : Rl → Bool) (R : List Rl) : Nat → List Nat → Option Nat
  | m, [] => some m
  | m, i :: c => if h : i < R.length then (if R[i].frm.toNat = m ∧ use R[i] = true then leads use R R[i].dst.toNat c else none) else none
def Stp (use : Rl → Bool) (R : List Rl) (u i t : Nat) : Prop := ∃ h : i < R.length, R[i].frm.toNat = u ∧ use R[i] = true ∧ R[i].dst.toNat = t
theorem leads_cons {use : Rl → Bool} {R : List Rl} {m i t : Nat} {c : List Nat} : leads use R m (i :: c) = some t ↔ ∃ u, Stp use R m i u ∧ leads use R u c = some t := by
  rw [leads]
  constructor
  · intro h
    split at h
    · rename_i hi
      split at h
      · rename_i h2; exact ⟨_, ⟨hi, h2.1, h2.2, rfl⟩, h⟩
      · cases h
    · cases h
  · rintro ⟨u, ⟨hi, h1, h2, rfl⟩, h⟩
    rw [dif_pos hi, if_pos ⟨h1, h2⟩]; exact h
theorem leads_append {use : Rl → Bool} {R : List Rl} : ∀ {m t : Nat} {c d : List Nat}, leads use R m (c ++ d) = some t ↔ ∃ u, leads use R m c = some u ∧ leads use R u d = some t
  | m, t, [], d => by simp [leads]
  | m, t, i :: c, d => by
    rw [List.cons_append, leads_cons]
    constructor
    · rintro ⟨u, h1, h2⟩
      obtain ⟨v, h3, h4⟩ := leads_append.1 h2
      exact ⟨v, leads_cons.2 ⟨u, h1, h3⟩, h4⟩
    · rintro ⟨v, h1, h2⟩
      obtain ⟨u, h3, h4⟩ := leads_cons.1 h1
      exact ⟨u, h3, leads_append.2 ⟨v, h4, h2⟩⟩
theorem leads_snoc {use : Rl → Bool} {R : List Rl} {m t i : Nat} {c : List Nat} : leads use R m (c ++ [i]) = some t ↔ ∃ u, leads use R m c = some u ∧ Stp use R u i t := by
  rw [leads_append]
  constructor
  · rintro ⟨u, h1, h2⟩
    obtain ⟨v, h3, h4⟩ := leads_cons.1 h2
    cases h4
    exact ⟨u, h1, h3⟩
  · rintro ⟨u, h1, h2⟩
    exact ⟨u, h1, leads_cons.2 ⟨t, h2, rfl⟩⟩
theorem snoc_cases {α : Type} (c : List α) : c = [] ∨ ∃ d x, c = d ++ [x] := by
  rcases List.eq_nil_or_concat c with h | ⟨d, x, h⟩
  · exact .inl h
  · exact .inr ⟨d, x, by rw [h]; try simp⟩

/-- c is the first chain of at least one rule from start to a mode of goal -/
structure Best (use : Rl → Bool) (R : List Rl) (start goal : Nat) (c : List Nat) : Prop where
  ne : c ≠ []
  is : ∃ g, leads use R start c = some g ∧ goal.testBit g = true
  least : ∀ d g, d ≠ [] → leads use R start d = some g → goal.testBit g = true → sle c d
def NoChain (use : Rl → Bool) (R : List Rl) (start goal : Nat) : Prop := ∀ d g, d ≠ [] → leads use R start d = some g → goal.testBit g = false
theorem best_unique {use : Rl → Bool} {R : List Rl} {start goal : Nat} {c d : List Nat} (h : Best use R start goal c) (h2 : Best use R start goal d) : c = d := by
  obtain ⟨g, hg, hb⟩ := h.is
  obtain ⟨g2, hg2, hb2⟩ := h2.is
  exact sle_antisymm (h.least d g2 h2.ne hg2 hb2) (h2.least c g h.ne hg hb)

/-! ### the search -/
structure BI (use : Rl → Bool) (R : List Rl) (start goal : Nat) (D : List Nat) (s : BS) : Prop where
  chain : ∀ t ∈ D ++ s.q, leads use R start (s.ch t) = some t
  seenL : ∀ t, s.seen.testBit t = true ↔ t ∈ D ++ s.q
  base : start ∈ D ++ s.q ∧ s.ch start = []
  sorted : (D ++ s.q).Pairwise (fun a b => sl (s.ch a) (s.ch b))
def Done (use : Rl → Bool) (R : List Rl) (goal : Nat) (D : List Nat) (s : BS) (u i : Nat) : Prop :=
  ∀ t, Stp use R u i t → t ∈ D ++ s.q ∧ sle (s.ch t) (s.ch u ++ [i]) ∧ goal.testBit t = false

/-- all chains, xs far xs the edges that are done go: at the rule k of the mode m -/
theorem frontier {use : Rl → Bool} {R : List Rl} {start goal : Nat} {D : List Nat} {m k : Nat} {s : BS} (hI : BI use R start goal (D ++ [m]) s)
    (hd : ∀ u ∈ D, ∀ i, Done use R goal (D ++ [m]) s u i) (hm : ∀ i, i < k → Done use R goal (D ++ [m]) s m i) :
    ∀ (N : Nat) (c : List Nat) (n : Nat), c.length = N → leads use R start c = some n → (n ∈ (D ++ [m]) ++ s.q ∧ sle (s.ch n) c ∧ (c = [] ∨ goal.testBit n = false)) ∨ sle (s.ch m ++ [k]) c := by
  intro N
  induction N with
  | zero =>
    intro c n hc hn
    obtain rfl := List.eq_nil_of_length_eq_zero hc
    cases hn
    exact .inl ⟨hI.base.1, by rw [hI.base.2]; exact sle_refl _, .inl rfl⟩
  | succ N ih =>
    intro c n hc hn
    rcases snoc_cases c with rfl | ⟨c, i, rfl⟩
    · simp at hc
    obtain ⟨u, h1, h2⟩ := leads_snoc.1 hn
    rcases ih c u (by simpa using hc) h1 with ⟨hu, hle, -⟩ | h
    · rw [List.append_assoc] at hu
      rcases List.mem_append.1 hu with hu | hu
      · obtain ⟨q1, q2, q3⟩ := hd u hu i n h2
        exact .inl ⟨q1, sle_trans q2 (sle_snoc hle i), .inr q3⟩
      · rw [List.singleton_append] at hu
        rcases List.mem_cons.1 hu with rfl | hu
        · by_cases hik : i < k
          · obtain ⟨q1, q2, q3⟩ := hm i hik n h2
            exact .inl ⟨q1, sle_trans q2 (sle_snoc hle i), .inr q3⟩
          · refine .inr (sle_trans ?_ (sle_snoc hle i))
            by_cases e : i = k
            · subst e; exact sle_refl _
            · exact .inr (sl_last _ (by omega))
        · have hs : sl (s.ch m) (s.ch u) := by
            have := hI.sorted
            rw [List.append_assoc, List.pairwise_append] at this
            have := this.2.1
            rw [List.singleton_append, List.pairwise_cons] at this
            exact this.1 u hu
          exact .inr (sle_trans (.inr (sl_snoc hs k i)) (sle_snoc hle i))
    · exact .inr (sle_trans h (.inr (sl_grow c i)))

theorem no_chain {use : Rl → Bool} {R : List Rl} {start goal : Nat} {D : List Nat} {s : BS} (hI : BI use R start goal D s) (hd : ∀ u ∈ D, ∀ i, Done use R goal D s u i) (hq : s.q = []) : NoChain use R start goal := by
  have key : ∀ (N : Nat) (c : List Nat) (n : Nat), c.length = N → leads use R start c = some n → n ∈ D ∧ (c = [] ∨ goal.testBit n = false) := by
    intro N
    induction N with
    | zero =>
      intro c n hc hn
      obtain rfl := List.eq_nil_of_length_eq_zero hc
      cases hn
      have := hI.base.1
      rw [hq, List.append_nil] at this
      exact ⟨this, .inl rfl⟩
    | succ N ih =>
      intro c n hc hn
      rcases snoc_cases c with rfl | ⟨c, i, rfl⟩
      · simp at hc
      obtain ⟨u, h1, h2⟩ := leads_snoc.1 hn
      obtain ⟨hu, -⟩ := ih c u (by simpa using hc) h1
      obtain ⟨q1, q2, q3⟩ := hd u hu i n h2
      rw [hq, List.append_nil] at q1
      exact ⟨q1, .inr q3⟩
  intro d g hd0 hdl
  rcases (key d.length d g rfl hdl).2 with h | h
  · exact absurd h hd0
  · exact h
theorem inner_spec {use : Rl → Bool} {R : List Rl} {start goal : Nat} {D : List Nat} {m : Nat} : ∀ (N k : Nat) (s : BS), R.length - k = N → k ≤ R.length → BI use R start goal (D ++ [m]) s →
    (∀ u ∈ D, ∀ i, Done use R goal (D ++ [m]) s u i) → (∀ i, i < k → Done use R goal (D ++ [m]) s m i) → (∀ t ∈ (D ++ [m]) ++ s.q, sl (s.ch t) (s.ch m ++ [k])) →
    match inner use goal m (R.drop k) k s with
    | .inl c => Best use R start goal c
    | .inr s' => BI use R start goal (D ++ [m]) s' ∧ (∀ u ∈ D ++ [m], ∀ i, Done use R goal (D ++ [m]) s' u i) ∧ (∀ t ∈ (D ++ [m]) ++ s'.q, sl (s'.ch t) (s'.ch m ++ [R.length])) := by
  intro N
  induction N with
  | zero =>
    intro k s hN hk hI hd hm hb
    obtain rfl : k = R.length := by omega
    rw [List.drop_length, inner]
    refine ⟨hI, fun u hu i => ?_, hb⟩
    rcases List.mem_append.1 hu with hu | hu
    · exact hd u hu i
    · simp at hu; subst hu
      rintro t ⟨hi, h⟩
      exact hm i hi t ⟨hi, h⟩
  | succ N ih =>
    intro k s hN hk hI hd hm hb
    have hlt : k < R.length := by omega
    have hmL : m ∈ (D ++ [m]) ++ s.q := by simp
    rw [inner_at s hlt]
    by_cases hc : (decide (R[k].frm.toNat = m) && use R[k]) = true
    · rw [if_pos hc]
      simp only [Bool.and_eq_true, decide_eq_true_eq] at hc
      have hst : Stp use R m k R[k].dst.toNat := ⟨hlt, hc.1, hc.2, rfl⟩
      by_cases hg : goal.testBit R[k].dst.toNat = true
      · rw [if_pos hg]
        refine ⟨by simp, ⟨_, leads_snoc.2 ⟨m, hI.chain m hmL, hst⟩, hg⟩, fun d g hd0 hdl hdg => ?_⟩
        rcases frontier hI hd hm d.length d g rfl hdl with ⟨_, _, h | h⟩ | h
        · exact absurd h hd0
        · rw [hdg] at h; cases h
        · exact h
      · have hg' : goal.testBit R[k].dst.toNat = false := by simpa using hg
        rw [if_neg hg]
        by_cases hs : s.seen.testBit R[k].dst.toNat = true
        · rw [if_pos hs]
          refine ih (k + 1) s (by omega) (by omega) hI hd (fun i hi => ?_) (fun t ht => sl_trans (hb t ht) (sl_last _ (by omega)))
          by_cases e : i = k
          · subst e
            rintro t ⟨h1, h2, h3, rfl⟩
            exact ⟨(hI.seenL _).1 hs, .inr (hb _ ((hI.seenL _).1 hs)), hg'⟩
          · exact hm i (by omega)
        · rw [if_neg hs]
          have hnot : R[k].dst.toNat ∉ (D ++ [m]) ++ s.q := fun h => hs ((hI.seenL _).2 h)
          generalize hd0 : R[k].dst.toNat = d at *
          have hmd : m ≠ d := fun e : m = d => hnot (e ▸ hmL)
          have hch : ∀ t ∈ (D ++ [m]) ++ s.q, (if t = d then s.ch m ++ [k] else s.ch t) = s.ch t := fun t ht => if_neg (fun e : t = d => hnot (e ▸ ht))
          have hmem : ∀ t, t ∈ (D ++ [m]) ++ (s.q ++ [d]) ↔ (t ∈ (D ++ [m]) ++ s.q ∨ t = d) := fun t => by
            rw [← List.append_assoc]; simp only [List.mem_append (t := [d]), List.mem_singleton]
          have hDone : ∀ u i, u ∈ (D ++ [m]) ++ s.q → Done use R goal (D ++ [m]) s u i → Done use R goal (D ++ [m]) ⟨s.q ++ [d], fun t => if t = d then s.ch m ++ [k] else s.ch t, s.seen ||| 2 ^ d⟩ u i := by
            intro u i hu h t ht
            obtain ⟨q1, q2, q3⟩ := h t ht
            refine ⟨(hmem t).2 (.inl q1), ?_, q3⟩
            show sle (if t = d then s.ch m ++ [k] else s.ch t) ((if u = d then s.ch m ++ [k] else s.ch u) ++ [i])
            rw [hch t q1, hch u hu]; exact q2
          have hDm : ∀ u, u ∈ D → u ∈ (D ++ [m]) ++ s.q := fun u hu => by simp [hu]
          refine ih (k + 1) ⟨s.q ++ [d], fun t => if t = d then s.ch m ++ [k] else s.ch t, s.seen ||| 2 ^ d⟩ (by omega) (by omega) ⟨fun t ht => ?_, fun t => ?_, ⟨(hmem _).2 (.inl hI.base.1), ?_⟩, ?_⟩ (fun u hu i => hDone u i (hDm u hu) (hd u hu i)) (fun i hi => ?_) (fun t ht => ?_)
          · show leads use R start (if t = d then s.ch m ++ [k] else s.ch t) = some t
            rcases (hmem t).1 ht with h | rfl
            · rw [hch t h]; exact hI.chain t h
            · rw [if_pos rfl]; exact leads_snoc.2 ⟨m, hI.chain m hmL, hst⟩
          · rw [hmem, ← hI.seenL, Nat.testBit_or, Nat.testBit_two_pow]
            simp only [Bool.or_eq_true, decide_eq_true_eq]
            exact or_congr Iff.rfl eq_comm
          · show (if start = d then s.ch m ++ [k] else s.ch start) = []
            rw [hch _ hI.base.1]; exact hI.base.2
          · show ((D ++ [m]) ++ (s.q ++ [d])).Pairwise (fun a b => sl (if a = d then s.ch m ++ [k] else s.ch a) (if b = d then s.ch m ++ [k] else s.ch b))
            rw [← List.append_assoc, List.pairwise_append]
            refine ⟨?_, by simp, fun a ha b hb' => ?_⟩
            · refine List.Pairwise.imp_of_mem (fun {a b} ha hb' h => ?_) hI.sorted
              rw [hch a ha, hch b hb']; exact h
            · simp at hb'; subst hb'
              rw [if_pos rfl, hch a ha]; exact hb a ha
          · by_cases e : i = k
            · subst e
              rintro t ⟨h1, h2, h3, rfl⟩
              rw [hd0]
              refine ⟨(hmem _).2 (.inr rfl), ?_, by rw [← hd0]; first | exact hg' | (rw [hd0]; exact hg')⟩
              show sle (if d = d then s.ch m ++ [i] else s.ch d) ((if m = d then s.ch m ++ [i] else s.ch m) ++ [i])
              rw [if_pos rfl, if_neg hmd]; exact sle_refl _
            · exact hDone m i hmL (hm i (by omega))
          · show sl (if t = d then s.ch m ++ [k] else s.ch t) ((if m = d then s.ch m ++ [k] else s.ch m) ++ [k + 1])
            rw [if_neg hmd]
            rcases (hmem t).1 ht with h | rfl
            · rw [hch t h]; exact sl_trans (hb t h) (sl_last _ (by omega))
            · rw [if_pos rfl]; exact sl_last _ (by omega)
    · rw [if_neg hc]
      refine ih (k + 1) s (by omega) (by omega) hI hd (fun i hi => ?_) (fun t ht => sl_trans (hb t ht) (sl_last _ (by omega)))
      by_cases e : i = k
      · subst e
        rintro t ⟨h1, h2, h3, rfl⟩
        exact absurd (by simp [h2, h3]) hc
      · exact hm i (by omega)

/-! ### how long it goes on, and how long the chains are -/
theorem cnt_add {N L t : Nat} (ht : t < N) (h : L.testBit t = false) : cntF N (L ||| 2 ^ t).testBit + 1 = cntF N L.testBit := by
  have := cntF_add (f := L.testBit) (g := (L ||| 2 ^ t).testBit) (t := t) (fun i => by rw [Nat.testBit_or, Nat.testBit_two_pow]) h N
  rwa [if_pos ht] at this
theorem cnt_none : ∀ N, cntF N (fun _ => false) = N
  | 0 => rfl
  | N + 1 => by simp [cntF, cnt_none N]
theorem cnt_one {N t : Nat} (ht : t < N) : cntF N (2 ^ t).testBit + 1 = N := by
  have := cntF_add (f := fun _ => false) (g := (2 ^ t).testBit) (t := t) (fun i => by rw [Nat.testBit_two_pow]; simp) rfl N
  rwa [if_pos ht, cnt_none] at this
structure Sm (N : Nat) (s : BS) : Prop where
  short : ∀ t, t < N → (s.ch t).length + cntF N s.seen.testBit < N
  modes : ∀ t ∈ s.q, t < N
def Small (N : Nat) (R : List Rl) : Prop := ∀ r ∈ R, r.frm.toNat < N ∧ r.dst.toNat < N
def InSm (N : Nat) (s : BS) : List Nat ⊕ BS → Prop
  | .inl c => c.length ≤ N
  | .inr s' => Sm N s' ∧ s'.q.length + cntF N s'.seen.testBit = s.q.length + cntF N s.seen.testBit
theorem inner_small {use : Rl → Bool} {goal N m : Nat} (hm : m < N) : ∀ (R : List Rl) (k : Nat) (s : BS), Small N R → Sm N s → InSm N s (inner use goal m R k s)
  | [], k, s, _, h => ⟨h, rfl⟩
  | r :: R, k, s, hR, h => by
    have hR' : Small N R := fun x hx => hR x (by simp [hx])
    have hd := (hR r (by simp)).2
    rw [inner]
    split
    · split
      · show (s.ch m ++ [k]).length ≤ N
        have := h.short m hm; rw [List.length_append]; simp only [List.length_cons, List.length_nil]; omega
      · split
        · exact inner_small hm R (k + 1) s hR' h
        · rename_i hs
          have hs' : s.seen.testBit r.dst.toNat = false := by simpa using hs
          generalize r.dst.toNat = d at *
          have hc := cnt_add hd hs'
          have := inner_small (use := use) (goal := goal) hm R (k + 1) ⟨s.q ++ [d], fun t => if t = d then s.ch m ++ [k] else s.ch t, s.seen ||| 2 ^ d⟩ hR' ⟨fun t ht => ?_, fun t ht => ?_⟩
          · revert this
            generalize inner use goal m R (k + 1) ⟨s.q ++ [d], fun t => if t = d then s.ch m ++ [k] else s.ch t, s.seen ||| 2 ^ d⟩ = r'
            cases r' with
            | inl c => exact id
            | inr s' =>
              rintro ⟨h1, h2⟩
              refine ⟨h1, h2.trans ?_⟩
              show (s.q ++ [d]).length + cntF N (s.seen ||| 2 ^ d).testBit = _
              rw [List.length_append]; simp only [List.length_cons, List.length_nil]; omega
          · show (if t = d then s.ch m ++ [k] else s.ch t).length + cntF N (s.seen ||| 2 ^ d).testBit < N
            have h1 := h.short m hm; have h2 := h.short t ht
            split
            · rw [List.length_append]; simp only [List.length_cons, List.length_nil]; omega
            · omega
          · rcases List.mem_append.1 ht with h1 | h1
            · exact h.modes t h1
            · simp at h1; omega
    · exact inner_small hm R (k + 1) s hR' h

theorem outer_spec {use : Rl → Bool} {R : List Rl} {start goal N : Nat} (hR : Small N R) : ∀ (n : Nat) (D : List Nat) (s : BS), BI use R start goal D s → (∀ u ∈ D, ∀ i, Done use R goal D s u i) →
    (∀ x ∈ s.q, ∀ t ∈ D ++ s.q, sl (s.ch t) (s.ch x ++ [0])) → Sm N s → s.q.length + cntF N s.seen.testBit ≤ n →
    (outer use goal R n s = [] ∧ NoChain use R start goal) ∨ (Best use R start goal (outer use goal R n s) ∧ (outer use goal R n s).length ≤ N) := by
  intro n
  induction n with
  | zero =>
    intro D s hI hd hb hS hn
    have hq : s.q = [] := List.eq_nil_of_length_eq_zero (by omega)
    exact .inl ⟨rfl, no_chain hI hd hq⟩
  | succ n ih =>
    intro D s hI hd hb hS hn
    rcases hq : s.q with _ | ⟨m, q⟩
    · exact .inl ⟨outer_nil hq, no_chain hI hd hq⟩
    · have hL : D ++ s.q = (D ++ [m]) ++ q := by rw [hq]; simp
      have hmN : m < N := hS.modes m (by rw [hq]; simp)
      have hI' : BI use R start goal (D ++ [m]) { s with q := q } := ⟨by rw [← hL]; exact hI.chain, by rw [← hL]; exact hI.seenL, by rw [← hL]; exact hI.base, by rw [← hL]; exact hI.sorted⟩
      have hd' : ∀ u ∈ D, ∀ i, Done use R goal (D ++ [m]) { s with q := q } u i := fun u hu i t ht => by
        have := hd u hu i t ht
        rw [hL] at this; exact this
      have h1 := inner_spec (R.length - 0) 0 { s with q := q } rfl (Nat.zero_le _) hI' hd' (fun i hi => absurd hi (by omega)) (fun t ht => hb m (by rw [hq]; simp) t (by rw [hL]; exact ht))
      have h2 := inner_small (use := use) (goal := goal) hmN R 0 { s with q := q } hR ⟨hS.short, fun t ht => hS.modes t (by rw [hq]; simp [ht])⟩
      rw [List.drop_zero] at h1
      have he : outer use goal R (n + 1) s = match inner use goal m R 0 { s with q := q } with | .inl c => c | .inr s' => outer use goal R n s' := by rw [outer, hq]; rfl
      rw [he]
      revert h1 h2
      generalize inner use goal m R 0 { s with q := q } = r'
      cases r' with
      | inl c => exact fun h1 h2 => .inr ⟨h1, h2⟩
      | inr s' =>
        rintro ⟨hI2, hd2, hb2⟩ ⟨hS2, hn2⟩
        refine ih (D ++ [m]) s' hI2 hd2 (fun x hx t ht => ?_) hS2 ?_
        · have hs : sl (s'.ch m) (s'.ch x) := by
            have := hI2.sorted
            rw [List.append_assoc, List.pairwise_append] at this
            have := this.2.1
            rw [List.singleton_append, List.pairwise_cons] at this
            exact this.1 x hx
          exact sl_trans (hb2 t ht) (sl_snoc hs _ _)
        · rw [hq] at hn
          simp only [List.length_cons] at hn
          have : s'.q.length + cntF N s'.seen.testBit = q.length + cntF N s.seen.testBit := hn2
          omega

theorem bfs_spec {use : Rl → Bool} {R : List Rl} {start goal N : Nat} (hR : Small N R) (hN : N ≤ 8) (hs : start < N) :
    (bfs use goal R start = [] ∧ NoChain use R start goal) ∨ (Best use R start goal (bfs use goal R start) ∧ (bfs use goal R start).length ≤ N) := by
  have hc := cnt_one hs
  refine outer_spec hR 8 [] ⟨[start], fun _ => [], 2 ^ start⟩ ⟨fun t ht => ?_, fun t => ?_, ⟨by simp, rfl⟩, by simp⟩ (by simp) (fun x hx t ht => ?_) ⟨fun t ht => ?_, fun t ht => ?_⟩ ?_
  · simp at ht; subst ht; rfl
  · rw [Nat.testBit_two_pow]; simp [eq_comm]
  · exact sl_grow [] 0
  · show 0 + cntF N (2 ^ start).testBit < N; omega
  · simp at ht; omega
  · show 1 + cntF N (2 ^ start).testBit ≤ 8; omega
theorem bfs_len {use : Rl → Bool} {R : List Rl} {start goal N : Nat} (hR : Small N R) (hN : N ≤ 8) (hs : start < N) : (bfs use goal R start).length ≤ N := by
  rcases bfs_spec (use := use) (goal := goal) hR hN hs with ⟨h, _⟩ | ⟨_, h⟩
  · rw [h]; simp
  · exact h
theorem Fit.small {S : Sch} (h : Fit S) : Small S.modes.toNat S.rules := fun r hr => by
  obtain ⟨i, hi, rfl⟩ := List.mem_iff_getElem.1 hr
  have := h.at0 i hi
  omega
end Go.Proofs.Ytogjcfcfgnbmkaa
