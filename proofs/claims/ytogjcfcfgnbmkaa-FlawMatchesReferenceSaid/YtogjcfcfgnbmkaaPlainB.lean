/- Plain: chains as paths; first chains; trimming, adding and reversing rules. -/
import Derived.Test.YtogjcfcfgnbmkaaPlainA
import Derived.Test.YtogjcfcfgnbmkaaSane
namespace Go.Proofs.Ytogjcfcfgnbmkaa
set_option linter.unusedVariables false
set_option linter.unusedSimpArgs false

/-! ### paths: chains without their indices -/
inductive PathN (use : Rl → Bool) (R : List Rl) : Nat → Nat → Nat → Prop
  | nil (u : Nat) : PathN use R 0 u u
  | cons {n t : Nat} (r : Rl) (hr : r ∈ R) (hu : use r = true) (h : PathN use R n r.dst.toNat t) : PathN use R (n + 1) r.frm.toNat t
theorem pathN_of_leads {use : Rl → Bool} {R : List Rl} : ∀ {c : List Nat} {u t : Nat}, leads use R u c = some t → PathN use R c.length u t
  | [], u, t, h => by simp only [leads, Option.some.injEq] at h; subst h; exact .nil u
  | i :: c, u, t, h => by
    obtain ⟨v, ⟨hi, hf, hu, hd⟩, h2⟩ := leads_cons.1 h
    subst hf hd
    exact .cons R[i] (List.getElem_mem hi) hu (pathN_of_leads h2)
theorem leads_of_pathN {use : Rl → Bool} {R : List Rl} {n u t : Nat} (h : PathN use R n u t) : ∃ c, c.length = n ∧ leads use R u c = some t := by
  induction h with
  | nil u => exact ⟨[], rfl, rfl⟩
  | cons r hr hu h ih =>
    obtain ⟨c, hc, hl⟩ := ih
    obtain ⟨i, hi, rfl⟩ := List.getElem_of_mem hr
    exact ⟨i :: c, by simp [hc], leads_cons.2 ⟨_, ⟨hi, rfl, hu, rfl⟩, hl⟩⟩
theorem PathN.trans {use : Rl → Bool} {R : List Rl} {n m u v t : Nat} (h : PathN use R n u v) (h2 : PathN use R m v t) : PathN use R (n + m) u t := by
  induction h with
  | nil u => rw [Nat.zero_add]; exact h2
  | cons r hr hu h ih => have := PathN.cons r hr hu (ih h2); rw [show ∀ n : Nat, n + 1 + m = n + m + 1 by intro n; omega]; exact this
theorem PathN.mono {use use' : Rl → Bool} {R R' : List Rl} {n u t : Nat} (h : PathN use R n u t) (hR : ∀ r ∈ R, use r = true → r ∈ R' ∧ use' r = true) : PathN use' R' n u t := by
  induction h with
  | nil u => exact .nil u
  | cons r hr hu h ih => exact .cons r (hR r hr hu).1 (hR r hr hu).2 ih
/-- each rule of a path keeps a property that all rules between have -/
theorem PathN.inner {use : Rl → Bool} {R : List Rl} {n u t : Nat} (h : PathN use R n u t) : ∀ {P : Rl → Prop}, (∀ r ∈ R, use r = true → ∀ i j, PathN use R i u r.frm.toNat → PathN use R j r.dst.toNat t → P r) → ∃ R', (∀ r ∈ R', r ∈ R ∧ P r) ∧ PathN use R' n u t := by
  induction h with
  | nil u => exact fun _ => ⟨[], by simp, .nil u⟩
  | @cons n t r hr hu h ih =>
    intro P hP
    obtain ⟨R', h1, h2⟩ := ih (P := P) fun q hq hqu i j hi hj => hP q hq hqu (i + 1) j (.cons r hr hu hi) hj
    exact ⟨r :: R', fun q hq => by
      rcases List.mem_cons.1 hq with rfl | hq
      · exact ⟨hr, hP q hr hu 0 n (.nil _) h⟩
      · exact h1 q hq, .cons r (by simp) hu (h2.mono fun q hq hqu => ⟨by simp [hq], hqu⟩)⟩
theorem reach_path {S : Sch} (hS : Fit S) {m t : Nat} (hm : m < S.modes.toNat) : (reachFrom S m).testBit t = true ↔ ∃ n, PathN anyU S.rules n m t := by
  rw [reach_spec hS hm]
  exact ⟨fun ⟨c, h⟩ => ⟨_, pathN_of_leads h⟩, fun ⟨n, h⟩ => by obtain ⟨c, _, h2⟩ := leads_of_pathN h; exact ⟨c, h2⟩⟩
theorem reach0 {S : Sch} (hS : Fit S) {t : Nat} : (reachS S).testBit t = true ↔ ∃ n, PathN anyU S.rules n 0 t := by rw [reachS_eq]; exact reach_path hS hS.pos
theorem live_path {S : Sch} (hS : Fit S) {m : Nat} (hm : m < S.modes.toNat) : (liveS S).testBit m = true ↔ ∃ n t, PathN anyU S.rules n m t ∧ S.acc.toNat.testBit t = true := by
  rw [live_spec hS hm]
  exact ⟨fun ⟨c, t, h, h2⟩ => ⟨_, t, pathN_of_leads h, h2⟩, fun ⟨n, t, h, h2⟩ => by obtain ⟨c, _, h3⟩ := leads_of_pathN h; exact ⟨c, t, h3, h2⟩⟩
theorem path_lt {S : Sch} (hS : Fit S) {use : Rl → Bool} {n u t : Nat} (h : PathN use S.rules n u t) (hu : u < S.modes.toNat) : t < S.modes.toNat := by
  obtain ⟨c, _, hc⟩ := leads_of_pathN h
  exact leads_lt hS hu hc
theorem Fit.rule {S : Sch} (h : Fit S) {r : Rl} (hr : r ∈ S.rules) : 0 ≤ r.frm ∧ r.frm < S.modes ∧ 0 ≤ r.dst ∧ r.dst < S.modes := by
  obtain ⟨i, hi, rfl⟩ := List.getElem_of_mem hr
  exact h.at0 i hi
/-! ### the first chains -/
theorem lexLe_of : ∀ {a b : List Nat}, a.length = b.length → lexlt a b → lexLe (ints a) (ints b) = true
  | a :: xs, b :: ys, hl, h => by
    show lexLe ((a : Int) :: ints xs) ((b : Int) :: ints ys) = true
    rw [lexLe]
    rcases h with h | ⟨rfl, h⟩
    · rw [if_neg (by omega)]; simp; exact h
    · rw [if_pos rfl]; exact lexLe_of (by simpa using hl) h
  | [], _, _, h => h.elim
  | _ :: _, [], _, h => h.elim
theorem lexLe_refl : ∀ a : List Int, lexLe a a = true
  | [] => rfl
  | a :: xs => by rw [lexLe, if_pos rfl]; exact lexLe_refl xs
theorem firstB_of {a b : List Nat} (h : sle a b) : firstB (ints a) (ints b) = true := by
  rw [firstB]
  rcases h with rfl | h | ⟨h, h2⟩
  · rw [if_pos rfl]; exact lexLe_refl _
  · rw [if_neg (by rw [ints_len, ints_len]; omega)]; simp [ints_len]; exact h
  · rw [if_pos (by rw [ints_len, ints_len]; exact h)]; exact lexLe_of h h2
def StuckC (S : Sch) (d : List Nat) : Prop := (liveS S).testBit 0 = true ∧ d ≠ [] ∧ ∃ t, leads anyU S.rules 0 d = some t ∧ (liveS S).testBit t = false
theorem stuckF_least {S : Sch} (hS : Fit S) : Least (StuckC S) (stuckF S) := by
  have hm8 : S.modes.toNat ≤ 8 := by have := hS.m1; omega
  unfold stuckF
  by_cases h0 : (liveS S).testBit 0 = true
  · rw [if_pos h0]
    rcases bfs_spec (use := fun _ => true) (goal := 255 - liveS S) hS.small hm8 hS.pos with ⟨h1, h2⟩ | ⟨h1, h2⟩
    · refine .inl ⟨h1, fun d ⟨_, hd, t, ht, hlt⟩ => ?_⟩
      have h6 := h2 d t hd ht
      rw [goal_bit hS (leads_lt hS hS.pos ht), deadM, hlt] at h6; cases h6
    · obtain ⟨g, hg, hgb⟩ := h1.is
      rw [goal_bit hS (leads_lt hS hS.pos hg), deadM] at hgb
      refine .inr ⟨h1.ne, ⟨h0, h1.ne, g, hg, by simpa using hgb⟩, fun d ⟨_, hd, t, ht, hlt⟩ => h1.least d t hd ht ?_⟩
      rw [goal_bit hS (leads_lt hS hS.pos ht), deadM, hlt]; rfl
  · rw [if_neg h0]
    exact .inl ⟨rfl, fun d h => h0 h.1⟩
theorem stuck_first {S : Sch} (hS : Fit S) {c : List Nat} {t : Nat} (h0 : (liveS S).testBit 0 = true) (hc : c ≠ []) (h : leads anyU S.rules 0 c = some t) (ht : (liveS S).testBit t = false) : stuckF S ≠ [] ∧ firstB (ints (stuckF S)) (ints c) = true := by
  rcases stuckF_least hS with ⟨_, h2⟩ | ⟨h1, _, h3⟩
  · exact absurd ⟨h0, hc, t, h, ht⟩ (h2 c)
  · exact ⟨h1, firstB_of (h3 c ⟨h0, hc, t, h, ht⟩)⟩
theorem leads_silent {R : List Rl} : ∀ {c : List Nat} {m t : Nat}, leads anyU R m c = some t → (∀ i ∈ c, ∀ h : i < R.length, emptyR R[i] = true) → leads emptyR R m c = some t
  | [], _, _, h, _ => h
  | i :: c, m, t, h, hs => by
    obtain ⟨u, ⟨hi, hf, _, hd⟩, h2⟩ := leads_cons.1 h
    exact leads_cons.2 ⟨u, ⟨hi, hf, hs i (by simp) hi, hd⟩, leads_silent h2 fun j hj => hs j (by simp [hj])⟩
theorem endl_first {S : Sch} (hS : Fit S) {c : List Nat} {m : Nat} (hm : m < S.modes.toNat) (hr : (reachS S).testBit m = true) (hl : (liveS S).testBit m = true) (hc : c ≠ []) (h : leads emptyR S.rules m c = some m) : endF S ≠ [] ∧ firstB (ints (endF S)) (ints c) = true := by
  have hC : CircTo S S.modes.toNat c := ⟨m, hm, by simp [cbit, hr, hl], hc, h⟩
  rcases endF_least hS _ (Nat.le_refl _) with ⟨_, h2⟩ | ⟨h1, _, h3⟩
  · exact absurd hC (h2 c)
  · exact ⟨h1, firstB_of (h3 c hC)⟩
theorem silent_mem {R : List Rl} {c : List Nat} (h : ((ints c).all fun i => emptyR (R.getD i.toNat ⟨0, 0, ⟨#[]⟩, ⟨#[]⟩, 0⟩)) = true) : ∀ i ∈ c, ∀ hi : i < R.length, emptyR R[i] = true := by
  intro i hi hl
  rw [List.all_eq_true] at h
  have := h (i : Int) (by simp only [ints, List.mem_map]; exact ⟨i, hi, rfl⟩)
  rw [Int.toNat_natCast, List.getD_eq_getElem?_getD, List.getElem?_eq_getElem hl] at this
  exact this
theorem stuckF_len {S : Sch} (hS : Fit S) : (stuckF S).length ≤ 8 := by
  have hm8 : S.modes.toNat ≤ 8 := by have := hS.m1; omega
  unfold stuckF
  split
  · exact Nat.le_trans (bfs_len hS.small hm8 hS.pos) hm8
  · simp
theorem endN_len {S : Sch} (hS : Fit S) : ∀ M, M ≤ S.modes.toNat → ((List.range M).foldl (endStep S) []).length ≤ 8
  | 0, _ => by simp
  | M + 1, h => by
    have hm8 : S.modes.toNat ≤ 8 := by have := hS.m1; omega
    have ih := endN_len hS M (by omega)
    have hb := Nat.le_trans (bfs_len (use := emptyR) (goal := 2 ^ M) hS.small hm8 (show M < S.modes.toNat by omega)) hm8
    rw [List.range_succ, List.foldl_append]
    show (endStep S _ M).length ≤ 8
    unfold endStep
    split
    · split
      · exact ih
      · split
        · exact hb
        · split
          · exact hb
          · exact ih
    · exact ih
theorem endF_len {S : Sch} (hS : Fit S) : (endF S).length ≤ 8 := endN_len hS _ (Nat.le_refl _)
end Go.Proofs.Ytogjcfcfgnbmkaa
