/- Contracts of reference 04: before, Ints, Same, Chain, Silent, Dead. -/
import Derived.Test.YtogjcfcfgnbmkaaRefA
import Derived.Deep.QuietTactic
namespace Go.Proofs.Ytogjcfcfgnbmkaa
open Go.RowKit
set_option linter.unusedVariables false
set_option linter.unusedSimpArgs false

/-! ### before -/
def beforeB : List Int → List Int → Bool
  | a :: xs, b :: ys => if a = b then beforeB xs ys else decide (a < b)
  | _, _ => false
theorem beforeB_ne {xs ys : List Int} {k : Nat} (hx : k < xs.length) (hy : k < ys.length) (h : xs[k] ≠ ys[k]) : beforeB (xs.drop k) (ys.drop k) = decide (xs[k] < ys[k]) := by
  rw [List.drop_eq_getElem_cons hx, List.drop_eq_getElem_cons hy, beforeB, if_neg h]
theorem beforeB_eq {xs ys : List Int} {k : Nat} (hx : k < xs.length) (hy : k < ys.length) (h : xs[k] = ys[k]) : beforeB (xs.drop k) (ys.drop k) = beforeB (xs.drop (k + 1)) (ys.drop (k + 1)) := by
  rw [List.drop_eq_getElem_cons hx, List.drop_eq_getElem_cons hy, beforeB, if_pos h]
theorem beforeB_end {xs ys : List Int} {k : Nat} (h : xs.length ≤ k ∨ ys.length ≤ k) : beforeB (xs.drop k) (ys.drop k) = false := by
  rcases h with h | h
  · rw [List.drop_eq_nil_of_le h]; cases ys.drop k <;> rfl
  · rw [List.drop_eq_nil_of_le h]; cases xs.drop k <;> rfl
set_option maxHeartbeats 1600000 in
theorem before_any (a a' : Option Addr) (n n' c c' : Nat) (xs ys : List Int) (w : World) (hn : n = xs.length) (hn' : n' = ys.length) (h1 : SlS w a xs) (h2 : SlS w a' ys) (l1 : xs.length ≤ 100000) (l2 : ys.length ≤ 100000) :
    Calls Try.prog 59 #[.slice a n c, .slice a' n' c'] w fun e w' => e = .returned (.bool (beforeB xs ys)) ∧ Below w.heap.size w w' := by
  subst hn hn'
  have H1 := Lib.hid h1; have H2 := Lib.hid h2; clear h1 h2
  go_enter Try.func59, Try.ntmps59
  go_wp2
  go_loopw [5] (fun i wr => ∃ k : Nat, k ≤ xs.length ∧ k ≤ ys.length ∧ i = .int .i64 k ∧ beforeB (xs.drop k) (ys.drop k) = beforeB xs ys ∧ Below w.heap.size w wr) (fun i _ => xs.length - (intOf i).toNat)
  case atStart => exact ⟨0, Nat.zero_le _, Nat.zero_le _, rfl, rfl, Below.refl _ _⟩
  case round =>
    obtain ⟨k, hk, hk2, rfl, hlex, hB⟩ := hrel
    have HL := Lib.hid hlex; clear hlex
    by_cases hx : k < xs.length
    · by_cases hy : k < ys.length
      · obtain ⟨b, o, ha, hb, q⟩ := (H1.out.later hB (Nat.le_refl _)).at hx
        have hidx := idx_ints a b o xs.length c k ha hx
        obtain ⟨b', o', ha', hb', q'⟩ := (H2.out.later hB (Nat.le_refl _)).at hy
        have hidx' := idx_ints a' b' o' ys.length c' k ha' hy
        have HA := Lib.hid ha; have HA' := Lib.hid ha'; clear ha ha'
        by_cases he : xs[k] = ys[k]
        · have HN : Hid (beforeB (xs.drop (k + 1)) (ys.drop (k + 1)) = beforeB xs ys) := (beforeB_eq hx hy he).symm.trans HL.out
          have hne : (xs[k] != ys[k]) = false := by simp [he]
          clear he
          go_wp2
          go_quiet (fail)
          go_wp2
          go_roundw
          case rel => exact ⟨k + 1, by omega, by omega, by go_num, HN.out, hB.trans (below_drewN _ _)⟩
          case measure => simp [intOf]; omega
        · have HN : Hid (decide (xs[k] < ys[k]) = beforeB xs ys) := (beforeB_ne hx hy he).symm.trans HL.out
          have hne : (xs[k] != ys[k]) = true := by simp [he]
          clear he
          go_wp2
          go_quiet (fail)
          go_wp2
          go_quiet (fail)
          go_wp2
          go_ret
          exact ⟨ret_bool HN.out, (hB.trans (below_drewN _ _)).trans ((below_drewN _ _))⟩
      · have HN : Hid (beforeB xs ys = false) := HL.out.symm.trans (beforeB_end (.inr (by omega)))
        go_wp2
        go_ret
        exact ⟨ret_bool HN.out.symm, hB⟩
    · have HN : Hid (beforeB xs ys = false) := HL.out.symm.trans (beforeB_end (.inl (by omega)))
      go_wp2
      go_ret
      exact ⟨ret_bool HN.out.symm, hB⟩

/-! ### Ints, Same -/
theorem eq_at {xs ys : List Int} {k : Nat} (hl : xs.length = ys.length) (h : xs.take k = ys.take k) (hx : k < xs.length) (hy : k < ys.length) (he : xs[k] = ys[k]) : xs.take (k + 1) = ys.take (k + 1) := by
  rw [List.take_succ_eq_append_getElem hx, List.take_succ_eq_append_getElem hy, h, he]
set_option maxHeartbeats 1600000 in
theorem ints_any (a a' : Option Addr) (n n' c c' : Nat) (xs ys : List Int) (w : World) (hn : n = xs.length) (hn' : n' = ys.length) (h1 : SlS w a xs) (h2 : SlS w a' ys) (l1 : xs.length ≤ 100000) (l2 : ys.length ≤ 100000) :
    Calls Try.prog 35 #[.slice a n c, .slice a' n' c'] w fun e w' => e = .returned (.bool (decide (xs = ys))) ∧ Below w.heap.size w w' := by
  subst hn hn'
  have H1 := Lib.hid h1; have H2 := Lib.hid h2; clear h1 h2
  by_cases hl : xs.length = ys.length
  · have HL := Lib.hid hl
    have hlI : ((xs.length : Int) != (ys.length : Int)) = false := by simp [hl]
    clear hl
    go_enter Try.func35, Try.ntmps35
    go_wp2
    go_loopw [5] (fun i wr => ∃ k : Nat, k ≤ xs.length ∧ i = .int .i64 k ∧ xs.take k = ys.take k ∧ Below w.heap.size w wr) (fun i _ => xs.length - (intOf i).toNat)
    case atStart => exact ⟨0, Nat.zero_le _, rfl, rfl, Below.refl _ _⟩
    case round =>
      obtain ⟨k, hk, rfl, hlex, hB⟩ := hrel
      have HLx := Lib.hid hlex; clear hlex
      by_cases hx : k < xs.length
      · have hy : k < ys.length := by have := HL.out; omega
        obtain ⟨b, o, ha, hb, q⟩ := (H1.out.later hB (Nat.le_refl _)).at hx
        have hidx := idx_ints a b o xs.length c k ha hx
        obtain ⟨b', o', ha', hb', q'⟩ := (H2.out.later hB (Nat.le_refl _)).at hy
        have hidx' := idx_ints a' b' o' ys.length c' k ha' hy
        have HA := Lib.hid ha; have HA' := Lib.hid ha'; clear ha ha'
        by_cases he : xs[k] = ys[k]
        · have HN := Lib.hid (eq_at HL.out HLx.out hx hy he)
          have hne : (xs[k] != ys[k]) = false := by simp [he]
          clear he
          go_wp2
          go_quiet (fail)
          go_wp2
          go_roundw
          case rel => exact ⟨k + 1, by omega, by go_num, HN.out, hB.trans (below_drewN _ _)⟩
          case measure => simp [intOf]; omega
        · have HN : Hid (decide (xs = ys) = false) := decide_eq_false fun h => he (by subst h; rfl)
          have hne : (xs[k] != ys[k]) = true := by simp [he]
          clear he
          go_wp2
          go_quiet (fail)
          go_wp2
          go_ret
          exact ⟨ret_bool HN.out.symm, hB.trans (below_drewN _ _)⟩
      · have HN : Hid (decide (xs = ys) = true) := decide_eq_true (by
          have := HLx.out
          rw [List.take_of_length_le (by omega), List.take_of_length_le (by have := HL.out; omega)] at this; exact this)
        go_wp2
        go_ret
        exact ⟨ret_bool HN.out.symm, hB⟩
  · have HN : Hid (decide (xs = ys) = false) := decide_eq_false fun h => hl (by rw [h])
    have hlI : ((xs.length : Int) != (ys.length : Int)) = true := by simp; omega
    clear hl
    go_enter Try.func35, Try.ntmps35
    go_wp2
    go_ret
    exact ⟨ret_bool HN.out.symm, by go_grown⟩

/-- a report in an agg: three lists -/
structure RpS (w : World) (d t e : Option Addr) (D T E : List Int) : Prop where
  hd : SlS w d D
  ht : SlS w t T
  he : SlS w e E
theorem RpS.later {w w1 : World} {d t e : Option Addr} {D T E : List Int} {B : Nat} (h : RpS w d t e D T E) (hb : Below B w w1) (hB : w.heap.size ≤ B) : RpS w1 d t e D T E :=
  ⟨h.hd.later hb hB, h.ht.later hb hB, h.he.later hb hB⟩
theorem same_any (d t e d' t' e' : Option Addr) (n1 n2 n3 n1' n2' n3' c1 c2 c3 c1' c2' c3' : Nat) (D T E D' T' E' : List Int) (w : World) (h : RpS w d t e D T E) (h' : RpS w d' t' e' D' T' E')
    (hn1 : n1 = D.length) (hn2 : n2 = T.length) (hn3 : n3 = E.length) (hn1' : n1' = D'.length) (hn2' : n2' = T'.length) (hn3' : n3' = E'.length)
    (l1 : D.length ≤ 100000) (l2 : T.length ≤ 100000) (l3 : E.length ≤ 100000) (l1' : D'.length ≤ 100000) (l2' : T'.length ≤ 100000) (l3' : E'.length ≤ 100000) :
    Calls Try.prog 13 #[.agg #[.slice d n1 c1, .slice t n2 c2, .slice e n3 c3], .agg #[.slice d' n1' c1', .slice t' n2' c2', .slice e' n3' c3']] w fun ee w' => ee = .returned (.bool (decide (D = D') && (decide (T = T') && decide (E = E')))) ∧ Below w.heap.size w w' := by
  have H := Lib.hid h; have H' := Lib.hid h'; clear h h'
  have HN := Lib.hid (And.intro hn1 (And.intro hn2 hn3)); have HN' := Lib.hid (And.intro hn1' (And.intro hn2' hn3'))
  clear hn1 hn2 hn3 hn1' hn2' hn3'
  have f1 := fun W h1 h2 => ints_any d d' n1 n1' c1 c1' D D' W HN.out.1 HN'.out.1 h1 h2 l1 l1'
  have f2 := fun W h1 h2 => ints_any t t' n2 n2' c2 c2' T T' W HN.out.2.1 HN'.out.2.1 h1 h2 l2 l2'
  have f3 := fun W h1 h2 => ints_any e e' n3 n3' c3 c3' E E' W HN.out.2.2 HN'.out.2.2 h1 h2 l3 l3'
  have F1 := Lib.hid f1; have F2 := Lib.hid f2; have F3 := Lib.hid f3
  clear f1 f2 f3
  obtain ⟨o1, ho1⟩ : ∃ o, decide (D = D') = o := ⟨_, rfl⟩
  obtain ⟨o2, ho2⟩ : ∃ o, decide (T = T') = o := ⟨_, rfl⟩
  obtain ⟨o3, ho3⟩ : ∃ o, decide (E = E') = o := ⟨_, rfl⟩
  rw [ho1, ho2, ho3]
  have HO1 := Lib.hid ho1; have HO2 := Lib.hid ho2; have HO3 := Lib.hid ho3
  clear ho1 ho2 ho3
  cases o1 with
  | false =>
    go_enter Try.func13, Try.ntmps13
    go_wp2_with (first | (go_at_call 35; refine (F1.out _ (H.out.later (by first | exact hB | go_grown) (Nat.le_refl _)).hd (H'.out.later (by first | exact hB | go_grown) (Nat.le_refl _)).hd).mono ?_; rintro e w1 ⟨he, hb⟩; rw [HO1.out] at he; subst he; obtain ⟨hz, hc, hf⟩ := bcell hb (by first | (simp only [World.size_alloc, World.size_setCell, World.size_drew]; rfl) | rfl); have hB := below_call (B := w.heap.size) (w := w) (by go_grown) hb (Nat.le_refl _); clear hb) | fail)
    go_ret
    exact ⟨rfl, hB⟩
  | true =>
    cases o2 with
    | false =>
      go_enter Try.func13, Try.ntmps13
      go_wp2_with (first | (go_at_call 35; refine (F1.out _ (H.out.later (by first | exact hB | go_grown) (Nat.le_refl _)).hd (H'.out.later (by first | exact hB | go_grown) (Nat.le_refl _)).hd).mono ?_; rintro e w1 ⟨he, hb⟩; rw [HO1.out] at he; subst he; clear F1; obtain ⟨hz, hc, hf⟩ := bcell hb (by first | (simp only [World.size_alloc, World.size_setCell, World.size_drew]; rfl) | rfl); have hB := below_call (B := w.heap.size) (w := w) (by go_grown) hb (Nat.le_refl _); clear hb) | (go_at_call 35; refine (F2.out _ (H.out.later (by first | exact hB | go_grown) (Nat.le_refl _)).ht (H'.out.later (by first | exact hB | go_grown) (Nat.le_refl _)).ht).mono ?_; rintro e w1 ⟨he, hb⟩; rw [HO2.out] at he; subst he; clear F2; obtain ⟨hz, hc, hf⟩ := bcell hb (by first | (simp only [World.size_alloc, World.size_setCell, World.size_drew]; rfl) | rfl); have hB := below_call (B := w.heap.size) (w := w) (by go_grown) hb (Nat.le_refl _); clear hb) | fail)
      go_ret
      exact ⟨rfl, hB⟩
    | true =>
      go_enter Try.func13, Try.ntmps13
      go_wp2_with (first | (go_at_call 35; refine (F1.out _ (H.out.later (by first | exact hB | go_grown) (Nat.le_refl _)).hd (H'.out.later (by first | exact hB | go_grown) (Nat.le_refl _)).hd).mono ?_; rintro e w1 ⟨he, hb⟩; rw [HO1.out] at he; subst he; clear F1; obtain ⟨hz, hc, hf⟩ := bcell hb (by first | (simp only [World.size_alloc, World.size_setCell, World.size_drew]; rfl) | rfl); have hB := below_call (B := w.heap.size) (w := w) (by go_grown) hb (Nat.le_refl _); clear hb) | (go_at_call 35; refine (F2.out _ (H.out.later (by first | exact hB | go_grown) (Nat.le_refl _)).ht (H'.out.later (by first | exact hB | go_grown) (Nat.le_refl _)).ht).mono ?_; rintro e w1 ⟨he, hb⟩; rw [HO2.out] at he; subst he; clear F2; obtain ⟨hz, hc, hf⟩ := bcell hb (by first | (simp only [World.size_alloc, World.size_setCell, World.size_drew]; rfl) | rfl); have hB := below_call (B := w.heap.size) (w := w) (by go_grown) hb (Nat.le_refl _); clear hb) | (go_at_call 35; refine (F3.out _ (H.out.later (by first | exact hB | go_grown) (Nat.le_refl _)).he (H'.out.later (by first | exact hB | go_grown) (Nat.le_refl _)).he).mono ?_; rintro e w1 ⟨he, hb⟩; rw [HO3.out] at he; subst he; obtain ⟨hz, hc, hf⟩ := bcell hb (by first | (simp only [World.size_alloc, World.size_setCell, World.size_drew]; rfl) | rfl); have hB := below_call (B := w.heap.size) (w := w) (by go_grown) hb (Nat.le_refl _); clear hb) | fail)
      go_ret
      exact ⟨by simp, hB⟩
end Go.Proofs.Ytogjcfcfgnbmkaa
