/- Contracts of the law's own helpers: two, has, first, silent. -/
import Derived.Test.YtogjcfcfgnbmkaaSame
namespace Go.Proofs.Ytogjcfcfgnbmkaa
open Go.RowKit
set_option linter.unusedVariables false
set_option linter.unusedSimpArgs false

theorem two_any (a : Option Addr) (n c : Nat) (w : World) :
    Calls Try.prog 31 #[.slice a n c] w fun e w' => e = .returned (.agg #[.int .i64 2, .int .u8 1, .slice a n c]) ∧ Below w.heap.size w w' := by
  go_enter Try.func31, Try.ntmps31
  go_wp2
  refine bodyPost_ret (v := .agg #[.int .i64 2, .int .u8 1, .slice a n c]) (by simp [results, Try.results31, go_sem]) rfl ⟨rfl, by go_grown⟩

def hasB (l : List Int) (n : Int) : Bool := l.any fun x => decide (x = n)
set_option maxHeartbeats 800000 in
theorem lhas_any (a : Option Addr) (k c : Nat) (xs : List Int) (n : Int) (w : World) (hk : k = xs.length) (h1 : SlS w a xs) (l1 : xs.length ≤ 100000) :
    Calls Try.prog 23 #[.slice a k c, .int .i64 n] w fun e w' => e = .returned (.bool (hasB xs n)) ∧ w = w' := by
  subst hk
  have H1 := Lib.hid h1; clear h1
  go_enter Try.func23, Try.ntmps23
  go_wp2
  go_loop [5] (fun i => ∃ k : Nat, k ≤ xs.length ∧ i = .int .i64 k ∧ hasB (xs.take k) n = false) (fun i => xs.length - (intOf i).toNat)
  case atStart => exact ⟨0, Nat.zero_le _, rfl, rfl⟩
  case round =>
    obtain ⟨k, hk, rfl, hno⟩ := hrel
    have HN := Lib.hid hno; clear hno
    by_cases hx : k < xs.length
    · obtain ⟨b, o, ha, hb, q⟩ := H1.out.at hx
      have hidx := idx_ints a b o xs.length c k ha hx
      have HA := Lib.hid ha; clear ha
      have HT : Hid (hasB (xs.take (k + 1)) n = decide (xs[k] = n)) := by
        show _ = _
        rw [List.take_succ_eq_append_getElem hx, hasB, List.any_append, show (xs.take k).any (fun x => decide (x = n)) = false from HN.out]; simp
      by_cases he : xs[k] = n
      · have heq : (xs[k] == n) = true := by simp [he]
        have HF : Hid (hasB xs n = true) := List.any_eq_true.2 ⟨xs[k], List.getElem_mem hx, by simp [he]⟩
        clear he
        go_wp2
        go_ret
        exact ⟨ret_bool HF.out.symm, rfl⟩
      · have heq : (xs[k] == n) = false := by simp [he]
        have HN2 : Hid (hasB (xs.take (k + 1)) n = false) := by show _ = _; rw [HT.out]; exact decide_eq_false he
        clear he
        go_wp2
        go_round
        case rel => exact ⟨k + 1, by omega, by go_num, HN2.out⟩
        case measure => simp [intOf]; omega
    · have HF : Hid (hasB xs n = false) := by have := HN.out; rw [List.take_of_length_le (by omega)] at this; exact this
      go_wp2
      go_ret
      exact ⟨ret_bool HF.out.symm, rfl⟩

def lexLe : List Int → List Int → Bool
  | a :: xs, b :: ys => if a = b then lexLe xs ys else decide (a < b)
  | _, _ => true
def firstB (xs ys : List Int) : Bool := if xs.length = ys.length then lexLe xs ys else decide (xs.length < ys.length)
theorem lexLe_ne {xs ys : List Int} {k : Nat} (hx : k < xs.length) (hy : k < ys.length) (h : xs[k] ≠ ys[k]) : lexLe (xs.drop k) (ys.drop k) = decide (xs[k] < ys[k]) := by
  rw [List.drop_eq_getElem_cons hx, List.drop_eq_getElem_cons hy, lexLe, if_neg h]
theorem lexLe_eq {xs ys : List Int} {k : Nat} (hx : k < xs.length) (hy : k < ys.length) (h : xs[k] = ys[k]) : lexLe (xs.drop k) (ys.drop k) = lexLe (xs.drop (k + 1)) (ys.drop (k + 1)) := by
  rw [List.drop_eq_getElem_cons hx, List.drop_eq_getElem_cons hy, lexLe, if_pos h]
set_option maxHeartbeats 1600000 in
theorem lfirst_any (a a' : Option Addr) (n n' c c' : Nat) (xs ys : List Int) (w : World) (hn : n = xs.length) (hn' : n' = ys.length) (h1 : SlS w a xs) (h2 : SlS w a' ys) (l1 : xs.length ≤ 100000) (l2 : ys.length ≤ 100000) :
    Calls Try.prog 26 #[.slice a n c, .slice a' n' c'] w fun e w' => e = .returned (.bool (firstB xs ys)) ∧ Below w.heap.size w w' := by
  subst hn hn'
  have H1 := Lib.hid h1; have H2 := Lib.hid h2; clear h1 h2
  by_cases hl : xs.length = ys.length
  · have HL := Lib.hid hl
    have HFB : Hid (firstB xs ys = lexLe xs ys) := by show _ = _; rw [firstB, if_pos hl]
    have hlI : ((xs.length : Int) != (ys.length : Int)) = false := by simp [hl]
    clear hl
    go_enter Try.func26, Try.ntmps26
    go_wp2
    go_loopw [5] (fun i wr => ∃ k : Nat, k ≤ xs.length ∧ i = .int .i64 k ∧ lexLe (xs.drop k) (ys.drop k) = lexLe xs ys ∧ Below w.heap.size w wr) (fun i _ => xs.length - (intOf i).toNat)
    case atStart => exact ⟨0, Nat.zero_le _, rfl, rfl, Below.refl _ _⟩
    case round =>
      obtain ⟨k, hk, rfl, hlex, hB⟩ := hrel
      have HLx := Lib.hid hlex; clear hlex
      by_cases hx : k < xs.length
      · have hy : k < ys.length := by have := HL.out; omega
        obtain ⟨b, o, ha, hb, q⟩ := (H1.out.later hB (Nat.le_refl _)).at hx
        have hidx := idx_ints a b o xs.length c k ha hx
        obtain ⟨b', o', ha', hb', q'⟩ := (H2.out.later hB (Nat.le_refl _)).at hy
        have hidx' := idx_ints a' b' o' ys.length c' k ha' hy
        have HA := Lib.hid ha; have HA' := Lib.hid ha'; clear ha ha'
        by_cases he : xs[k] = ys[k]
        · have HN : Hid (lexLe (xs.drop (k + 1)) (ys.drop (k + 1)) = lexLe xs ys) := (lexLe_eq hx hy he).symm.trans HLx.out
          have hne : (xs[k] != ys[k]) = false := by simp [he]
          clear he
          go_wp2
          go_quiet (fail)
          go_wp2
          go_roundw
          case rel => exact ⟨k + 1, by omega, by go_num, HN.out, hB.trans (below_drewN _ _)⟩
          case measure => simp [intOf]; omega
        · have HN : Hid (decide (xs[k] < ys[k]) = firstB xs ys) := ((lexLe_ne hx hy he).symm.trans HLx.out).trans HFB.out.symm
          have hne : (xs[k] != ys[k]) = true := by simp [he]
          clear he
          go_wp2
          go_quiet (fail)
          go_wp2
          go_quiet (fail)
          go_wp2
          go_ret
          exact ⟨ret_bool HN.out, (hB.trans (below_drewN _ _)).trans (below_drewN _ _)⟩
      · have HN : Hid (true = firstB xs ys) := by
          show _ = _
          rw [HFB.out, ← HLx.out, List.drop_eq_nil_of_le (show xs.length ≤ k by omega)]; rfl
        go_wp2
        go_ret
        exact ⟨ret_bool HN.out, hB⟩
  · have HN : Hid (decide (xs.length < ys.length) = firstB xs ys) := by show _ = _; rw [firstB, if_neg hl]
    have hlI : ((xs.length : Int) != (ys.length : Int)) = true := by simp; omega
    clear hl
    go_enter Try.func26, Try.ntmps26
    go_wp2
    go_ret
    exact ⟨ret_bool HN.out, by go_grown⟩

set_option maxHeartbeats 800000 in
theorem lsilent_any (S : Sch) (a : Option Addr) (cap : Nat) (w : World) (hR : RulS w a S.rules) (hl : S.rules.length ≤ 64) :
    Calls Try.prog 30 #[.agg #[.int .i64 S.modes, .int .u8 S.acc, .slice a S.rules.length cap]] w fun e w' => e = .returned (.bool (S.rules.any emptyR)) ∧ Below w.heap.size w w' := by
  have HR := Lib.hid hR; clear hR
  go_enter Try.func30, Try.ntmps30
  go_wp2
  go_loopw [3] (fun i wr => ∃ k : Nat, k ≤ S.rules.length ∧ i = .int .i64 k ∧ (S.rules.take k).any emptyR = false ∧ Below (w.heap.size + 1) (w.alloc (.cells #[.int .i64 S.modes, .int .u8 S.acc, .slice a S.rules.length cap] 33)) wr) (fun i _ => S.rules.length - (intOf i).toNat)
  case atStart => exact ⟨0, Nat.zero_le _, rfl, rfl, Below.refl _ _⟩
  case round =>
    obtain ⟨k, hk, rfl, hno, hal⟩ := hrel
    have HN := Lib.hid hno; clear hno
    have hB : Below w.heap.size w wr := ((Below.refl _ _).alloc (Nat.le_refl _) _).trans (hal.mono (by omega))
    obtain ⟨hz, hc, hf⟩ := bcellB hal rfl
    simp only [World.size_alloc] at hz
    by_cases hx : k < S.rules.length
    · obtain ⟨b, o, ha, hb, q0, q1, q2, q3, q4⟩ := (HR.out.later hB (Nat.le_refl _)).at hx
      have hidx := idx_rules a b o S.rules.length cap k ha hx
      have HA := Lib.hid ha; clear ha
      have HT : Hid ((S.rules.take (k + 1)).any emptyR = emptyR S.rules[k]) := by
        show _ = _
        rw [List.take_succ_eq_append_getElem hx, List.any_append, HN.out]; simp
      have hie : S.rules[k].inp.toList.isEmpty = emptyR S.rules[k] := by
        have := emptyR_str S.rules[k]
        cases he : emptyR S.rules[k] with
        | true => have h2 := this.1 he; simpa using h2
        | false => have h2 := this.2 he; simpa using h2
      by_cases he : emptyR S.rules[k] = true
      · have HF : Hid (S.rules.any emptyR = true) := List.any_eq_true.2 ⟨S.rules[k], List.getElem_mem hx, he⟩
        have hie2 : S.rules[k].inp.toList.isEmpty = true := hie.trans he
        clear he hie
        go_wp2
        go_ret
        exact ⟨ret_bool HF.out.symm, hB⟩
      · have he' : emptyR S.rules[k] = false := by simpa using he
        have HN2 : Hid ((S.rules.take (k + 1)).any emptyR = false) := by show _ = _; rw [HT.out]; exact he'
        have hie2 : S.rules[k].inp.toList.isEmpty = false := hie.trans he'
        clear he he' hie
        go_wp2
        go_roundw
        case rel => exact ⟨k + 1, by omega, by go_num, HN2.out, hal⟩
        case measure => simp [intOf]; omega
    · have HF : Hid (S.rules.any emptyR = false) := by have := HN.out; rw [List.take_of_length_le (by omega)] at this; exact this
      go_wp2
      go_ret
      exact ⟨ret_bool HF.out.symm, hB⟩
end Go.Proofs.Ytogjcfcfgnbmkaa
