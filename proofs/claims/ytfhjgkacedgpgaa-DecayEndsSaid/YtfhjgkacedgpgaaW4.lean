/- Contracts of total and Sum. -/
import Derived.Test.YtfhjgkacedgpgaaW2
namespace Go.Proofs.Ytfhjgkacedgpgaa
open Go.RowKit

/-- the sum of the first n values -/
def sumN (f : Nat → Int) : Nat → Int
  | 0 => 0
  | n + 1 => sumN f n + f n
def anyN (p : Nat → Bool) : Nat → Bool
  | 0 => false
  | n + 1 => anyN p n || p n
def badB (k e : Int) : Bool := decide (k < e ∨ 10000 < k)
def totV (E V : Nat → Int) (n : Nat) (k : Int) : Int := if anyN (fun i => badB k (E i)) n = true then 0 else min (sumN (fun i => atV (E i) (V i) k) n) 1073741824
def totE (E : Nat → Int) (n : Nat) (k : Int) : Int := if anyN (fun i => badB k (E i)) n = true then 120 else 0
theorem sumN_bd (f : Nat → Int) (c : Int) : ∀ n, (∀ i, i < n → 0 ≤ f i ∧ f i ≤ c) → 0 ≤ sumN f n ∧ sumN f n ≤ n * c
  | 0, _ => by simp [sumN]
  | n + 1, h => by
    have := sumN_bd f c n (fun i hi => h i (by omega))
    have h2 := h n (by omega)
    rw [sumN, show (((n + 1 : Nat) : Int) * c) = n * c + c by rw [Int.natCast_add, Int.add_mul]; simp]
    omega

def sumV (E V : Nat → Int) (n : Nat) (k : Int) : Int := if 1000 < n ∨ 10000 < k then 0 else totV E V n k
def sumE (E : Nat → Int) (n : Nat) (k : Int) : Int := if 1000 < n then 1 else if 10000 < k then 120 else totE E n k
theorem anyN_true {p : Nat → Bool} {m : Nat} (hp : p m = true) : ∀ n, m < n → anyN p n = true
  | n + 1, h => by
    rw [anyN]
    by_cases e : m = n
    · subst e; simp [hp]
    · simp [anyN_true hp n (by omega)]
theorem anyN_bad {E V : Nat → Int} {k : Int} {m n : Nat} (h : m < n) (hb : badB k (E m) = true) : totV E V n k = 0 ∧ totE E n k = 120 ∧ atE (E m) (V m) k = 120 := by
  have := anyN_true (p := fun i => badB k (E i)) hb n h
  refine ⟨by simp [totV, this], by simp [totE, this], ?_⟩
  unfold badB at hb
  simp only [decide_eq_true_eq] at hb
  simp [atE, hb]
theorem atE_good {e v k : Int} (hb : badB k e = false) : atE e v k = 0 := by
  unfold badB at hb
  simp only [decide_eq_false_iff_not] at hb
  simp [atE, hb]

set_option maxHeartbeats 400000 in
theorem total_any (k : Int) (n : Nat) (cap : Nat) (b o bl : Nat) (E V : Nat → Int) (w : World) (hn : n ≤ 1000)
    (hE : ∀ i, i < n → w.cell? ⟨b, o + i * 2, none⟩ = some (.int .i64 (E i))) (hV : ∀ i, i < n → w.cell? ⟨b, o + i * 2 + 1, none⟩ = some (.int .i64 (V i)))
    (hb : ∀ i, i < n → 0 ≤ E i ∧ E i ≤ 10000 ∧ 0 ≤ V i ∧ V i ≤ 1073741824) (hbw : b < w.heap.size)
    (hl : w.cell? ⟨bl, 0, none⟩ = some (.slice (some ⟨b, o, none⟩) n cap)) :
    Calls Try.prog 23 #[.int .i64 k, .slice (some ⟨bl, 0, none⟩) 1 1] w fun e w' => e = .returned (.tuple #[.int .i64 (totV E V n k), .int .i64 (totE E n k)]) ∧ Below w.heap.size w w' := by
  have hE' := Lib.hid hE; have hV' := Lib.hid hV; have hb' := Lib.hid hb; clear hE hV hb
  go_enter Try.func23, Try.ntmps23
  go_wp2
  refine wp_loop_rounds 2 ?_
  rw [rounds_succ]
  go_wp2
  go_loopw [6, 21] (fun s i wr => ∃ m : Nat, m ≤ n ∧ i = .int .i64 m ∧ s = .int .i64 (sumN (fun i => atV (E i) (V i) k) m) ∧ anyN (fun i => badB k (E i)) m = false ∧ Below w.heap.size w wr) (fun _ i _ => n - (intOf i).toNat)
  case atStart => exact ⟨0, Nat.zero_le _, rfl, rfl, rfl, Below.refl _ _⟩
  case round =>
    obtain ⟨m, hm, rfl, rfl, hno, hbel⟩ := hrel
    have HN := Lib.hid hno; clear hno
    by_cases hlt : m < n
    · have c1 := (hbel.cell (p := ⟨b, o + m * 2, none⟩) hbw).trans (hE'.out m hlt)
      have c2 := (hbel.cell (p := ⟨b, o + m * 2 + 1, none⟩) hbw).trans (hV'.out m hlt)
      obtain ⟨e0, e1, v0, v1⟩ := hb'.out m hlt
      have l0 := atV_lo (E m) (V m) k v0
      have l1 := atV_hi (E m) (V m) k v0
      have hsb := sumN_bd (fun i => atV (E i) (V i) k) 1073741824 m (fun i hi => by obtain ⟨q0, q1, q2, q3⟩ := hb'.out i (by omega); exact ⟨atV_lo _ _ _ q2, Int.le_trans (atV_hi _ _ _ q2) q3⟩)
      obtain ⟨hs0, hs1⟩ := hsb
      have hS : Hid (sumN (fun i => atV (E i) (V i) k) (m + 1) = sumN (fun i => atV (E i) (V i) k) m + atV (E m) (V m) k) := rfl
      generalize sumN (fun i => atV (E i) (V i) k) m = sm at hs0 hs1 hS
      by_cases hbd : badB k (E m) = true
      · have HT : Hid (totV E V n k = 0 ∧ totE E n k = 120 ∧ atE (E m) (V m) k = 120) := anyN_bad hlt hbd
        have hne : (atE (E m) (V m) k != 0) = true := by rw [HT.out.2.2]; rfl
        clear hbd
        go_wp2_with (go_at_call 12; refine (at_any _ _ _ _ e0 (by omega)).mono ?_; rintro e w1 ⟨rfl, hb1⟩; obtain ⟨hz, hc, hf⟩ := bcell hb1 (by simp only [World.size_alloc]; rfl))
        go_ret2
        refine ⟨ret_tup2 HT.out.1.symm (by rw [HT.out.2.1, HT.out.2.2]), ?_⟩
        exact (hbel.alloc hbel.size _).trans (hb1.mono (by have := hbel.size; simp; omega))
      · have hbd0 : badB k (E m) = false := by simpa using hbd
        have hbd' := Lib.hid hbd0; clear hbd0
        have he : Hid (atE (E m) (V m) k = 0) := atE_good hbd'.out
        have hne : (atE (E m) (V m) k != 0) = false := by rw [he.out]; rfl
        clear hbd
        go_wp2_with (go_at_call 12; refine (at_any _ _ _ _ e0 (by omega)).mono ?_; rintro e w1 ⟨rfl, hb1⟩; obtain ⟨hz, hc, hf⟩ := bcell hb1 (by simp only [World.size_alloc]; rfl))
        go_roundw
        case rel => exact ⟨m + 1, by omega, by go_num, by rw [hS.out], by rw [anyN, HN.out, hbd'.out]; rfl, (hbel.alloc hbel.size _).trans (hb1.mono (by have := hbel.size; simp; omega))⟩
        case measure => simp [intOf]; omega
    · obtain rfl : m = n := by omega
      have HT : Hid (totV E V m k = min (sumN (fun i => atV (E i) (V i) k) m) 1073741824 ∧ totE E m k = 0) := by simp [totV, totE, HN.out, Hid]
      clear hlt
      go_wp2
      rw [rounds_succ]
      go_wp2
      all_goals
        go_ret2
        exact ⟨ret_tup2 (by rw [HT.out.1]; omega) HT.out.2.symm, hbel⟩

set_option maxHeartbeats 400000 in
theorem sum_any (k : Int) (n : Nat) (cap : Nat) (b o : Nat) (E V : Nat → Int) (w : World) (hn : n ≤ 100000)
    (hE : ∀ i, i < n → w.cell? ⟨b, o + i * 2, none⟩ = some (.int .i64 (E i))) (hV : ∀ i, i < n → w.cell? ⟨b, o + i * 2 + 1, none⟩ = some (.int .i64 (V i)))
    (hb : ∀ i, i < n → 0 ≤ E i ∧ E i ≤ 10000 ∧ 0 ≤ V i ∧ V i ≤ 1073741824) (hbw : b < w.heap.size) :
    Calls Try.prog 19 #[.slice (some ⟨b, o, none⟩) n cap, .int .i64 k] w fun e w' => e = .returned (.tuple #[.int .i64 (sumV E V n k), .int .i64 (sumE E n k)]) ∧ Below w.heap.size w w' := by
  by_cases h1 : 1000 < n
  · have H : Hid (sumV E V n k = 0 ∧ sumE E n k = 1) := by simp [sumV, sumE, h1, Hid]
    clear hE hV hb
    go_enter Try.func19, Try.ntmps19
    go_wp2
    go_ret2
    exact ⟨ret_tup2 H.out.1.symm H.out.2.symm, Below.refl _ _⟩
  · by_cases h2 : 10000 < k
    · have H : Hid (sumV E V n k = 0 ∧ sumE E n k = 120) := by simp [sumV, sumE, h1, h2, Hid]
      clear hE hV hb
      go_enter Try.func19, Try.ntmps19
      go_wp2
      go_ret2
      exact ⟨ret_tup2 H.out.1.symm H.out.2.symm, Below.refl _ _⟩
    · have H : Hid (sumV E V n k = totV E V n k ∧ sumE E n k = totE E n k) := by simp [sumV, sumE, h1, h2, Hid]
      have hE' := Lib.hid hE; have hV' := Lib.hid hV; have hb' := Lib.hid hb; clear hE hV hb
      go_enter Try.func19, Try.ntmps19
      go_wp2_with (go_at_call 23; refine (total_any k n cap b o _ E V _ (by omega) (fun i hi => (Below.cell ((Below.refl _ w).alloc (Nat.le_refl _) _) hbw).trans (hE'.out i hi)) (fun i hi => (Below.cell ((Below.refl _ w).alloc (Nat.le_refl _) _) hbw).trans (hV'.out i hi)) hb'.out (by simp; omega) (by simp [go_sem])).mono ?_; rintro e w1 ⟨rfl, hb1⟩)
      go_ret2
      exact ⟨ret_tup2 H.out.1.symm H.out.2.symm, ((Below.refl _ _).alloc (Nat.le_refl _) _).trans (hb1.mono (by simp))⟩
end Go.Proofs.Ytfhjgkacedgpgaa
