/- Plain laws of sums of halved values. -/
import Derived.Test.YtfhjgkacedgpgaaW6
namespace Go.Proofs.Ytfhjgkacedgpgaa
open Go.RowKit

theorem sumN_congr {f g : Nat → Int} : ∀ n, (∀ i, i < n → f i = g i) → sumN f n = sumN g n
  | 0, _ => rfl
  | n + 1, h => by rw [sumN, sumN, sumN_congr n (fun i hi => h i (by omega)), h n (by omega)]
theorem sumN_split (f : Nat → Int) (k : Nat) : ∀ n, sumN f (k + n) = sumN f k + sumN (fun i => f (k + i)) n
  | 0 => by simp [sumN]
  | n + 1 => by rw [show k + (n + 1) = (k + n) + 1 by omega, sumN, sumN_split f k n, sumN]; omega
theorem anyN_none {p : Nat → Bool} : ∀ n, (∀ i, i < n → p i = false) → anyN p n = false
  | 0, _ => rfl
  | n + 1, h => by rw [anyN, anyN_none n (fun i hi => h i (by omega)), h n (by omega)]; rfl

/-- the list that begins at k and then goes on from the start -/
def rotN (f : Nat → Int) (m k : Nat) (i : Nat) : Int := if i < m - k then f (k + i) else f (i - (m - k))
theorem sumN_rot (f : Nat → Int) (m k : Nat) (h : k ≤ m) : sumN (rotN f m k) m = sumN f m := by
  have h1 : sumN (rotN f m k) m = sumN (rotN f m k) (m - k) + sumN (fun i => rotN f m k ((m - k) + i)) k := by
    have := sumN_split (rotN f m k) (m - k) k
    rwa [show m - k + k = m by omega] at this
  have h2 : sumN (rotN f m k) (m - k) = sumN (fun i => f (k + i)) (m - k) := sumN_congr _ (fun i hi => by simp [rotN, hi])
  have h3 : sumN (fun i => rotN f m k ((m - k) + i)) k = sumN f k := sumN_congr _ (fun i hi => by
    unfold rotN
    rw [if_neg (by omega)]
    congr 1; omega)
  have h4 : sumN f m = sumN f k + sumN (fun i => f (k + i)) (m - k) := by
    have := sumN_split f k (m - k)
    rwa [show k + (m - k) = m by omega] at this
  omega

def okRow (E V : Nat → Int) (n : Nat) : Prop := ∀ i, i < n → 0 ≤ E i ∧ E i ≤ 20 ∧ 0 ≤ V i ∧ V i ≤ 65535
theorem sum_good {E V : Nat → Int} {n : Nat} {k : Int} (hn : n ≤ 12) (h : okRow E V n) (h1 : 20 ≤ k) (h2 : k ≤ 39) :
    sumV E V n k = sumN (fun i => atV (E i) (V i) k) n ∧ sumE E n k = 0 ∧ 0 ≤ sumV E V n k ∧ sumV E V n k ≤ 786420 := by
  have hb : anyN (fun i => badB k (E i)) n = false := anyN_none n (fun i hi => by
    have := h i hi
    unfold badB; simp; omega)
  have bd := sumN_bd (fun i => atV (E i) (V i) k) 65535 n (fun i hi => ⟨atV_lo _ _ _ (h i hi).2.2.1, Int.le_trans (atV_hi _ _ _ (h i hi).2.2.1) (h i hi).2.2.2⟩)
  have e : sumV E V n k = sumN (fun i => atV (E i) (V i) k) n := by
    rw [sumV, if_neg (by omega), totV, hb, if_neg (by simp)]
    omega
  refine ⟨e, ?_, by omega, by omega⟩
  rw [sumE, if_neg (by omega), if_neg (by omega), totE, hb, if_neg (by simp)]

theorem sum_turn {E V : Nat → Int} {m k : Nat} {L : Int} (hm : m ≤ 12) (hk : k ≤ m) (h : okRow E V m) (h1 : 20 ≤ L) (h2 : L ≤ 39) : sumV (rotN E m k) (rotN V m k) m L = sumV E V m L := by
  have hr : okRow (rotN E m k) (rotN V m k) m := by
    intro i hi
    unfold rotN
    split
    · exact h _ (by omega)
    · exact h _ (by omega)
  rw [(sum_good hm hr h1 h2).1, (sum_good hm h h1 h2).1, ← sumN_rot (fun i => atV (E i) (V i) L) m k hk]
  exact sumN_congr _ (fun i _ => by unfold rotN; split <;> rfl)
theorem okRow_rot {E V : Nat → Int} {m k : Nat} (hk : k ≤ m) (h : okRow E V m) : okRow (rotN E m k) (rotN V m k) m := by
  intro i hi
  unfold rotN
  split
  · exact h _ (by omega)
  · exact h _ (by omega)
theorem okRow_low {E V : Nat → Int} {m k : Nat} (hk : k ≤ m) (h : okRow E V m) : okRow E V k := fun i hi => h i (by omega)
theorem okRow_high {E V : Nat → Int} {m k : Nat} (hk : k ≤ m) (h : okRow E V m) : okRow (fun i => E (k + i)) (fun i => V (k + i)) (m - k) := fun i hi => h (k + i) (by omega)
theorem sum_parts {E V : Nat → Int} {m k : Nat} {L : Int} (hm : m ≤ 12) (hk : k ≤ m) (h : okRow E V m) (h1 : 20 ≤ L) (h2 : L ≤ 39) : sumV E V k L + sumV (fun i => E (k + i)) (fun i => V (k + i)) (m - k) L = sumV E V m L := by
  rw [(sum_good (by omega) (okRow_low hk h) h1 h2).1, (sum_good (by omega) (okRow_high hk h) h1 h2).1, (sum_good hm h h1 h2).1]
  have := sumN_split (fun i => atV (E i) (V i) L) k (m - k)
  rw [show k + (m - k) = m by omega] at this
  exact this.symm

theorem sum_div (f : Nat → Int) (d : Int) (hd : 0 < d) : ∀ n, sumN (fun i => f i / d) n * d ≤ sumN f n ∧ sumN f n ≤ sumN (fun i => f i / d) n * d + n * (d - 1)
  | 0 => by simp [sumN]
  | n + 1 => by
    have ih := sum_div f d hd n
    have e := Int.mul_ediv_add_emod (f n) d
    have r0 := Int.emod_nonneg (f n) (show d ≠ 0 by omega)
    have r1 := Int.emod_lt_of_pos (f n) hd
    rw [sumN, sumN, Int.add_mul, show (((n + 1 : Nat) : Int) * (d - 1)) = n * (d - 1) + (d - 1) by rw [Int.natCast_add, Int.add_mul]; simp]
    rw [Int.mul_comm d] at e
    omega

/-- what was halved as a sum, and what was halved one by one -/
theorem sum_whole {E V : Nat → Int} {m : Nat} {L : Int} (hm : m ≤ 12) (h : okRow E V m) (h1 : 20 ≤ L) (h2 : L ≤ 39) :
    sumV E V m L ≤ atV 20 (sumV E V m 20) L ∧ atV 20 (sumV E V m 20) L ≤ sumV E V m L + m ∧ (0 < m → atV 20 (sumV E V m 20) L < sumV E V m L + m) := by
  have g1 := sum_good hm h h1 h2
  have g2 := sum_good hm h (k := 20) (by omega) (by omega)
  rw [atV_mid h1 (by omega) (by omega)]
  have hp : (0 : Int) < 2 ^ (L - 20).toNat := by exact_mod_cast Nat.two_pow_pos _
  have hf : sumN (fun i => atV (E i) (V i) L) m = sumN (fun i => atV (E i) (V i) 20 / 2 ^ (L - 20).toNat) m := sumN_congr _ (fun i hi => by
    have := h i hi
    rw [atV_mid (by omega) (by omega) (by omega), atV_mid (k := 20) (by omega) (by omega) (by omega), half_half]
    congr 2; omega)
  have sd := sum_div (fun i => atV (E i) (V i) 20) _ hp m
  rw [← hf, ← g1.1, ← g2.1] at sd
  generalize sumV E V m 20 = s at *
  generalize sumV E V m L = a at *
  generalize (2 : Int) ^ (L - 20).toNat = d at *
  obtain ⟨s1, s2⟩ := sd
  refine ⟨?_, ?_, fun hm0 => ?_⟩
  · exact Int.le_ediv_of_mul_le hp s1
  · apply Int.le_of_lt_add_one
    apply Int.ediv_lt_of_lt_mul hp
    have : (a + m + 1) * d = a * d + m * d + d := by rw [Int.add_mul, Int.add_mul]; omega
    have e2 : (m : Int) * (d - 1) = m * d - m := by rw [Int.mul_sub]; omega
    omega
  · apply Int.ediv_lt_of_lt_mul hp
    have : (a + m) * d = a * d + m * d := by rw [Int.add_mul]
    have e2 : (m : Int) * (d - 1) = m * d - m := by rw [Int.mul_sub]; omega
    omega

/-! cells of a row that was put together of two parts -/
theorem rows2_split (E V : Nat → Int) (m k : Nat) (hk : k ≤ m) : ∀ j, j < m →
    (rows2 (fun i => E (k + i)) (fun i => V (k + i)) (m - k) ++ rows2 E V k)[j * 2]? = some (.int .i64 (rotN E m k j)) ∧
    (rows2 (fun i => E (k + i)) (fun i => V (k + i)) (m - k) ++ rows2 E V k)[j * 2 + 1]? = some (.int .i64 (rotN V m k j)) := by
  intro j hj
  unfold rotN
  by_cases h : j < m - k
  · rw [List.getElem?_append_left (by rw [rows2_len]; omega), List.getElem?_append_left (by rw [rows2_len]; omega), if_pos h, if_pos h]
    exact rows2_get _ _ _ j h
  · rw [List.getElem?_append_right (by rw [rows2_len]; omega), List.getElem?_append_right (by rw [rows2_len]; omega), rows2_len, if_neg h, if_neg h,
      show j * 2 - (m - k) * 2 = (j - (m - k)) * 2 by omega, show j * 2 + 1 - (m - k) * 2 = (j - (m - k)) * 2 + 1 by omega]
    exact rows2_get E V k _ (by omega)
theorem rows2_one (E V : Nat → Int) : ∀ n, ∀ u ∈ rows2 E V n, u.oneCell' = true
  | 0, u, h => by cases h
  | n + 1, u, h => by
    rw [rows2] at h
    rcases List.mem_append.1 h with h | h
    · exact rows2_one E V n u h
    · simp at h; rcases h with rfl | rfl <;> rfl
/-- the cells of a row, one by one -/
theorem rows2_any {w : World} {g o : Nat} {E V : Nat → Int} {n : Nat} (h1 : ∀ i, i < n → w.cell? ⟨g, o + i * 2, none⟩ = some (.int .i64 (E i))) (h2 : ∀ i, i < n → w.cell? ⟨g, o + i * 2 + 1, none⟩ = some (.int .i64 (V i))) :
    ∀ j u, (rows2 E V n)[j]? = some u → w.cell? ((⟨g, o, none⟩ : Addr).add j) = some u := by
  intro j u hu
  have hlen := rows2_len E V n
  have hj : j < n * 2 := by
    by_cases h : j < n * 2
    · exact h
    · rw [List.getElem?_eq_none (by omega)] at hu; cases hu
  have hadd : (⟨g, o, none⟩ : Addr).add j = ⟨g, o + j, none⟩ := by unfold Addr.add; split <;> simp_all
  rw [hadd]
  rcases Nat.mod_two_eq_zero_or_one j with hp | hp
  · have e : j = j / 2 * 2 := by omega
    have := (rows2_get E V n (j / 2) (by omega)).1
    rw [← e, hu] at this
    cases this
    have := h1 (j / 2) (by omega)
    rwa [← e] at this
  · have e : j = j / 2 * 2 + 1 := by omega
    have := (rows2_get E V n (j / 2) (by omega)).2
    rw [← e, hu] at this
    cases this
    have := h2 (j / 2) (by omega)
    rwa [Nat.add_assoc, ← e] at this
theorem own_form {w : World} {base e size n : Nat} {v : Value} {xs : List Value} (h : w.ownsRow base e size v n xs) (hv : ¬ v = .slice none 0 0) : ∃ g cap, v = .slice (some ⟨g, 0, none⟩) n cap := by
  obtain ⟨g, cap, _, hv', _⟩ := h.2.resolve_left (fun h => hv h.1)
  exact ⟨g, cap, hv'⟩
end Go.Proofs.Ytfhjgkacedgpgaa
