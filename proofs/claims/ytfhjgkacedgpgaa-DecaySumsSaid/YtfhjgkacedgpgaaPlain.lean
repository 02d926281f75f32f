/- Plain laws of halving. -/
import Derived.Test.YtfhjgkacedgpgaaW3
namespace Go.Proofs.Ytfhjgkacedgpgaa

theorem half_half (v : Int) (a b : Nat) : v / 2 ^ a / 2 ^ b = v / 2 ^ (a + b) := by
  rw [Int.ediv_ediv_of_nonneg (by exact_mod_cast Nat.zero_le _), Int.pow_add]
theorem atV_mid {ep v k : Int} (h : ep ≤ k) (h2 : k ≤ 10000) (h3 : k < ep + 64) : atV ep v k = v / 2 ^ (k - ep).toNat := by
  rw [atV, if_neg (by omega), afterF, if_neg (by omega)]
theorem atE_mid {ep v k : Int} (h : ep ≤ k) (h2 : k ≤ 10000) : atE ep v k = 0 := by rw [atE, if_neg (by omega)]
theorem half_big {v : Int} {a : Nat} (h : 0 ≤ v) (h1 : v < 2 ^ a) : v / 2 ^ a = 0 := Int.ediv_eq_zero_of_lt h h1
theorem pow_le_pow {a b : Nat} (h : a ≤ b) : (2 : Int) ^ a ≤ 2 ^ b := by exact_mod_cast Nat.pow_le_pow_right (by omega) h
/-- far in the future nothing is left -/
theorem atV_far {ep v k : Int} (h1 : 0 ≤ v) (h2 : v ≤ 1073741824) (h : ep + 31 ≤ k) : atV ep v k = 0 := by
  unfold atV; split
  · rfl
  · unfold afterF; split
    · rfl
    · apply half_big h1
      have := pow_le_pow (a := 31) (b := (k - ep).toNat) (by omega)
      have : (2 : Int) ^ 31 = 2147483648 := by decide
      omega
/-- two ways of reckoning a later value -/
theorem atV_two {ep v m k : Int} (h0 : 0 ≤ v) (h1 : v ≤ 1073741824) (h : ep ≤ m) (hm : m ≤ k) (h2 : k ≤ 10000) : atV m (atV ep v m) k = atV ep v k := by
  by_cases hk : k < ep + 64
  · rw [atV_mid (v := v) h (by omega) (by omega), atV_mid hm h2 (by omega), atV_mid (by omega) h2 hk, half_half]
    congr 2; omega
  · by_cases hm' : m < ep + 31
    · rw [atV_far (ep := ep) (v := v) (k := k) h0 h1 (by omega), atV_far (ep := m) (atV_lo _ _ _ h0) (Int.le_trans (atV_hi _ _ _ h0) h1) (by omega)]
    · rw [atV_far (ep := ep) (k := m) (v := v) h0 h1 (by omega), atV_far (ep := ep) (v := v) (k := k) h0 h1 (by omega)]
      have := atV_lo m 0 k (by omega); have := atV_hi m 0 k (by omega); omega
theorem afterF_mono {v v' k : Int} (h : v ≤ v') (_h0 : 0 ≤ v) : afterF v k ≤ afterF v' k := by
  unfold afterF; split
  · omega
  · exact Int.ediv_le_ediv (by exact_mod_cast Nat.two_pow_pos _) h
theorem atV_mono {ep v v' k : Int} (h : v ≤ v') (h0 : 0 ≤ v) : atV ep v k ≤ atV ep v' k := by
  unfold atV; split
  · omega
  · exact afterF_mono h h0
end Go.Proofs.Ytfhjgkacedgpgaa
