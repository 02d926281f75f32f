/- Contracts of Gone and of its reference. -/
import Derived.Test.YtfhjgkacedgpgaaW2
import Derived.Test.YtfhjgkacedgpgaaShelf
namespace Go.Proofs.Ytfhjgkacedgpgaa
open Go.RowKit

def goneF (v : Int) : Int := (Lib.bitLen v.toNat : Int)

theorem gone_any (ep v : Int) (w : World) (h3 : 0 ≤ v) (h4 : v ≤ 4611686018427387904) :
    Calls Try.prog 16 #[.agg #[.int .i64 ep, .int .i64 v]] w fun e w' => e = .returned (.int .i64 (goneF v)) ∧ Below w.heap.size w w' := by
  go_enter Try.func16, Try.ntmps16
  go_wp2_with (go_at_call 22; refine (Try.bits_Len _ _ (by omega) (by omega)).mono ?_; rintro e w' ⟨rfl, rfl⟩)
  go_ret
  exact ⟨ret_int (by rw [show max v 0 = v by omega]; rfl), by go_grown⟩

/-- the first number of halvings that leaves nothing -/
theorem bitLen_pos {n : Nat} (h : n ≠ 0) (h' : n < 2 ^ 64) : 0 < Lib.bitLen n := by rw [Lib.bitLen_half n h h']; omega
theorem bitLen_gt (k : Nat) : ∀ n : Nat, n < 2 ^ 64 → (0 < n / 2 ^ k ↔ k < Lib.bitLen n) := by
  induction k with
  | zero =>
    intro n h
    by_cases h0 : n = 0
    · subst h0; decide
    · have := bitLen_pos h0 h; simp; omega
  | succ k ih =>
    intro n h
    by_cases h0 : n = 0
    · subst h0; have h00 : Lib.bitLen 0 = 0 := by decide
      simp [h00]
    · rw [Lib.bitLen_half n h0 h, Nat.pow_succ, Nat.mul_comm, ← Nat.div_div_eq_div_mul, ih (n / 2) (by omega)]; omega
theorem bitLen_le {n : Nat} (h : n < 2 ^ 40) : Lib.bitLen n ≤ 40 := by
  have := bitLen_gt 40 n (by omega)
  rw [Nat.div_eq_of_lt h] at this
  omega
theorem half_nat (v : Int) (k : Nat) (h : 0 ≤ v) : v / 2 ^ k = ((v.toNat / 2 ^ k : Nat) : Int) := by
  obtain ⟨n, rfl⟩ := Int.eq_ofNat_of_zero_le h
  simp
theorem halved_pos (v : Int) (k : Nat) (h0 : 0 ≤ v) (h1 : v ≤ 1073741824) (hk : k ≤ 40) : (0 < halvedF v k ↔ (k : Int) < goneF v) := by
  unfold halvedF goneF
  rw [show min (k : Int).toNat 40 = k by omega, half_nat v k h0]
  have := bitLen_gt k v.toNat (by omega)
  omega
theorem goneF_le (v : Int) (h0 : 0 ≤ v) (h1 : v ≤ 1073741824) : 0 ≤ goneF v ∧ goneF v ≤ 40 := by
  have := bitLen_le (n := v.toNat) (by omega)
  unfold goneF; omega

theorem rgone_any (ep v : Int) (w : World) (h3 : 0 ≤ v) (h4 : v ≤ 1073741824) :
    Calls Try.prog 17 #[.agg #[.int .i64 ep, .int .i64 v]] w fun e w' => e = .returned (.int .i64 (goneF v)) ∧ Below w.heap.size w w' := by
  have hg := goneF_le v h3 h4
  go_enter Try.func17, Try.ntmps17
  go_wp2
  go_loop [3] (fun i => ∃ k : Nat, (k : Int) ≤ goneF v ∧ i = .int .i64 k) (fun i => 40 - (intOf i).toNat)
  case atStart => exact ⟨0, by omega, rfl⟩
  case round =>
    obtain ⟨k, hk, rfl⟩ := hrel
    have hp := halved_pos v k h3 h4 (by omega)
    by_cases hlt : (k : Int) < goneF v
    · have hp' := hp.2 hlt
      clear hp
      go_wp2_with (go_at_call 21; refine (halved_any _ _ _ h3 (by omega)).mono ?_; rintro e w' ⟨rfl, rfl⟩)
      go_round
      case rel => exact ⟨k + 1, by omega, by go_num⟩
      case measure => simp [intOf]; omega
    · have hp' : ¬ 0 < halvedF v k := fun h => hlt (hp.1 h)
      clear hp
      go_wp2_with (go_at_call 21; refine (halved_any _ _ _ h3 (by omega)).mono ?_; rintro e w' ⟨rfl, rfl⟩)
      go_ret
      exact ⟨ret_int (by omega), by go_grown⟩
end Go.Proofs.Ytfhjgkacedgpgaa
