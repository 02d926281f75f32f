/- Contracts of the small functions of package decay and of its reference. -/
import Derived.Test.YtfhjgkacedgpgaaChecked
import Derived.Test.YtfhjgkacedgpgaaLib
namespace Go.Proofs.Ytfhjgkacedgpgaa
open Go.RowKit

def afterF (v k : Int) : Int := if k < 0 ∨ 64 ≤ k then 0 else v / 2 ^ k.toNat
def atV (ep v k : Int) : Int := if k < ep ∨ 10000 < k then 0 else afterF v (k - ep)
def atE (ep _v k : Int) : Int := if k < ep ∨ 10000 < k then 120 else 0

theorem after_any (v k : Int) (w : World) :
    Calls Try.prog 20 #[.int .i64 v, .int .i64 k] w fun e w' => e = .returned (.int .i64 (afterF v k)) ∧ w = w' := by
  by_cases h : k < 0
  · go_enter Try.func20, Try.ntmps20
    go_wp2
    go_ret
    exact ⟨ret_int (by simp [afterF, h]), rfl⟩
  · by_cases h' : 64 ≤ k
    · go_enter Try.func20, Try.ntmps20
      go_wp2
      go_ret
      exact ⟨ret_int (by simp [afterF, h']), rfl⟩
    · go_enter Try.func20, Try.ntmps20
      go_wp2
      go_ret
      exact ⟨ret_int (by rw [afterF, if_neg (by omega)]), rfl⟩

theorem at_any (ep v k : Int) (w : World) (h1 : 0 ≤ ep) (h2 : ep ≤ 100000) :
    Calls Try.prog 12 #[.agg #[.int .i64 ep, .int .i64 v], .int .i64 k] w fun e w' => e = .returned (.tuple #[.int .i64 (atV ep v k), .int .i64 (atE ep v k)]) ∧ Below w.heap.size w w' := by
  by_cases h : k < ep
  · go_enter Try.func12, Try.ntmps12
    go_wp2
    go_ret2
    exact ⟨ret_tup2 (by simp [atV, h]) (by simp [atE, h]), (Below.refl _ _).alloc (Nat.le_refl _) _⟩
  · by_cases h' : 10000 < k
    · go_enter Try.func12, Try.ntmps12
      go_wp2
      go_ret2
      exact ⟨ret_tup2 (by simp [atV, h']) (by simp [atE, h']), (Below.refl _ _).alloc (Nat.le_refl _) _⟩
    · go_enter Try.func12, Try.ntmps12
      go_wp2_with (go_at_call 20; refine (after_any _ _ _).mono ?_; rintro e w' ⟨rfl, rfl⟩)
      go_ret2
      exact ⟨ret_tup2 (by rw [atV, if_neg (by omega)]) (by rw [atE, if_neg (by omega)]), (Below.refl _ _).alloc (Nat.le_refl _) _⟩

/-! the reference -/
def halvedF (v t : Int) : Int := v / 2 ^ (min t.toNat 40)

theorem half_step (v : Int) (i : Nat) : v / 2 ^ i / 2 = v / 2 ^ (i + 1) := by
  rw [Int.ediv_ediv_of_nonneg (by exact_mod_cast Nat.zero_le _), Int.pow_succ]
theorem half_lo (v : Int) (i : Nat) (h : 0 ≤ v) : 0 ≤ v / 2 ^ i := Int.ediv_nonneg h (by exact_mod_cast Nat.zero_le _)
theorem half_hi (v : Int) (i : Nat) (h : 0 ≤ v) : v / 2 ^ i ≤ v := Int.ediv_le_self _ h

set_option maxHeartbeats 400000 in
theorem halved_any (v t : Int) (w : World) (h0 : 0 ≤ v) (h1 : v ≤ 4611686018427387904) :
    Calls Try.prog 21 #[.int .i64 v, .int .i64 t] w fun e w' => e = .returned (.int .i64 (halvedF v t)) ∧ w = w' := by
  go_enter Try.func21, Try.ntmps21
  go_wp2
  go_loop [0, 5] (fun n i => ∃ k : Nat, k ≤ 40 ∧ k ≤ t.toNat ∧ i = .int .i64 k ∧ n = .int .i64 (v / 2 ^ k)) (fun _ i => 40 - (intOf i).toNat)
  case atStart => exact ⟨0, by omega, by omega, rfl, by simp⟩
  case round =>
    obtain ⟨k, hk, hkt, rfl, rfl⟩ := hrel
    have hs := half_step v k
    have HS := Lib.hid hs; clear hs
    have hlo := half_lo v k h0
    have hhi := half_hi v k h0
    by_cases hlt : (k : Int) < t ∧ (k : Int) < 40
    · obtain ⟨ha, hb⟩ := hlt
      go_wp2
      go_round
      case rel => exact ⟨k + 1, by omega, by omega, by go_num, by rw [HS.out]⟩
      case measure => simp [intOf]; omega
    · by_cases ha : (k : Int) < t
      · have hb : ¬ (k : Int) < 40 := by omega
        clear hlt
        go_wp2
        go_ret
        exact ⟨ret_int (by rw [halvedF, show min t.toNat 40 = k by omega]), rfl⟩
      · clear hlt
        go_wp2
        go_ret
        exact ⟨ret_int (by rw [halvedF, show min t.toNat 40 = k by omega]), rfl⟩

def ratV (ep v k : Int) : Int := if k < ep ∨ 10000 < k then 0 else halvedF v (k - ep)

theorem rat_any (ep v k : Int) (w : World) (h1 : 0 ≤ ep) (h2 : ep ≤ 100000) (h3 : 0 ≤ v) (h4 : v ≤ 4611686018427387904) :
    Calls Try.prog 13 #[.agg #[.int .i64 ep, .int .i64 v], .int .i64 k] w fun e w' => e = .returned (.tuple #[.int .i64 (ratV ep v k), .int .i64 (atE ep v k)]) ∧ Below w.heap.size w w' := by
  by_cases h : k < ep
  · go_enter Try.func13, Try.ntmps13
    go_wp2
    go_ret2
    exact ⟨ret_tup2 (by simp [ratV, h]) (by simp [atE, h]), (Below.refl _ _).alloc (Nat.le_refl _) _⟩
  · by_cases h' : 10000 < k
    · go_enter Try.func13, Try.ntmps13
      go_wp2
      go_ret2
      exact ⟨ret_tup2 (by simp [ratV, h']) (by simp [atE, h']), (Below.refl _ _).alloc (Nat.le_refl _) _⟩
    · go_enter Try.func13, Try.ntmps13
      go_wp2_with (go_at_call 21; refine (halved_any _ _ _ h3 h4).mono ?_; rintro e w' ⟨rfl, rfl⟩)
      go_ret2
      exact ⟨ret_tup2 (by rw [ratV, if_neg (by omega)]) (by rw [atE, if_neg (by omega)]), (Below.refl _ _).alloc (Nat.le_refl _) _⟩

theorem made_any (e n : Int) (w : World) (h1 : 0 ≤ e) (h2 : e ≤ 255) (h3 : 0 ≤ n) (h4 : n ≤ 4294967295) :
    Calls Try.prog 11 #[.int .u8 e, .int .u32 n] w fun r w' => r = .returned (.agg #[.int .i64 (e % 41), .int .i64 (n % 1073741825)]) ∧ Below w.heap.size w w' := by
  go_enter Try.func11, Try.ntmps11
  go_wp2
  refine bodyPost_ret (v := .agg #[.int .i64 (e % 41), .int .i64 (n % 1073741825)]) (by simp [results, Try.results11, go_sem]) rfl ⟨rfl, ?_⟩
  exact (Below.refl _ _).alloc (Nat.le_refl _) _
end Go.Proofs.Ytfhjgkacedgpgaa
