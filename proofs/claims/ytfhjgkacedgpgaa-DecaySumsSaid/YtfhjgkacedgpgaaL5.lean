/- The law DecayAdds: the walk. -/
import Derived.Test.YtfhjgkacedgpgaaW5
import Derived.Test.YtfhjgkacedgpgaaPlain
import Derived.BigQuiet
namespace Go.Proofs.Ytfhjgkacedgpgaa
open Go.RowKit

theorem addP_mid {ep k n : Int} (h : 0 ≤ n) (h2 : n ≤ 1073741824) (h3 : ep ≤ k) (h4 : k ≤ 10000) : addP ep k n = k := by rw [addP, if_neg (by omega), if_neg (by omega)]
theorem addE_mid {ep k n : Int} (h : 0 ≤ n) (h2 : n ≤ 1073741824) (h3 : ep ≤ k) (h4 : k ≤ 10000) : addE ep k n = 0 := by rw [addE, if_neg (by omega), if_neg (by omega)]
theorem addV_mid {a ep k n : Int} (h : 0 ≤ n) (h2 : n ≤ 1073741824) (h3 : ep ≤ k) (h4 : k ≤ 10000) (h5 : a + n ≤ 1073741824) : addV a ep k n = a + n := by rw [addV, if_neg (by omega), if_neg (by omega)]; omega
theorem atV_now {v k : Int} (h4 : k ≤ 10000) : atV k v k = v := by rw [atV_mid (by omega) h4 (by omega)]; simp

set_option maxHeartbeats 3200000 in
set_option maxRecDepth 100000 in
theorem adds_walk (e n x0 x1 x2 x3 : Int) (w : World) (he0 : 0 ≤ e) (he1 : e ≤ 255) (hn0 : 0 ≤ n) (hn1 : n ≤ 4294967295) (a0 : 0 ≤ x0) (a1 : x0 ≤ 4294967295) (b0 : 0 ≤ x1) (b1 : x1 ≤ 4294967295) (c0 : 0 ≤ x2) (c1 : x2 ≤ 4294967295) (d0 : 0 ≤ x3) (d1 : x3 ≤ 4294967295) :
    Calls Try.prog 5 #[.int .u8 e, .int .u32 n, .agg #[.int .u32 x0, .int .u32 x1, .int .u32 x2, .int .u32 x3]] w fun e w' => e = .returned (.bool true) ∧ Below w.heap.size w w' := by
  have v0 : 0 ≤ (n / 16 % 1073741825) := by omega
  have v1 : (n / 16 % 1073741825) ≤ 1073741824 := by omega
  have v2 : (n / 16 % 1073741825) ≤ 268435456 := by omega
  have l0 := atV_lo (e % 41) (n / 16 % 1073741825) (e % 41 + x0 % 40) v0
  have l1 := atV_hi (e % 41) (n / 16 % 1073741825) (e % 41 + x0 % 40) v0
  have z1 : atE (e % 41) (n / 16 % 1073741825) (e % 41 + x0 % 40) = 0 := atE_mid (by omega) (by omega)
  have z2 : atE (e % 41) (n / 16 % 1073741825) (e % 41 + x0 % 40 + x3 % 40) = 0 := atE_mid (by omega) (by omega)
  have z3 : atE (e % 41 + x0 % 40) (atV (e % 41) (n / 16 % 1073741825) (e % 41 + x0 % 40)) (e % 41 + x0 % 40 + x3 % 40) = 0 := atE_mid (by omega) (by omega)
  have q1 : addP (e % 41) (e % 41 + x0 % 40) (x1 % 1048576) = (e % 41 + x0 % 40) := addP_mid (by omega) (by omega) (by omega) (by omega)
  have q2 : addV (atV (e % 41) (n / 16 % 1073741825) (e % 41 + x0 % 40)) (e % 41) (e % 41 + x0 % 40) (x1 % 1048576) = (atV (e % 41) (n / 16 % 1073741825) (e % 41 + x0 % 40)) + (x1 % 1048576) := addV_mid (by omega) (by omega) (by omega) (by omega) (by omega)
  have q3 : addE (e % 41) (e % 41 + x0 % 40) (x1 % 1048576) = 0 := addE_mid (by omega) (by omega) (by omega) (by omega)
  have r0 : atV (e % 41 + x0 % 40) ((atV (e % 41) (n / 16 % 1073741825) (e % 41 + x0 % 40)) + (x1 % 1048576)) (e % 41 + x0 % 40) = (atV (e % 41) (n / 16 % 1073741825) (e % 41 + x0 % 40)) + (x1 % 1048576) := atV_now (by omega)
  have r1 : addP (e % 41 + x0 % 40) (e % 41 + x0 % 40) (x2 % 1048576) = (e % 41 + x0 % 40) := addP_mid (by omega) (by omega) (by omega) (by omega)
  have r2 : addV ((atV (e % 41) (n / 16 % 1073741825) (e % 41 + x0 % 40)) + (x1 % 1048576)) (e % 41 + x0 % 40) (e % 41 + x0 % 40) (x2 % 1048576) = (atV (e % 41) (n / 16 % 1073741825) (e % 41 + x0 % 40)) + (x1 % 1048576) + (x2 % 1048576) := addV_mid (by omega) (by omega) (by omega) (by omega) (by omega)
  have r3 : addE (e % 41 + x0 % 40) (e % 41 + x0 % 40) (x2 % 1048576) = 0 := addE_mid (by omega) (by omega) (by omega) (by omega)
  have s1 : addP (e % 41) (e % 41 + x0 % 40) ((x1 % 1048576) + (x2 % 1048576)) = (e % 41 + x0 % 40) := addP_mid (by omega) (by omega) (by omega) (by omega)
  have s2 : addV (atV (e % 41) (n / 16 % 1073741825) (e % 41 + x0 % 40)) (e % 41) (e % 41 + x0 % 40) ((x1 % 1048576) + (x2 % 1048576)) = (atV (e % 41) (n / 16 % 1073741825) (e % 41 + x0 % 40)) + (x1 % 1048576) + (x2 % 1048576) := by rw [addV_mid (by omega) (by omega) (by omega) (by omega) (by omega)]; omega
  have s3 : addE (e % 41) (e % 41 + x0 % 40) ((x1 % 1048576) + (x2 % 1048576)) = 0 := addE_mid (by omega) (by omega) (by omega) (by omega)
  have t1 : addP (e % 41) (e % 41 + x0 % 40) 0 = (e % 41 + x0 % 40) := addP_mid (by omega) (by omega) (by omega) (by omega)
  have t2 : addV (atV (e % 41) (n / 16 % 1073741825) (e % 41 + x0 % 40)) (e % 41) (e % 41 + x0 % 40) 0 = (atV (e % 41) (n / 16 % 1073741825) (e % 41 + x0 % 40)) := by rw [addV_mid (by omega) (by omega) (by omega) (by omega) (by omega)]; omega
  have t3 : addE (e % 41) (e % 41 + x0 % 40) 0 = 0 := addE_mid (by omega) (by omega) (by omega) (by omega)
  have u1 : atV (e % 41 + x0 % 40) (atV (e % 41) (n / 16 % 1073741825) (e % 41 + x0 % 40)) (e % 41 + x0 % 40 + x3 % 40) = atV (e % 41) (n / 16 % 1073741825) (e % 41 + x0 % 40 + x3 % 40) := atV_two v0 v1 (by omega) (by omega) (by omega)
  go_enter Try.func5, Try.ntmps5
  go_wp2_with (first
    | (go_at_call 10; refine (sanity_any _).mono ?_; rintro e w1 ⟨rfl, hb⟩; obtain ⟨hz, hc, hf⟩ := bcell hb (by first | (simp only [World.size_alloc, World.size_setCell, World.size_drew]; rfl) | rfl); have hB := below_call (B := w.heap.size) (w := w) (by go_grown) hb (Nat.le_refl _); clear hb)
    | (go_at_call 11; refine (made_any _ _ _ he0 he1 (by omega) (by omega)).mono ?_; rintro e w1 ⟨rfl, hb⟩; obtain ⟨hz, hc, hf⟩ := bcell hb (by first | (simp only [World.size_alloc, World.size_setCell, World.size_drew]; rfl) | rfl); have hB := below_call (B := w.heap.size) (w := w) (by go_grown) hb (Nat.le_refl _); clear hb))
  go_region
  go_wp2_with (first
    | (go_at_call 12; refine (at_any _ _ _ _ (by omega) (by omega)).mono ?_; rintro e w1 ⟨rfl, hb⟩; obtain ⟨hz, hc, hf⟩ := bcell hb (by first | (simp only [World.size_alloc, World.size_setCell, World.size_drew]; rfl) | rfl); have hB := below_call (B := w.heap.size) (w := w) (by go_grown) hb (Nat.le_refl _); clear hb)
    | (go_at_call 14; refine (add_any _ _ _ _ _ (by omega) (by omega) (by omega) (by omega)).mono ?_; rintro e w1 ⟨rfl, hb⟩; obtain ⟨hz, hc, hf⟩ := bcell hb (by first | (simp only [World.size_alloc, World.size_setCell, World.size_drew]; rfl) | rfl); have hB := below_call (B := w.heap.size) (w := w) (by go_grown) hb (Nat.le_refl _); clear hb))
  go_ret
  exact ⟨rfl, by go_grown⟩
end Go.Proofs.Ytfhjgkacedgpgaa
