/- The law DecaySteps: the walk. -/
import Derived.Test.YtfhjgkacedgpgaaW5
import Derived.Test.YtfhjgkacedgpgaaPlain
namespace Go.Proofs.Ytfhjgkacedgpgaa
open Go.RowKit

set_option maxHeartbeats 1600000 in
set_option maxRecDepth 100000 in
theorem steps_walk (e n x y : Int) (w : World) (he0 : 0 ≤ e) (he1 : e ≤ 255) (hn0 : 0 ≤ n) (hn1 : n ≤ 4294967295) (hx0 : 0 ≤ x) (hx1 : x ≤ 255) (hy0 : 0 ≤ y) (hy1 : y ≤ 255) :
    Calls Try.prog 4 #[.int .u8 e, .int .u32 n, .agg #[.int .u8 x, .int .u8 y]] w fun e w' => e = .returned (.bool true) ∧ Below w.heap.size w w' := by
  have v0 : 0 ≤ n % 1073741825 := by omega
  have v1 : n % 1073741825 ≤ 1073741824 := by omega
  have p0 : 0 ≤ e % 41 := by omega
  have p1 : e % 41 ≤ 40 := by omega
  have z1 : atE (e % 41) (n % 1073741825) (e % 41 + x % 40) = 0 := atE_mid (by omega) (by omega)
  have z2 : atE (e % 41) (n % 1073741825) (e % 41 + x % 40 + y % 40) = 0 := atE_mid (by omega) (by omega)
  have z3 : atE (e % 41 + x % 40) (atV (e % 41) (n % 1073741825) (e % 41 + x % 40)) (e % 41 + x % 40 + y % 40) = 0 := atE_mid (by omega) (by omega)
  have f1 : atV (e % 41 + x % 40) (atV (e % 41) (n % 1073741825) (e % 41 + x % 40)) (e % 41 + x % 40 + y % 40) = atV (e % 41) (n % 1073741825) (e % 41 + x % 40 + y % 40) := atV_two v0 v1 (by omega) (by omega) (by omega)
  have f2 : atV (e % 41) (n % 1073741825) (e % 41 + x % 40 + y % 40) ≤ atV (e % 41) (n % 1073741825) (e % 41 + x % 40) := by
    rw [← f1]; exact atV_hi _ _ _ (atV_lo _ _ _ v0)
  have f3 := atV_hi (e % 41) (n % 1073741825) (e % 41 + x % 40) v0
  have f4 := atV_lo (e % 41) (n % 1073741825) (e % 41 + x % 40) v0
  go_enter Try.func4, Try.ntmps4
  go_wp2_with (first
    | (go_at_call 10; refine (sanity_any _).mono ?_; rintro e w1 ⟨rfl, hb⟩; obtain ⟨hz, hc, hf⟩ := bcell hb (by first | (simp only [World.size_alloc, World.size_setCell, World.size_drew]; rfl) | rfl); have hB := below_call (B := w.heap.size) (w := w) (by go_grown) hb (Nat.le_refl _); clear hb)
    | (go_at_call 11; refine (made_any _ _ _ he0 he1 hn0 hn1).mono ?_; rintro e w1 ⟨rfl, hb⟩; obtain ⟨hz, hc, hf⟩ := bcell hb (by first | (simp only [World.size_alloc, World.size_setCell, World.size_drew]; rfl) | rfl); have hB := below_call (B := w.heap.size) (w := w) (by go_grown) hb (Nat.le_refl _); clear hb)
    | (go_at_call 12; refine (at_any _ _ _ _ (by omega) (by omega)).mono ?_; rintro e w1 ⟨rfl, hb⟩; obtain ⟨hz, hc, hf⟩ := bcell hb (by first | (simp only [World.size_alloc, World.size_setCell, World.size_drew]; rfl) | rfl); have hB := below_call (B := w.heap.size) (w := w) (by go_grown) hb (Nat.le_refl _); clear hb))
  go_ret
  exact ⟨rfl, by go_grown⟩
end Go.Proofs.Ytfhjgkacedgpgaa
