/- The fixed examples. -/
import Derived.Test.YtfhjgkacedgpgaaW3
import Derived.Test.YtfhjgkacedgpgaaW4
import Derived.WalkSpells
namespace Go.Proofs.Ytfhjgkacedgpgaa
open Go.RowKit

def pr (a b : Int) : Nat → Int | 0 => a | _ => b

set_option maxHeartbeats 1600000 in
set_option maxRecDepth 100000 in
theorem sanity_any (w : World) : Calls Try.prog 10 #[] w fun e w' => e = .returned (.bool true) ∧ Below w.heap.size w w' := by
  have a1 : atV 3 13 3 = 13 := by decide
  have a2 : atV 3 13 4 = 6 := by decide
  have a3 : atV 3 13 5 = 3 := by decide
  have a4 : atV 3 13 7 = 0 := by decide
  have a5 : atV 3 13 2 = 0 := by decide
  have e1 : atE 3 13 3 = 0 := by decide
  have e2 : atE 3 13 4 = 0 := by decide
  have e3 : atE 3 13 5 = 0 := by decide
  have e4 : atE 3 13 7 = 0 := by decide
  have e5 : atE 3 13 2 = 120 := by decide
  have b1 : addP 3 5 4 = 5 := by decide
  have b2 : addV 3 3 5 4 = 7 := by decide
  have b3 : addE 3 5 4 = 0 := by decide
  have b4 : addP 3 5 (-1) = 0 := by decide
  have b5 : addV 3 3 5 (-1) = 0 := by decide
  have b6 : addE 3 5 (-1) = 1 := by decide
  have g1 : goneF 13 = 4 := by decide
  have g2 : goneF 0 = 0 := by decide
  have s1 : sumV (pr 3 5) (pr 13 2) 2 5 = 5 := by decide
  have s2 : sumE (pr 3 5) 2 5 = 0 := by decide
  have s3 : sumV (pr 3 5) (pr 13 2) 2 4 = 0 := by decide
  have s4 : sumE (pr 3 5) 2 4 = 120 := by decide
  go_enter Try.func10, Try.ntmps10
  go_wp2_with (first
    | (go_at_call 12; go_must (refine (at_any _ _ _ _ (by omega) (by omega)).mono ?_; rintro e w1 ⟨rfl, hb⟩; obtain ⟨hz, hc, hf⟩ := bcell hb (by first | (simp only [World.size_alloc, World.size_setCell, World.size_drew]; rfl) | rfl); have hB := below_call (B := w.heap.size) (w := w) (by go_grown) hb (Nat.le_refl _); clear hb))
    | (go_at_call 14; refine (add_any _ _ _ _ _ (by omega) (by omega) (by omega) (by omega)).mono ?_; rintro e w1 ⟨rfl, hb⟩; obtain ⟨hz, hc, hf⟩ := bcell hb (by first | (simp only [World.size_alloc, World.size_setCell, World.size_drew]; rfl) | rfl); have hB := below_call (B := w.heap.size) (w := w) (by go_grown) hb (Nat.le_refl _); clear hb)
    | (go_at_call 19; refine (sum_any _ 2 _ _ 0 (pr 3 5) (pr 13 2) _ (by omega) (by intro i hi; rcases (show i = 0 ∨ i = 1 by omega) with rfl | rfl <;> simp [go_sem, pr]) (by intro i hi; rcases (show i = 0 ∨ i = 1 by omega) with rfl | rfl <;> simp [go_sem, pr]) (by intro i hi; rcases (show i = 0 ∨ i = 1 by omega) with rfl | rfl <;> decide) (by simp)).mono ?_; rintro e w1 ⟨rfl, hb⟩; obtain ⟨hz, hc, hf⟩ := bcell hb (by first | (simp only [World.size_alloc, World.size_setCell, World.size_drew]; rfl) | rfl); have hB := below_call (B := w.heap.size) (w := w) (by go_grown) hb (Nat.le_refl _); clear hb)
    | (go_at_call 16; refine (gone_any _ _ _ (by omega) (by omega)).mono ?_; rintro e w1 ⟨rfl, hb⟩; obtain ⟨hz, hc, hf⟩ := bcell hb (by first | (simp only [World.size_alloc, World.size_setCell, World.size_drew]; rfl) | rfl); have hB := below_call (B := w.heap.size) (w := w) (by go_grown) hb (Nat.le_refl _); clear hb))
  go_ret
  exact ⟨rfl, by go_grown⟩
end Go.Proofs.Ytfhjgkacedgpgaa
