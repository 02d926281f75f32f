/- The law DecayMatchesReference: the walk. -/
import Derived.Test.YtfhjgkacedgpgaaL5
import Derived.Deep.RegionHeld3
import Derived.Deep.DeepCutAuto
import Derived.Deep.LoopGhost
namespace Go.Proofs.Ytfhjgkacedgpgaa
open Go.RowKit

theorem ratV_eq {ep v k : Int} (h0 : 0 ≤ v) (h1 : v ≤ 1073741824) : ratV ep v k = atV ep v k := by
  unfold ratV atV; split
  · rfl
  · rename_i h
    have p40 : (2 : Int) ^ 40 = 1099511627776 := by decide
    unfold halvedF afterF
    by_cases hk : k - ep ≤ 40
    · rw [if_neg (by omega), show min (k - ep).toNat 40 = (k - ep).toNat by omega]
    · rw [show min (k - ep).toNat 40 = 40 by omega, half_big h0 (by omega)]
      split
      · rfl
      · rw [half_big h0]
        have := pow_le_pow (a := 40) (b := (k - ep).toNat) (by omega)
        omega

def ep3 (a b c : Int) : Nat → Int | 0 => a | 1 => b | _ => c

set_option maxHeartbeats 6400000 in
set_option maxRecDepth 100000 in
theorem matches_walk (e n x0 x1 : Int) (w : World) (he0 : 0 ≤ e) (he1 : e ≤ 255) (hn0 : 0 ≤ n) (hn1 : n ≤ 4294967295) (a0 : -9223372036854775808 ≤ x0) (a1 : x0 ≤ 9223372036854775807) (b0 : -9223372036854775808 ≤ x1) (b1 : x1 ≤ 9223372036854775807) :
    Calls Try.prog 3 #[.int .u8 e, .int .u32 n, .agg #[.int .i64 x0, .int .i64 x1]] w fun e w' => e = .returned (.bool true) ∧ Below w.heap.size w w' := by
  obtain ⟨V, hV⟩ : ∃ V, V = n % 1073741825 := ⟨_, rfl⟩
  obtain ⟨E, hE⟩ : ∃ E, E = e % 41 := ⟨_, rfl⟩
  have v0 : 0 ≤ V := by omega
  have v1 : V ≤ 1073741824 := by omega
  have E0 : 0 ≤ E := by omega
  have E1 : E ≤ 40 := by omega
  have HV := Lib.hid hV; clear hV
  have HE := Lib.hid hE; clear hE
  go_enter Try.func3, Try.ntmps3
  go_wp2_with (first
    | (go_at_call 10; refine (sanity_any _).mono ?_; rintro e w1 ⟨rfl, hb⟩; obtain ⟨hz, hc, hf⟩ := bcell hb (by first | (simp only [World.size_alloc, World.size_setCell, World.size_drew]; rfl) | rfl); have hB := below_call (B := w.heap.size) (w := w) (by go_grown) hb (Nat.le_refl _); clear hb)
    | (go_at_call 11; refine (made_any _ _ _ he0 he1 hn0 hn1).mono ?_; rintro e w2 ⟨he, hb⟩; rw [← HV.out, ← HE.out] at he; subst he; obtain ⟨hz, hc, hf⟩ := bcell hb (by first | (simp only [World.size_alloc, World.size_setCell, World.size_drew]; rfl) | rfl); have hB := below_call (B := w.heap.size) (w := w) (by go_grown) hb (Nat.le_refl _); clear hb))
  have hz0 : w.heap.size < w2.heap.size := by omega
  have R1 := fun k => ratV_eq (ep := E) (k := k) v0 v1
  go_loopg [10] 3 (fun g i wr => ∃ k : Nat, k ≤ 3 ∧ g = 3 - k ∧ i = .int .i64 k ∧ (∀ j, j < 3 → wr.cell? ⟨w2.heap.size + 1, j, none⟩ = some (.int .i64 (ep3 x0 (E + x0 % 256 % 40) (9990 + x0 % 256 % 20) j))) ∧ wr.cell? ⟨w2.heap.size, 0, none⟩ = some (.int .i64 E) ∧ wr.cell? ⟨w2.heap.size, 1, none⟩ = some (.int .i64 V) ∧ wr.cell? ⟨w.heap.size, 1, none⟩ = some (.int .i64 x1) ∧ w2.heap.size + 1 < wr.heap.size ∧ Below w.heap.size w wr)
  case atStart => exact ⟨0, by omega, rfl, rfl, by intro j hj; rcases (show j = 0 ∨ j = 1 ∨ j = 2 by omega) with rfl | rfl | rfl <;> simp [go_sem, ep3], by simp [go_sem], by simp [go_sem], by simp [go_sem, *], by simp, by go_grown⟩
  case round =>
    obtain ⟨k, hk, rfl, rfl, hq, c1, c2, c3, hzr, hB⟩ := hrel
    have HQ := Lib.hid hq; clear hq
    by_cases hlt : k < 3
    · obtain ⟨Q, hQ⟩ : ∃ Q, Q = ep3 x0 (E + x0 % 256 % 40) (9990 + x0 % 256 % 20) k := ⟨_, rfl⟩
      have hq := HQ.out k hlt
      rw [← hQ] at hq
      have HQ2 := Lib.hid hQ; clear hQ
      have hk0 : (0 : Int) ≤ k := by omega
      have hk3 : (k : Int) < 3 := by omega
      go_wp2_with fail
      go_region_held3 (fun w' => w'.cell? ⟨w2.heap.size, 0, none⟩ = some (.int .i64 E) ∧ w'.cell? ⟨w2.heap.size, 1, none⟩ = some (.int .i64 V) ∧ w'.cell? ⟨w2.heap.size + 1, k, none⟩ = some (.int .i64 Q) ∧ w'.cell? ⟨w.heap.size, 1, none⟩ = some (.int .i64 x1)) (first | (simp [go_sem, *]; done) | go_keep) (first | (go_at_call 12; refine (at_any _ _ _ _ E0 (by omega)).mono ?_; rintro e w1 ⟨rfl, hb⟩; obtain ⟨hz, hc, hf⟩ := bcell hb (by first | (simp only [World.size_alloc, World.size_setCell, World.size_drew]; rfl) | rfl); have hB := below_call (B := w.heap.size) (w := w) (by go_grown) hb (Nat.le_refl _); clear hb))
      go_wp2_with fail
      go_region_held3 (fun w' => w'.cell? ⟨w2.heap.size, 0, none⟩ = some (.int .i64 E) ∧ w'.cell? ⟨w2.heap.size, 1, none⟩ = some (.int .i64 V) ∧ w'.cell? ⟨w2.heap.size + 1, k, none⟩ = some (.int .i64 Q) ∧ w'.cell? ⟨w.heap.size, 1, none⟩ = some (.int .i64 x1)) (first | (simp [go_sem, *]; done) | go_keep) (first | (go_at_call 13; refine (rat_any _ _ _ _ E0 (by omega) v0 (by omega)).mono ?_; rintro e w1 ⟨rfl, hb⟩; obtain ⟨hz, hc, hf⟩ := bcell hb (by first | (simp only [World.size_alloc, World.size_setCell, World.size_drew]; rfl) | rfl); have hB := below_call (B := w.heap.size) (w := w) (by go_grown) hb (Nat.le_refl _); clear hb))
      go_wp2_with fail
      go_cut [15, 16] (fun v15 v16 w' => ∃ g : Nat, v15 = .pointer (some ⟨g, 0, none⟩) ∧ v16 = .int .i64 (addE E Q x1) ∧ w'.cell? ⟨g, 0, none⟩ = some (.int .i64 (addP E Q x1)) ∧ w'.cell? ⟨g, 1, none⟩ = some (.int .i64 (addV (atV E V Q) E Q x1)) ∧ g < w'.heap.size ∧ (∀ j, j < 3 → w'.cell? ⟨w2.heap.size + 1, j, none⟩ = some (.int .i64 (ep3 x0 (E + x0 % 256 % 40) (9990 + x0 % 256 % 20) j))) ∧ w'.cell? ⟨w2.heap.size, 0, none⟩ = some (.int .i64 E) ∧ w'.cell? ⟨w2.heap.size, 1, none⟩ = some (.int .i64 V) ∧ w'.cell? ⟨w.heap.size, 1, none⟩ = some (.int .i64 x1) ∧ w2.heap.size + 1 < w'.heap.size ∧ Below w.heap.size w w')
      case first =>
        go_region_held3 (fun w' => w'.cell? ⟨w2.heap.size, 0, none⟩ = some (.int .i64 E) ∧ w'.cell? ⟨w2.heap.size, 1, none⟩ = some (.int .i64 V) ∧ w'.cell? ⟨w2.heap.size + 1, k, none⟩ = some (.int .i64 Q) ∧ w'.cell? ⟨w.heap.size, 1, none⟩ = some (.int .i64 x1)) (first | (simp [go_sem, *]; done) | go_keep) (first | (go_at_call 14; refine (add_any _ _ _ _ _ E0 (by omega) v0 (by omega)).mono ?_; rintro e w1 ⟨rfl, hb⟩; obtain ⟨hz, hc, hf⟩ := bcell hb (by first | (simp only [World.size_alloc, World.size_setCell, World.size_drew]; rfl) | rfl); have hB := below_call (B := w.heap.size) (w := w) (by go_grown) hb (Nat.le_refl _); clear hb))
        all_goals (go_wp2_with fail; go_meet; exact ⟨_, rfl, rfl, by simp [go_sem, *], by simp [go_sem, *], by simp; try omega, by intro j hj; have h := HQ.out j hj; simp [go_sem, *], by simp [go_sem, *], by simp [go_sem, *], by simp [go_sem, *], by simp; try omega, by go_grown⟩)
      case rest =>
        obtain ⟨g, rfl, rfl, g1, g2, g3, hqq, c1, c2, c3, hzr, hB⟩ := hcut
        have hq := hqq k hlt
        rw [← HQ2.out] at hq
        have HQ := Lib.hid hqq; clear hqq
        go_wp2_with fail
        go_cut [17, 18] (fun v17 v18 w' => ∃ h : Nat, v17 = .pointer (some ⟨h, 0, none⟩) ∧ v18 = .int .i64 (addE E Q x1) ∧ w'.cell? ⟨g, 0, none⟩ = some (.int .i64 (addP E Q x1)) ∧ w'.cell? ⟨g, 1, none⟩ = some (.int .i64 (addV (atV E V Q) E Q x1)) ∧ g < w'.heap.size ∧ w'.cell? ⟨h, 0, none⟩ = some (.int .i64 (addP E Q x1)) ∧ w'.cell? ⟨h, 1, none⟩ = some (.int .i64 (addV (atV E V Q) E Q x1)) ∧ h < w'.heap.size ∧ (∀ j, j < 3 → w'.cell? ⟨w2.heap.size + 1, j, none⟩ = some (.int .i64 (ep3 x0 (E + x0 % 256 % 40) (9990 + x0 % 256 % 20) j))) ∧ w'.cell? ⟨w2.heap.size, 0, none⟩ = some (.int .i64 E) ∧ w'.cell? ⟨w2.heap.size, 1, none⟩ = some (.int .i64 V) ∧ w'.cell? ⟨w.heap.size, 1, none⟩ = some (.int .i64 x1) ∧ w2.heap.size + 1 < w'.heap.size ∧ Below w.heap.size w w')
        case first =>
          go_region_held3 (fun w' => w'.cell? ⟨w2.heap.size, 0, none⟩ = some (.int .i64 E) ∧ w'.cell? ⟨w2.heap.size, 1, none⟩ = some (.int .i64 V) ∧ w'.cell? ⟨w2.heap.size + 1, k, none⟩ = some (.int .i64 Q) ∧ w'.cell? ⟨w.heap.size, 1, none⟩ = some (.int .i64 x1)) (first | (simp [go_sem, *]; done) | go_keep) (first | (go_at_call 15; refine (radd_any _ _ _ _ _ E0 (by omega) v0 (by omega)).mono ?_; rintro e w1 ⟨rfl, hb⟩; obtain ⟨hz, hc, hf⟩ := bcell hb (by first | (simp only [World.size_alloc, World.size_setCell, World.size_drew]; rfl) | rfl); have hB := below_call (B := w.heap.size) (w := w) (by go_grown) hb (Nat.le_refl _); clear hb))
          all_goals (go_wp2_with fail; go_meet; exact ⟨_, rfl, rfl, by simp [go_sem, *], by simp [go_sem, *], by simp; try omega, by simp [go_sem, *], by simp [go_sem, *], by simp; try omega, by intro j hj; have h := HQ.out j hj; simp [go_sem, *], by simp [go_sem, *], by simp [go_sem, *], by simp [go_sem, *], by simp; try omega, by go_grown⟩)
        case rest =>
          obtain ⟨h, rfl, rfl, g1, g2, g3, h1, h2, h3, hqq, c1, c2, c3, hzr, hB⟩ := hcut
          have HQ := Lib.hid hqq; clear hqq hq
          go_wp2
          go_roundg (3 - (k + 1))
          case measure => omega
          case rel => exact ⟨k + 1, by omega, rfl, by go_num, HQ.out, c1, c2, c3, hzr, hB⟩
    · obtain rfl : k = 3 := by omega
      go_wp2_with fail
      go_region_held3 (fun w' => w'.cell? ⟨w2.heap.size, 0, none⟩ = some (.int .i64 E) ∧ w'.cell? ⟨w2.heap.size, 1, none⟩ = some (.int .i64 V)) (first | (simp [go_sem, *]; done) | go_keep) (first | (go_at_call 16; refine (gone_any _ _ _ v0 (by omega)).mono ?_; rintro e w1 ⟨rfl, hb⟩; obtain ⟨hz, hc, hf⟩ := bcell hb (by first | (simp only [World.size_alloc, World.size_setCell, World.size_drew]; rfl) | rfl); have hB := below_call (B := w.heap.size) (w := w) (by go_grown) hb (Nat.le_refl _); clear hb) | (go_at_call 17; refine (rgone_any _ _ _ v0 v1).mono ?_; rintro e w1 ⟨rfl, hb⟩; obtain ⟨hz, hc, hf⟩ := bcell hb (by first | (simp only [World.size_alloc, World.size_setCell, World.size_drew]; rfl) | rfl); have hB := below_call (B := w.heap.size) (w := w) (by go_grown) hb (Nat.le_refl _); clear hb))
      all_goals
        go_wp2
        go_ret
        exact ⟨rfl, by go_grown⟩
end Go.Proofs.Ytfhjgkacedgpgaa
