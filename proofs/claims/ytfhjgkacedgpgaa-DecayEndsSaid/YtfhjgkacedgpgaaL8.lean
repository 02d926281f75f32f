/- The law DecayEnds: the walk. -/
import Derived.Test.YtfhjgkacedgpgaaW5
import Derived.Test.YtfhjgkacedgpgaaPlain
namespace Go.Proofs.Ytfhjgkacedgpgaa
open Go.RowKit

theorem goneF_31 (v : Int) (h0 : 0 ≤ v) (h1 : v ≤ 1073741824) : goneF v ≤ 31 := by
  have h := halved_pos v 31 h0 h1 (by omega)
  unfold halvedF at h
  rw [half_big h0 (by rw [show min ((31 : Nat) : Int).toNat 40 = 31 by decide]; have : (2 : Int) ^ 31 = 2147483648 := by decide
                      omega)] at h
  omega
theorem goneF_pos (v : Int) (h0 : 0 < v) (h1 : v ≤ 1073741824) : 0 < goneF v := by
  have := bitLen_pos (n := v.toNat) (by omega) (by omega)
  unfold goneF; omega
theorem goneF_zero : goneF 0 = 0 := by decide
theorem atV_gone (ep v : Int) (h0 : 0 ≤ v) (h1 : v ≤ 1073741824) (he : ep ≤ 40) : atV ep v (ep + goneF v) = 0 := by
  have g := goneF_31 v h0 h1
  have g0 := (goneF_le v h0 h1).1
  rw [atV_mid (by omega) (by omega) (by omega)]
  have h := halved_pos v (goneF v).toNat h0 h1 (by omega)
  have lo := half_lo v (goneF v).toNat h0
  unfold halvedF at h
  rw [show min ((goneF v).toNat : Int).toNat 40 = (goneF v).toNat by omega] at h
  rw [show (ep + goneF v - ep).toNat = (goneF v).toNat by omega]
  omega
theorem atV_gone1 (ep v : Int) (h0 : 0 < v) (h1 : v ≤ 1073741824) (he : ep ≤ 40) : atV ep v (ep + goneF v - 1) = 1 := by
  have g := goneF_31 v (by omega) h1
  have g0 := goneF_pos v h0 h1
  rw [atV_mid (by omega) (by omega) (by omega)]
  have h := halved_pos v ((goneF v).toNat - 1) (by omega) h1 (by omega)
  have h' := halved_pos v (goneF v).toNat (by omega) h1 (by omega)
  unfold halvedF at h h'
  rw [show min (((goneF v).toNat - 1 : Nat) : Int).toNat 40 = (goneF v).toNat - 1 by omega] at h
  rw [show min ((goneF v).toNat : Int).toNat 40 = (goneF v).toNat - 1 + 1 by omega, ← half_step] at h'
  rw [show (ep + goneF v - 1 - ep).toNat = (goneF v).toNat - 1 by omega]
  omega
theorem goneF_half (v : Int) (h0 : 0 < v) (h1 : v ≤ 1073741824) : goneF (v / 2) = goneF v - 1 := by
  unfold goneF
  have := Lib.bitLen_half v.toNat (by omega) (by omega)
  rw [show (v / 2).toNat = v.toNat / 2 by omega]
  omega

set_option maxHeartbeats 1600000 in
set_option maxRecDepth 100000 in
theorem ends_walk (e n : Int) (w : World) (he0 : 0 ≤ e) (he1 : e ≤ 255) (hn0 : 0 ≤ n) (hn1 : n ≤ 4294967295) :
    Calls Try.prog 8 #[.int .u8 e, .int .u32 n] w fun e w' => e = .returned (.bool true) ∧ Below w.heap.size w w' := by
  have v0 : 0 ≤ n % 1073741825 := by omega
  have v1 : n % 1073741825 ≤ 1073741824 := by omega
  have g0 := (goneF_le _ v0 v1).1
  have g1 := goneF_31 _ v0 v1
  have z1 : atE (e % 41) (n % 1073741825) (e % 41 + goneF (n % 1073741825)) = 0 := atE_mid (by omega) (by omega)
  have a1 := atV_gone (e % 41) _ v0 v1 (by omega)
  by_cases h : n % 1073741825 = 0
  · have H := Lib.hid h; clear h
    have hg : goneF (n % 1073741825) = 0 := by rw [H.out]; exact goneF_zero
    have hg1 := Lib.hid hg
    have b1 : (goneF (n % 1073741825) == 0) = true := by rw [hg]; rfl
    have b2 : (n % 1073741825 == 0) = true := by rw [H.out]; rfl
    clear hg
    go_enter Try.func8, Try.ntmps8
    go_wp2_with (first
      | (go_at_call 10; refine (sanity_any _).mono ?_; rintro e w1 ⟨rfl, hb⟩; obtain ⟨hz, hc, hf⟩ := bcell hb (by first | (simp only [World.size_alloc, World.size_setCell, World.size_drew]; rfl) | rfl); have hB := below_call (B := w.heap.size) (w := w) (by go_grown) hb (Nat.le_refl _); clear hb)
      | (go_at_call 11; refine (made_any _ _ _ he0 he1 hn0 hn1).mono ?_; rintro e w1 ⟨rfl, hb⟩; obtain ⟨hz, hc, hf⟩ := bcell hb (by first | (simp only [World.size_alloc, World.size_setCell, World.size_drew]; rfl) | rfl); have hB := below_call (B := w.heap.size) (w := w) (by go_grown) hb (Nat.le_refl _); clear hb)
      | (go_at_call 16; refine (gone_any _ _ _ v0 (by omega)).mono ?_; rintro e w1 ⟨rfl, hb⟩; obtain ⟨hz, hc, hf⟩ := bcell hb (by first | (simp only [World.size_alloc, World.size_setCell, World.size_drew]; rfl) | rfl); have hB := below_call (B := w.heap.size) (w := w) (by go_grown) hb (Nat.le_refl _); clear hb)
      | (go_at_call 12; refine (at_any _ _ _ _ (by omega) (by omega)).mono ?_; rintro e w1 ⟨rfl, hb⟩; obtain ⟨hz, hc, hf⟩ := bcell hb (by first | (simp only [World.size_alloc, World.size_setCell, World.size_drew]; rfl) | rfl); have hB := below_call (B := w.heap.size) (w := w) (by go_grown) hb (Nat.le_refl _); clear hb))
    go_ret
    exact ⟨rfl, by go_grown⟩
  · have h0 : 0 < n % 1073741825 := by omega
    have hg := goneF_pos _ h0 v1
    have b1 : (goneF (n % 1073741825) == 0) = false := by simp; omega
    have b2 : (n % 1073741825 == 0) = false := by simpa using h
    have a2 := atV_gone1 (e % 41) _ h0 v1 (by omega)
    have z2 : atE (e % 41) (n % 1073741825) (e % 41 + goneF (n % 1073741825) - 1) = 0 := atE_mid (by omega) (by omega)
    have hh := goneF_half _ h0 v1
    clear h
    go_enter Try.func8, Try.ntmps8
    go_wp2_with (first
      | (go_at_call 10; refine (sanity_any _).mono ?_; rintro e w1 ⟨rfl, hb⟩; obtain ⟨hz, hc, hf⟩ := bcell hb (by first | (simp only [World.size_alloc, World.size_setCell, World.size_drew]; rfl) | rfl); have hB := below_call (B := w.heap.size) (w := w) (by go_grown) hb (Nat.le_refl _); clear hb)
      | (go_at_call 11; refine (made_any _ _ _ he0 he1 hn0 hn1).mono ?_; rintro e w1 ⟨rfl, hb⟩; obtain ⟨hz, hc, hf⟩ := bcell hb (by first | (simp only [World.size_alloc, World.size_setCell, World.size_drew]; rfl) | rfl); have hB := below_call (B := w.heap.size) (w := w) (by go_grown) hb (Nat.le_refl _); clear hb)
      | (go_at_call 16; refine (gone_any _ _ _ (by omega) (by omega)).mono ?_; rintro e w1 ⟨rfl, hb⟩; obtain ⟨hz, hc, hf⟩ := bcell hb (by first | (simp only [World.size_alloc, World.size_setCell, World.size_drew]; rfl) | rfl); have hB := below_call (B := w.heap.size) (w := w) (by go_grown) hb (Nat.le_refl _); clear hb)
      | (go_at_call 12; refine (at_any _ _ _ _ (by omega) (by omega)).mono ?_; rintro e w1 ⟨rfl, hb⟩; obtain ⟨hz, hc, hf⟩ := bcell hb (by first | (simp only [World.size_alloc, World.size_setCell, World.size_drew]; rfl) | rfl); have hB := below_call (B := w.heap.size) (w := w) (by go_grown) hb (Nat.le_refl _); clear hb))
    go_ret
    exact ⟨rfl, by go_grown⟩
end Go.Proofs.Ytfhjgkacedgpgaa
