/- The law DecayOrder: the walk. -/
import Derived.Test.YtfhjgkacedgpgaaW5
import Derived.Test.YtfhjgkacedgpgaaPlain
import Derived.Deep.RegionHeld3
import Derived.Deep.DeepCutAuto
namespace Go.Proofs.Ytfhjgkacedgpgaa
open Go.RowKit

/-- what stands of the order behind the walk -/
def OrdB (a b x y : Int) : Prop := (a < b ∨ y ≤ x) ∧ (b < a ∨ x ≤ y)

set_option maxHeartbeats 1600000 in
set_option maxRecDepth 100000 in
theorem order_walk (e m n y : Int) (w : World) (he0 : 0 ≤ e) (he1 : e ≤ 255) (hm0 : 0 ≤ m) (hm1 : m ≤ 4294967295) (hn0 : 0 ≤ n) (hn1 : n ≤ 4294967295) (hy0 : 0 ≤ y) (hy1 : y ≤ 255) :
    Calls Try.prog 6 #[.int .u8 e, .agg #[.int .u32 m, .int .u32 n], .int .u8 y] w fun e w' => e = .returned (.bool true) ∧ Below w.heap.size w w' := by
  have z1 : atE (e % 41) (m % 1073741825) (e % 41 + y % 40) = 0 := atE_mid (by omega) (by omega)
  have z2 : atE (e % 41) (n % 1073741825) (e % 41 + y % 40) = 0 := atE_mid (by omega) (by omega)
  have f1 : Hid (n % 1073741825 ≤ m % 1073741825 → atV (e % 41) (n % 1073741825) (e % 41 + y % 40) ≤ atV (e % 41) (m % 1073741825) (e % 41 + y % 40)) := fun h => atV_mono h (by omega)
  have f2 : Hid (m % 1073741825 ≤ n % 1073741825 → atV (e % 41) (m % 1073741825) (e % 41 + y % 40) ≤ atV (e % 41) (n % 1073741825) (e % 41 + y % 40)) := fun h => atV_mono h (by omega)
  go_enter Try.func6, Try.ntmps6
  go_wp2_with (first
    | (go_at_call 10; refine (sanity_any _).mono ?_; rintro e w1 ⟨rfl, hb⟩; obtain ⟨hz, hc, hf⟩ := bcell hb (by first | (simp only [World.size_alloc, World.size_setCell, World.size_drew]; rfl) | rfl); have hB := below_call (B := w.heap.size) (w := w) (by go_grown) hb (Nat.le_refl _); clear hb))
  go_cut [8, 9] (fun v8 v9 wx => ∃ g h : Nat, v8 = .pointer (some ⟨g, 0, none⟩) ∧ v9 = .pointer (some ⟨h, 0, none⟩) ∧ g < wx.heap.size ∧ h < wx.heap.size ∧ wx.cell? ⟨g, 0, none⟩ = some (.int .i64 (e % 41)) ∧ wx.cell? ⟨g, 1, none⟩ = some (.int .i64 (m % 1073741825)) ∧ wx.cell? ⟨h, 0, none⟩ = some (.int .i64 (e % 41)) ∧ wx.cell? ⟨h, 1, none⟩ = some (.int .i64 (n % 1073741825)) ∧ w.heap.size ≤ wx.heap.size ∧ Below w.heap.size w wx)
  case first =>
    go_region_held3 (fun w' => w'.cell? ⟨w.heap.size, 0, none⟩ = some (.int .u32 m) ∧ w'.cell? ⟨w.heap.size, 1, none⟩ = some (.int .u32 n)) (first | (simp [go_sem, *]; done) | go_keep) (first | (go_at_call 11; refine (made_any _ _ _ he0 he1 (by omega) (by omega)).mono ?_; rintro e w1 ⟨rfl, hb⟩; obtain ⟨hz, hc, hf⟩ := bcell hb (by first | (simp only [World.size_alloc, World.size_setCell, World.size_drew]; rfl) | rfl); have hB := below_call (B := w.heap.size) (w := w) (by go_grown) hb (Nat.le_refl _); clear hb))
    all_goals (go_wp2_with fail; go_meet; exact ⟨_, _, rfl, rfl, by simp; try omega, by simp; try omega, by first | (simp [go_sem]; done) | (simp [go_sem, *]; done), by first | (simp [go_sem]; done) | (simp [go_sem, *]; done), by first | (simp [go_sem]; done) | (simp [go_sem, *]; done), by first | (simp [go_sem]; done) | (simp [go_sem, *]; done), by simp; try omega, by go_grown⟩)
  case rest =>
    obtain ⟨g, h, rfl, rfl, hg, hh, c1, c2, c3, c4, hz, hB⟩ := hcut
    rcases Int.lt_trichotomy (m % 1073741825) (n % 1073741825) with hk | hk | hk
    · have gg := f2.out (by omega)
      go_wp2_with (first
        | (go_at_call 12; refine (at_any _ _ _ _ (by omega) (by omega)).mono ?_; rintro e w1 ⟨rfl, hb⟩; obtain ⟨hz, hc, hf⟩ := bcell hb (by first | (simp only [World.size_alloc, World.size_setCell, World.size_drew]; rfl) | rfl); have hB := below_call (B := w.heap.size) (w := w) (by go_grown) hb (Nat.le_refl _); clear hb))
      go_ret
      exact ⟨rfl, by go_grown⟩
    · have g1 := f1.out (by omega); have g2 := f2.out (by omega)
      have h1 : ¬ m % 1073741825 < n % 1073741825 := by omega
      have h2 : ¬ n % 1073741825 < m % 1073741825 := by omega
      have H := Lib.hid hk
      clear hk
      go_wp2_with (first
        | (go_at_call 12; refine (at_any _ _ _ _ (by omega) (by omega)).mono ?_; rintro e w1 ⟨rfl, hb⟩; obtain ⟨hz, hc, hf⟩ := bcell hb (by first | (simp only [World.size_alloc, World.size_setCell, World.size_drew]; rfl) | rfl); have hB := below_call (B := w.heap.size) (w := w) (by go_grown) hb (Nat.le_refl _); clear hb))
      go_ret
      exact ⟨rfl, by go_grown⟩
    · have gg := f1.out (by omega)
      go_wp2_with (first
        | (go_at_call 12; refine (at_any _ _ _ _ (by omega) (by omega)).mono ?_; rintro e w1 ⟨rfl, hb⟩; obtain ⟨hz, hc, hf⟩ := bcell hb (by first | (simp only [World.size_alloc, World.size_setCell, World.size_drew]; rfl) | rfl); have hB := below_call (B := w.heap.size) (w := w) (by go_grown) hb (Nat.le_refl _); clear hb))
      go_ret
      exact ⟨rfl, by go_grown⟩
end Go.Proofs.Ytfhjgkacedgpgaa
