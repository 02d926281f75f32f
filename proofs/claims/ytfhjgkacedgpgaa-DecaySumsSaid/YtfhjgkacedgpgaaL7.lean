/- The law DecaySums: the walk. -/
import Derived.Test.YtfhjgkacedgpgaaPSum
namespace Go.Proofs.Ytfhjgkacedgpgaa
open Go.RowKit

/-- row g, from o on, holds n tallies -/
def Tal (w : World) (g o n : Nat) (E V : Nat → Int) : Prop :=
  (∀ i, i < n → w.cell? ⟨g, o + i * 2, none⟩ = some (.int .i64 (E i))) ∧ (∀ i, i < n → w.cell? ⟨g, o + i * 2 + 1, none⟩ = some (.int .i64 (V i)))
theorem Tal.later {w w1 : World} {B g o n : Nat} {E V : Nat → Int} (h : Tal w g o n E V) (hb : Below B w w1) (hg : g < B) : Tal w1 g o n E V :=
  ⟨fun i hi => (hb.cell (p := ⟨g, _, none⟩) hg).trans (h.1 i hi), fun i hi => (hb.cell (p := ⟨g, _, none⟩) hg).trans (h.2 i hi)⟩
theorem Tal.low {w : World} {g o n k : Nat} {E V : Nat → Int} (h : Tal w g o n E V) (hk : k ≤ n) : Tal w g o k E V := ⟨fun i hi => h.1 i (by omega), fun i hi => h.2 i (by omega)⟩
theorem Tal.high {w : World} {g n k oo : Nat} {E V : Nat → Int} (h : Tal w g 0 n E V) (hk : k ≤ n) (ho : k < n → oo = k * 2) : Tal w g oo (n - k) (fun i => E (k + i)) (fun i => V (k + i)) := by
  by_cases hkn : k < n
  · obtain rfl := ho hkn
    refine ⟨fun i hi => ?_, fun i hi => ?_⟩
    · have := h.1 (k + i) (by omega)
      rwa [show 0 + (k + i) * 2 = k * 2 + i * 2 by omega] at this
    · have := h.2 (k + i) (by omega)
      rwa [show 0 + (k + i) * 2 + 1 = k * 2 + i * 2 + 1 by omega] at this
  · exact ⟨fun i hi => by omega, fun i hi => by omega⟩
theorem Tal.of_own {w : World} {base g n c : Nat} {xs : List Value} {E V : Nat → Int} (h : w.ownsRow base 26 2 (.slice (some ⟨g, 0, none⟩) n c) n xs) (hx : ∀ j, j < n → xs[j * 2]? = some (.int .i64 (E j)) ∧ xs[j * 2 + 1]? = some (.int .i64 (V j))) : Tal w g 0 n E V :=
  ⟨fun i hi => by rw [Nat.zero_add, h.cellAt _ (by omega)]; exact (hx i hi).1, fun i hi => by rw [Nat.zero_add, h.cellAt _ (by omega)]; exact (hx i hi).2⟩
theorem own_cap {w : World} {base e size g n c : Nat} {xs : List Value} (h : w.ownsRow base e size (.slice (some ⟨g, 0, none⟩) n c) n xs) : n ≤ c := by
  obtain ⟨g', cap', cur, hv, _, _, hc, _⟩ := h.2.resolve_left (fun h => by cases h.1)
  cases hv
  exact hc

theorem okBig {E V : Nat → Int} {n : Nat} (h : okRow E V n) : ∀ i, i < n → 0 ≤ E i ∧ E i ≤ 10000 ∧ 0 ≤ V i ∧ V i ≤ 1073741824 := fun i hi => by have := h i hi; omega
theorem sum_zero (E V : Nat → Int) {L : Int} (h : L ≤ 39) : sumV E V 0 L = 0 := by rw [sumV, if_neg (by omega), totV]; simp [anyN, sumN]; try decide
set_option maxHeartbeats 6400000 in
set_option maxRecDepth 100000 in
theorem sums_core (a : Option Addr) (len cap m : Nat) (E V : Nat → Int) (x y : Int) (w : World) (hm : m ≤ 12) (hEV : okRow E V m)
    (hsome : ∀ W : World, Below w.heap.size w W → Calls Try.prog 18 #[.slice a len cap, .int .i64 12] W (SomePost m E V W))
    (hx0 : 0 ≤ x) (hx1 : x ≤ 255) (hy0 : 0 ≤ y) (hy1 : y ≤ 255) :
    Calls Try.prog 7 #[.slice a len cap, .agg #[.int .u8 x, .int .u8 y]] w fun e w' => e = .returned (.bool true) ∧ Below w.heap.size w w' := by
  have HS := Lib.hid hsome; clear hsome
  obtain ⟨i26, hi, hz0, hz1, hz2⟩ := info_parts info26
  obtain ⟨k, hk⟩ := Int.eq_ofNat_of_zero_le (Int.emod_nonneg x (show (m : Int) + 1 ≠ 0 by omega))
  have hkm : k ≤ m := by have := Int.emod_lt_of_pos x (show (0 : Int) < (m : Int) + 1 by omega); omega
  obtain ⟨L, hL⟩ : ∃ L, 20 + y % 20 = L := ⟨_, rfl⟩
  have hL0 : 20 ≤ L := by omega
  have hL1 : L ≤ 39 := by omega
  have F := sum_whole hm hEV hL0 hL1
  have F2 := sum_parts hm hkm hEV hL0 hL1
  have F3 := sum_turn hm hkm hEV hL0 hL1
  have G1 := sum_good hm hEV hL0 hL1
  have G2 := sum_good (by omega) (okRow_low hkm hEV) hL0 hL1
  have G3 := sum_good (by omega) (okRow_high hkm hEV) hL0 hL1
  have G4 := sum_good hm (okRow_rot hkm hEV) hL0 hL1
  have G5 := sum_good hm hEV (k := 20) (by omega) (by omega)
  have Z : atE 20 (sumV E V m 20) L = 0 := atE_mid hL0 (by omega)
  obtain ⟨f1, f2, f3⟩ := F
  obtain ⟨-, g1, g1a, g1b⟩ := G1
  obtain ⟨-, g2, g2a, g2b⟩ := G2
  obtain ⟨-, g3, g3a, g3b⟩ := G3
  obtain ⟨-, g4, -, -⟩ := G4
  obtain ⟨-, g5, g5a, g5b⟩ := G5
  have HEV := Lib.hid hEV; clear hEV
  go_enter Try.func7, Try.ntmps7
  go_wp2_with (first
    | (go_at_call 10; refine (sanity_any _).mono ?_; rintro e w1 ⟨rfl, hb⟩; obtain ⟨hz, hc, hf⟩ := bcell hb (by first | (simp only [World.size_alloc, World.size_setCell, World.size_drew]; rfl) | rfl); have hB := below_call (B := w.heap.size) (w := w) (by go_grown) hb (Nat.le_refl _); clear hb))
  refine (HS.out _ hB).mono ?_; rintro e w2 ⟨g, c, rfl, hown, hb⟩
  obtain ⟨hgb, hgs⟩ := ownsRow_base hown
  have hkc := own_cap hown
  have HT : Hid (Tal w2 g 0 m E V) := Tal.of_own hown (rows2_get E V m)
  clear hown
  obtain ⟨hz, hc, hf⟩ := bcell hb rfl
  have hB := below_call (B := w.heap.size) (w := w) (by go_grown) hb (Nat.le_refl _); clear hb
  have hsp := rows2_split E V m k hkm
  by_cases hck : c = k
  · obtain rfl : m = k := by omega
    obtain rfl : m = c := by omega
    simp only [Nat.sub_self] at hsp F2 g3 g3a g3b
    clear hck
    have HT0 : Hid (Tal (w2.alloc (.cells #[] 26)) g 0 0 (fun i => E (m + i)) (fun i => V (m + i))) := ⟨fun i hi => by omega, fun i hi => by omega⟩
    go_wp2_with (first
      | (at_builtin; refine wpList_append_own _ rfl (.tmp 33) (.tmp 36) 44 rfl w2.heap.size 26 i26 _ 2 16 Try.underlying44 hi hz0 hz1 hz2 rfl (by decide) (.slice (some ⟨w2.heap.size, 0, none⟩) 0 0) 0 [] rfl (World.ownsRow_lit _ #[] 0 (Nat.le_refl _) (by unfold maxLen; omega) rfl) ⟨g, 0, none⟩ 0 0 (rows2 (fun i => E (m + i)) (fun i => V (m + i)) 0) rfl (rows2_len _ _ _) (rows2_any HT0.out.1 HT0.out.2) (rows2_one _ _ _) (by unfold maxLen; omega) (by omega) (by simp) ?_; intro v3 w3 hown3 hgrow3 hnil3; rw [Nat.zero_add, List.nil_append] at hown3; obtain ⟨g3, c3, rfl⟩ := own_form hown3 (fun h => by have := hnil3.1 h; cases this.1); have HO3 := Lib.hid hown3; have hb3 : Below w2.heap.size w2 w3 := ((Below.refl _ _).alloc (Nat.le_refl _) _).grown hgrow3 (by simp) (fun q hq => by simp [Value.ownBlock] at hq; omega); have HT3 : Hid (Tal w3 g 0 m E V) := HT.out.later hb3 hgs; obtain ⟨hz3, hc3, hf3⟩ := bcell hb3 rfl; have HB3 := Lib.hid hb3; clear hown3 hgrow3 hnil3 hb3)
      | (at_builtin; refine wpList_append_own _ rfl (.tmp 38) (.tmp 41) 44 rfl w2.heap.size 26 i26 _ 2 16 Try.underlying44 hi hz0 hz1 hz2 rfl (by decide) (.slice (some ⟨g3, 0, none⟩) 0 c3) 0 _ rfl HO3.out ⟨g, 0, none⟩ m m (rows2 E V m) rfl (rows2_len _ _ _) (rows2_any (HT3.out.low hkm).1 (HT3.out.low hkm).2) (rows2_one _ _ _) (by unfold maxLen; omega) (by omega) (by omega) ?_; intro v4 w4 hown4 hgrow4 hnil4; rw [Nat.zero_add] at hown4; obtain ⟨g4, c4, rfl⟩ := own_form hown4 (fun h => by have := hnil4.1 h; cases this.1); have HO4 := Lib.hid hown4; have hb4 : Below w2.heap.size w2 w4 := HB3.out.grown hgrow4 (by omega) (fun q hq => by have := (ownsRow_base HO3.out).1; simp [Value.ownBlock] at hq; omega); have HT4 : Hid (Tal w4 g 0 m E V) := HT.out.later hb4 hgs; obtain ⟨hz4, hc4, hf4⟩ := bcell hb4 rfl; have HB4 := Lib.hid hb4; clear hown4 hgrow4 hnil4 hb4))
    have hg4 := (ownsRow_base HO4.out).2
    have HU4 : Hid (Tal w4 g4 0 m (rotN E m m) (rotN V m m)) := Tal.of_own HO4.out hsp
    have HB4' : Below w.heap.size w w4 := hB.trans (HB4.out.mono hB.size)
    clear HB3 HT3 HO3 HT0 HO4 HB4
    go_region
    go_wp2_with fail
    have hd : Below w4.heap.size w4 w4.drew := (Below.refl _ _).drew
    refine (sum_any L m m g 0 E V _ (by omega) (HT4.out.later hd (by omega)).1 (HT4.out.later hd (by omega)).2 (okBig HEV.out) (by show g < w4.heap.size; omega)).mono ?_
    rintro e w5 ⟨rfl, hb⟩
    have hs5 : w4.heap.size ≤ w5.heap.size := hb.size
    have HT5 : Hid (Tal w5 g 0 m E V) := (HT4.out.later hd (by omega)).later hb (by show g < w4.heap.size; omega)
    have HU5 : Hid (Tal w5 g4 0 m (rotN E m m) (rotN V m m)) := (HU4.out.later hd (by omega)).later hb (by show g4 < w4.heap.size; omega)
    have HB5 : Below w.heap.size w w5 := below_call (B := w.heap.size) (w := w) (by go_grown) hb (Nat.le_refl _)
    clear hb
    go_wp2_with fail
    refine (sum_any L m c4 g4 0 (rotN E m m) (rotN V m m) _ (by omega) HU5.out.1 HU5.out.2 (okBig (okRow_rot hkm HEV.out)) (by omega)).mono ?_
    rintro e w6 ⟨rfl, hb⟩
    have hs6 : w5.heap.size ≤ w6.heap.size := hb.size
    have HT6 : Hid (Tal w6 g 0 m E V) := HT5.out.later hb (by show g < w5.heap.size; omega)
    have HU6 : Hid (Tal w6 g4 0 m (rotN E m m) (rotN V m m)) := HU5.out.later hb (by show g4 < w5.heap.size; omega)
    have HB6 : Below w.heap.size w w6 := below_call (B := w.heap.size) (w := w) (by go_grown) hb (Nat.le_refl _)
    clear hb
    go_wp2_with fail
    refine (sum_any L m m g 0 E V _ (by omega) (HT6.out.low hkm).1 (HT6.out.low hkm).2 (okBig (okRow_low hkm HEV.out)) (by omega)).mono ?_
    rintro e w7 ⟨rfl, hb⟩
    have hs7 : w6.heap.size ≤ w7.heap.size := hb.size
    have HT7 : Hid (Tal w7 g 0 m E V) := HT6.out.later hb (by show g < w6.heap.size; omega)
    have HU7 : Hid (Tal w7 g4 0 m (rotN E m m) (rotN V m m)) := HU6.out.later hb (by show g4 < w6.heap.size; omega)
    have HB7 : Below w.heap.size w w7 := below_call (B := w.heap.size) (w := w) (by go_grown) hb (Nat.le_refl _)
    clear hb
    go_wp2_with fail
    refine (sum_any L 0 0 g 0 (fun i => E (m + i)) (fun i => V (m + i)) _ (by omega) (fun i hi => by omega) (fun i hi => by omega) (fun i hi => by omega) (by omega)).mono ?_
    rintro e w8 ⟨rfl, hb⟩
    have hs8 : w7.heap.size ≤ w8.heap.size := hb.size
    have HT8 : Hid (Tal w8 g 0 m E V) := HT7.out.later hb (by show g < w7.heap.size; omega)
    have HU8 : Hid (Tal w8 g4 0 m (rotN E m m) (rotN V m m)) := HU7.out.later hb (by show g4 < w7.heap.size; omega)
    have HB8 : Below w.heap.size w w8 := below_call (B := w.heap.size) (w := w) (by go_grown) hb (Nat.le_refl _)
    clear hb
    go_wp2_with fail
    refine (sum_any 20 m m g 0 E V _ (by omega) HT8.out.1 HT8.out.2 (okBig HEV.out) (by omega)).mono ?_
    rintro e w9 ⟨rfl, hb⟩
    have hs9 : w8.heap.size ≤ w9.heap.size := hb.size
    have HT9 : Hid (Tal w9 g 0 m E V) := HT8.out.later hb (by show g < w8.heap.size; omega)
    have HU9 : Hid (Tal w9 g4 0 m (rotN E m m) (rotN V m m)) := HU8.out.later hb (by show g4 < w8.heap.size; omega)
    have HB9 : Below w.heap.size w w9 := below_call (B := w.heap.size) (w := w) (by go_grown) hb (Nat.le_refl _)
    clear hb
    go_wp2_with fail
    refine (at_any _ _ _ _ (by omega) (by omega)).mono ?_
    rintro e w10 ⟨rfl, hb⟩
    have HB10 : Below w.heap.size w w10 := below_call (B := w.heap.size) (w := w) (by go_grown) hb (Nat.le_refl _)
    clear hb
    by_cases hm0 : m = 0
    · have z0 : sumV E V m L = 0 := by rw [hm0]; exact sum_zero E V hL1
      have z1 : atV 20 (sumV E V m 20) L = 0 := by omega
      have z2 : ((m : Int) == 0) = true := by rw [hm0]; rfl
      have z3 : ¬ (0 : Int) < (m : Int) := by omega
      clear hm0
      go_wp2
      go_ret
      exact ⟨rfl, HB10⟩
    · have z1 := f3 (by omega)
      clear f3
      go_wp2
      go_ret
      exact ⟨rfl, HB10⟩
  · have HT0 : Hid (Tal (w2.alloc (.cells #[] 26)) g (k * 2) (m - k) (fun i => E (k + i)) (fun i => V (k + i))) := (Tal.high HT.out hkm (fun _ => rfl)).later ((Below.refl _ _).alloc (Nat.le_refl _) _) hgs
    go_wp2_with (first
      | (at_builtin; refine wpList_append_own _ rfl (.tmp 33) (.tmp 36) 44 rfl w2.heap.size 26 i26 _ 2 16 Try.underlying44 hi hz0 hz1 hz2 rfl (by decide) (.slice (some ⟨w2.heap.size, 0, none⟩) 0 0) 0 [] rfl (World.ownsRow_lit _ #[] 0 (Nat.le_refl _) (by unfold maxLen; omega) rfl) ⟨g, (k * 2), none⟩ (m - k) (c - k) (rows2 (fun i => E (k + i)) (fun i => V (k + i)) (m - k)) rfl (rows2_len _ _ _) (rows2_any HT0.out.1 HT0.out.2) (rows2_one _ _ _) (by unfold maxLen; omega) (by omega) (by simp) ?_; intro v3 w3 hown3 hgrow3 hnil3; rw [Nat.zero_add, List.nil_append] at hown3; obtain ⟨g3, c3, rfl⟩ := own_form hown3 (fun h => by have := hnil3.1 h; cases this.1); have HO3 := Lib.hid hown3; have hb3 : Below w2.heap.size w2 w3 := ((Below.refl _ _).alloc (Nat.le_refl _) _).grown hgrow3 (by simp) (fun q hq => by simp [Value.ownBlock] at hq; omega); have HT3 : Hid (Tal w3 g 0 m E V) := HT.out.later hb3 hgs; obtain ⟨hz3, hc3, hf3⟩ := bcell hb3 rfl; have HB3 := Lib.hid hb3; clear hown3 hgrow3 hnil3 hb3)
      | (at_builtin; refine wpList_append_own _ rfl (.tmp 38) (.tmp 41) 44 rfl w2.heap.size 26 i26 _ 2 16 Try.underlying44 hi hz0 hz1 hz2 rfl (by decide) (.slice (some ⟨g3, 0, none⟩) (m - k) c3) (m - k) _ rfl HO3.out ⟨g, 0, none⟩ k c (rows2 E V k) rfl (rows2_len _ _ _) (rows2_any (HT3.out.low hkm).1 (HT3.out.low hkm).2) (rows2_one _ _ _) (by unfold maxLen; omega) (by omega) (by omega) ?_; intro v4 w4 hown4 hgrow4 hnil4; rw [show m - k + k = m by omega] at hown4; obtain ⟨g4, c4, rfl⟩ := own_form hown4 (fun h => by have := hnil4.1 h; cases this.1); have HO4 := Lib.hid hown4; have hb4 : Below w2.heap.size w2 w4 := HB3.out.grown hgrow4 (by omega) (fun q hq => by have := (ownsRow_base HO3.out).1; simp [Value.ownBlock] at hq; omega); have HT4 : Hid (Tal w4 g 0 m E V) := HT.out.later hb4 hgs; obtain ⟨hz4, hc4, hf4⟩ := bcell hb4 rfl; have HB4 := Lib.hid hb4; clear hown4 hgrow4 hnil4 hb4))
    have hg4 := (ownsRow_base HO4.out).2
    have HU4 : Hid (Tal w4 g4 0 m (rotN E m k) (rotN V m k)) := Tal.of_own HO4.out hsp
    have HB4' : Below w.heap.size w w4 := hB.trans (HB4.out.mono hB.size)
    clear HB3 HT3 HO3 HT0 HO4 HB4
    go_region
    go_wp2_with fail
    have hd : Below w4.heap.size w4 w4.drew := (Below.refl _ _).drew
    refine (sum_any L m c g 0 E V _ (by omega) (HT4.out.later hd (by omega)).1 (HT4.out.later hd (by omega)).2 (okBig HEV.out) (by show g < w4.heap.size; omega)).mono ?_
    rintro e w5 ⟨rfl, hb⟩
    have hs5 : w4.heap.size ≤ w5.heap.size := hb.size
    have HT5 : Hid (Tal w5 g 0 m E V) := (HT4.out.later hd (by omega)).later hb (by show g < w4.heap.size; omega)
    have HU5 : Hid (Tal w5 g4 0 m (rotN E m k) (rotN V m k)) := (HU4.out.later hd (by omega)).later hb (by show g4 < w4.heap.size; omega)
    have HB5 : Below w.heap.size w w5 := below_call (B := w.heap.size) (w := w) (by go_grown) hb (Nat.le_refl _)
    clear hb
    go_wp2_with fail
    refine (sum_any L m c4 g4 0 (rotN E m k) (rotN V m k) _ (by omega) HU5.out.1 HU5.out.2 (okBig (okRow_rot hkm HEV.out)) (by omega)).mono ?_
    rintro e w6 ⟨rfl, hb⟩
    have hs6 : w5.heap.size ≤ w6.heap.size := hb.size
    have HT6 : Hid (Tal w6 g 0 m E V) := HT5.out.later hb (by show g < w5.heap.size; omega)
    have HU6 : Hid (Tal w6 g4 0 m (rotN E m k) (rotN V m k)) := HU5.out.later hb (by show g4 < w5.heap.size; omega)
    have HB6 : Below w.heap.size w w6 := below_call (B := w.heap.size) (w := w) (by go_grown) hb (Nat.le_refl _)
    clear hb
    go_wp2_with fail
    refine (sum_any L k c g 0 E V _ (by omega) (HT6.out.low hkm).1 (HT6.out.low hkm).2 (okBig (okRow_low hkm HEV.out)) (by omega)).mono ?_
    rintro e w7 ⟨rfl, hb⟩
    have hs7 : w6.heap.size ≤ w7.heap.size := hb.size
    have HT7 : Hid (Tal w7 g 0 m E V) := HT6.out.later hb (by show g < w6.heap.size; omega)
    have HU7 : Hid (Tal w7 g4 0 m (rotN E m k) (rotN V m k)) := HU6.out.later hb (by show g4 < w6.heap.size; omega)
    have HB7 : Below w.heap.size w w7 := below_call (B := w.heap.size) (w := w) (by go_grown) hb (Nat.le_refl _)
    clear hb
    go_wp2_with fail
    refine (sum_any L (m - k) (c - k) g (k * 2) (fun i => E (k + i)) (fun i => V (k + i)) _ (by omega) (Tal.high HT7.out hkm (fun _ => rfl)).1 (Tal.high HT7.out hkm (fun _ => rfl)).2 (okBig (okRow_high hkm HEV.out)) (by omega)).mono ?_
    rintro e w8 ⟨rfl, hb⟩
    have hs8 : w7.heap.size ≤ w8.heap.size := hb.size
    have HT8 : Hid (Tal w8 g 0 m E V) := HT7.out.later hb (by show g < w7.heap.size; omega)
    have HU8 : Hid (Tal w8 g4 0 m (rotN E m k) (rotN V m k)) := HU7.out.later hb (by show g4 < w7.heap.size; omega)
    have HB8 : Below w.heap.size w w8 := below_call (B := w.heap.size) (w := w) (by go_grown) hb (Nat.le_refl _)
    clear hb
    go_wp2_with fail
    refine (sum_any 20 m c g 0 E V _ (by omega) HT8.out.1 HT8.out.2 (okBig HEV.out) (by omega)).mono ?_
    rintro e w9 ⟨rfl, hb⟩
    have hs9 : w8.heap.size ≤ w9.heap.size := hb.size
    have HT9 : Hid (Tal w9 g 0 m E V) := HT8.out.later hb (by show g < w8.heap.size; omega)
    have HU9 : Hid (Tal w9 g4 0 m (rotN E m k) (rotN V m k)) := HU8.out.later hb (by show g4 < w8.heap.size; omega)
    have HB9 : Below w.heap.size w w9 := below_call (B := w.heap.size) (w := w) (by go_grown) hb (Nat.le_refl _)
    clear hb
    go_wp2_with fail
    refine (at_any _ _ _ _ (by omega) (by omega)).mono ?_
    rintro e w10 ⟨rfl, hb⟩
    have HB10 : Below w.heap.size w w10 := below_call (B := w.heap.size) (w := w) (by go_grown) hb (Nat.le_refl _)
    clear hb
    by_cases hm0 : m = 0
    · have z0 : sumV E V m L = 0 := by rw [hm0]; exact sum_zero E V hL1
      have z1 : atV 20 (sumV E V m 20) L = 0 := by omega
      have z2 : ((m : Int) == 0) = true := by rw [hm0]; rfl
      have z3 : ¬ (0 : Int) < (m : Int) := by omega
      clear hm0
      go_wp2
      go_ret
      exact ⟨rfl, HB10⟩
    · have z1 := f3 (by omega)
      clear f3
      go_wp2
      go_ret
      exact ⟨rfl, HB10⟩

end Go.Proofs.Ytfhjgkacedgpgaa
