/- The law DecayLimits: the walk. -/
import Derived.Test.YtfhjgkacedgpgaaL5
namespace Go.Proofs.Ytfhjgkacedgpgaa
open Go.RowKit

theorem sumN_const (c : Int) : ∀ n : Nat, sumN (fun _ => c) n = n * c
  | 0 => by simp [sumN]
  | n + 1 => by rw [sumN, sumN_const c n, show (((n + 1 : Nat) : Int) * c) = n * c + c by rw [Int.natCast_add, Int.add_mul]; simp]
theorem anyN_const : ∀ n : Nat, anyN (fun _ => false) n = false
  | 0 => rfl
  | n + 1 => by rw [anyN, anyN_const n]; rfl
theorem sum_const (v : Int) (n : Nat) (hn : n ≤ 1000) : sumV (fun _ => 0) (fun _ => v) n 1 = min (n * (v / 2)) 1073741824 ∧ sumE (fun _ => 0) n 1 = 0 := by
  have hb : badB 1 0 = false := by decide
  refine ⟨?_, ?_⟩
  · rw [sumV, if_neg (by omega), totV]
    simp only [hb, anyN_const]
    rw [if_neg (by simp), sumN_const, atV_mid (by omega) (by omega) (by omega)]
    simp
  · rw [sumE, if_neg (by omega), if_neg (by omega), totE]
    simp only [hb, anyN_const]
    simp
theorem info26 : (Try.prog.info? 26).map (fun i => (i.zero, i.size, i.bytes)) = some (some (.agg #[.int .i64 0, .int .i64 0]), 2, 16) := by kernel_rfl

set_option maxHeartbeats 3200000 in
set_option maxRecDepth 100000 in
theorem limits_walk (n x y : Int) (w : World) (hn0 : 0 ≤ n) (hn1 : n ≤ 4294967295) (hx0 : 0 ≤ x) (hx1 : x ≤ 65535) (hy0 : 0 ≤ y) (hy1 : y ≤ 65535) :
    Calls Try.prog 9 #[.int .u32 n, .agg #[.int .u16 x, .int .u16 y]] w fun e w' => e = .returned (.bool true) ∧ Below w.heap.size w w' := by
  obtain ⟨V, hV⟩ : ∃ V, V = n % 1073741825 := ⟨_, rfl⟩
  have v0 : 0 ≤ V := by omega
  have v1 : V ≤ 1073741824 := by omega
  have HV := Lib.hid hV; clear hV
  obtain ⟨m, hm⟩ := Int.eq_ofNat_of_zero_le (show 0 ≤ 999 + y % 4 by omega)
  have hm0 : 999 ≤ m := by omega
  have hm1 : m ≤ 1002 := by omega
  have HM := Lib.hid hm; clear hm
  obtain ⟨i26, hi, hz0, hz1, hz2⟩ := info_parts info26
  have z1 : atE 0 V 10001 = 120 := by simp [atE]
  have z2 : atE 0 V 10000 = 0 := by simp [atE]
  have z3 : atV 0 V 10000 = 0 := atV_far v0 v1 (by omega)
  have z4 : atV 0 V 0 = V := atV_now (by omega)
  have z5 : addE 0 0 (1073741824 - x) = 0 := addE_mid (by omega) (by omega) (by omega) (by omega)
  go_enter Try.func9, Try.ntmps9
  go_wp2_with (first
    | (go_at_call 10; refine (sanity_any _).mono ?_; rintro e w1 ⟨rfl, hb⟩; obtain ⟨hz, hc, hf⟩ := bcell hb (by first | (simp only [World.size_alloc, World.size_setCell, World.size_drew]; rfl) | rfl); have hB := below_call (B := w.heap.size) (w := w) (by go_grown) hb (Nat.le_refl _); clear hb)
    | (go_at_call 11; refine (made_any _ _ _ (by omega) (by omega) (by omega) (by omega)).mono ?_; rintro e w1 ⟨he, hb⟩; rw [← HV.out] at he; subst he; obtain ⟨hz, hc, hf⟩ := bcell hb (by first | (simp only [World.size_alloc, World.size_setCell, World.size_drew]; rfl) | rfl); have hB := below_call (B := w.heap.size) (w := w) (by go_grown) hb (Nat.le_refl _); clear hb)
    | (go_at_call 14; refine (add_any _ _ _ _ _ (by omega) (by omega) (by omega) (by omega)).mono ?_; rintro e w1 ⟨rfl, hb⟩; obtain ⟨hz, hc, hf⟩ := bcell hb (by first | (simp only [World.size_alloc, World.size_setCell, World.size_drew]; rfl) | rfl); have hB := below_call (B := w.heap.size) (w := w) (by go_grown) hb (Nat.le_refl _); clear hb)
    | (at_make; refine wpList_make_full _ rfl _ _ 44 rfl w.heap.size 26 i26 _ 2 Try.underlying44 hi hz0 hz1 .i64 .i64 _ _ m rfl rfl HM.out HM.out (by rw [hz2]; omega) (by unfold maxLen; omega) (by simp; omega) ?_; intro w3 hown hgrow; simp only [World.size_alloc] at hown; have hb3 := below_grown hgrow (Nat.le_refl _) (fun _ h => by cases h); obtain ⟨hz3, hc3, hf3⟩ := bcell hb3 (by simp only [World.size_alloc]; rfl); have hB3 := below_call (B := w.heap.size) (w := w) (by go_grown) hb3 (Nat.le_refl _); clear hb3 hgrow))
  have hg0 : w.heap.size < w1.heap.size := by omega
  have HOWN := Lib.hid hown; clear hown
  go_loopw [10] (fun i wr => ∃ k : Nat, k ≤ m ∧ i = .int .i64 k ∧ Below (w1.heap.size + 1) w3 wr ∧ ∃ xs : List Value, wr.ownsRow w.heap.size 26 2 (.slice (some ⟨w1.heap.size + 1, 0, none⟩) m m) m xs ∧ ∀ j, j < k → xs[j * 2]? = some (.int .i64 0) ∧ xs[j * 2 + 1]? = some (.int .i64 V)) (fun i _ => m - (intOf i).toNat)
  case atStart => exact ⟨0, by omega, rfl, Below.refl _ _, _, HOWN.out, fun j hj => by omega⟩
  case round =>
    obtain ⟨k, hk, rfl, hbl, xs, how, hxs⟩ := hrel
    have hlen := how.1
    have HXS := Lib.hid hxs; clear hxs
    obtain ⟨hzr, hcr, hfr⟩ := bcellB hbl rfl
    by_cases hlt : k < m
    · obtain ⟨u0, q0⟩ : ∃ u, wr.cell? ⟨w1.heap.size + 1, k * 2, none⟩ = some u := ⟨_, (how.cellAt _ (by omega)).trans (List.getElem?_eq_getElem (by omega))⟩
      obtain ⟨u1, q1⟩ : ∃ u, wr.cell? ⟨w1.heap.size + 1, k * 2 + 1, none⟩ = some u := ⟨_, (how.cellAt _ (by omega)).trans (List.getElem?_eq_getElem (by omega))⟩
      have q2 := how.frozenAt (k * 2)
      have q3 := how.frozenAt (k * 2 + 1)
      have how2 := ((how.stored (k * 2) (.int .i64 0)).1.stored (k * 2 + 1) (.int .i64 V)).1
      have HOW2 := Lib.hid how2; have HL := Lib.hid hlen; clear how how2 hlen
      go_wp2
      go_roundw
      case rel =>
        refine ⟨k + 1, by omega, by go_num, by go_grown, _, HOW2.out, fun j hj => ?_⟩
        have hl := HL.out
        rw [List.getElem?_set, List.getElem?_set, List.getElem?_set, List.getElem?_set]
        by_cases hjk : j = k
        · subst hjk
          rw [if_neg (by omega), if_pos rfl, if_pos (by omega), if_pos rfl, if_pos (by simp; omega)]
          exact ⟨rfl, rfl⟩
        · rw [if_neg (by omega), if_neg (by omega), if_neg (by omega), if_neg (by omega)]
          exact HXS.out j (by omega)
      case measure => simp [intOf]; omega
    · obtain rfl : k = m := by omega
      have hB := Below.trans hB3 (hbl.mono (by omega : w.heap.size ≤ w1.heap.size + 1))
      obtain ⟨G, hG⟩ : ∃ G, G = w1.heap.size + 1 := ⟨_, rfl⟩
      have hw : w1.heap.size + 1 < wr.heap.size := by
        obtain ⟨g, cap, cur, hv, _, hh, _⟩ := how.2.resolve_left (fun h => by cases h.1)
        cases hv
        have := Array.getElem?_eq_some_iff.1 hh
        exact this.1
      have HC : Hid ((∀ i, i < k → wr.cell? ⟨w1.heap.size + 1, 0 + i * 2, none⟩ = some (.int .i64 0)) ∧ (∀ i, i < k → wr.cell? ⟨w1.heap.size + 1, 0 + i * 2 + 1, none⟩ = some (.int .i64 V))) :=
        ⟨fun i hi => by rw [Nat.zero_add, how.cellAt _ (by omega)]; exact (HXS.out i hi).1, fun i hi => by rw [Nat.zero_add, how.cellAt _ (by omega)]; exact (HXS.out i hi).2⟩
      clear how hlen hbl HXS hlt hG
      have s2 : sumV (fun _ => 0) (fun _ => V) k 10001 = 0 := by simp [sumV]
      have hd0 : 0 ≤ V / 2 := by omega
      have hd1 : V / 2 ≤ 536870912 := by omega
      have hm0' : 0 ≤ (k : Int) * (V / 2) := Int.mul_nonneg (by omega) hd0
      have hm1' : (k : Int) * (V / 2) ≤ 1002 * 536870912 := Int.mul_le_mul (by omega) hd1 hd0 (by omega)
      have z6 : ∃ r, addV V 0 0 (1073741824 - x) = r ∧ min (V + 1073741824 - x) 1073741824 = r := by
        refine ⟨_, rfl, ?_⟩
        rw [addV, if_neg (by omega), if_neg (by omega)]
        omega
      obtain ⟨r, z6, hr⟩ := z6
      by_cases hk1 : k ≤ 1000
      · have s0 := sum_const V k hk1
        have s1 : sumE (fun _ => 0) k 1 = 0 := s0.2
        have s3 : sumE (fun _ => 0) k 10001 = 120 := by simp [sumE]; omega
        have s4 : ∃ q, sumV (fun _ => 0) (fun _ => V) k 1 = q ∧ min ((k : Int) * (V / 2)) 1073741824 = q := by
          refine ⟨_, rfl, ?_⟩
          rw [s0.1]
        clear s0
        obtain ⟨q, s4, hq⟩ := s4
        all_goals
          go_wp2_with (first
            | (go_at_call 19; (with_reducible refine (sum_any 1 k k _ 0 (fun _ => 0) (fun _ => V) _ (by omega) HC.out.1 HC.out.2 (fun _ _ => ⟨by omega, by omega, v0, v1⟩) (by omega)).mono ?_); rintro e w4 ⟨rfl, hb⟩; obtain ⟨hz, hc, hf⟩ := bcell hb (by first | (simp only [World.size_alloc, World.size_setCell, World.size_drew]; rfl) | rfl); have hB := below_call (B := w.heap.size) (w := w) (by go_grown) hb (Nat.le_refl _); have HC1 : Hid ((∀ i, i < k → w4.cell? ⟨w1.heap.size + 1, 0 + i * 2, none⟩ = some (.int .i64 0)) ∧ (∀ i, i < k → w4.cell? ⟨w1.heap.size + 1, 0 + i * 2 + 1, none⟩ = some (.int .i64 V))) := ⟨fun i hi => (hb.cell (by show w1.heap.size + 1 < _; omega)).trans (HC.out.1 i hi), fun i hi => (hb.cell (by show w1.heap.size + 1 < _; omega)).trans (HC.out.2 i hi)⟩; clear hb)
            | (go_at_call 19; (with_reducible refine (sum_any 10001 k k _ 0 (fun _ => 0) (fun _ => V) _ (by omega) HC1.out.1 HC1.out.2 (fun _ _ => ⟨by omega, by omega, v0, v1⟩) (by omega)).mono ?_); rintro e w4 ⟨rfl, hb⟩; obtain ⟨hz, hc, hf⟩ := bcell hb (by first | (simp only [World.size_alloc, World.size_setCell, World.size_drew]; rfl) | rfl); have hB := below_call (B := w.heap.size) (w := w) (by go_grown) hb (Nat.le_refl _); have HC2 : Hid ((∀ i, i < k → w4.cell? ⟨w1.heap.size + 1, 0 + i * 2, none⟩ = some (.int .i64 0)) ∧ (∀ i, i < k → w4.cell? ⟨w1.heap.size + 1, 0 + i * 2 + 1, none⟩ = some (.int .i64 V))) := ⟨fun i hi => (hb.cell (by show w1.heap.size + 1 < _; omega)).trans (HC1.out.1 i hi), fun i hi => (hb.cell (by show w1.heap.size + 1 < _; omega)).trans (HC1.out.2 i hi)⟩; clear hb)
            | (go_at_call 12; refine (at_any _ _ _ _ (by omega) (by omega)).mono ?_; rintro e w4 ⟨rfl, hb⟩; obtain ⟨hz, hc, hf⟩ := bcell hb (by first | (simp only [World.size_alloc, World.size_setCell, World.size_drew]; rfl) | rfl); have hB := below_call (B := w.heap.size) (w := w) (by go_grown) hb (Nat.le_refl _); clear hb))
          go_ret
          exact ⟨rfl, by go_grown⟩
      · have s1 : sumE (fun _ => 0) k 1 = 1 := by simp [sumE]; omega
        have s3 : sumE (fun _ => 0) k 10001 = 1 := by simp [sumE]; omega
        have s4 : sumV (fun _ => 0) (fun _ => V) k 1 = 0 := by rw [sumV, if_pos (by omega)]
        all_goals
          go_wp2_with (first
            | (go_at_call 19; (with_reducible refine (sum_any 1 k k _ 0 (fun _ => 0) (fun _ => V) _ (by omega) HC.out.1 HC.out.2 (fun _ _ => ⟨by omega, by omega, v0, v1⟩) (by omega)).mono ?_); rintro e w4 ⟨rfl, hb⟩; obtain ⟨hz, hc, hf⟩ := bcell hb (by first | (simp only [World.size_alloc, World.size_setCell, World.size_drew]; rfl) | rfl); have hB := below_call (B := w.heap.size) (w := w) (by go_grown) hb (Nat.le_refl _); have HC1 : Hid ((∀ i, i < k → w4.cell? ⟨w1.heap.size + 1, 0 + i * 2, none⟩ = some (.int .i64 0)) ∧ (∀ i, i < k → w4.cell? ⟨w1.heap.size + 1, 0 + i * 2 + 1, none⟩ = some (.int .i64 V))) := ⟨fun i hi => (hb.cell (by show w1.heap.size + 1 < _; omega)).trans (HC.out.1 i hi), fun i hi => (hb.cell (by show w1.heap.size + 1 < _; omega)).trans (HC.out.2 i hi)⟩; clear hb)
            | (go_at_call 19; (with_reducible refine (sum_any 10001 k k _ 0 (fun _ => 0) (fun _ => V) _ (by omega) HC1.out.1 HC1.out.2 (fun _ _ => ⟨by omega, by omega, v0, v1⟩) (by omega)).mono ?_); rintro e w4 ⟨rfl, hb⟩; obtain ⟨hz, hc, hf⟩ := bcell hb (by first | (simp only [World.size_alloc, World.size_setCell, World.size_drew]; rfl) | rfl); have hB := below_call (B := w.heap.size) (w := w) (by go_grown) hb (Nat.le_refl _); have HC2 : Hid ((∀ i, i < k → w4.cell? ⟨w1.heap.size + 1, 0 + i * 2, none⟩ = some (.int .i64 0)) ∧ (∀ i, i < k → w4.cell? ⟨w1.heap.size + 1, 0 + i * 2 + 1, none⟩ = some (.int .i64 V))) := ⟨fun i hi => (hb.cell (by show w1.heap.size + 1 < _; omega)).trans (HC1.out.1 i hi), fun i hi => (hb.cell (by show w1.heap.size + 1 < _; omega)).trans (HC1.out.2 i hi)⟩; clear hb)
            | (go_at_call 12; refine (at_any _ _ _ _ (by omega) (by omega)).mono ?_; rintro e w4 ⟨rfl, hb⟩; obtain ⟨hz, hc, hf⟩ := bcell hb (by first | (simp only [World.size_alloc, World.size_setCell, World.size_drew]; rfl) | rfl); have hB := below_call (B := w.heap.size) (w := w) (by go_grown) hb (Nat.le_refl _); clear hb))
          go_ret
          exact ⟨rfl, by go_grown⟩
end Go.Proofs.Ytfhjgkacedgpgaa
