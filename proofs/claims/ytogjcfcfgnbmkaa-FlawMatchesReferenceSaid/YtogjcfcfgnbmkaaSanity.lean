/- Contract of the law's sanity: true. -/
import Derived.Test.YtogjcfcfgnbmkaaSanity0
namespace Go.Proofs.Ytogjcfcfgnbmkaa
open Go.RowKit
set_option linter.unusedVariables false
set_option linter.unusedSimpArgs false

theorem rulS1 {W : World} {b : Nat} {r : Rl} {t : TypeId} {f : Nat × Nat} (h : W.heap[b]? = some (.cells #[.int .i64 r.frm, .int .i64 r.dst, .string r.inp, .string r.out, .int .i64 r.cost] t f)) : RulS W (some ⟨b, 0, none⟩) [r] := by
  refine .inr ⟨b, 0, rfl, (Array.getElem?_eq_some_iff.1 h).1, fun i hi => ?_⟩
  obtain rfl : i = 0 := by simp at hi; omega
  exact ⟨by rw [cell_of_row W b _ _ _ f h]; rfl, by rw [cell_of_row W b _ _ _ f h]; rfl, by rw [cell_of_row W b _ _ _ f h]; rfl, by rw [cell_of_row W b _ _ _ f h]; rfl, by rw [cell_of_row W b _ _ _ f h]; rfl⟩
theorem rulS2 {W : World} {b : Nat} {r q : Rl} {t : TypeId} {f : Nat × Nat} (h : W.heap[b]? = some (.cells #[.int .i64 r.frm, .int .i64 r.dst, .string r.inp, .string r.out, .int .i64 r.cost, .int .i64 q.frm, .int .i64 q.dst, .string q.inp, .string q.out, .int .i64 q.cost] t f)) : RulS W (some ⟨b, 0, none⟩) [r, q] := by
  refine .inr ⟨b, 0, rfl, (Array.getElem?_eq_some_iff.1 h).1, fun i hi => ?_⟩
  rcases (show i = 0 ∨ i = 1 by simp at hi; omega) with rfl | rfl
  all_goals exact ⟨by rw [cell_of_row W b _ _ _ f h]; rfl, by rw [cell_of_row W b _ _ _ f h]; rfl, by rw [cell_of_row W b _ _ _ f h]; rfl, by rw [cell_of_row W b _ _ _ f h]; rfl, by rw [cell_of_row W b _ _ _ f h]; rfl⟩
theorem rulS3 {W : World} {b : Nat} {r q s : Rl} {t : TypeId} {f : Nat × Nat} (h : W.heap[b]? = some (.cells #[.int .i64 r.frm, .int .i64 r.dst, .string r.inp, .string r.out, .int .i64 r.cost, .int .i64 q.frm, .int .i64 q.dst, .string q.inp, .string q.out, .int .i64 q.cost, .int .i64 s.frm, .int .i64 s.dst, .string s.inp, .string s.out, .int .i64 s.cost] t f)) : RulS W (some ⟨b, 0, none⟩) [r, q, s] := by
  refine .inr ⟨b, 0, rfl, (Array.getElem?_eq_some_iff.1 h).1, fun i hi => ?_⟩
  rcases (show i = 0 ∨ i = 1 ∨ i = 2 by simp at hi; omega) with rfl | rfl | rfl
  all_goals exact ⟨by rw [cell_of_row W b _ _ _ f h]; rfl, by rw [cell_of_row W b _ _ _ f h]; rfl, by rw [cell_of_row W b _ _ _ f h]; rfl, by rw [cell_of_row W b _ _ _ f h]; rfl, by rw [cell_of_row W b _ _ _ f h]; rfl⟩

theorem rulS1_new (W : World) (r : Rl) : RulS (W.alloc (.cells #[.int .i64 r.frm, .int .i64 r.dst, .string r.inp, .string r.out, .int .i64 r.cost] 29)) (some ⟨W.heap.size, 0, none⟩) [r] := rulS1 (heap_alloc_new _ _)
theorem rulS2_new (W : World) (r q : Rl) : RulS (W.alloc (.cells #[.int .i64 r.frm, .int .i64 r.dst, .string r.inp, .string r.out, .int .i64 r.cost, .int .i64 q.frm, .int .i64 q.dst, .string q.inp, .string q.out, .int .i64 q.cost] 29)) (some ⟨W.heap.size, 0, none⟩) [r, q] := rulS2 (heap_alloc_new _ _)
theorem rulS3_new (W : World) (r q s : Rl) : RulS (W.alloc (.cells #[.int .i64 r.frm, .int .i64 r.dst, .string r.inp, .string r.out, .int .i64 r.cost, .int .i64 q.frm, .int .i64 q.dst, .string q.inp, .string q.out, .int .i64 q.cost, .int .i64 s.frm, .int .i64 s.dst, .string s.inp, .string s.out, .int .i64 s.cost] 29)) (some ⟨W.heap.size, 0, none⟩) [r, q, s] := rulS3 (heap_alloc_new _ _)

set_option maxHeartbeats 6400000 in
set_option maxRecDepth 100000 in
theorem sanity_any (w : World) : Calls Try.prog 10 #[] w fun e w' => e = .returned (.bool true) ∧ Below w.heap.size w w' := by
  go_enter Try.func10, Try.ntmps10
  go_wp2_with fail
  refine (two_any _ 2 _ _).mono ?_
  rintro e w1 ⟨rfl, hb⟩
  obtain ⟨hz, hc, hf⟩ := bcell hb (by first | (simp only [World.size_alloc]; rfl) | rfl)
  have hB := below_call (B := w.heap.size) (w := w) (by first | exact hB | go_grown) hb (Nat.le_refl _)
  have hrA := (rulS2_new _ (rl 0 0 [97]) (rl 0 1 [98])).later hb (Nat.le_refl _)
  try rw [World.size_alloc] at hrA
  have HA : Hid (RulS w1 _ SA.rules) := hrA
  clear hrA
  clear hb
  go_wp2_with fail
  refine (two_any _ 3 _ _).mono ?_
  rintro e w2 ⟨rfl, hb⟩
  obtain ⟨hz, hc, hf⟩ := bcell hb (by first | (simp only [World.size_alloc]; rfl) | rfl)
  have hB := below_call (B := w.heap.size) (w := w) (by first | exact hB | go_grown) hb (Nat.le_refl _)
  have HA := Lib.hid (HA.out.later (below_call (B := w1.heap.size) (w := w1) (by go_grown) hb (Nat.le_refl _)) (Nat.le_refl _))
  have hrB := (rulS3_new _ (rl 0 1 [97]) (rl 1 0 []) (rl 1 1 [])).later hb (Nat.le_refl _)
  try rw [World.size_alloc] at hrB
  have HB : Hid (RulS w2 _ SB.rules) := hrB
  clear hrB
  clear hb
  go_wp2_with fail
  refine (two_any _ 2 _ _).mono ?_
  rintro e w3 ⟨rfl, hb⟩
  obtain ⟨hz, hc, hf⟩ := bcell hb (by first | (simp only [World.size_alloc]; rfl) | rfl)
  have hB := below_call (B := w.heap.size) (w := w) (by first | exact hB | go_grown) hb (Nat.le_refl _)
  have HA := Lib.hid (HA.out.later (below_call (B := w2.heap.size) (w := w2) (by go_grown) hb (Nat.le_refl _)) (Nat.le_refl _))
  have HB := Lib.hid (HB.out.later (below_call (B := w2.heap.size) (w := w2) (by go_grown) hb (Nat.le_refl _)) (Nat.le_refl _))
  have hrC := (rulS2_new _ (rl 0 0 [97]) (rl 1 0 [98])).later hb (Nat.le_refl _)
  try rw [World.size_alloc] at hrC
  have HC : Hid (RulS w3 _ SC.rules) := hrC
  clear hrC
  clear hb
  go_wp2_with fail
  refine (findA_any _ _ _ (HA.out.later (show Below w3.heap.size w3 _ by go_grown) (Nat.le_refl _)) (by omega)).mono ?_
  rintro e w4 ⟨d, t, ee, c1, c2, c3, rfl, hrp, hb⟩
  obtain ⟨hz, hc, hf⟩ := bcell hb (by first | (simp only [World.size_alloc]; rfl) | rfl)
  have hB := below_call (B := w.heap.size) (w := w) (by first | exact hB | go_grown) hb (Nat.le_refl _)
  have HA := Lib.hid (HA.out.later (below_call (B := w3.heap.size) (w := w3) (by go_grown) hb (Nat.le_refl _)) (Nat.le_refl _))
  have HB := Lib.hid (HB.out.later (below_call (B := w3.heap.size) (w := w3) (by go_grown) hb (Nat.le_refl _)) (Nat.le_refl _))
  have HC := Lib.hid (HC.out.later (below_call (B := w3.heap.size) (w := w3) (by go_grown) hb (Nat.le_refl _)) (Nat.le_refl _))
  have hrD := ((rulS1_new _ (rl 0 0 [97])).later ((Below.refl _ _).alloc (Nat.le_refl _) (.cells #[.int .i64 2, .int .u8 2, .slice (some ⟨w3.heap.size + 1, 0, none⟩) 1 1] 33)) (Nat.le_refl _)).later hb (by simp only [World.size_alloc]; omega)
  try simp only [World.size_alloc] at hrD
  have HD : Hid (RulS w4 (some ⟨w3.heap.size + 1, 0, none⟩) SD.rules) := hrD
  clear hrD
  have HRP := Lib.hid hrp
  clear hrp
  clear hb
  go_wp2_with fail
  refine (same_any _ _ _ _ _ _ _ _ _ _ _ _ _ _ _ _ _ _ (ints [1]) (ints [1]) (ints []) [1] [1] [] _ (HRP.out.later (show Below w4.heap.size w4 _ by go_grown) (Nat.le_refl _)) ⟨(slS1 (b := w4.heap.size) (by simp only [World.size_alloc]; omega) (by first | (simp [go_sem]; done) | go_simp)), (slS1 (b := w4.heap.size + 1) (by simp only [World.size_alloc]; omega) (by first | (simp [go_sem]; done) | go_simp)), slS0⟩ rfl rfl rfl rfl rfl rfl (by decide) (by decide) (by decide) (by decide) (by decide) (by decide)).mono ?_
  rintro e w5 ⟨he, hb⟩
  rw [show (decide (ints [1] = [1]) && (decide (ints [1] = [1]) && decide (ints [] = []))) = true from by decide] at he
  subst he
  obtain ⟨hz, hc, hf⟩ := bcell hb (by first | (simp only [World.size_alloc]; rfl) | rfl)
  have hB := below_call (B := w.heap.size) (w := w) (by first | exact hB | go_grown) hb (Nat.le_refl _)
  have HA := Lib.hid (HA.out.later (below_call (B := w4.heap.size) (w := w4) (by go_grown) hb (Nat.le_refl _)) (Nat.le_refl _))
  have HB := Lib.hid (HB.out.later (below_call (B := w4.heap.size) (w := w4) (by go_grown) hb (Nat.le_refl _)) (Nat.le_refl _))
  have HC := Lib.hid (HC.out.later (below_call (B := w4.heap.size) (w := w4) (by go_grown) hb (Nat.le_refl _)) (Nat.le_refl _))
  have HD := Lib.hid (HD.out.later (below_call (B := w4.heap.size) (w := w4) (by go_grown) hb (Nat.le_refl _)) (Nat.le_refl _))
  clear hb
  clear HRP
  go_wp2_with fail
  refine (findB_any _ _ _ (HB.out.later (show Below w5.heap.size w5 _ by go_grown) (Nat.le_refl _)) (by omega)).mono ?_
  rintro e w6 ⟨d, t, ee, c1, c2, c3, rfl, hrp, hb⟩
  obtain ⟨hz, hc, hf⟩ := bcell hb (by first | (simp only [World.size_alloc]; rfl) | rfl)
  have hB := below_call (B := w.heap.size) (w := w) (by first | exact hB | go_grown) hb (Nat.le_refl _)
  have HA := Lib.hid (HA.out.later (below_call (B := w5.heap.size) (w := w5) (by go_grown) hb (Nat.le_refl _)) (Nat.le_refl _))
  have HB := Lib.hid (HB.out.later (below_call (B := w5.heap.size) (w := w5) (by go_grown) hb (Nat.le_refl _)) (Nat.le_refl _))
  have HC := Lib.hid (HC.out.later (below_call (B := w5.heap.size) (w := w5) (by go_grown) hb (Nat.le_refl _)) (Nat.le_refl _))
  have HD := Lib.hid (HD.out.later (below_call (B := w5.heap.size) (w := w5) (by go_grown) hb (Nat.le_refl _)) (Nat.le_refl _))
  have HRP := Lib.hid hrp
  clear hrp
  clear hb
  go_wp2_with fail
  refine (same_any _ _ _ _ _ _ _ _ _ _ _ _ _ _ _ _ _ _ (ints []) (ints []) (ints [2]) [] [] [2] _ (HRP.out.later (show Below w6.heap.size w6 _ by go_grown) (Nat.le_refl _)) ⟨slS0, slS0, (slS1 (b := w6.heap.size) (by simp only [World.size_alloc]; omega) (by first | (simp [go_sem]; done) | go_simp))⟩ rfl rfl rfl rfl rfl rfl (by decide) (by decide) (by decide) (by decide) (by decide) (by decide)).mono ?_
  rintro e w7 ⟨he, hb⟩
  rw [show (decide (ints [] = []) && (decide (ints [] = []) && decide (ints [2] = [2]))) = true from by decide] at he
  subst he
  obtain ⟨hz, hc, hf⟩ := bcell hb (by first | (simp only [World.size_alloc]; rfl) | rfl)
  have hB := below_call (B := w.heap.size) (w := w) (by first | exact hB | go_grown) hb (Nat.le_refl _)
  have HA := Lib.hid (HA.out.later (below_call (B := w6.heap.size) (w := w6) (by go_grown) hb (Nat.le_refl _)) (Nat.le_refl _))
  have HB := Lib.hid (HB.out.later (below_call (B := w6.heap.size) (w := w6) (by go_grown) hb (Nat.le_refl _)) (Nat.le_refl _))
  have HC := Lib.hid (HC.out.later (below_call (B := w6.heap.size) (w := w6) (by go_grown) hb (Nat.le_refl _)) (Nat.le_refl _))
  have HD := Lib.hid (HD.out.later (below_call (B := w6.heap.size) (w := w6) (by go_grown) hb (Nat.le_refl _)) (Nat.le_refl _))
  clear hb
  clear HRP
  go_wp2_with fail
  refine (findC_any _ _ _ (HC.out.later (show Below w7.heap.size w7 _ by go_grown) (Nat.le_refl _)) (by omega)).mono ?_
  rintro e w8 ⟨d, t, ee, c1, c2, c3, rfl, hrp, hb⟩
  obtain ⟨hz, hc, hf⟩ := bcell hb (by first | (simp only [World.size_alloc]; rfl) | rfl)
  have hB := below_call (B := w.heap.size) (w := w) (by first | exact hB | go_grown) hb (Nat.le_refl _)
  have HA := Lib.hid (HA.out.later (below_call (B := w7.heap.size) (w := w7) (by go_grown) hb (Nat.le_refl _)) (Nat.le_refl _))
  have HB := Lib.hid (HB.out.later (below_call (B := w7.heap.size) (w := w7) (by go_grown) hb (Nat.le_refl _)) (Nat.le_refl _))
  have HC := Lib.hid (HC.out.later (below_call (B := w7.heap.size) (w := w7) (by go_grown) hb (Nat.le_refl _)) (Nat.le_refl _))
  have HD := Lib.hid (HD.out.later (below_call (B := w7.heap.size) (w := w7) (by go_grown) hb (Nat.le_refl _)) (Nat.le_refl _))
  have HRP := Lib.hid hrp
  clear hrp
  clear hb
  go_wp2_with fail
  refine (same_any _ _ _ _ _ _ _ _ _ _ _ _ _ _ _ _ _ _ (ints [1]) (ints []) (ints []) [1] [] [] _ (HRP.out.later (show Below w8.heap.size w8 _ by go_grown) (Nat.le_refl _)) ⟨(slS1 (b := w8.heap.size) (by simp only [World.size_alloc]; omega) (by first | (simp [go_sem]; done) | go_simp)), slS0, slS0⟩ rfl rfl rfl rfl rfl rfl (by decide) (by decide) (by decide) (by decide) (by decide) (by decide)).mono ?_
  rintro e w9 ⟨he, hb⟩
  rw [show (decide (ints [1] = [1]) && (decide (ints [] = []) && decide (ints [] = []))) = true from by decide] at he
  subst he
  obtain ⟨hz, hc, hf⟩ := bcell hb (by first | (simp only [World.size_alloc]; rfl) | rfl)
  have hB := below_call (B := w.heap.size) (w := w) (by first | exact hB | go_grown) hb (Nat.le_refl _)
  have HA := Lib.hid (HA.out.later (below_call (B := w8.heap.size) (w := w8) (by go_grown) hb (Nat.le_refl _)) (Nat.le_refl _))
  have HB := Lib.hid (HB.out.later (below_call (B := w8.heap.size) (w := w8) (by go_grown) hb (Nat.le_refl _)) (Nat.le_refl _))
  have HC := Lib.hid (HC.out.later (below_call (B := w8.heap.size) (w := w8) (by go_grown) hb (Nat.le_refl _)) (Nat.le_refl _))
  have HD := Lib.hid (HD.out.later (below_call (B := w8.heap.size) (w := w8) (by go_grown) hb (Nat.le_refl _)) (Nat.le_refl _))
  clear hb
  clear HRP
  go_wp2_with fail
  refine (findD_any _ _ _ (HD.out.later (show Below w9.heap.size w9 _ by go_grown) (Nat.le_refl _)) (by omega)).mono ?_
  rintro e w10 ⟨d, t, ee, c1, c2, c3, rfl, hrp, hb⟩
  obtain ⟨hz, hc, hf⟩ := bcell hb (by first | (simp only [World.size_alloc]; rfl) | rfl)
  have hB := below_call (B := w.heap.size) (w := w) (by first | exact hB | go_grown) hb (Nat.le_refl _)
  have HA := Lib.hid (HA.out.later (below_call (B := w9.heap.size) (w := w9) (by go_grown) hb (Nat.le_refl _)) (Nat.le_refl _))
  have HB := Lib.hid (HB.out.later (below_call (B := w9.heap.size) (w := w9) (by go_grown) hb (Nat.le_refl _)) (Nat.le_refl _))
  have HC := Lib.hid (HC.out.later (below_call (B := w9.heap.size) (w := w9) (by go_grown) hb (Nat.le_refl _)) (Nat.le_refl _))
  have HD := Lib.hid (HD.out.later (below_call (B := w9.heap.size) (w := w9) (by go_grown) hb (Nat.le_refl _)) (Nat.le_refl _))
  have HRP := Lib.hid hrp
  clear hrp
  clear hb
  go_wp2_with fail
  refine (same_any _ _ _ _ _ _ _ _ _ _ _ _ _ _ _ _ _ _ (ints [0]) (ints []) (ints []) [0] [] [] _ (HRP.out.later (show Below w10.heap.size w10 _ by go_grown) (Nat.le_refl _)) ⟨(slS1 (b := w10.heap.size) (by simp only [World.size_alloc]; omega) (by first | (simp [go_sem]; done) | go_simp)), slS0, slS0⟩ rfl rfl rfl rfl rfl rfl (by decide) (by decide) (by decide) (by decide) (by decide) (by decide)).mono ?_
  rintro e w11 ⟨he, hb⟩
  rw [show (decide (ints [0] = [0]) && (decide (ints [] = []) && decide (ints [] = []))) = true from by decide] at he
  subst he
  obtain ⟨hz, hc, hf⟩ := bcell hb (by first | (simp only [World.size_alloc]; rfl) | rfl)
  have hB := below_call (B := w.heap.size) (w := w) (by first | exact hB | go_grown) hb (Nat.le_refl _)
  have HA := Lib.hid (HA.out.later (below_call (B := w10.heap.size) (w := w10) (by go_grown) hb (Nat.le_refl _)) (Nat.le_refl _))
  have HB := Lib.hid (HB.out.later (below_call (B := w10.heap.size) (w := w10) (by go_grown) hb (Nat.le_refl _)) (Nat.le_refl _))
  have HC := Lib.hid (HC.out.later (below_call (B := w10.heap.size) (w := w10) (by go_grown) hb (Nat.le_refl _)) (Nat.le_refl _))
  have HD := Lib.hid (HD.out.later (below_call (B := w10.heap.size) (w := w10) (by go_grown) hb (Nat.le_refl _)) (Nat.le_refl _))
  clear hb
  clear HRP
  go_wp2_with fail
  refine (findE_any _ _ _ (.inl rfl) (by omega)).mono ?_
  rintro e w12 ⟨d, t, ee, c1, c2, c3, rfl, hrp, hb⟩
  obtain ⟨hz, hc, hf⟩ := bcell hb (by first | (simp only [World.size_alloc]; rfl) | rfl)
  have hB := below_call (B := w.heap.size) (w := w) (by first | exact hB | go_grown) hb (Nat.le_refl _)
  have HA := Lib.hid (HA.out.later (below_call (B := w11.heap.size) (w := w11) (by go_grown) hb (Nat.le_refl _)) (Nat.le_refl _))
  have HB := Lib.hid (HB.out.later (below_call (B := w11.heap.size) (w := w11) (by go_grown) hb (Nat.le_refl _)) (Nat.le_refl _))
  have HC := Lib.hid (HC.out.later (below_call (B := w11.heap.size) (w := w11) (by go_grown) hb (Nat.le_refl _)) (Nat.le_refl _))
  have HD := Lib.hid (HD.out.later (below_call (B := w11.heap.size) (w := w11) (by go_grown) hb (Nat.le_refl _)) (Nat.le_refl _))
  have HRP := Lib.hid hrp
  clear hrp
  clear hb
  go_wp2_with fail
  refine (same_any _ _ _ _ _ _ _ _ _ _ _ _ _ _ _ _ _ _ (ints []) (ints []) (ints []) [] [] [] _ (HRP.out.later (show Below w12.heap.size w12 _ by go_grown) (Nat.le_refl _)) ⟨slS0, slS0, slS0⟩ rfl rfl rfl rfl rfl rfl (by decide) (by decide) (by decide) (by decide) (by decide) (by decide)).mono ?_
  rintro e w13 ⟨he, hb⟩
  rw [show (decide (ints [] = []) && (decide (ints [] = []) && decide (ints [] = []))) = true from by decide] at he
  subst he
  obtain ⟨hz, hc, hf⟩ := bcell hb (by first | (simp only [World.size_alloc]; rfl) | rfl)
  have hB := below_call (B := w.heap.size) (w := w) (by first | exact hB | go_grown) hb (Nat.le_refl _)
  have HA := Lib.hid (HA.out.later (below_call (B := w12.heap.size) (w := w12) (by go_grown) hb (Nat.le_refl _)) (Nat.le_refl _))
  have HB := Lib.hid (HB.out.later (below_call (B := w12.heap.size) (w := w12) (by go_grown) hb (Nat.le_refl _)) (Nat.le_refl _))
  have HC := Lib.hid (HC.out.later (below_call (B := w12.heap.size) (w := w12) (by go_grown) hb (Nat.le_refl _)) (Nat.le_refl _))
  have HD := Lib.hid (HD.out.later (below_call (B := w12.heap.size) (w := w12) (by go_grown) hb (Nat.le_refl _)) (Nat.le_refl _))
  clear hb
  clear HRP
  go_wp2_with fail
  refine (soundA_any _ _ _ (HA.out.later (show Below w13.heap.size w13 _ by go_grown) (Nat.le_refl _)) (by omega)).mono ?_
  rintro e w14 ⟨rfl, hb⟩
  obtain ⟨hz, hc, hf⟩ := bcell hb (by first | (simp only [World.size_alloc]; rfl) | rfl)
  have hB := below_call (B := w.heap.size) (w := w) (by first | exact hB | go_grown) hb (Nat.le_refl _)
  have HA := Lib.hid (HA.out.later (below_call (B := w13.heap.size) (w := w13) (by go_grown) hb (Nat.le_refl _)) (Nat.le_refl _))
  have HB := Lib.hid (HB.out.later (below_call (B := w13.heap.size) (w := w13) (by go_grown) hb (Nat.le_refl _)) (Nat.le_refl _))
  have HC := Lib.hid (HC.out.later (below_call (B := w13.heap.size) (w := w13) (by go_grown) hb (Nat.le_refl _)) (Nat.le_refl _))
  have HD := Lib.hid (HD.out.later (below_call (B := w13.heap.size) (w := w13) (by go_grown) hb (Nat.le_refl _)) (Nat.le_refl _))
  clear hb
  go_wp2_with fail
  refine (soundB_any _ _ _ (HB.out.later (show Below w14.heap.size w14 _ by go_grown) (Nat.le_refl _)) (by omega)).mono ?_
  rintro e w15 ⟨rfl, hb⟩
  obtain ⟨hz, hc, hf⟩ := bcell hb (by first | (simp only [World.size_alloc]; rfl) | rfl)
  have hB := below_call (B := w.heap.size) (w := w) (by first | exact hB | go_grown) hb (Nat.le_refl _)
  have HA := Lib.hid (HA.out.later (below_call (B := w14.heap.size) (w := w14) (by go_grown) hb (Nat.le_refl _)) (Nat.le_refl _))
  have HB := Lib.hid (HB.out.later (below_call (B := w14.heap.size) (w := w14) (by go_grown) hb (Nat.le_refl _)) (Nat.le_refl _))
  have HC := Lib.hid (HC.out.later (below_call (B := w14.heap.size) (w := w14) (by go_grown) hb (Nat.le_refl _)) (Nat.le_refl _))
  have HD := Lib.hid (HD.out.later (below_call (B := w14.heap.size) (w := w14) (by go_grown) hb (Nat.le_refl _)) (Nat.le_refl _))
  clear hb
  go_wp2_with fail
  refine (soundC_any _ _ _ (HC.out.later (show Below w15.heap.size w15 _ by go_grown) (Nat.le_refl _)) (by omega)).mono ?_
  rintro e w16 ⟨rfl, hb⟩
  obtain ⟨hz, hc, hf⟩ := bcell hb (by first | (simp only [World.size_alloc]; rfl) | rfl)
  have hB := below_call (B := w.heap.size) (w := w) (by first | exact hB | go_grown) hb (Nat.le_refl _)
  have HA := Lib.hid (HA.out.later (below_call (B := w15.heap.size) (w := w15) (by go_grown) hb (Nat.le_refl _)) (Nat.le_refl _))
  have HB := Lib.hid (HB.out.later (below_call (B := w15.heap.size) (w := w15) (by go_grown) hb (Nat.le_refl _)) (Nat.le_refl _))
  have HC := Lib.hid (HC.out.later (below_call (B := w15.heap.size) (w := w15) (by go_grown) hb (Nat.le_refl _)) (Nat.le_refl _))
  have HD := Lib.hid (HD.out.later (below_call (B := w15.heap.size) (w := w15) (by go_grown) hb (Nat.le_refl _)) (Nat.le_refl _))
  clear hb
  go_wp2_with fail
  refine (soundD_any _ _ _ (HD.out.later (show Below w16.heap.size w16 _ by go_grown) (Nat.le_refl _)) (by omega)).mono ?_
  rintro e w17 ⟨rfl, hb⟩
  obtain ⟨hz, hc, hf⟩ := bcell hb (by first | (simp only [World.size_alloc]; rfl) | rfl)
  have hB := below_call (B := w.heap.size) (w := w) (by first | exact hB | go_grown) hb (Nat.le_refl _)
  have HA := Lib.hid (HA.out.later (below_call (B := w16.heap.size) (w := w16) (by go_grown) hb (Nat.le_refl _)) (Nat.le_refl _))
  have HB := Lib.hid (HB.out.later (below_call (B := w16.heap.size) (w := w16) (by go_grown) hb (Nat.le_refl _)) (Nat.le_refl _))
  have HC := Lib.hid (HC.out.later (below_call (B := w16.heap.size) (w := w16) (by go_grown) hb (Nat.le_refl _)) (Nat.le_refl _))
  have HD := Lib.hid (HD.out.later (below_call (B := w16.heap.size) (w := w16) (by go_grown) hb (Nat.le_refl _)) (Nat.le_refl _))
  clear hb
  go_wp2_with fail
  refine (soundE_any _ _ _ (.inl rfl) (by omega)).mono ?_
  rintro e w18 ⟨rfl, hb⟩
  obtain ⟨hz, hc, hf⟩ := bcell hb (by first | (simp only [World.size_alloc]; rfl) | rfl)
  have hB := below_call (B := w.heap.size) (w := w) (by first | exact hB | go_grown) hb (Nat.le_refl _)
  have HA := Lib.hid (HA.out.later (below_call (B := w17.heap.size) (w := w17) (by go_grown) hb (Nat.le_refl _)) (Nat.le_refl _))
  have HB := Lib.hid (HB.out.later (below_call (B := w17.heap.size) (w := w17) (by go_grown) hb (Nat.le_refl _)) (Nat.le_refl _))
  have HC := Lib.hid (HC.out.later (below_call (B := w17.heap.size) (w := w17) (by go_grown) hb (Nat.le_refl _)) (Nat.le_refl _))
  have HD := Lib.hid (HD.out.later (below_call (B := w17.heap.size) (w := w17) (by go_grown) hb (Nat.le_refl _)) (Nat.le_refl _))
  clear hb
  go_wp2_with fail
  refine (provesA1_any _ _ _ _ _ _ _ _ _ (HA.out.later (show Below w18.heap.size w18 _ by go_grown) (Nat.le_refl _)) (by omega) slS0 (slS3 (b := w18.heap.size) (by simp only [World.size_alloc]; omega) (by first | (simp [go_sem]; done) | go_simp) (by first | (simp [go_sem]; done) | go_simp) (by first | (simp [go_sem]; done) | go_simp)) slS0).mono ?_
  rintro e w19 ⟨rfl, hb⟩
  obtain ⟨hz, hc, hf⟩ := bcell hb (by first | (simp only [World.size_alloc]; rfl) | rfl)
  have hB := below_call (B := w.heap.size) (w := w) (by first | exact hB | go_grown) hb (Nat.le_refl _)
  have HA := Lib.hid (HA.out.later (below_call (B := w18.heap.size) (w := w18) (by go_grown) hb (Nat.le_refl _)) (Nat.le_refl _))
  have HB := Lib.hid (HB.out.later (below_call (B := w18.heap.size) (w := w18) (by go_grown) hb (Nat.le_refl _)) (Nat.le_refl _))
  have HC := Lib.hid (HC.out.later (below_call (B := w18.heap.size) (w := w18) (by go_grown) hb (Nat.le_refl _)) (Nat.le_refl _))
  have HD := Lib.hid (HD.out.later (below_call (B := w18.heap.size) (w := w18) (by go_grown) hb (Nat.le_refl _)) (Nat.le_refl _))
  clear hb
  go_wp2_with fail
  refine (provesA2_any _ _ _ _ _ _ _ _ _ (HA.out.later (show Below w19.heap.size w19 _ by go_grown) (Nat.le_refl _)) (by omega) slS0 (slS1 (b := w19.heap.size) (by simp only [World.size_alloc]; omega) (by first | (simp [go_sem]; done) | go_simp)) slS0).mono ?_
  rintro e w20 ⟨rfl, hb⟩
  obtain ⟨hz, hc, hf⟩ := bcell hb (by first | (simp only [World.size_alloc]; rfl) | rfl)
  have hB := below_call (B := w.heap.size) (w := w) (by first | exact hB | go_grown) hb (Nat.le_refl _)
  have HA := Lib.hid (HA.out.later (below_call (B := w19.heap.size) (w := w19) (by go_grown) hb (Nat.le_refl _)) (Nat.le_refl _))
  have HB := Lib.hid (HB.out.later (below_call (B := w19.heap.size) (w := w19) (by go_grown) hb (Nat.le_refl _)) (Nat.le_refl _))
  have HC := Lib.hid (HC.out.later (below_call (B := w19.heap.size) (w := w19) (by go_grown) hb (Nat.le_refl _)) (Nat.le_refl _))
  have HD := Lib.hid (HD.out.later (below_call (B := w19.heap.size) (w := w19) (by go_grown) hb (Nat.le_refl _)) (Nat.le_refl _))
  clear hb
  go_wp2_with fail
  refine (provesA3_any _ _ _ _ _ _ _ _ _ (HA.out.later (show Below w20.heap.size w20 _ by go_grown) (Nat.le_refl _)) (by omega) (slS1 (b := w20.heap.size) (by simp only [World.size_alloc]; omega) (by first | (simp [go_sem]; done) | go_simp)) slS0 slS0).mono ?_
  rintro e w21 ⟨rfl, hb⟩
  obtain ⟨hz, hc, hf⟩ := bcell hb (by first | (simp only [World.size_alloc]; rfl) | rfl)
  have hB := below_call (B := w.heap.size) (w := w) (by first | exact hB | go_grown) hb (Nat.le_refl _)
  have HA := Lib.hid (HA.out.later (below_call (B := w20.heap.size) (w := w20) (by go_grown) hb (Nat.le_refl _)) (Nat.le_refl _))
  have HB := Lib.hid (HB.out.later (below_call (B := w20.heap.size) (w := w20) (by go_grown) hb (Nat.le_refl _)) (Nat.le_refl _))
  have HC := Lib.hid (HC.out.later (below_call (B := w20.heap.size) (w := w20) (by go_grown) hb (Nat.le_refl _)) (Nat.le_refl _))
  have HD := Lib.hid (HD.out.later (below_call (B := w20.heap.size) (w := w20) (by go_grown) hb (Nat.le_refl _)) (Nat.le_refl _))
  clear hb
  go_wp2_with fail
  refine (provesC1_any _ _ _ _ _ _ _ _ _ (HC.out.later (show Below w21.heap.size w21 _ by go_grown) (Nat.le_refl _)) (by omega) slS0 slS0 slS0).mono ?_
  rintro e w22 ⟨rfl, hb⟩
  obtain ⟨hz, hc, hf⟩ := bcell hb (by first | (simp only [World.size_alloc]; rfl) | rfl)
  have hB := below_call (B := w.heap.size) (w := w) (by first | exact hB | go_grown) hb (Nat.le_refl _)
  have HA := Lib.hid (HA.out.later (below_call (B := w21.heap.size) (w := w21) (by go_grown) hb (Nat.le_refl _)) (Nat.le_refl _))
  have HB := Lib.hid (HB.out.later (below_call (B := w21.heap.size) (w := w21) (by go_grown) hb (Nat.le_refl _)) (Nat.le_refl _))
  have HC := Lib.hid (HC.out.later (below_call (B := w21.heap.size) (w := w21) (by go_grown) hb (Nat.le_refl _)) (Nat.le_refl _))
  have HD := Lib.hid (HD.out.later (below_call (B := w21.heap.size) (w := w21) (by go_grown) hb (Nat.le_refl _)) (Nat.le_refl _))
  clear hb
  go_wp2_with fail
  refine (provesE1_any _ _ _ _ _ _ _ _ _ (.inl rfl) (by omega) slS0 slS0 slS0).mono ?_
  rintro e w23 ⟨rfl, hb⟩
  obtain ⟨hz, hc, hf⟩ := bcell hb (by first | (simp only [World.size_alloc]; rfl) | rfl)
  have hB := below_call (B := w.heap.size) (w := w) (by first | exact hB | go_grown) hb (Nat.le_refl _)
  have HA := Lib.hid (HA.out.later (below_call (B := w22.heap.size) (w := w22) (by go_grown) hb (Nat.le_refl _)) (Nat.le_refl _))
  have HB := Lib.hid (HB.out.later (below_call (B := w22.heap.size) (w := w22) (by go_grown) hb (Nat.le_refl _)) (Nat.le_refl _))
  have HC := Lib.hid (HC.out.later (below_call (B := w22.heap.size) (w := w22) (by go_grown) hb (Nat.le_refl _)) (Nat.le_refl _))
  have HD := Lib.hid (HD.out.later (below_call (B := w22.heap.size) (w := w22) (by go_grown) hb (Nat.le_refl _)) (Nat.le_refl _))
  clear hb
  go_wp2_with fail
  refine (provesD1_any _ _ _ _ _ _ _ _ _ (HD.out.later (show Below w23.heap.size w23 _ by go_grown) (Nat.le_refl _)) (by omega) slS0 (slS1 (b := w23.heap.size) (by simp only [World.size_alloc]; omega) (by first | (simp [go_sem]; done) | go_simp)) slS0).mono ?_
  rintro e w24 ⟨rfl, hb⟩
  obtain ⟨hz, hc, hf⟩ := bcell hb (by first | (simp only [World.size_alloc]; rfl) | rfl)
  have hB := below_call (B := w.heap.size) (w := w) (by first | exact hB | go_grown) hb (Nat.le_refl _)
  have HA := Lib.hid (HA.out.later (below_call (B := w23.heap.size) (w := w23) (by go_grown) hb (Nat.le_refl _)) (Nat.le_refl _))
  have HB := Lib.hid (HB.out.later (below_call (B := w23.heap.size) (w := w23) (by go_grown) hb (Nat.le_refl _)) (Nat.le_refl _))
  have HC := Lib.hid (HC.out.later (below_call (B := w23.heap.size) (w := w23) (by go_grown) hb (Nat.le_refl _)) (Nat.le_refl _))
  have HD := Lib.hid (HD.out.later (below_call (B := w23.heap.size) (w := w23) (by go_grown) hb (Nat.le_refl _)) (Nat.le_refl _))
  clear hb
  go_wp2_with fail
  go_ret
  exact ⟨rfl, hB⟩
end Go.Proofs.Ytogjcfcfgnbmkaa
