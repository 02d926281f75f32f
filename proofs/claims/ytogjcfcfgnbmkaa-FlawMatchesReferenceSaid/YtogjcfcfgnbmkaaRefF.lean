/- Contract of reference 04: stuck. -/
import Derived.Test.YtogjcfcfgnbmkaaWalkM
namespace Go.Proofs.Ytogjcfcfgnbmkaa
open Go.RowKit
set_option linter.unusedVariables false
set_option linter.unusedSimpArgs false

theorem wb_zero (w : World) (B b : Nat) (hb : b < 8) (x : Bool) : WB B w.heap.size w (wk0 b x) (fun _ => none) (fun _ => 0) (fun _ => 0) (w.alloc (.cells (wkL (wk0 b x).is (fun _ => .slice none 0 0)).toArray 91)) :=
  ⟨heap_alloc_new _ _, fun t ht => Ch.nil _ _, (Below.refl _ _).alloc (Nat.le_refl _) _⟩
theorem ch_new0 {w : World} {B : Nat} (h : B ≤ w.heap.size) : Ch (w.alloc (.cells #[] 3)) B (.slice (some ⟨w.heap.size, 0, none⟩) 0 0) [] :=
  ⟨rfl, .inr ⟨_, 0, #[], rfl, h, heap_alloc_new _ _, Nat.le_refl _, Nat.zero_le _, rfl, rfl⟩⟩

set_option maxHeartbeats 6400000 in
set_option maxRecDepth 100000 in
theorem rstuck_any (S : Sch) (a : Option Addr) (cap : Nat) (w : World) (hR : RulS w a S.rules) (hS : Fit S) :
    Calls Try.prog 42 #[.agg #[.int .i64 S.modes, .int .u8 S.acc, .slice a S.rules.length cap]] w fun e w' => ∃ v, e = .returned v ∧ Ch w' w.heap.size v (rstuckF S) ∧ Below w.heap.size w w' := by
  have HR := Lib.hid hR; have HS := Lib.hid hS; clear hR
  have m0 := hS.m0; have m1 := hS.m1; have hlen := hS.len
  obtain ⟨mm, hmm⟩ := Int.eq_ofNat_of_zero_le (show 0 ≤ S.modes by omega)
  have HM : Hid (S.modes.toNat = mm) := by show _ = _; omega
  have hmm0 : 0 < mm := by omega
  have hmm8 : mm ≤ 8 := by omega
  have HMM := Lib.hid hmm
  obtain ⟨l0, hl0⟩ : ∃ l0, (liveS S).testBit 0 = l0 := ⟨_, rfl⟩
  have HRS : Hid (rstuckF S = if l0 = true then rsF S mm 0 else []) := by show _ = _; rw [rstuckF, hl0, HM.out]
  have HL0 := Lib.hid hl0
  clear hmm hl0 hS
  cases l0 with
  | false =>
    have HE : Hid (rstuckF S = []) := by rw [HRS.out]; rfl
    go_enter Try.func42, Try.ntmps42
    go_wp2_with (first | (go_at_call 25; refine (rlive_any S a cap _ (HR.out.later (by first | exact hB | go_grown) (Nat.le_refl _)) HS.out).mono ?_; rintro e w1 ⟨v, rfl, ⟨g3, hv, hg3, hmask⟩, hb⟩; rw [HM.out] at hv hmask; subst hv; have hq3 := mask_cell hmask (i := 0) (by omega); rw [HL0.out] at hq3; have hB := below_call (B := w.heap.size) (w := w) (by go_grown) hb (Nat.le_refl _); clear hmask hb) | fail)
    go_ret
    exact ⟨.slice none 0 0, rfl, by rw [HE.out]; exact Ch.nil _ _, hB⟩
  | true =>
    have HE : Hid (rstuckF S = rsF S mm 0) := by rw [HRS.out]; rfl
    go_enter Try.func42, Try.ntmps42
    go_wp2_with (first | (go_at_call 25; refine (rlive_any S a cap _ (HR.out.later (by first | exact hB | go_grown) (Nat.le_refl _)) HS.out).mono ?_; rintro e w1 ⟨v, rfl, ⟨g3, hv, hg3, hmask⟩, hb⟩; rw [HM.out] at hv hmask; subst hv; have hq3 := mask_cell hmask (i := 0) (by omega); rw [HL0.out] at hq3; have hB := below_call (B := w.heap.size) (w := w) (by go_grown) hb (Nat.le_refl _); have HB1 := Lib.hid hB; have hal1 := below_call (B := w.heap.size + 1) (w := w.alloc (.cells #[.int .i64 S.modes, .int .u8 S.acc, .slice a S.rules.length cap] 33)) (by go_grown) hb (by simp); have HAL1 := Lib.hid hal1; have hz1 := hal1.size; have HMask := Lib.hid hmask; have hg3l := (Array.getElem?_eq_some_iff.1 hmask).1; obtain ⟨hz, hc, hf⟩ := bcell hb (by first | (simp only [World.size_alloc]; rfl) | rfl); clear hmask hb hal1) | fail)
    simp only [World.size_alloc] at hz1
    have HW0 := Lib.hid (wb_zero w1 w.heap.size 0 (by omega) true)
    clear hz hc hf hq3
    go_loopw [5] (fun i wr => ∃ (k : Nat) (p : Nat → Option Addr) (m d : Nat → Nat), k ≤ mm ∧ i = .int .i64 k ∧ WB w.heap.size w1.heap.size w1 (levelK (useS false) S.rules 0 true k) p m d wr ∧ rsF S (mm - k) k = rsF S mm 0) (fun i _ => mm - (intOf i).toNat)
    case atStart => exact ⟨0, _, _, _, by omega, rfl, HW0.out, rfl⟩
    case round =>
      obtain ⟨k, p, m, d, hk, rfl, hwb, hrs⟩ := hrel
      have HWB := Lib.hid hwb; have HRSk := Lib.hid hrs
      have hal : Below (w.heap.size + 1) (w.alloc (.cells #[.int .i64 S.modes, .int .u8 S.acc, .slice a S.rules.length cap] 33)) wr := HAL1.out.trans (hwb.bl.mono (by omega))
      have hB : Below w.heap.size w wr := ((Below.refl _ _).alloc (Nat.le_refl _) _).trans (hal.mono (by omega))
      obtain ⟨hz, hc, hf⟩ := bcellB hal rfl
      simp only [World.size_alloc] at hz
      have hGl := hwb.row.lt
      clear hrs
      by_cases hlt : k < mm
      · have hlt2 : (k : Int) < S.modes := by have := HMM.out; omega
        obtain ⟨O, hO⟩ : ∃ O, (levelK (useS false) S.rules 0 true (k + 1)) = O := ⟨_, rfl⟩
        have HO : Hid (nextK (useS false) S.rules (levelK (useS false) S.rules 0 true k) = O) := hO
        have HO1 := Lib.hid hO
        have HRN : Hid (rsF S (mm - k) k = if bestTo O (deadM S) mm = [] then rsF S (mm - (k + 1)) (k + 1) else bestTo O (deadM S) mm) := by
          show _ = _
          rw [show mm - k = (mm - (k + 1)) + 1 by omega, rsF, hO, HM.out]
        have hOl : Hid (∀ t, t < 8 → (O.ch t).length ≤ k + 1) := by
          show ∀ t, t < 8 → _
          rw [← hO]; exact level_len true (fun r hr => by have := HS.out.small r hr; omega) (k + 1)
        clear hO
        have q0 := hwb.c0; have q1 := hwb.c1; have q2 := hwb.c2; have q3 := hwb.c3; have q4 := hwb.c4; have q5 := hwb.c5; have q6 := hwb.c6; have q7 := hwb.c7; have q8 := hwb.c8; have q9 := hwb.c9; have q10 := hwb.c10; have q11 := hwb.c11; have q12 := hwb.c12; have q13 := hwb.c13; have q14 := hwb.c14; have q15 := hwb.c15
        clear hwb
        go_wp2_with (first | (go_at_call 58; refine (next_lit S a cap (levelK (useS false) S.rules 0 true k) p m d false k _ (HR.out.later (by first | exact hB | go_grown) (Nat.le_refl _)) HS.out (fun t ht => (HWB.out.ok t ht).mono (Nat.zero_le _)) (level_len true (fun r hr => by have := HS.out.small r hr; omega) k) (by omega)).mono ?_; rintro e w2 ⟨p', m', d', rfl, hch, hb⟩; rw [HO.out] at hch ⊢; clear q0 q1 q2 q3 q4 q5 q6 q7 q8 q9 q10 q11 q12 q13 q14 q15; have hwb2 := HWB.out.below hb; have q0 := hwb2.c0; have q1 := hwb2.c1; have q2 := hwb2.c2; have q3 := hwb2.c3; have q4 := hwb2.c4; have q5 := hwb2.c5; have q6 := hwb2.c6; have q7 := hwb2.c7; have q8 := hwb2.c8; have q9 := hwb2.c9; have q10 := hwb2.c10; have q11 := hwb2.c11; have q12 := hwb2.c12; have q13 := hwb2.c13; have q14 := hwb2.c14; have q15 := hwb2.c15; have qf := hwb2.free; have HWP := Lib.hid (hwb2.put (O := O) (fun t ht => (hch t ht).mono hB.size)); have hz2 := hb.size; have hB2 := below_call (B := w.heap.size) (w := w) hB hb (Nat.le_refl _); clear hch hwb2 hb) | fail)
        clear q0 q1 q2 q3 q4 q5 q6 q7 q8 q9 q10 q11 q12 q13 q14 q15 qf hz hc hf hal
        have HG3 : Hid (g3 < w1.heap.size) := hg3l
        have HX0 : Hid (∀ W, WB w.heap.size w1.heap.size w1 O p' m' d' W → W.heap.size = w2.heap.size → WB w.heap.size w1.heap.size w1 O p' m' d' (W.alloc (.cells #[] 3)) ∧ Ch (W.alloc (.cells #[] 3)) w.heap.size (.slice (some ⟨w2.heap.size, 0, none⟩) 0 0) []) := fun W h hsz =>
          ⟨h.below ((Below.refl _ _).alloc (Nat.le_refl _) _), by have := ch_new0 (w := W) (B := w.heap.size) (by rw [hsz]; exact hB2.size); rw [hsz] at this; exact this⟩
        go_loopw [6, 7] (fun bv i wr => ∃ (j : Nat) (b : Option Addr) (n c : Nat) (xs : List Nat), j ≤ mm ∧ i = .int .i64 j ∧ bv = .slice b n c ∧ n = xs.length ∧ xs = bestTo O (deadM S) j ∧ Ch wr w.heap.size (.slice b n c) xs ∧ WB w.heap.size w1.heap.size w1 O p' m' d' wr) (fun _ i _ => mm - (intOf i).toNat)
        case atStart => exact ⟨0, _, _, _, [], by omega, rfl, rfl, rfl, rfl, (HX0.out _ HWP.out (by simp)).2, (HX0.out _ HWP.out (by simp)).1⟩
        case round =>
          clear HWP HX0 hB2 hz2
          obtain ⟨j, b, n, c, xs, hj, rfl, rfl, hn, hxs, hch, hwb⟩ := hrel
          have HN := Lib.hid hn; have HXS := Lib.hid hxs; have HCH := Lib.hid hch; have HWJ := Lib.hid hwb
          have hal : Below (w.heap.size + 1) (w.alloc (.cells #[.int .i64 S.modes, .int .u8 S.acc, .slice a S.rules.length cap] 33)) wr := HAL1.out.trans (hwb.bl.mono (by omega))
          have hB : Below w.heap.size w wr := ((Below.refl _ _).alloc (Nat.le_refl _) _).trans (hal.mono (by omega))
          obtain ⟨hz, hc, hf⟩ := bcellB hal rfl
          simp only [World.size_alloc] at hz
          have hGl := hwb.row.lt
          clear hn hxs hch
          by_cases hlj : j < mm
          · have hlj2 : (j : Int) < S.modes := by have := HMM.out; omega
            have hj8 : (j : Int) < 8 := by omega
            have hjm : (j : Int) < (mm : Int) := by omega
            have qi := hwb.row.is (i := j) (by omega)
            have qv := hwb.row.vs (i := j) (by omega)
            have ql : wr.cell? ⟨g3, j, none⟩ = some (.bool ((liveS S).testBit j)) := (hwb.bl.cell (p := ⟨g3, j, none⟩) hg3l).trans (mask_cell HMask.out hlj)
            obtain ⟨oi, hoi⟩ : ∃ oi, O.is j = oi := ⟨_, rfl⟩
            obtain ⟨lb, hlb⟩ : ∃ lb, (liveS S).testBit j = lb := ⟨_, rfl⟩
            obtain ⟨bb, hbb⟩ : ∃ bb, beforeB (ints (O.ch j)) (ints xs) = bb := ⟨_, rfl⟩
            have HB : Hid (bestTo O (deadM S) (j + 1) = if oi && (!lb && (xs.isEmpty || bb)) then O.ch j else xs) := by
              show _ = _
              rw [bestTo, ← HXS.out, bestStep, hoi, hbb, deadM, hlb]
            rw [hoi] at qi
            rw [hlb] at ql
            have HBB := Lib.hid hbb
            have hOj := hOl.out j (by omega)
            have hxl : xs.length ≤ k + 1 := by rw [HXS.out]; exact bestTo_len hOl.out j (by omega)
            have hsl := hwb.sl (t := j) (by omega)
            have HSL := Lib.hid hsl
            have HSX : Hid (SlS wr b (ints xs) ∧ n = (ints xs).length) := ⟨HCH.out.sls.1, HCH.out.sls.2.trans (ints_len _).symm⟩
            clear hoi hlb hbb hsl hwb
            cases oi with
            | false =>
              have HB2 : Hid (bestTo O (deadM S) (j + 1) = xs) := by rw [HB.out]; rfl
              go_wp2
              go_roundw
              case rel => exact ⟨j + 1, b, n, c, xs, by omega, by go_num, rfl, HN.out, HB2.out.symm, HCH.out, HWJ.out⟩
              case measure => simp [intOf]; omega
            | true =>
              cases lb with
              | true =>
                have HB2 : Hid (bestTo O (deadM S) (j + 1) = xs) := by rw [HB.out]; rfl
                go_wp2
                go_roundw
                case rel => exact ⟨j + 1, b, n, c, xs, by omega, by go_num, rfl, HN.out, HB2.out.symm, HCH.out, HWJ.out⟩
                case measure => simp [intOf]; omega
              | false =>
                by_cases hx0 : xs = []
                · have HB2 : Hid (bestTo O (deadM S) (j + 1) = O.ch j) := by show _ = _; rw [HB.out, hx0]; rfl
                  have hn0 : n = 0 := by rw [HN.out, hx0]; rfl
                  subst hn0
                  clear hx0
                  go_wp2
                  go_roundw
                  case rel => exact ⟨j + 1, p' j, m' j, d' j, O.ch j, by omega, by go_num, rfl, HSL.out.2.trans (ints_len _), HB2.out.symm, HWJ.out.ok j (by omega), HWJ.out⟩
                  case measure => simp [intOf]; omega
                · have hnp : 0 < n := by rw [HN.out]; rcases xs with _ | ⟨y, ys⟩; exact absurd rfl hx0; simp
                  have hnz : ((n : Int) == 0) = false := by simp; omega
                  have HB2 : Hid (bestTo O (deadM S) (j + 1) = if bb = true then O.ch j else xs) := by
                    show _ = _; rw [HB.out]; rcases xs with _ | ⟨y, ys⟩; exact absurd rfl hx0; rfl
                  clear hx0
                  cases bb with
                  | true =>
                    go_wp2_with (first | (go_at_call 59; refine (before_any (p' j) b (m' j) n (d' j) c (ints (O.ch j)) (ints xs) _ HSL.out.2 HSX.out.2 HSL.out.1 HSX.out.1 (by rw [ints_len]; omega) (by rw [ints_len]; omega)).mono ?_; rintro ee w3 ⟨he3, hb⟩; rw [HBB.out] at he3; subst he3; have HWJ3 := Lib.hid (HWJ.out.below hb); have HC3 := Lib.hid (HCH.out.below hb HCH.out.lt); obtain ⟨hzB, hcB, hfB⟩ := bcell hb rfl; clear hb) | fail)
                    go_roundw
                    case rel => exact ⟨j + 1, p' j, m' j, d' j, O.ch j, by omega, by go_num, rfl, HSL.out.2.trans (ints_len _), HB2.out.symm, HWJ3.out.ok j (by omega), HWJ3.out⟩
                    case measure => simp [intOf]; omega
                  | false =>
                    go_wp2_with (first | (go_at_call 59; refine (before_any (p' j) b (m' j) n (d' j) c (ints (O.ch j)) (ints xs) _ HSL.out.2 HSX.out.2 HSL.out.1 HSX.out.1 (by rw [ints_len]; omega) (by rw [ints_len]; omega)).mono ?_; rintro ee w3 ⟨he3, hb⟩; rw [HBB.out] at he3; subst he3; have HWJ3 := Lib.hid (HWJ.out.below hb); have HC3 := Lib.hid (HCH.out.below hb HCH.out.lt); obtain ⟨hzB, hcB, hfB⟩ := bcell hb rfl; clear hb) | fail)
                    go_roundw
                    case rel => exact ⟨j + 1, b, n, c, xs, by omega, by go_num, rfl, HN.out, HB2.out.symm, HC3.out, HWJ3.out⟩
                    case measure => simp [intOf]; omega
          · obtain rfl : j = mm := by omega
            have hlj2 : ¬ (j : Int) < S.modes := by have := HMM.out; omega
            by_cases hx0 : xs = []
            · have hn0 : n = 0 := by rw [HN.out, hx0]; rfl
              have HRk : Hid (rsF S (j - (k + 1)) (k + 1) = rsF S j 0) := by
                have h1 := HRN.out; have h2 := HRSk.out
                rw [← HXS.out, if_pos hx0] at h1
                exact h1.symm.trans h2
              subst hn0
              clear hx0 hwb
              go_wp2
              go_roundw
              case rel => exact ⟨k + 1, p', m', d', by omega, by go_num, by rw [HO1.out]; exact HWJ.out, HRk.out⟩
              case measure => simp [intOf]; omega
            · have hnp : 0 < n := by rw [HN.out]; rcases xs with _ | ⟨y, ys⟩; exact absurd rfl hx0; simp
              have hnI : (0 : Int) < (n : Int) := by omega
              have HRk : Hid (xs = rsF S j 0) := by
                have h1 := HRN.out; have h2 := HRSk.out
                rw [← HXS.out, if_neg hx0] at h1
                exact h1.symm.trans h2
              clear hx0 hwb
              go_wp2
              go_ret
              exact ⟨.slice b n c, rfl, by rw [HE.out, ← HRk.out]; exact HCH.out, hB⟩
      · obtain rfl : k = mm := by omega
        have hlt2 : ¬ (k : Int) < S.modes := by have := HMM.out; omega
        have HF : Hid ([] = rsF S k 0) := by have := HRSk.out; rw [Nat.sub_self, rsF] at this; exact this
        go_wp2
        go_ret
        exact ⟨.slice none 0 0, rfl, by rw [HE.out, ← HF.out]; exact Ch.nil _ _, hB⟩
end Go.Proofs.Ytogjcfcfgnbmkaa
