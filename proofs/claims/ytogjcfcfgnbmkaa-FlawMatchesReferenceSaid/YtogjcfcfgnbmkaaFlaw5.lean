/- Contracts of package flaw: Sound. -/
import Derived.Test.YtogjcfcfgnbmkaaFlaw4
namespace Go.Proofs.Ytogjcfcfgnbmkaa
open Go.RowKit
set_option linter.unusedVariables false
set_option linter.unusedSimpArgs false

def outB (A B : Nat) : Bool := (List.range 8).any fun m => A.testBit m && !B.testBit m
theorem diff_nat {A B : Nat} (hA : A < 256) (hB : B < 256) : bits BinOp.andNot IntKind.u8 (A : Int) (B : Int) = ((A &&& (255 - B) : Nat) : Int) := by
  have hx : A &&& (255 - B) < 2 ^ 8 := Nat.and_lt_two_pow _ (by omega)
  show IntKind.u8.wrap ((BitVec.ofInt 8 (A : Int) &&& ~~~ BitVec.ofInt 8 (B : Int)).toNat : Int) = _
  rw [BitVec.toNat_and, BitVec.toNat_not, ofInt_u8 A hA, ofInt_u8 B hB, IntKind.wrap_u8']
  have e : 2 ^ 8 - 1 - B = 255 - B := by omega
  rw [e]
  omega
theorem diff_bit {A B : Nat} (hB : B < 256) (m : Nat) : (A &&& (255 - B)).testBit m = (A.testBit m && (decide (m < 8) && !B.testBit m)) := by
  rw [Nat.testBit_and, show 255 - B = 2 ^ 8 - (B + 1) by omega, Nat.testBit_two_pow_sub_succ (by omega)]
theorem diff_mask {A B : Nat} (hA : A < 256) (hB : B < 256) : (bits BinOp.andNot IntKind.u8 (A : Int) (B : Int) != 0) = outB A B := by
  rw [diff_nat hA hB, Bool.eq_iff_iff, bne_iff_ne, outB, List.any_eq_true]
  constructor
  · intro h
    have h' : (A &&& (255 - B)) ≠ 0 := by omega
    obtain ⟨m, hm⟩ := Nat.exists_testBit_of_ne_zero h'
    rw [diff_bit hB] at hm
    simp only [Bool.and_eq_true, decide_eq_true_eq] at hm
    exact ⟨m, by simp [hm.2.1], by simp [hm.1, hm.2.2]⟩
  · rintro ⟨m, hm, h⟩ h0
    have h1 : (A &&& (255 - B)) = 0 := by omega
    have := diff_bit (A := A) hB m
    rw [h1, Nat.zero_testBit] at this
    simp at hm
    simp only [Bool.and_eq_true] at h
    rw [h.1, h.2] at this
    simp [hm] at this
open Classical in
noncomputable def soundF (S : Sch) : Int :=
  if validB S = true then (if (liveS S).testBit 0 = true then (if outB (reachS S) (liveS S) = true then 40 else if endF S = [] then 0 else 41) else 50) else 20

set_option maxHeartbeats 1600000 in
theorem sound_any (S : Sch) (a : Option Addr) (cap : Nat) (w : World) (hR : RulS w a S.rules) (h0 : 0 ≤ S.acc) (h1 : S.acc ≤ 255) (hl : S.rules.length ≤ 9223372036854775807) (hcap : S.rules.length ≤ cap) (hS : validB S = true → Fit S) :
    Calls Try.prog 16 #[.agg #[.int .i64 S.modes, .int .u8 S.acc, .slice a S.rules.length cap]] w fun e w' => e = .returned (.int .i64 (soundF S)) ∧ Below w.heap.size w w' := by
  have HR := Lib.hid hR; have HS := Lib.hid hS; clear hR hS
  by_cases hv : validB S = true
  · have HFit := Lib.hid (HS.out hv)
    have HV := Lib.hid hv
    obtain ⟨A, hA⟩ : ∃ A, reachS S = A := ⟨_, rfl⟩
    obtain ⟨B, hBm⟩ : ∃ B, liveS S = B := ⟨_, rfl⟩
    have hA8 : A < 256 := by rw [← hA]; exact reachedM_lt HFit.out
    have hB8 : B < 256 := by rw [← hBm]; exact liveM_lt HFit.out
    have HA := Lib.hid hA; have HBm := Lib.hid hBm; clear hA hBm
    have hs0 := has_any B 0
    have hd := diff_mask hA8 hB8
    obtain ⟨o, ho⟩ : ∃ o, outB A B = o := ⟨_, rfl⟩
    rw [ho] at hd
    have HO := Lib.hid ho; clear ho
    by_cases hb0 : B.testBit 0 = true
    · have HB0 := Lib.hid hb0; clear hb0
      by_cases hoo : o = true
      · subst hoo
        have HE : Hid (40 = soundF S) := by show _ = _; rw [soundF, if_pos hv, HA.out, HBm.out, if_pos HB0.out, if_pos HO.out]
        clear hv
        go_enter Try.func16, Try.ntmps16
        go_wp2_with (first | (go_at_call 36; refine (valid_any S a cap _ (HR.out.later (by first | exact hB | go_grown) (Nat.le_refl _)) h0 h1 hl hcap).mono ?_; rintro e w1 ⟨he, hb⟩; rw [HV.out] at he; subst he; obtain ⟨hz, hc, hf⟩ := bcell hb (by first | (simp only [World.size_alloc, World.size_setCell, World.size_drew]; rfl) | rfl); have hB := below_call (B := w.heap.size) (w := w) (by go_grown) hb (Nat.le_refl _); clear hb) | (go_at_call 40; refine (live_any S a cap _ (HR.out.later (by first | exact hB | go_grown) (Nat.le_refl _)) HFit.out).mono ?_; rintro e w2 ⟨he, hb⟩; rw [show liveM S.eds S.modes.toNat S.acc.toNat = B from HBm.out] at he; subst he; obtain ⟨hz, hc, hf⟩ := bcell hb (by first | (simp only [World.size_alloc, World.size_setCell, World.size_drew]; rfl) | rfl); have hB := below_call (B := w.heap.size) (w := w) (by go_grown) hb (Nat.le_refl _); clear hb) | (go_at_call 44; refine (hs0 _ hB8 (by omega) (by omega)).mono ?_; rintro e w4 ⟨he, rfl⟩; rw [show B.testBit (0 : Int).toNat = _ from HB0.out] at he; subst he))
        go_region_held3 (fun w' => w'.cell? ⟨w.heap.size, 0, none⟩ = some (.int .i64 S.modes) ∧ w'.cell? ⟨w.heap.size, 1, none⟩ = some (.int .u8 S.acc) ∧ w'.cell? ⟨w.heap.size, 2, none⟩ = some (.slice a S.rules.length cap)) (first | (simp [go_sem, *]; done) | go_keep) (first | (go_at_call 39; refine (reached_any S a cap _ (HR.out.later (by first | exact hB | go_grown) (Nat.le_refl _)) HFit.out).mono ?_; rintro e w3 ⟨he, hb⟩; rw [show reachedM S.eds S.modes.toNat = A from HA.out] at he; subst he; obtain ⟨hz, hc, hf⟩ := bcell hb (by first | (simp only [World.size_alloc, World.size_setCell, World.size_drew]; rfl) | rfl); have hB := below_call (B := w.heap.size) (w := w) (by go_grown) hb (Nat.le_refl _); clear hb) | (go_at_call 40; refine (live_any S a cap _ (HR.out.later (by first | exact hB | go_grown) (Nat.le_refl _)) HFit.out).mono ?_; rintro e w2 ⟨he, hb⟩; rw [show liveM S.eds S.modes.toNat S.acc.toNat = B from HBm.out] at he; subst he; obtain ⟨hz, hc, hf⟩ := bcell hb (by first | (simp only [World.size_alloc, World.size_setCell, World.size_drew]; rfl) | rfl); have hB := below_call (B := w.heap.size) (w := w) (by go_grown) hb (Nat.le_refl _); clear hb))
        go_wp2
        go_ret
        exact ⟨ret_int HE.out, hB⟩
      · obtain rfl : o = false := by simpa using hoo
        by_cases hen : endF S = []
        · have HEN := Lib.hid hen
          have HE : Hid (0 = soundF S) := by show _ = _; rw [soundF, if_pos hv, HA.out, HBm.out, if_pos HB0.out, if_neg (by rw [HO.out]; simp), if_pos hen]
          clear hv hoo hen
          go_enter Try.func16, Try.ntmps16
          go_wp2_with (first | (go_at_call 36; refine (valid_any S a cap _ (HR.out.later (by first | exact hB | go_grown) (Nat.le_refl _)) h0 h1 hl hcap).mono ?_; rintro e w1 ⟨he, hb⟩; rw [HV.out] at he; subst he; obtain ⟨hz, hc, hf⟩ := bcell hb (by first | (simp only [World.size_alloc, World.size_setCell, World.size_drew]; rfl) | rfl); have hB := below_call (B := w.heap.size) (w := w) (by go_grown) hb (Nat.le_refl _); clear hb) | (go_at_call 40; refine (live_any S a cap _ (HR.out.later (by first | exact hB | go_grown) (Nat.le_refl _)) HFit.out).mono ?_; rintro e w2 ⟨he, hb⟩; rw [show liveM S.eds S.modes.toNat S.acc.toNat = B from HBm.out] at he; subst he; obtain ⟨hz, hc, hf⟩ := bcell hb (by first | (simp only [World.size_alloc, World.size_setCell, World.size_drew]; rfl) | rfl); have hB := below_call (B := w.heap.size) (w := w) (by go_grown) hb (Nat.le_refl _); clear hb) | (go_at_call 44; refine (hs0 _ hB8 (by omega) (by omega)).mono ?_; rintro e w4 ⟨he, rfl⟩; rw [show B.testBit (0 : Int).toNat = _ from HB0.out] at he; subst he))
          go_region_held3 (fun w' => w'.cell? ⟨w.heap.size, 0, none⟩ = some (.int .i64 S.modes) ∧ w'.cell? ⟨w.heap.size, 1, none⟩ = some (.int .u8 S.acc) ∧ w'.cell? ⟨w.heap.size, 2, none⟩ = some (.slice a S.rules.length cap)) (first | (simp [go_sem, *]; done) | go_keep) (first | (go_at_call 39; refine (reached_any S a cap _ (HR.out.later (by first | exact hB | go_grown) (Nat.le_refl _)) HFit.out).mono ?_; rintro e w3 ⟨he, hb⟩; rw [show reachedM S.eds S.modes.toNat = A from HA.out] at he; subst he; obtain ⟨hz, hc, hf⟩ := bcell hb (by first | (simp only [World.size_alloc, World.size_setCell, World.size_drew]; rfl) | rfl); have hB := below_call (B := w.heap.size) (w := w) (by go_grown) hb (Nat.le_refl _); clear hb) | (go_at_call 40; refine (live_any S a cap _ (HR.out.later (by first | exact hB | go_grown) (Nat.le_refl _)) HFit.out).mono ?_; rintro e w2 ⟨he, hb⟩; rw [show liveM S.eds S.modes.toNat S.acc.toNat = B from HBm.out] at he; subst he; obtain ⟨hz, hc, hf⟩ := bcell hb (by first | (simp only [World.size_alloc, World.size_setCell, World.size_drew]; rfl) | rfl); have hB := below_call (B := w.heap.size) (w := w) (by go_grown) hb (Nat.le_refl _); clear hb))
          go_wp2_with (first | (go_at_call 38; refine (endless_any S a cap _ (HR.out.later (by first | exact hB | go_grown) (Nat.le_refl _)) HFit.out).mono ?_; rintro e w5 ⟨v, rfl, hch, hb⟩; have hv := hch.2 HEN.out; subst hv; clear hch; obtain ⟨hz, hc, hf⟩ := bcell hb (by first | (simp only [World.size_alloc, World.size_setCell, World.size_drew]; rfl) | rfl); have hB := below_call (B := w.heap.size) (w := w) (by go_grown) hb (Nat.le_refl _); clear hb))
          go_ret
          exact ⟨ret_int HE.out, hB⟩
        · have HEN := Lib.hid hen
          have HE : Hid (41 = soundF S) := by show _ = _; rw [soundF, if_pos hv, HA.out, HBm.out, if_pos HB0.out, if_neg (by rw [HO.out]; simp), if_neg hen]
          have hpos : 0 < (endF S).length := by rcases h : endF S with _ | ⟨x, l⟩; exact absurd h hen; simp
          obtain ⟨n, hn⟩ : ∃ n, (endF S).length = n := ⟨_, rfl⟩
          rw [hn] at hpos
          have HN := Lib.hid hn
          clear hv hoo hen hn
          go_enter Try.func16, Try.ntmps16
          go_wp2_with (first | (go_at_call 36; refine (valid_any S a cap _ (HR.out.later (by first | exact hB | go_grown) (Nat.le_refl _)) h0 h1 hl hcap).mono ?_; rintro e w1 ⟨he, hb⟩; rw [HV.out] at he; subst he; obtain ⟨hz, hc, hf⟩ := bcell hb (by first | (simp only [World.size_alloc, World.size_setCell, World.size_drew]; rfl) | rfl); have hB := below_call (B := w.heap.size) (w := w) (by go_grown) hb (Nat.le_refl _); clear hb) | (go_at_call 40; refine (live_any S a cap _ (HR.out.later (by first | exact hB | go_grown) (Nat.le_refl _)) HFit.out).mono ?_; rintro e w2 ⟨he, hb⟩; rw [show liveM S.eds S.modes.toNat S.acc.toNat = B from HBm.out] at he; subst he; obtain ⟨hz, hc, hf⟩ := bcell hb (by first | (simp only [World.size_alloc, World.size_setCell, World.size_drew]; rfl) | rfl); have hB := below_call (B := w.heap.size) (w := w) (by go_grown) hb (Nat.le_refl _); clear hb) | (go_at_call 44; refine (hs0 _ hB8 (by omega) (by omega)).mono ?_; rintro e w4 ⟨he, rfl⟩; rw [show B.testBit (0 : Int).toNat = _ from HB0.out] at he; subst he))
          go_region_held3 (fun w' => w'.cell? ⟨w.heap.size, 0, none⟩ = some (.int .i64 S.modes) ∧ w'.cell? ⟨w.heap.size, 1, none⟩ = some (.int .u8 S.acc) ∧ w'.cell? ⟨w.heap.size, 2, none⟩ = some (.slice a S.rules.length cap)) (first | (simp [go_sem, *]; done) | go_keep) (first | (go_at_call 39; refine (reached_any S a cap _ (HR.out.later (by first | exact hB | go_grown) (Nat.le_refl _)) HFit.out).mono ?_; rintro e w3 ⟨he, hb⟩; rw [show reachedM S.eds S.modes.toNat = A from HA.out] at he; subst he; obtain ⟨hz, hc, hf⟩ := bcell hb (by first | (simp only [World.size_alloc, World.size_setCell, World.size_drew]; rfl) | rfl); have hB := below_call (B := w.heap.size) (w := w) (by go_grown) hb (Nat.le_refl _); clear hb) | (go_at_call 40; refine (live_any S a cap _ (HR.out.later (by first | exact hB | go_grown) (Nat.le_refl _)) HFit.out).mono ?_; rintro e w2 ⟨he, hb⟩; rw [show liveM S.eds S.modes.toNat S.acc.toNat = B from HBm.out] at he; subst he; obtain ⟨hz, hc, hf⟩ := bcell hb (by first | (simp only [World.size_alloc, World.size_setCell, World.size_drew]; rfl) | rfl); have hB := below_call (B := w.heap.size) (w := w) (by go_grown) hb (Nat.le_refl _); clear hb))
          go_wp2_with (first | (go_at_call 38; refine (endless_any S a cap _ (HR.out.later (by first | exact hB | go_grown) (Nat.le_refl _)) HFit.out).mono ?_; rintro e w5 ⟨v, rfl, hch, hb⟩; obtain ⟨g, cp, hv⟩ := hch.1.slv HEN.out; rw [HN.out] at hv; subst hv; clear hch; obtain ⟨hz, hc, hf⟩ := bcell hb (by first | (simp only [World.size_alloc, World.size_setCell, World.size_drew]; rfl) | rfl); have hB := below_call (B := w.heap.size) (w := w) (by go_grown) hb (Nat.le_refl _); clear hb))
          go_ret
          exact ⟨ret_int HE.out, hB⟩
    · have hb0' : B.testBit 0 = false := by simpa using hb0
      have HB0 := Lib.hid hb0'
      have HE : Hid (50 = soundF S) := by show _ = _; rw [soundF, if_pos hv, HBm.out, if_neg hb0]
      clear hv hb0 hb0' hd
      go_enter Try.func16, Try.ntmps16
      go_wp2_with (first | (go_at_call 36; refine (valid_any S a cap _ (HR.out.later (by first | exact hB | go_grown) (Nat.le_refl _)) h0 h1 hl hcap).mono ?_; rintro e w1 ⟨he, hb⟩; rw [HV.out] at he; subst he; obtain ⟨hz, hc, hf⟩ := bcell hb (by first | (simp only [World.size_alloc, World.size_setCell, World.size_drew]; rfl) | rfl); have hB := below_call (B := w.heap.size) (w := w) (by go_grown) hb (Nat.le_refl _); clear hb) | (go_at_call 40; refine (live_any S a cap _ (HR.out.later (by first | exact hB | go_grown) (Nat.le_refl _)) HFit.out).mono ?_; rintro e w2 ⟨he, hb⟩; rw [show liveM S.eds S.modes.toNat S.acc.toNat = B from HBm.out] at he; subst he; obtain ⟨hz, hc, hf⟩ := bcell hb (by first | (simp only [World.size_alloc, World.size_setCell, World.size_drew]; rfl) | rfl); have hB := below_call (B := w.heap.size) (w := w) (by go_grown) hb (Nat.le_refl _); clear hb) | (go_at_call 44; refine (hs0 _ hB8 (by omega) (by omega)).mono ?_; rintro e w4 ⟨he, rfl⟩; rw [show B.testBit (0 : Int).toNat = _ from HB0.out] at he; subst he))
      go_ret
      exact ⟨ret_int HE.out, hB⟩
  · have hv' : validB S = false := by simpa using hv
    have HV := Lib.hid hv'
    have HE : Hid (20 = soundF S) := by show _ = _; rw [soundF, if_neg hv]
    clear hv hv'
    go_enter Try.func16, Try.ntmps16
    go_wp2_with (first | (go_at_call 36; refine (valid_any S a cap _ (HR.out.later (by first | exact hB | go_grown) (Nat.le_refl _)) h0 h1 hl hcap).mono ?_; rintro e w1 ⟨he, hb⟩; rw [HV.out] at he; subst he; obtain ⟨hz, hc, hf⟩ := bcell hb (by first | (simp only [World.size_alloc, World.size_setCell, World.size_drew]; rfl) | rfl); have hB := below_call (B := w.heap.size) (w := w) (by go_grown) hb (Nat.le_refl _); clear hb))
    go_ret
    exact ⟨ret_int HE.out, hB⟩
end Go.Proofs.Ytogjcfcfgnbmkaa
