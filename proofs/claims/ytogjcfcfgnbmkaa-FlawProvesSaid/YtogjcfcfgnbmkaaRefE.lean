/- Contracts of reference 04: Proves. -/
import Derived.Test.YtogjcfcfgnbmkaaRefD
import Derived.Test.YtogjcfcfgnbmkaaRef2
namespace Go.Proofs.Ytogjcfcfgnbmkaa
open Go.RowKit
set_option linter.unusedVariables false
set_option linter.unusedSimpArgs false

theorem follow_bd2 {use : Rl → Bool} {S : Sch} (hS : Fit S) : ∀ (C : List Int) (m t : Int), C ≠ [] → followF use S.rules m C = some t → t < S.modes
  | [], _, _, h, _ => absurd rfl h
  | i :: C, m, t, _, h => by
    rw [followF] at h
    split at h
    · rename_i hi
      split at h
      · by_cases hc : C = []
        · subst hc
          rw [followF] at h
          injection h with h
          have := hS.at0 i.toNat hi.2
          omega
        · exact follow_bd2 hS C _ t hc h
      · cases h
    · cases h
set_option maxHeartbeats 6400000 in
set_option maxRecDepth 100000 in
theorem rproves_any (S : Sch) (a : Option Addr) (cap : Nat) (d t e : Option Addr) (D T E : List Int) (cd ct ce : Nat) (w : World) (hR : RulS w a S.rules) (h0 : 0 ≤ S.acc) (h1 : S.acc ≤ 255) (hl : S.rules.length ≤ 9223372036854775807) (hS : validB S = true → Fit S)
    (hD : SlS w d D) (hT : SlS w t T) (hE : SlS w e E) (hDl : D.length ≤ 100000) (hTl : T.length ≤ 100000) (hEl : E.length ≤ 100000) :
    Calls Try.prog 19 #[.agg #[.int .i64 S.modes, .int .u8 S.acc, .slice a S.rules.length cap], .agg #[.slice d D.length cd, .slice t T.length ct, .slice e E.length ce]] w fun ee w' => ee = .returned (.bool (provesF S D T E)) ∧ Below w.heap.size w w' := by
  have HR := Lib.hid hR; have HS := Lib.hid hS; have HD := Lib.hid hD; have HT := Lib.hid hT; have HE := Lib.hid hE; clear hR hS hD hT hE
  by_cases hv : validB S = true
  · have hFit := HS.out hv
    have hlen := hFit.len
    have HFit := Lib.hid hFit
    have HV := Lib.hid hv
    have m0 := hFit.m0; have m1 := hFit.m1
    obtain ⟨mm, hmm⟩ := Int.eq_ofNat_of_zero_le (show 0 ≤ S.modes by omega)
    have HM : Hid (S.modes.toNat = mm) := by show _ = _; omega
    obtain ⟨A, hA⟩ : ∃ A, reachS S = A := ⟨_, rfl⟩
    obtain ⟨B, hBm⟩ : ∃ B, liveS S = B := ⟨_, rfl⟩
    have hA8 : A < 256 := by rw [← hA]; exact reachedM_lt hFit
    have hB8 : B < 256 := by rw [← hBm]; exact liveM_lt hFit
    have HA := Lib.hid hA; have HBm := Lib.hid hBm; clear hA hBm hv
    have hmmI : S.modes = (mm : Int) := hmm
    have hmm0 : 0 < mm := by omega
    have HMM := Lib.hid hmmI
    clear hmmI hmm
    go_enter Try.func19, Try.ntmps19
    go_wp2_with (first | (go_at_call 29; refine (rvalid_any S a cap _ (HR.out.later (by first | exact hB | go_grown) (Nat.le_refl _)) h0 h1 hl).mono ?_; rintro ee w1 ⟨he, hb⟩; rw [HV.out] at he; subst he; obtain ⟨hz, hc, hf⟩ := bcell hb (by first | (simp only [World.size_alloc, World.size_setCell, World.size_drew, size_drewN]; rfl) | rfl); have hB := below_call (B := w.heap.size) (w := w) (by go_grown) hb (Nat.le_refl _); have hal := below_call (B := w.heap.size + 2) (w := ((w.alloc (.cells #[.int .i64 S.modes, .int .u8 S.acc, .slice a S.rules.length cap] 33)).alloc (.cells #[.slice d D.length cd, .slice t T.length ct, .slice e E.length ce] 40))) (by go_grown) hb (by simp); clear hb))
    clear hc hf hz
    go_loopw [6] (fun i wr => ∃ k : Nat, k ≤ D.length ∧ i = .int .i64 k ∧ (∀ j, j < k → okAt S D j = true) ∧ Below (w.heap.size + 2) ((w.alloc (.cells #[.int .i64 S.modes, .int .u8 S.acc, .slice a S.rules.length cap] 33)).alloc (.cells #[.slice d D.length cd, .slice t T.length ct, .slice e E.length ce] 40)) wr) (fun i _ => D.length - (intOf i).toNat)
    case atStart => exact ⟨0, by omega, rfl, fun j hj => absurd hj (by omega), hal⟩
    case round =>
      clear hB hal
      obtain ⟨k, hk, rfl, hok, hal⟩ := hrel
      have HOK := Lib.hid hok; clear hok
      have hB : Below w.heap.size w wr := (((Below.refl _ _).alloc (Nat.le_refl _) _).alloc (by simp) _).trans (hal.mono (by omega))
      obtain ⟨hz, hc, hf⟩ := bcellB hal rfl
      simp only [World.size_alloc] at hz
      by_cases hlt : k < D.length
      · obtain ⟨b', o', ha', hb', q'⟩ := (HD.out.later hB (Nat.le_refl _)).at hlt
        have hidx' := idx_ints d b' o' D.length cd k ha' hlt
        have hga := getD_at hlt
        by_cases hn0 : D[k] < 0
        · have HF := Lib.hid (pf_dead (S := S) (T := T) (E := E) hlt (by rw [okAt, hga, decide_eq_false (by omega)]; rfl))
          clear hga ha'
          go_wp2
          go_ret
          exact ⟨ret_bool HF.out.symm, hB⟩
        by_cases hn1 : (S.rules.length : Int) ≤ D[k]
        · have HF := Lib.hid (pf_dead (S := S) (T := T) (E := E) hlt (by rw [okAt, hga, dif_neg (by omega)]; simp))
          clear hga ha'
          go_wp2
          go_ret
          exact ⟨ret_bool HF.out.symm, hB⟩
        obtain ⟨n, hn⟩ := Int.eq_ofNat_of_zero_le (show 0 ≤ D[k] by omega)
        have hnl : n < S.rules.length := by omega
        obtain ⟨b2, o2, ha2, hb2, q0, q1, q2, q3, q4⟩ := (HR.out.later hB (Nat.le_refl _)).at hnl
        have hidx := idx_rules a b2 o2 S.rules.length cap n ha2 hnl
        obtain ⟨f0, f1, t0, t1⟩ := HFit.out.at0 n hnl
        have hm1 := HFit.out.m1
        obtain ⟨dd, hdd⟩ : ∃ dd, deadB A B S.rules[n] = dd := ⟨_, rfl⟩
        have HOKv : Hid (okAt S D k = (dd && (decide (k = 0) || decide (D.getD (k - 1) 0 < (n : Int))))) := by
          show _ = _
          rw [okAt, hga, hn, Int.toNat_natCast, dif_pos hnl, HA.out, HBm.out, hdd, decide_eq_true (by omega), Bool.true_and]
        have HDD := Lib.hid hdd
        rw [hn] at q' hn0 hn1
        clear hdd hn hga ha' ha2
        by_cases hk0 : k = 0
        · have hk0' : ¬ (0 : Int) < (k : Int) := by omega
          have HOKk : Hid (okAt S D k = dd) := by show _ = _; rw [HOKv.out, hk0]; simp
          clear hk0
          cases dd with
          | true =>
            have HOK2 : Hid (okAt S D k = true) := HOKk.out
            go_wp2_with (first | (go_at_call 24; refine (rdead_any S a cap n _ (HR.out.later (by first | exact hB | go_grown) (Nat.le_refl _)) HFit.out hnl).mono ?_; rintro ee w3 ⟨he, hb⟩; rw [HA.out, HBm.out, HDD.out] at he; subst he; obtain ⟨hz, hc, hf⟩ := bcell hb (by first | (simp only [World.size_alloc, World.size_setCell, World.size_drew, size_drewN]; rfl) | rfl); have hB := below_call (B := w.heap.size) (w := w) (by go_grown) hb (Nat.le_refl _); have hal := below_call (B := w.heap.size + 2) (w := ((w.alloc (.cells #[.int .i64 S.modes, .int .u8 S.acc, .slice a S.rules.length cap] 33)).alloc (.cells #[.slice d D.length cd, .slice t T.length ct, .slice e E.length ce] 40))) (by go_grown) hb (by simp); clear hb) | fail)
            go_roundw
            case rel => exact ⟨k + 1, by omega, by go_num, ok_succ HOK.out HOK2.out, hal⟩
            case measure => simp [intOf]; omega
          | false =>
            have HF := Lib.hid (pf_dead (S := S) (T := T) (E := E) hlt HOKk.out)
            go_wp2_with (first | (go_at_call 24; refine (rdead_any S a cap n _ (HR.out.later (by first | exact hB | go_grown) (Nat.le_refl _)) HFit.out hnl).mono ?_; rintro ee w3 ⟨he, hb⟩; rw [HA.out, HBm.out, HDD.out] at he; subst he; obtain ⟨hz, hc, hf⟩ := bcell hb (by first | (simp only [World.size_alloc, World.size_setCell, World.size_drew, size_drewN]; rfl) | rfl); have hB := below_call (B := w.heap.size) (w := w) (by go_grown) hb (Nat.le_refl _); have hal := below_call (B := w.heap.size + 2) (w := ((w.alloc (.cells #[.int .i64 S.modes, .int .u8 S.acc, .slice a S.rules.length cap] 33)).alloc (.cells #[.slice d D.length cd, .slice t T.length ct, .slice e E.length ce] 40))) (by go_grown) hb (by simp); clear hb) | fail)
            go_ret
            exact ⟨ret_bool HF.out.symm, hB⟩
        · obtain ⟨j, hj⟩ : ∃ j, k = j + 1 := ⟨k - 1, by omega⟩
          have hjl : j < D.length := by omega
          obtain ⟨b3, o3, ha3, hb3, q3'⟩ := (HD.out.later hB (Nat.le_refl _)).at (k := j) hjl
          have hidx3 : ∀ W : World, (Instr.indexAt 38 (.slice d D.length cd) (.int .i64 ((k : Int) - 1))).run Try.prog W = .ok (.pointer (some ⟨b3, o3 + j, none⟩)) W := fun W => by
            rw [show ((k : Int) - 1) = (j : Int) by omega]; exact idx_ints d b3 o3 D.length cd j ha3 hjl W
          have hgj : Hid (D.getD (k - 1) 0 = D[j]) := by show _ = _; rw [hj, Nat.add_sub_cancel]; exact getD_at hjl
          have hk0' : (0 : Int) < (k : Int) := by omega
          have HJ := Lib.hid hj
          have HK0 := Lib.hid hk0
          clear ha3 hj hk0
          by_cases hp : (n : Int) ≤ D[j]
          · have HF := Lib.hid (pf_dead (S := S) (T := T) (E := E) hlt (by rw [HOKv.out, hgj.out, decide_eq_false HK0.out, decide_eq_false (by omega)]; simp))
            go_wp2_with (first | (go_at_call 24; refine (rdead_any S a cap n _ (HR.out.later (by first | exact hB | go_grown) (Nat.le_refl _)) HFit.out hnl).mono ?_; rintro ee w3 ⟨he, hb⟩; rw [HA.out, HBm.out, HDD.out] at he; subst he; obtain ⟨hz, hc, hf⟩ := bcell hb (by first | (simp only [World.size_alloc, World.size_setCell, World.size_drew, size_drewN]; rfl) | rfl); have hB := below_call (B := w.heap.size) (w := w) (by go_grown) hb (Nat.le_refl _); have hal := below_call (B := w.heap.size + 2) (w := ((w.alloc (.cells #[.int .i64 S.modes, .int .u8 S.acc, .slice a S.rules.length cap] 33)).alloc (.cells #[.slice d D.length cd, .slice t T.length ct, .slice e E.length ce] 40))) (by go_grown) hb (by simp); clear hb) | fail)
            go_ret
            exact ⟨ret_bool HF.out.symm, hB⟩
          · have HOKk : Hid (okAt S D k = dd) := by show _ = _; rw [HOKv.out, hgj.out, decide_eq_true (show D[j] < (n : Int) by omega)]; simp
            cases dd with
            | true =>
              have HOK2 : Hid (okAt S D k = true) := HOKk.out
              go_wp2_with (first | (go_at_call 24; refine (rdead_any S a cap n _ (HR.out.later (by first | exact hB | go_grown) (Nat.le_refl _)) HFit.out hnl).mono ?_; rintro ee w3 ⟨he, hb⟩; rw [HA.out, HBm.out, HDD.out] at he; subst he; obtain ⟨hz, hc, hf⟩ := bcell hb (by first | (simp only [World.size_alloc, World.size_setCell, World.size_drew, size_drewN]; rfl) | rfl); have hB := below_call (B := w.heap.size) (w := w) (by go_grown) hb (Nat.le_refl _); have hal := below_call (B := w.heap.size + 2) (w := ((w.alloc (.cells #[.int .i64 S.modes, .int .u8 S.acc, .slice a S.rules.length cap] 33)).alloc (.cells #[.slice d D.length cd, .slice t T.length ct, .slice e E.length ce] 40))) (by go_grown) hb (by simp); clear hb) | fail)
              go_roundw
              case rel => exact ⟨k + 1, by omega, by go_num, ok_succ HOK.out HOK2.out, hal⟩
              case measure => simp [intOf]; omega
            | false =>
              have HF := Lib.hid (pf_dead (S := S) (T := T) (E := E) hlt HOKk.out)
              go_wp2_with (first | (go_at_call 24; refine (rdead_any S a cap n _ (HR.out.later (by first | exact hB | go_grown) (Nat.le_refl _)) HFit.out hnl).mono ?_; rintro ee w3 ⟨he, hb⟩; rw [HA.out, HBm.out, HDD.out] at he; subst he; obtain ⟨hz, hc, hf⟩ := bcell hb (by first | (simp only [World.size_alloc, World.size_setCell, World.size_drew, size_drewN]; rfl) | rfl); have hB := below_call (B := w.heap.size) (w := w) (by go_grown) hb (Nat.le_refl _); have hal := below_call (B := w.heap.size + 2) (w := ((w.alloc (.cells #[.int .i64 S.modes, .int .u8 S.acc, .slice a S.rules.length cap] 33)).alloc (.cells #[.slice d D.length cd, .slice t T.length ct, .slice e E.length ce] 40))) (by go_grown) hb (by simp); clear hb) | fail)
              go_ret
              exact ⟨ret_bool HF.out.symm, hB⟩
      · obtain rfl : k = D.length := by omega
        go_upto_if 58 with (fail)
        go_cut [] (fun wx => ∃ wz : World, wz = wx ∧ stuckOk S T = true ∧ Below (w.heap.size + 2) ((w.alloc (.cells #[.int .i64 S.modes, .int .u8 S.acc, .slice a S.rules.length cap] 33)).alloc (.cells #[.slice d D.length cd, .slice t T.length ct, .slice e E.length ce] 40)) wz)
        case first =>
          have tok0 : True := trivial
          rcases stuck_cases S A B T HA.out HBm.out hFit with hT1 | hT2 | hT3 | hT4 | hT5
          · have HF := Lib.hid (pf_stuck (S := S) (D := D) (E := E) hT1.2.2)
            have hTp : 0 < T.length := hT1.1
            have HFT := Lib.hid hT1.2.1
            have hTpI : (0 : Int) < (T.length : Int) := by omega
            clear hT1
            go_wp2_with (first | (go_at_call 21; refine (chain_any S a cap 0 t T.length ct T _ rfl (HR.out.later (by first | exact hB | go_grown) (Nat.le_refl _)) hlen (HT.out.later (by first | exact hB | go_grown) (Nat.le_refl _)) hTl).mono ?_; rintro ee w5 ⟨he, hb⟩; rw [HFT.out] at he; simp only [optV] at he; subst he; obtain ⟨hz, hc, hf⟩ := bcell hb (by first | (simp only [World.size_alloc, World.size_setCell, World.size_drew, size_drewN]; rfl) | rfl); have hB := below_call (B := w.heap.size) (w := w) (by go_grown) hb (Nat.le_refl _); have hal := below_call (B := w.heap.size + 2) (w := ((w.alloc (.cells #[.int .i64 S.modes, .int .u8 S.acc, .slice a S.rules.length cap] 33)).alloc (.cells #[.slice d D.length cd, .slice t T.length ct, .slice e E.length ce] 40))) (by go_grown) hb (by simp); clear hb) | fail)
            go_ret
            exact ⟨ret_bool HF.out.symm, hB⟩
          · obtain ⟨hTp, t1, hft, hb0, -, -, hF⟩ := hT2
            have hTpI : (0 : Int) < (T.length : Int) := by omega
            have HF := Lib.hid (pf_stuck (S := S) (D := D) (E := E) hF)
            have HFT := Lib.hid hft; have HB0 := Lib.hid hb0
            clear hft hb0 hF
            go_wp2_with (first | (go_at_call 21; refine (chain_any S a cap 0 t T.length ct T _ rfl (HR.out.later (by first | exact hB | go_grown) (Nat.le_refl _)) hlen (HT.out.later (by first | exact hB | go_grown) (Nat.le_refl _)) hTl).mono ?_; rintro ee w5 ⟨he, hb⟩; rw [HFT.out] at he; simp only [optV] at he; subst he; obtain ⟨hz, hc, hf⟩ := bcell hb (by first | (simp only [World.size_alloc, World.size_setCell, World.size_drew, size_drewN]; rfl) | rfl); have hB := below_call (B := w.heap.size) (w := w) (by go_grown) hb (Nat.le_refl _); have hal := below_call (B := w.heap.size + 2) (w := ((w.alloc (.cells #[.int .i64 S.modes, .int .u8 S.acc, .slice a S.rules.length cap] 33)).alloc (.cells #[.slice d D.length cd, .slice t T.length ct, .slice e E.length ce] 40))) (by go_grown) hb (by simp); clear hb) | (go_at_call 25; refine (rlive_any S a cap _ (HR.out.later (by first | exact hB | go_grown) (Nat.le_refl _)) HFit.out).mono ?_; rintro ee w8 ⟨v, rfl, ⟨g3, hv, hg3, hmask⟩, hb⟩; rw [HM.out, HBm.out] at hmask; rw [HM.out] at hv; subst hv; have hq3 := mask_cell hmask (i := 0) (by omega); rw [HB0.out] at hq3; clear hmask tok0; obtain ⟨hz, hc, hf⟩ := bcell hb (by first | (simp only [World.size_alloc, World.size_setCell, World.size_drew, size_drewN]; rfl) | rfl); have hB := below_call (B := w.heap.size) (w := w) (by go_grown) hb (Nat.le_refl _); have hal := below_call (B := w.heap.size + 2) (w := ((w.alloc (.cells #[.int .i64 S.modes, .int .u8 S.acc, .slice a S.rules.length cap] 33)).alloc (.cells #[.slice d D.length cd, .slice t T.length ct, .slice e E.length ce] 40))) (by go_grown) hb (by simp); clear hb) | fail)
            go_ret
            exact ⟨ret_bool HF.out.symm, hB⟩
          · obtain ⟨hTp, t1, hft, hb0, htb, ht0, ht1, hF⟩ := hT3
            have hTpI : (0 : Int) < (T.length : Int) := by omega
            have ht2 : t1 < (mm : Int) := by have := HMM.out; have := follow_bd2 HFit.out _ _ _ (by intro h; rw [h] at hTp; simp at hTp) hft; omega
            have HF := Lib.hid (pf_stuck (S := S) (D := D) (E := E) hF)
            have HFT := Lib.hid hft; have HB0 := Lib.hid hb0; have HBt := Lib.hid htb
            clear hft hb0 htb hF
            go_wp2_with (first | (go_at_call 21; refine (chain_any S a cap 0 t T.length ct T _ rfl (HR.out.later (by first | exact hB | go_grown) (Nat.le_refl _)) hlen (HT.out.later (by first | exact hB | go_grown) (Nat.le_refl _)) hTl).mono ?_; rintro ee w5 ⟨he, hb⟩; rw [HFT.out] at he; simp only [optV] at he; subst he; obtain ⟨hz, hc, hf⟩ := bcell hb (by first | (simp only [World.size_alloc, World.size_setCell, World.size_drew, size_drewN]; rfl) | rfl); have hB := below_call (B := w.heap.size) (w := w) (by go_grown) hb (Nat.le_refl _); have hal := below_call (B := w.heap.size + 2) (w := ((w.alloc (.cells #[.int .i64 S.modes, .int .u8 S.acc, .slice a S.rules.length cap] 33)).alloc (.cells #[.slice d D.length cd, .slice t T.length ct, .slice e E.length ce] 40))) (by go_grown) hb (by simp); clear hb) | (go_at_call 25; refine (rlive_any S a cap _ (HR.out.later (by first | exact hB | go_grown) (Nat.le_refl _)) HFit.out).mono ?_; rintro ee w8 ⟨v, rfl, ⟨g3, hv, hg3, hmask⟩, hb⟩; rw [HM.out, HBm.out] at hmask; rw [HM.out] at hv; subst hv; have hq3 := mask_cell hmask (i := 0) (by omega); rw [HB0.out] at hq3; clear hmask tok0; obtain ⟨hz, hc, hf⟩ := bcell hb (by first | (simp only [World.size_alloc, World.size_setCell, World.size_drew, size_drewN]; rfl) | rfl); have hB := below_call (B := w.heap.size) (w := w) (by go_grown) hb (Nat.le_refl _); have hal := below_call (B := w.heap.size + 2) (w := ((w.alloc (.cells #[.int .i64 S.modes, .int .u8 S.acc, .slice a S.rules.length cap] 33)).alloc (.cells #[.slice d D.length cd, .slice t T.length ct, .slice e E.length ce] 40))) (by go_grown) hb (by simp); clear hb) | (go_at_call 25; refine (rlive_any S a cap _ (HR.out.later (by first | exact hB | go_grown) (Nat.le_refl _)) HFit.out).mono ?_; rintro ee w9 ⟨v, rfl, ⟨g4, hv, hg4, hmask⟩, hb⟩; rw [HM.out, HBm.out] at hmask; rw [HM.out] at hv; subst hv; have hq4 := mask_cell hmask (i := t1.toNat) (by omega); rw [HBt.out] at hq4; clear hmask; obtain ⟨hz, hc, hf⟩ := bcell hb (by first | (simp only [World.size_alloc, World.size_setCell, World.size_drew, size_drewN]; rfl) | rfl); have hB := below_call (B := w.heap.size) (w := w) (by go_grown) hb (Nat.le_refl _); have hal := below_call (B := w.heap.size + 2) (w := ((w.alloc (.cells #[.int .i64 S.modes, .int .u8 S.acc, .slice a S.rules.length cap] 33)).alloc (.cells #[.slice d D.length cd, .slice t T.length ct, .slice e E.length ce] 40))) (by go_grown) hb (by simp); clear hb) | fail)
            go_ret
            exact ⟨ret_bool HF.out.symm, hB⟩
          · obtain ⟨hTz, hTok⟩ := hT4
            have HTK := Lib.hid hTok
            have HTZ := Lib.hid hTz
            have hTz' : ¬ (0 : Int) < (T.length : Int) := by omega
            clear hTok hTz
            go_wp2_with fail
            go_meet
            exact ⟨_, rfl, HTK.out, hal⟩
          · obtain ⟨hTp, t1, hft, hb0, htb, ht0, ht1, hTok⟩ := hT5
            have hTpI : (0 : Int) < (T.length : Int) := by omega
            have ht2 : t1 < (mm : Int) := by have := HMM.out; have := follow_bd2 HFit.out _ _ _ (by intro h; rw [h] at hTp; simp at hTp) hft; omega
            have HTK := Lib.hid hTok
            have HFT := Lib.hid hft; have HB0 := Lib.hid hb0; have HBt := Lib.hid htb
            clear hft hb0 htb hTok
            go_wp2_with (first | (go_at_call 21; refine (chain_any S a cap 0 t T.length ct T _ rfl (HR.out.later (by first | exact hB | go_grown) (Nat.le_refl _)) hlen (HT.out.later (by first | exact hB | go_grown) (Nat.le_refl _)) hTl).mono ?_; rintro ee w5 ⟨he, hb⟩; rw [HFT.out] at he; simp only [optV] at he; subst he; obtain ⟨hz, hc, hf⟩ := bcell hb (by first | (simp only [World.size_alloc, World.size_setCell, World.size_drew, size_drewN]; rfl) | rfl); have hB := below_call (B := w.heap.size) (w := w) (by go_grown) hb (Nat.le_refl _); have hal := below_call (B := w.heap.size + 2) (w := ((w.alloc (.cells #[.int .i64 S.modes, .int .u8 S.acc, .slice a S.rules.length cap] 33)).alloc (.cells #[.slice d D.length cd, .slice t T.length ct, .slice e E.length ce] 40))) (by go_grown) hb (by simp); clear hb) | (go_at_call 25; refine (rlive_any S a cap _ (HR.out.later (by first | exact hB | go_grown) (Nat.le_refl _)) HFit.out).mono ?_; rintro ee w8 ⟨v, rfl, ⟨g3, hv, hg3, hmask⟩, hb⟩; rw [HM.out, HBm.out] at hmask; rw [HM.out] at hv; subst hv; have hq3 := mask_cell hmask (i := 0) (by omega); rw [HB0.out] at hq3; clear hmask tok0; obtain ⟨hz, hc, hf⟩ := bcell hb (by first | (simp only [World.size_alloc, World.size_setCell, World.size_drew, size_drewN]; rfl) | rfl); have hB := below_call (B := w.heap.size) (w := w) (by go_grown) hb (Nat.le_refl _); have hal := below_call (B := w.heap.size + 2) (w := ((w.alloc (.cells #[.int .i64 S.modes, .int .u8 S.acc, .slice a S.rules.length cap] 33)).alloc (.cells #[.slice d D.length cd, .slice t T.length ct, .slice e E.length ce] 40))) (by go_grown) hb (by simp); clear hb) | (go_at_call 25; refine (rlive_any S a cap _ (HR.out.later (by first | exact hB | go_grown) (Nat.le_refl _)) HFit.out).mono ?_; rintro ee w9 ⟨v, rfl, ⟨g4, hv, hg4, hmask⟩, hb⟩; rw [HM.out, HBm.out] at hmask; rw [HM.out] at hv; subst hv; have hq4 := mask_cell hmask (i := t1.toNat) (by omega); rw [HBt.out] at hq4; clear hmask; obtain ⟨hz, hc, hf⟩ := bcell hb (by first | (simp only [World.size_alloc, World.size_setCell, World.size_drew, size_drewN]; rfl) | rfl); have hB := below_call (B := w.heap.size) (w := w) (by go_grown) hb (Nat.le_refl _); have hal := below_call (B := w.heap.size + 2) (w := ((w.alloc (.cells #[.int .i64 S.modes, .int .u8 S.acc, .slice a S.rules.length cap] 33)).alloc (.cells #[.slice d D.length cd, .slice t T.length ct, .slice e E.length ce] 40))) (by go_grown) hb (by simp); clear hb) | fail)
            go_meet
            exact ⟨_, rfl, HTK.out, hal⟩
        case rest =>
          clear hB hal hz hc hf
          obtain ⟨wx, rfl, hTok, hal⟩ := hcut
          have HTK := Lib.hid hTok
          have hB : Below w.heap.size w wx := (((Below.refl _ _).alloc (Nat.le_refl _) _).alloc (by simp) _).trans (hal.mono (by omega))
          obtain ⟨hz, hc, hf⟩ := bcellB hal rfl
          simp only [World.size_alloc] at hz
          clear hTok
          by_cases hE0 : E.length = 0
          · have HF : Hid (provesF S D T E = true) := pf_true HV.out HOK.out HTK.out (by rw [endOk, List.eq_nil_of_length_eq_zero hE0]; rfl)
            have hEz : ((E.length : Int) == 0) = true := by simp [hE0]
            clear hE0
            go_wp2_with fail
            go_ret
            exact ⟨ret_bool HF.out.symm, hB⟩
          have hEl0 : 0 < E.length := by omega
          have hEz : ((E.length : Int) == 0) = false := by simp; exact fun h => by rw [h] at hEl0; simp at hEl0
          clear hE0
          obtain ⟨ek, hek⟩ : ∃ ek, endOk S E = ek := ⟨_, rfl⟩
          have HEK := Lib.hid hek
          have HF : Hid (provesF S D T E = ek) := by
            cases ek with
            | true => exact pf_true HV.out HOK.out HTK.out hek
            | false => exact pf_end hek
          clear hek
          go_wp2_with (first | (go_at_call 48; refine (circle_any S a cap e E.length ce E _ rfl (HR.out.later (by first | exact hB | go_grown) (Nat.le_refl _)) HFit.out (HE.out.later (by first | exact hB | go_grown) (Nat.le_refl _)) hEl0 hEl).mono ?_; rintro ee w10 ⟨he, hb⟩; rw [HEK.out] at he; subst he; obtain ⟨hz, hc, hf⟩ := bcell hb (by first | (simp only [World.size_alloc, World.size_setCell, World.size_drew, size_drewN]; rfl) | rfl); have hB := below_call (B := w.heap.size) (w := w) (by go_grown) hb (Nat.le_refl _); have hal := below_call (B := w.heap.size + 2) (w := ((w.alloc (.cells #[.int .i64 S.modes, .int .u8 S.acc, .slice a S.rules.length cap] 33)).alloc (.cells #[.slice d D.length cd, .slice t T.length ct, .slice e E.length ce] 40))) (by go_grown) hb (by simp); clear hb) | fail)
          go_ret
          exact ⟨ret_bool HF.out.symm, hB⟩
  · have hv' : validB S = false := by simpa using hv
    have HV := Lib.hid hv'
    have HF : Hid (provesF S D T E = false) := by show _ = _; rw [provesF, hv']; rfl
    clear hv hv'
    go_enter Try.func19, Try.ntmps19
    go_wp2_with (first | (go_at_call 29; refine (rvalid_any S a cap _ (HR.out.later (by first | exact hB | go_grown) (Nat.le_refl _)) h0 h1 hl).mono ?_; rintro ee w1 ⟨he, hb⟩; rw [HV.out] at he; subst he; obtain ⟨hz, hc, hf⟩ := bcell hb (by first | (simp only [World.size_alloc, World.size_setCell, World.size_drew, size_drewN]; rfl) | rfl); have hB := below_call (B := w.heap.size) (w := w) (by go_grown) hb (Nat.le_refl _); have hal := below_call (B := w.heap.size + 2) (w := ((w.alloc (.cells #[.int .i64 S.modes, .int .u8 S.acc, .slice a S.rules.length cap] 33)).alloc (.cells #[.slice d D.length cd, .slice t T.length ct, .slice e E.length ce] 40))) (by go_grown) hb (by simp); clear hb))
    go_ret
    exact ⟨ret_bool HF.out.symm, hB⟩
end Go.Proofs.Ytogjcfcfgnbmkaa
