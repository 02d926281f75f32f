/- Contract of reference 04: Sound. -/
import Derived.Test.YtogjcfcfgnbmkaaRefH
namespace Go.Proofs.Ytogjcfcfgnbmkaa
open Go.RowKit
set_option linter.unusedVariables false
set_option linter.unusedSimpArgs false

open Classical in
noncomputable def rsoundF (S : Sch) : Int :=
  if validB S = true then (if (liveS S).testBit 0 = true then (if rstuckF S = [] then (if rendF S = [] then 0 else 41) else 40) else 50) else 20
theorem len_pos {l : List Nat} (h : l ≠ []) : 0 < l.length := by rcases l with _ | ⟨x, l⟩; exact absurd rfl h; simp

set_option maxHeartbeats 3200000 in
theorem rsound_any (S : Sch) (a : Option Addr) (cap : Nat) (w : World) (hR : RulS w a S.rules) (h0 : 0 ≤ S.acc) (h1 : S.acc ≤ 255) (hl : S.rules.length ≤ 9223372036854775807) (hS : validB S = true → Fit S) :
    Calls Try.prog 17 #[.agg #[.int .i64 S.modes, .int .u8 S.acc, .slice a S.rules.length cap]] w fun e w' => e = .returned (.int .i64 (rsoundF S)) ∧ Below w.heap.size w w' := by
  have HR := Lib.hid hR; have HS := Lib.hid hS; clear hR hS
  by_cases hv : validB S = true
  · have hFit := HS.out hv
    have HFit := Lib.hid hFit
    have HV := Lib.hid hv
    have m0 := hFit.m0; have m1 := hFit.m1
    obtain ⟨mm, hmm⟩ := Int.eq_ofNat_of_zero_le (show 0 ≤ S.modes by omega)
    have HM : Hid (S.modes.toNat = mm) := by show _ = _; omega
    have hmm0 : 0 < mm := by omega
    obtain ⟨l0, hl0⟩ : ∃ l0, (liveS S).testBit 0 = l0 := ⟨_, rfl⟩
    have HF : Hid (rfindF S = ⟨deadF S S.rules.length, rstuckF S, rendF S⟩) := by show _ = _; rw [rfindF, if_pos hv]
    have HE0 : Hid (rsoundF S = if l0 = true then (if rstuckF S = [] then (if rendF S = [] then 0 else 41) else 40) else 50) := by show _ = _; rw [rsoundF, if_pos hv, hl0]
    have HL0 := Lib.hid hl0
    clear hmm hl0 hv hFit
    by_cases hst : rstuckF S = []
    · have HL2 : Hid (∀ n, n = (rstuckF S).length → ¬ (0 : Int) < (n : Int)) := fun n h => by rw [hst] at h; simp at h; omega
      have HST := Lib.hid hst
      clear hst
      by_cases hen : rendF S = []
      · have HL3 : Hid (∀ n, n = (rendF S).length → ¬ (0 : Int) < (n : Int)) := fun n h => by rw [hen] at h; simp at h; omega
        have HEN := Lib.hid hen
        clear hen
        cases l0 with
        | false =>
          have HE : Hid (50 = rsoundF S) := by show _ = _; rw [HE0.out]; rfl
          go_enter Try.func17, Try.ntmps17
          go_wp2_with (first | (go_at_call 29; refine (rvalid_any S a cap _ (HR.out.later (by first | exact hB | go_grown) (Nat.le_refl _)) h0 h1 hl).mono ?_; rintro e w1 ⟨he, hb⟩; rw [HV.out] at he; subst he; obtain ⟨hz, hc, hf⟩ := bcell hb (by first | (simp only [World.size_alloc, World.size_setCell, World.size_drew]; rfl) | rfl); have hB := below_call (B := w.heap.size) (w := w) (by first | exact hB | go_grown) hb (Nat.le_refl _); clear hb) | (go_at_call 15; refine (rfind_any S a cap _ (HR.out.later (by first | exact hB | go_grown) (Nat.le_refl _)) h0 h1 hl HS.out).mono ?_; rintro e w2 ⟨v1, v2, v3, rfl, hd1, hd2, hd3, hb⟩; obtain ⟨a1, n1, c1, hv1⟩ := hd1.form; obtain ⟨a2, n2, c2, hv2⟩ := hd2.form; obtain ⟨a3, n3, c3, hv3⟩ := hd3.form; subst hv1 hv2 hv3; have hn2 := hd2.sls.2; have hn3 := hd3.sls.2; rw [HF.out] at hn2 hn3; have HN2 := Lib.hid hn2; have HN3 := Lib.hid hn3; have hl2 := HL2.out n2 hn2; have hl3 := HL3.out n3 hn3; clear hd1 hd2 hd3 hn2 hn3; obtain ⟨hz, hc, hf⟩ := bcell hb (by first | (simp only [World.size_alloc, World.size_setCell, World.size_drew]; rfl) | rfl); have hB := below_call (B := w.heap.size) (w := w) (by first | exact hB | go_grown) hb (Nat.le_refl _); clear hb) | (go_at_call 25; refine (rlive_any S a cap _ (HR.out.later (by first | exact hB.alloc (by have := hB.size; omega) _ | exact hB | go_grown) (Nat.le_refl _)) HFit.out).mono ?_; rintro e w3 ⟨v, rfl, ⟨g3, hv, hg3, hmask⟩, hb⟩; rw [HM.out] at hv hmask; subst hv; have hq3 := mask_cell hmask (i := 0) (by omega); rw [HL0.out] at hq3; clear hmask; obtain ⟨hz, hc, hf⟩ := bcell hb (by first | (simp only [World.size_alloc, World.size_setCell, World.size_drew]; rfl) | rfl); have hB := below_call (B := w.heap.size) (w := w) (by go_grown) hb (Nat.le_refl _); clear hb) | fail)
          go_ret
          exact ⟨ret_int HE.out, hB⟩
        | true =>
          have HE : Hid (0 = rsoundF S) := by show _ = _; rw [HE0.out, if_pos rfl, if_pos HST.out, if_pos HEN.out]
          go_enter Try.func17, Try.ntmps17
          go_wp2_with (first | (go_at_call 29; refine (rvalid_any S a cap _ (HR.out.later (by first | exact hB | go_grown) (Nat.le_refl _)) h0 h1 hl).mono ?_; rintro e w1 ⟨he, hb⟩; rw [HV.out] at he; subst he; obtain ⟨hz, hc, hf⟩ := bcell hb (by first | (simp only [World.size_alloc, World.size_setCell, World.size_drew]; rfl) | rfl); have hB := below_call (B := w.heap.size) (w := w) (by first | exact hB | go_grown) hb (Nat.le_refl _); clear hb) | (go_at_call 15; refine (rfind_any S a cap _ (HR.out.later (by first | exact hB | go_grown) (Nat.le_refl _)) h0 h1 hl HS.out).mono ?_; rintro e w2 ⟨v1, v2, v3, rfl, hd1, hd2, hd3, hb⟩; obtain ⟨a1, n1, c1, hv1⟩ := hd1.form; obtain ⟨a2, n2, c2, hv2⟩ := hd2.form; obtain ⟨a3, n3, c3, hv3⟩ := hd3.form; subst hv1 hv2 hv3; have hn2 := hd2.sls.2; have hn3 := hd3.sls.2; rw [HF.out] at hn2 hn3; have HN2 := Lib.hid hn2; have HN3 := Lib.hid hn3; have hl2 := HL2.out n2 hn2; have hl3 := HL3.out n3 hn3; clear hd1 hd2 hd3 hn2 hn3; obtain ⟨hz, hc, hf⟩ := bcell hb (by first | (simp only [World.size_alloc, World.size_setCell, World.size_drew]; rfl) | rfl); have hB := below_call (B := w.heap.size) (w := w) (by first | exact hB | go_grown) hb (Nat.le_refl _); clear hb) | (go_at_call 25; refine (rlive_any S a cap _ (HR.out.later (by first | exact hB.alloc (by have := hB.size; omega) _ | exact hB | go_grown) (Nat.le_refl _)) HFit.out).mono ?_; rintro e w3 ⟨v, rfl, ⟨g3, hv, hg3, hmask⟩, hb⟩; rw [HM.out] at hv hmask; subst hv; have hq3 := mask_cell hmask (i := 0) (by omega); rw [HL0.out] at hq3; clear hmask; obtain ⟨hz, hc, hf⟩ := bcell hb (by first | (simp only [World.size_alloc, World.size_setCell, World.size_drew]; rfl) | rfl); have hB := below_call (B := w.heap.size) (w := w) (by go_grown) hb (Nat.le_refl _); clear hb) | fail)
          go_ret
          exact ⟨ret_int HE.out, hB⟩
      · have HL3 : Hid (∀ n, n = (rendF S).length → (0 : Int) < (n : Int)) := fun n h => by have := len_pos hen; omega
        have HEN := Lib.hid hen
        clear hen
        cases l0 with
        | false =>
          have HE : Hid (50 = rsoundF S) := by show _ = _; rw [HE0.out]; rfl
          go_enter Try.func17, Try.ntmps17
          go_wp2_with (first | (go_at_call 29; refine (rvalid_any S a cap _ (HR.out.later (by first | exact hB | go_grown) (Nat.le_refl _)) h0 h1 hl).mono ?_; rintro e w1 ⟨he, hb⟩; rw [HV.out] at he; subst he; obtain ⟨hz, hc, hf⟩ := bcell hb (by first | (simp only [World.size_alloc, World.size_setCell, World.size_drew]; rfl) | rfl); have hB := below_call (B := w.heap.size) (w := w) (by first | exact hB | go_grown) hb (Nat.le_refl _); clear hb) | (go_at_call 15; refine (rfind_any S a cap _ (HR.out.later (by first | exact hB | go_grown) (Nat.le_refl _)) h0 h1 hl HS.out).mono ?_; rintro e w2 ⟨v1, v2, v3, rfl, hd1, hd2, hd3, hb⟩; obtain ⟨a1, n1, c1, hv1⟩ := hd1.form; obtain ⟨a2, n2, c2, hv2⟩ := hd2.form; obtain ⟨a3, n3, c3, hv3⟩ := hd3.form; subst hv1 hv2 hv3; have hn2 := hd2.sls.2; have hn3 := hd3.sls.2; rw [HF.out] at hn2 hn3; have HN2 := Lib.hid hn2; have HN3 := Lib.hid hn3; have hl2 := HL2.out n2 hn2; have hl3 := HL3.out n3 hn3; clear hd1 hd2 hd3 hn2 hn3; obtain ⟨hz, hc, hf⟩ := bcell hb (by first | (simp only [World.size_alloc, World.size_setCell, World.size_drew]; rfl) | rfl); have hB := below_call (B := w.heap.size) (w := w) (by first | exact hB | go_grown) hb (Nat.le_refl _); clear hb) | (go_at_call 25; refine (rlive_any S a cap _ (HR.out.later (by first | exact hB.alloc (by have := hB.size; omega) _ | exact hB | go_grown) (Nat.le_refl _)) HFit.out).mono ?_; rintro e w3 ⟨v, rfl, ⟨g3, hv, hg3, hmask⟩, hb⟩; rw [HM.out] at hv hmask; subst hv; have hq3 := mask_cell hmask (i := 0) (by omega); rw [HL0.out] at hq3; clear hmask; obtain ⟨hz, hc, hf⟩ := bcell hb (by first | (simp only [World.size_alloc, World.size_setCell, World.size_drew]; rfl) | rfl); have hB := below_call (B := w.heap.size) (w := w) (by go_grown) hb (Nat.le_refl _); clear hb) | fail)
          go_ret
          exact ⟨ret_int HE.out, hB⟩
        | true =>
          have HE : Hid (41 = rsoundF S) := by show _ = _; rw [HE0.out, if_pos rfl, if_pos HST.out, if_neg HEN.out]
          go_enter Try.func17, Try.ntmps17
          go_wp2_with (first | (go_at_call 29; refine (rvalid_any S a cap _ (HR.out.later (by first | exact hB | go_grown) (Nat.le_refl _)) h0 h1 hl).mono ?_; rintro e w1 ⟨he, hb⟩; rw [HV.out] at he; subst he; obtain ⟨hz, hc, hf⟩ := bcell hb (by first | (simp only [World.size_alloc, World.size_setCell, World.size_drew]; rfl) | rfl); have hB := below_call (B := w.heap.size) (w := w) (by first | exact hB | go_grown) hb (Nat.le_refl _); clear hb) | (go_at_call 15; refine (rfind_any S a cap _ (HR.out.later (by first | exact hB | go_grown) (Nat.le_refl _)) h0 h1 hl HS.out).mono ?_; rintro e w2 ⟨v1, v2, v3, rfl, hd1, hd2, hd3, hb⟩; obtain ⟨a1, n1, c1, hv1⟩ := hd1.form; obtain ⟨a2, n2, c2, hv2⟩ := hd2.form; obtain ⟨a3, n3, c3, hv3⟩ := hd3.form; subst hv1 hv2 hv3; have hn2 := hd2.sls.2; have hn3 := hd3.sls.2; rw [HF.out] at hn2 hn3; have HN2 := Lib.hid hn2; have HN3 := Lib.hid hn3; have hl2 := HL2.out n2 hn2; have hl3 := HL3.out n3 hn3; clear hd1 hd2 hd3 hn2 hn3; obtain ⟨hz, hc, hf⟩ := bcell hb (by first | (simp only [World.size_alloc, World.size_setCell, World.size_drew]; rfl) | rfl); have hB := below_call (B := w.heap.size) (w := w) (by first | exact hB | go_grown) hb (Nat.le_refl _); clear hb) | (go_at_call 25; refine (rlive_any S a cap _ (HR.out.later (by first | exact hB.alloc (by have := hB.size; omega) _ | exact hB | go_grown) (Nat.le_refl _)) HFit.out).mono ?_; rintro e w3 ⟨v, rfl, ⟨g3, hv, hg3, hmask⟩, hb⟩; rw [HM.out] at hv hmask; subst hv; have hq3 := mask_cell hmask (i := 0) (by omega); rw [HL0.out] at hq3; clear hmask; obtain ⟨hz, hc, hf⟩ := bcell hb (by first | (simp only [World.size_alloc, World.size_setCell, World.size_drew]; rfl) | rfl); have hB := below_call (B := w.heap.size) (w := w) (by go_grown) hb (Nat.le_refl _); clear hb) | fail)
          go_ret
          exact ⟨ret_int HE.out, hB⟩
    · have HL2 : Hid (∀ n, n = (rstuckF S).length → (0 : Int) < (n : Int)) := fun n h => by have := len_pos hst; omega
      have HL3 : Hid (∀ n : Nat, n = (rendF S).length → True) := fun _ _ => trivial
      have HST := Lib.hid hst
      clear hst
      cases l0 with
      | false =>
        have HE : Hid (50 = rsoundF S) := by show _ = _; rw [HE0.out]; rfl
        go_enter Try.func17, Try.ntmps17
        go_wp2_with (first | (go_at_call 29; refine (rvalid_any S a cap _ (HR.out.later (by first | exact hB | go_grown) (Nat.le_refl _)) h0 h1 hl).mono ?_; rintro e w1 ⟨he, hb⟩; rw [HV.out] at he; subst he; obtain ⟨hz, hc, hf⟩ := bcell hb (by first | (simp only [World.size_alloc, World.size_setCell, World.size_drew]; rfl) | rfl); have hB := below_call (B := w.heap.size) (w := w) (by first | exact hB | go_grown) hb (Nat.le_refl _); clear hb) | (go_at_call 15; refine (rfind_any S a cap _ (HR.out.later (by first | exact hB | go_grown) (Nat.le_refl _)) h0 h1 hl HS.out).mono ?_; rintro e w2 ⟨v1, v2, v3, rfl, hd1, hd2, hd3, hb⟩; obtain ⟨a1, n1, c1, hv1⟩ := hd1.form; obtain ⟨a2, n2, c2, hv2⟩ := hd2.form; obtain ⟨a3, n3, c3, hv3⟩ := hd3.form; subst hv1 hv2 hv3; have hn2 := hd2.sls.2; have hn3 := hd3.sls.2; rw [HF.out] at hn2 hn3; have HN2 := Lib.hid hn2; have HN3 := Lib.hid hn3; have hl2 := HL2.out n2 hn2; have hl3 := HL3.out n3 hn3; clear hd1 hd2 hd3 hn2 hn3; obtain ⟨hz, hc, hf⟩ := bcell hb (by first | (simp only [World.size_alloc, World.size_setCell, World.size_drew]; rfl) | rfl); have hB := below_call (B := w.heap.size) (w := w) (by first | exact hB | go_grown) hb (Nat.le_refl _); clear hb) | (go_at_call 25; refine (rlive_any S a cap _ (HR.out.later (by first | exact hB.alloc (by have := hB.size; omega) _ | exact hB | go_grown) (Nat.le_refl _)) HFit.out).mono ?_; rintro e w3 ⟨v, rfl, ⟨g3, hv, hg3, hmask⟩, hb⟩; rw [HM.out] at hv hmask; subst hv; have hq3 := mask_cell hmask (i := 0) (by omega); rw [HL0.out] at hq3; clear hmask; obtain ⟨hz, hc, hf⟩ := bcell hb (by first | (simp only [World.size_alloc, World.size_setCell, World.size_drew]; rfl) | rfl); have hB := below_call (B := w.heap.size) (w := w) (by go_grown) hb (Nat.le_refl _); clear hb) | fail)
        go_ret
        exact ⟨ret_int HE.out, hB⟩
      | true =>
        have HE : Hid (40 = rsoundF S) := by show _ = _; rw [HE0.out, if_pos rfl, if_neg HST.out]
        go_enter Try.func17, Try.ntmps17
        go_wp2_with (first | (go_at_call 29; refine (rvalid_any S a cap _ (HR.out.later (by first | exact hB | go_grown) (Nat.le_refl _)) h0 h1 hl).mono ?_; rintro e w1 ⟨he, hb⟩; rw [HV.out] at he; subst he; obtain ⟨hz, hc, hf⟩ := bcell hb (by first | (simp only [World.size_alloc, World.size_setCell, World.size_drew]; rfl) | rfl); have hB := below_call (B := w.heap.size) (w := w) (by first | exact hB | go_grown) hb (Nat.le_refl _); clear hb) | (go_at_call 15; refine (rfind_any S a cap _ (HR.out.later (by first | exact hB | go_grown) (Nat.le_refl _)) h0 h1 hl HS.out).mono ?_; rintro e w2 ⟨v1, v2, v3, rfl, hd1, hd2, hd3, hb⟩; obtain ⟨a1, n1, c1, hv1⟩ := hd1.form; obtain ⟨a2, n2, c2, hv2⟩ := hd2.form; obtain ⟨a3, n3, c3, hv3⟩ := hd3.form; subst hv1 hv2 hv3; have hn2 := hd2.sls.2; have hn3 := hd3.sls.2; rw [HF.out] at hn2 hn3; have HN2 := Lib.hid hn2; have HN3 := Lib.hid hn3; have hl2 := HL2.out n2 hn2; have hl3 := HL3.out n3 hn3; clear hd1 hd2 hd3 hn2 hn3; obtain ⟨hz, hc, hf⟩ := bcell hb (by first | (simp only [World.size_alloc, World.size_setCell, World.size_drew]; rfl) | rfl); have hB := below_call (B := w.heap.size) (w := w) (by first | exact hB | go_grown) hb (Nat.le_refl _); clear hb) | (go_at_call 25; refine (rlive_any S a cap _ (HR.out.later (by first | exact hB.alloc (by have := hB.size; omega) _ | exact hB | go_grown) (Nat.le_refl _)) HFit.out).mono ?_; rintro e w3 ⟨v, rfl, ⟨g3, hv, hg3, hmask⟩, hb⟩; rw [HM.out] at hv hmask; subst hv; have hq3 := mask_cell hmask (i := 0) (by omega); rw [HL0.out] at hq3; clear hmask; obtain ⟨hz, hc, hf⟩ := bcell hb (by first | (simp only [World.size_alloc, World.size_setCell, World.size_drew]; rfl) | rfl); have hB := below_call (B := w.heap.size) (w := w) (by go_grown) hb (Nat.le_refl _); clear hb) | fail)
        go_ret
        exact ⟨ret_int HE.out, hB⟩
  · have hv' : validB S = false := by simpa using hv
    have HV := Lib.hid hv'
    have HE : Hid (20 = rsoundF S) := by show _ = _; rw [rsoundF, if_neg hv]
    clear hv hv'
    go_enter Try.func17, Try.ntmps17
    go_wp2_with (first | (go_at_call 29; refine (rvalid_any S a cap _ (HR.out.later (by first | exact hB | go_grown) (Nat.le_refl _)) h0 h1 hl).mono ?_; rintro e w1 ⟨he, hb⟩; rw [HV.out] at he; subst he; obtain ⟨hz, hc, hf⟩ := bcell hb (by first | (simp only [World.size_alloc, World.size_setCell, World.size_drew]; rfl) | rfl); have hB := below_call (B := w.heap.size) (w := w) (by first | exact hB | go_grown) hb (Nat.le_refl _); clear hb) | fail)
    go_ret
    exact ⟨ret_int HE.out, hB⟩
end Go.Proofs.Ytogjcfcfgnbmkaa
