/- Contracts of package flaw: Proves. -/
import Derived.Test.YtogjcfcfgnbmkaaFlaw5
namespace Go.Proofs.Ytogjcfcfgnbmkaa
open Go.RowKit
set_option linter.unusedVariables false
set_option linter.unusedSimpArgs false

def okAt (S : Sch) (D : List Int) (n : Nat) : Bool :=
  decide (0 ≤ D.getD n 0) && ((if h : (D.getD n 0).toNat < S.rules.length then deadB (reachS S) (liveS S) S.rules[(D.getD n 0).toNat] else false) && (decide (n = 0) || decide (D.getD (n - 1) 0 < D.getD n 0)))
def stuckOk (S : Sch) (T : List Int) : Bool :=
  T.isEmpty || (match followF (fun _ => true) S.rules 0 T with | some t => (liveS S).testBit 0 && !(liveS S).testBit t.toNat | none => false)
def endOk (S : Sch) (E : List Int) : Bool :=
  E.isEmpty || (decide (0 ≤ E.getD 0 0) && (if h : (E.getD 0 0).toNat < S.rules.length then
    (match followF emptyR S.rules S.rules[(E.getD 0 0).toNat].frm E with
     | some t => decide (t = S.rules[(E.getD 0 0).toNat].frm) && ((reachS S).testBit t.toNat && (liveS S).testBit t.toNat)
     | none => false) else false))
open Classical in
noncomputable def provesF (S : Sch) (D T E : List Int) : Bool := validB S && ((List.range D.length).all (okAt S D) && (stuckOk S T && endOk S E))

theorem all_range_false {p : Nat → Bool} {N k : Nat} (hk : k < N) (h : p k = false) : (List.range N).all p = false := by
  rw [List.all_eq_false]; exact ⟨k, by simp [hk], by simp [h]⟩
theorem all_range_true {p : Nat → Bool} {N : Nat} (h : ∀ k, k < N → p k = true) : (List.range N).all p = true := by
  rw [List.all_eq_true]; intro k hk; exact h k (by simpa using hk)
theorem pf_dead {S : Sch} {D T E : List Int} {k : Nat} (hk : k < D.length) (h : okAt S D k = false) : provesF S D T E = false := by
  rw [provesF, all_range_false hk h]; simp
theorem pf_stuck {S : Sch} {D T E : List Int} (h : stuckOk S T = false) : provesF S D T E = false := by
  rw [provesF, h]; simp
theorem pf_end {S : Sch} {D T E : List Int} (h : endOk S E = false) : provesF S D T E = false := by
  rw [provesF, h]; simp
theorem pf_true {S : Sch} {D T E : List Int} (hv : validB S = true) (hd : ∀ k, k < D.length → okAt S D k = true) (h : stuckOk S T = true) (h2 : endOk S E = true) : provesF S D T E = true := by
  rw [provesF, all_range_true hd, hv, h, h2]; rfl
theorem getD_at {D : List Int} {k : Nat} (h : k < D.length) : D.getD k 0 = D[k] := by rw [List.getD_eq_getElem?_getD, List.getElem?_eq_getElem h]; rfl

theorem ok_succ {S : Sch} {D : List Int} {k : Nat} (h : ∀ j, j < k → okAt S D j = true) (h2 : okAt S D k = true) : ∀ j, j < k + 1 → okAt S D j = true := by
  intro j hj
  by_cases e : j = k
  · rw [e]; exact h2
  · exact h j (by omega)

theorem follow_bd {use : Rl → Bool} {S : Sch} (hS : Fit S) : ∀ (C : List Int) (m t : Int), C ≠ [] → followF use S.rules m C = some t → 0 ≤ t ∧ t < 8
  | [], _, _, h, _ => absurd rfl h
  | i :: C, m, t, _, h => by
    rw [followF] at h
    split at h
    · rename_i hi
      split at h
      · by_cases hc : C = []
        · subst hc
          rw [followF] at h
          injection h with h
          have := hS.at0 i.toNat hi.2
          have := hS.m1
          omega
        · exact follow_bd hS C _ t hc h
      · cases h
    · cases h
theorem stuck_cases (S : Sch) (A B : Nat) (T : List Int) (hA : reachS S = A) (hB : liveS S = B) (hS : Fit S) :
    (0 < T.length ∧ followF (fun _ => true) S.rules 0 T = none ∧ stuckOk S T = false) ∨
    (0 < T.length ∧ ∃ t, followF (fun _ => true) S.rules 0 T = some t ∧ B.testBit 0 = false ∧ 0 ≤ t ∧ t < 8 ∧ stuckOk S T = false) ∨
    (0 < T.length ∧ ∃ t, followF (fun _ => true) S.rules 0 T = some t ∧ B.testBit 0 = true ∧ B.testBit t.toNat = true ∧ 0 ≤ t ∧ t < 8 ∧ stuckOk S T = false) ∨
    (T.length = 0 ∧ stuckOk S T = true) ∨
    (0 < T.length ∧ ∃ t, followF (fun _ => true) S.rules 0 T = some t ∧ B.testBit 0 = true ∧ B.testBit t.toNat = false ∧ 0 ≤ t ∧ t < 8 ∧ stuckOk S T = true) := by
  subst hA hB
  rcases T with _ | ⟨x, T⟩
  · exact .inr (.inr (.inr (.inl ⟨rfl, rfl⟩)))
  · have hp : 0 < (x :: T).length := by simp
    have hs : stuckOk S (x :: T) = (match followF (fun _ => true) S.rules 0 (x :: T) with | some t => (liveS S).testBit 0 && !(liveS S).testBit t.toNat | none => false) := by
      rw [stuckOk]; rfl
    cases hf : followF (fun _ => true) S.rules 0 (x :: T) with
    | none => exact .inl ⟨hp, rfl, by rw [hs, hf]⟩
    | some t =>
      obtain ⟨b0, b1⟩ := follow_bd hS _ _ _ (by simp) hf
      cases h0 : (liveS S).testBit 0 with
      | false => exact .inr (.inl ⟨hp, t, rfl, rfl, b0, b1, by rw [hs, hf]; simp [h0]⟩)
      | true =>
        cases h1 : (liveS S).testBit t.toNat with
        | true => exact .inr (.inr (.inl ⟨hp, t, rfl, rfl, h1, b0, b1, by rw [hs, hf]; simp [h1]⟩))
        | false => exact .inr (.inr (.inr (.inr ⟨hp, t, rfl, rfl, h1, b0, b1, by rw [hs, hf]; simp [h0, h1]⟩)))

set_option maxHeartbeats 6400000 in
set_option maxRecDepth 100000 in
theorem proves_any (S : Sch) (a : Option Addr) (cap : Nat) (d t e : Option Addr) (D T E : List Int) (cd ct ce : Nat) (w : World) (hR : RulS w a S.rules) (h0 : 0 ≤ S.acc) (h1 : S.acc ≤ 255) (hl : S.rules.length ≤ 9223372036854775807) (hcap : S.rules.length ≤ cap) (hS : validB S = true → Fit S)
    (hD : SlS w d D) (hT : SlS w t T) (hE : SlS w e E) (hDl : D.length ≤ 100000) (hTl : T.length ≤ 100000) (hEl : E.length ≤ 100000) :
    Calls Try.prog 18 #[.agg #[.int .i64 S.modes, .int .u8 S.acc, .slice a S.rules.length cap], .agg #[.slice d D.length cd, .slice t T.length ct, .slice e E.length ce]] w fun ee w' => ee = .returned (.bool (provesF S D T E)) ∧ Below w.heap.size w w' := by
  have HR := Lib.hid hR; have HS := Lib.hid hS; have HD := Lib.hid hD; have HT := Lib.hid hT; have HE := Lib.hid hE; clear hR hS hD hT hE
  by_cases hv : validB S = true
  · have hFit := HS.out hv
    have hlen := hFit.len
    have HFit := Lib.hid hFit
    have HV := Lib.hid hv
    obtain ⟨A, hA⟩ : ∃ A, reachS S = A := ⟨_, rfl⟩
    obtain ⟨B, hBm⟩ : ∃ B, liveS S = B := ⟨_, rfl⟩
    have hA8 : A < 256 := by rw [← hA]; exact reachedM_lt hFit
    have hB8 : B < 256 := by rw [← hBm]; exact liveM_lt hFit
    have HA := Lib.hid hA; have HBm := Lib.hid hBm; clear hA hBm hv
    go_enter Try.func18, Try.ntmps18
    go_wp2_with (first | (go_at_call 36; refine (valid_any S a cap _ (HR.out.later (by first | exact hB | go_grown) (Nat.le_refl _)) h0 h1 hl hcap).mono ?_; rintro ee w1 ⟨he, hb⟩; rw [HV.out] at he; subst he; obtain ⟨hz, hc, hf⟩ := bcell hb (by first | (simp only [World.size_alloc, World.size_setCell, World.size_drew]; rfl) | rfl); have hB := below_call (B := w.heap.size) (w := w) (by go_grown) hb (Nat.le_refl _); have hal := below_call (B := w.heap.size + 2) (w := ((w.alloc (.cells #[.int .i64 S.modes, .int .u8 S.acc, .slice a S.rules.length cap] 33)).alloc (.cells #[.slice d D.length cd, .slice t T.length ct, .slice e E.length ce] 40))) (by go_grown) hb (by simp); clear hb))
    go_region_held3 (fun w' => w'.cell? ⟨w.heap.size, 0, none⟩ = some (.int .i64 S.modes) ∧ w'.cell? ⟨w.heap.size, 1, none⟩ = some (.int .u8 S.acc) ∧ w'.cell? ⟨w.heap.size, 2, none⟩ = some (.slice a S.rules.length cap)) (first | (simp [go_sem, *]; done) | go_keep) (first | (go_at_call 39; refine (reached_any S a cap _ (HR.out.later (by first | exact hB | go_grown) (Nat.le_refl _)) HFit.out).mono ?_; rintro ee w3 ⟨he, hb⟩; rw [show reachedM S.eds S.modes.toNat = A from HA.out] at he; subst he; obtain ⟨hz, hc, hf⟩ := bcell hb (by first | (simp only [World.size_alloc, World.size_setCell, World.size_drew]; rfl) | rfl); have hB := below_call (B := w.heap.size) (w := w) (by go_grown) hb (Nat.le_refl _); have hal := below_call (B := w.heap.size + 2) (w := ((w.alloc (.cells #[.int .i64 S.modes, .int .u8 S.acc, .slice a S.rules.length cap] 33)).alloc (.cells #[.slice d D.length cd, .slice t T.length ct, .slice e E.length ce] 40))) (by go_grown) hb (by simp); clear hb) | (go_at_call 40; refine (live_any S a cap _ (HR.out.later (by first | exact hB | go_grown) (Nat.le_refl _)) HFit.out).mono ?_; rintro ee w2 ⟨he, hb⟩; rw [show liveM S.eds S.modes.toNat S.acc.toNat = B from HBm.out] at he; subst he; obtain ⟨hz, hc, hf⟩ := bcell hb (by first | (simp only [World.size_alloc, World.size_setCell, World.size_drew]; rfl) | rfl); have hB := below_call (B := w.heap.size) (w := w) (by go_grown) hb (Nat.le_refl _); have hal := below_call (B := w.heap.size + 2) (w := ((w.alloc (.cells #[.int .i64 S.modes, .int .u8 S.acc, .slice a S.rules.length cap] 33)).alloc (.cells #[.slice d D.length cd, .slice t T.length ct, .slice e E.length ce] 40))) (by go_grown) hb (by simp); clear hb))
    go_wp2
    clear hc hf hz
    go_loopw [25] (fun i wr => ∃ k : Nat, k ≤ D.length ∧ i = .int .i64 k ∧ (∀ j, j < k → okAt S D j = true) ∧ Below (w.heap.size + 2) ((w.alloc (.cells #[.int .i64 S.modes, .int .u8 S.acc, .slice a S.rules.length cap] 33)).alloc (.cells #[.slice d D.length cd, .slice t T.length ct, .slice e E.length ce] 40)) wr) (fun i _ => D.length - (intOf i).toNat)
    case atStart => exact ⟨0, by omega, rfl, fun j hj => absurd hj (by omega), hal⟩
    case round =>
      clear hB hal
      obtain ⟨k, hk, rfl, hok, hal⟩ := hrel
      have HOK := Lib.hid hok; clear hok
      have hB : Below w.heap.size w wr := (((Below.refl _ _).alloc (Nat.le_refl _) _).alloc (by simp) _).trans (hal.mono (by omega))
      obtain ⟨hz, hc, hf⟩ := bcellB hal rfl
      simp only [World.size_alloc] at hz
      by_cases hlt : k < D.length
      · obtain ⟨b', o', ha', hb', q'⟩ := (HD.out.later hB (Nat.le_refl _)).at hlt
        have hidx' := idx_ints d b' o' D.length cd k ha' hlt
        have hga := getD_at hlt
        by_cases hn0 : D[k] < 0
        · have HF := Lib.hid (pf_dead (S := S) (T := T) (E := E) hlt (by rw [okAt, hga, decide_eq_false (by omega)]; rfl))
          clear hga ha'
          go_wp2
          go_ret
          exact ⟨ret_bool HF.out.symm, hB⟩
        by_cases hn1 : (S.rules.length : Int) ≤ D[k]
        · have HF := Lib.hid (pf_dead (S := S) (T := T) (E := E) hlt (by rw [okAt, hga, dif_neg (by omega)]; simp))
          clear hga ha'
          go_wp2
          go_ret
          exact ⟨ret_bool HF.out.symm, hB⟩
        obtain ⟨n, hn⟩ := Int.eq_ofNat_of_zero_le (show 0 ≤ D[k] by omega)
        have hnl : n < S.rules.length := by omega
        obtain ⟨b2, o2, ha2, hb2, q0, q1, q2, q3, q4⟩ := (HR.out.later hB (Nat.le_refl _)).at hnl
        have hidx := idx_rules a b2 o2 S.rules.length cap n ha2 hnl
        obtain ⟨f0, f1, t0, t1⟩ := HFit.out.at0 n hnl
        have hm1 := HFit.out.m1
        obtain ⟨dd, hdd⟩ : ∃ dd, deadB A B S.rules[n] = dd := ⟨_, rfl⟩
        have HOKv : Hid (okAt S D k = (dd && (decide (k = 0) || decide (D.getD (k - 1) 0 < (n : Int))))) := by
          show _ = _
          rw [okAt, hga, hn, Int.toNat_natCast, dif_pos hnl, HA.out, HBm.out, hdd, decide_eq_true (by omega), Bool.true_and]
        have HDD := Lib.hid hdd
        rw [hn] at q' hn0 hn1
        clear hdd hn hga ha' ha2
        by_cases hd : dd = true
        · subst hd
          by_cases hk0 : k = 0
          · have HOK2 : Hid (okAt S D k = true) := by rw [HOKv.out, hk0]; rfl
            have hk0' : ¬ (0 : Int) < (k : Int) := by omega
            clear hk0
            go_wp2_with (first | (go_at_call 41; refine (dead_any S.rules[n] A B _ hA8 hB8 f0 (by omega) t0 (by omega)).mono ?_; rintro ee w3 ⟨he, hb⟩; rw [HDD.out] at he; subst he; obtain ⟨hz, hc, hf⟩ := bcell hb (by first | (simp only [World.size_alloc, World.size_setCell, World.size_drew]; rfl) | rfl); have hB := below_call (B := w.heap.size) (w := w) (by go_grown) hb (Nat.le_refl _); have hal := below_call (B := w.heap.size + 2) (w := ((w.alloc (.cells #[.int .i64 S.modes, .int .u8 S.acc, .slice a S.rules.length cap] 33)).alloc (.cells #[.slice d D.length cd, .slice t T.length ct, .slice e E.length ce] 40))) (by go_grown) hb (by simp); clear hb) | fail)
            go_roundw
            case rel => exact ⟨k + 1, by omega, by go_num, ok_succ HOK.out HOK2.out, hal⟩
            case measure => simp [intOf]; omega
          · obtain ⟨j, hj⟩ : ∃ j, k = j + 1 := ⟨k - 1, by omega⟩
            have hjl : j < D.length := by omega
            obtain ⟨b3, o3, ha3, hb3, q3'⟩ := (HD.out.later hB (Nat.le_refl _)).at (k := j) hjl
            have hidx3 : ∀ W : World, (Instr.indexAt 38 (.slice d D.length cd) (.int .i64 ((k : Int) - 1))).run Try.prog W = .ok (.pointer (some ⟨b3, o3 + j, none⟩)) W := fun W => by
              rw [show ((k : Int) - 1) = (j : Int) by omega]; exact idx_ints d b3 o3 D.length cd j ha3 hjl W
            have hgj : Hid (D.getD (k - 1) 0 = D[j]) := by show _ = _; rw [hj, Nat.add_sub_cancel]; exact getD_at hjl
            have hk0' : (0 : Int) < (k : Int) := by omega
            have HJ := Lib.hid hj
            have HK0 := Lib.hid hk0
            clear ha3 hj hk0
            by_cases hp : (n : Int) ≤ D[j]
            · have HF := Lib.hid (pf_dead (S := S) (T := T) (E := E) hlt (by rw [HOKv.out, hgj.out, decide_eq_false HK0.out, decide_eq_false (by omega)]; rfl))
              go_wp2_with (first | (go_at_call 41; refine (dead_any S.rules[n] A B _ hA8 hB8 f0 (by omega) t0 (by omega)).mono ?_; rintro ee w3 ⟨he, hb⟩; rw [HDD.out] at he; subst he; obtain ⟨hz, hc, hf⟩ := bcell hb (by first | (simp only [World.size_alloc, World.size_setCell, World.size_drew]; rfl) | rfl); have hB := below_call (B := w.heap.size) (w := w) (by go_grown) hb (Nat.le_refl _); have hal := below_call (B := w.heap.size + 2) (w := ((w.alloc (.cells #[.int .i64 S.modes, .int .u8 S.acc, .slice a S.rules.length cap] 33)).alloc (.cells #[.slice d D.length cd, .slice t T.length ct, .slice e E.length ce] 40))) (by go_grown) hb (by simp); clear hb) | fail)
              go_ret
              exact ⟨ret_bool HF.out.symm, hB⟩
            · have HOK2 : Hid (okAt S D k = true) := by show _ = true; rw [HOKv.out, hgj.out, decide_eq_true (show D[j] < (n : Int) by omega)]; simp
              go_wp2_with (first | (go_at_call 41; refine (dead_any S.rules[n] A B _ hA8 hB8 f0 (by omega) t0 (by omega)).mono ?_; rintro ee w3 ⟨he, hb⟩; rw [HDD.out] at he; subst he; obtain ⟨hz, hc, hf⟩ := bcell hb (by first | (simp only [World.size_alloc, World.size_setCell, World.size_drew]; rfl) | rfl); have hB := below_call (B := w.heap.size) (w := w) (by go_grown) hb (Nat.le_refl _); have hal := below_call (B := w.heap.size + 2) (w := ((w.alloc (.cells #[.int .i64 S.modes, .int .u8 S.acc, .slice a S.rules.length cap] 33)).alloc (.cells #[.slice d D.length cd, .slice t T.length ct, .slice e E.length ce] 40))) (by go_grown) hb (by simp); clear hb) | fail)
              go_roundw
              case rel => exact ⟨k + 1, by omega, by go_num, ok_succ HOK.out HOK2.out, hal⟩
              case measure => simp [intOf]; omega
        · obtain rfl : dd = false := by simpa using hd
          have HF := Lib.hid (pf_dead (S := S) (T := T) (E := E) hlt (by rw [HOKv.out]; rfl))
          clear hd
          go_wp2_with (first | (go_at_call 41; refine (dead_any S.rules[n] A B _ hA8 hB8 f0 (by omega) t0 (by omega)).mono ?_; rintro ee w3 ⟨he, hb⟩; rw [HDD.out] at he; subst he; obtain ⟨hz, hc, hf⟩ := bcell hb (by first | (simp only [World.size_alloc, World.size_setCell, World.size_drew]; rfl) | rfl); have hB := below_call (B := w.heap.size) (w := w) (by go_grown) hb (Nat.le_refl _); have hal := below_call (B := w.heap.size + 2) (w := ((w.alloc (.cells #[.int .i64 S.modes, .int .u8 S.acc, .slice a S.rules.length cap] 33)).alloc (.cells #[.slice d D.length cd, .slice t T.length ct, .slice e E.length ce] 40))) (by go_grown) hb (by simp); clear hb) | fail)
          go_ret
          exact ⟨ret_bool HF.out.symm, hB⟩
      · obtain rfl : k = D.length := by omega
        go_upto_if 68 with (fail)
        go_cut [] (fun wx => ∃ wz : World, wz = wx ∧ stuckOk S T = true ∧ Below (w.heap.size + 2) ((w.alloc (.cells #[.int .i64 S.modes, .int .u8 S.acc, .slice a S.rules.length cap] 33)).alloc (.cells #[.slice d D.length cd, .slice t T.length ct, .slice e E.length ce] 40)) wz)
        case first =>
          have hs0 := has_any B 0
          rcases stuck_cases S A B T HA.out HBm.out hFit with hT1 | hT2 | hT3 | hT4 | hT5
          · have HF := Lib.hid (pf_stuck (S := S) (D := D) (E := E) hT1.2.2)
            have hTp : 0 < T.length := hT1.1
            have HFT := Lib.hid hT1.2.1
            have hTpI : (0 : Int) < (T.length : Int) := by omega
            clear hT1
            go_wp2_with (first | (go_at_call 45; refine (follow_any 46 (fun _ => true) any_any (fun _ _ => rfl) S a cap 0 t T ct _ (HR.out.later (by first | exact hB | go_grown) (Nat.le_refl _)) hlen (HT.out.later (by first | exact hB | go_grown) (Nat.le_refl _)) hTl).mono ?_; rintro ee w5 ⟨he, hb⟩; rw [HFT.out] at he; simp only [optV] at he; subst he; obtain ⟨hz, hc, hf⟩ := bcell hb (by first | (simp only [World.size_alloc, World.size_setCell, World.size_drew]; rfl) | rfl); have hB := below_call (B := w.heap.size) (w := w) (by go_grown) hb (Nat.le_refl _); have hal := below_call (B := w.heap.size + 2) (w := ((w.alloc (.cells #[.int .i64 S.modes, .int .u8 S.acc, .slice a S.rules.length cap] 33)).alloc (.cells #[.slice d D.length cd, .slice t T.length ct, .slice e E.length ce] 40))) (by go_grown) hb (by simp); clear hb) | fail)
            go_ret
            exact ⟨ret_bool HF.out.symm, hB⟩
          · obtain ⟨hTp, t1, hft, hb0, -, -, hF⟩ := hT2
            have hTpI : (0 : Int) < (T.length : Int) := by omega
            have HF := Lib.hid (pf_stuck (S := S) (D := D) (E := E) hF)
            have HFT := Lib.hid hft; have HB0 := Lib.hid hb0
            clear hft hb0 hF
            go_wp2_with (first | (go_at_call 45; refine (follow_any 46 (fun _ => true) any_any (fun _ _ => rfl) S a cap 0 t T ct _ (HR.out.later (by first | exact hB | go_grown) (Nat.le_refl _)) hlen (HT.out.later (by first | exact hB | go_grown) (Nat.le_refl _)) hTl).mono ?_; rintro ee w5 ⟨he, hb⟩; rw [HFT.out] at he; simp only [optV] at he; subst he; obtain ⟨hz, hc, hf⟩ := bcell hb (by first | (simp only [World.size_alloc, World.size_setCell, World.size_drew]; rfl) | rfl); have hB := below_call (B := w.heap.size) (w := w) (by go_grown) hb (Nat.le_refl _); have hal := below_call (B := w.heap.size + 2) (w := ((w.alloc (.cells #[.int .i64 S.modes, .int .u8 S.acc, .slice a S.rules.length cap] 33)).alloc (.cells #[.slice d D.length cd, .slice t T.length ct, .slice e E.length ce] 40))) (by go_grown) hb (by simp); clear hb) | (go_at_call 44; refine (hs0 _ hB8 (by omega) (by omega)).mono ?_; rintro ee w6 ⟨he, rfl⟩; rw [show B.testBit (0 : Int).toNat = _ from HB0.out] at he; subst he) | fail)
            go_ret
            exact ⟨ret_bool HF.out.symm, hB⟩
          · obtain ⟨hTp, t1, hft, hb0, htb, ht0, ht1, hF⟩ := hT3
            have hTpI : (0 : Int) < (T.length : Int) := by omega
            have hst := has_any B t1
            have HF := Lib.hid (pf_stuck (S := S) (D := D) (E := E) hF)
            have HFT := Lib.hid hft; have HB0 := Lib.hid hb0; have HBt := Lib.hid htb
            clear hft hb0 htb hF
            go_wp2_with (first | (go_at_call 45; refine (follow_any 46 (fun _ => true) any_any (fun _ _ => rfl) S a cap 0 t T ct _ (HR.out.later (by first | exact hB | go_grown) (Nat.le_refl _)) hlen (HT.out.later (by first | exact hB | go_grown) (Nat.le_refl _)) hTl).mono ?_; rintro ee w5 ⟨he, hb⟩; rw [HFT.out] at he; simp only [optV] at he; subst he; obtain ⟨hz, hc, hf⟩ := bcell hb (by first | (simp only [World.size_alloc, World.size_setCell, World.size_drew]; rfl) | rfl); have hB := below_call (B := w.heap.size) (w := w) (by go_grown) hb (Nat.le_refl _); have hal := below_call (B := w.heap.size + 2) (w := ((w.alloc (.cells #[.int .i64 S.modes, .int .u8 S.acc, .slice a S.rules.length cap] 33)).alloc (.cells #[.slice d D.length cd, .slice t T.length ct, .slice e E.length ce] 40))) (by go_grown) hb (by simp); clear hb) | (go_at_call 44; refine (hs0 _ hB8 (by omega) (by omega)).mono ?_; rintro ee w6 ⟨he, rfl⟩; rw [show B.testBit (0 : Int).toNat = _ from HB0.out] at he; subst he) | (go_at_call 44; refine (hst _ hB8 ht0 ht1).mono ?_; rintro ee w6 ⟨he, rfl⟩; rw [HBt.out] at he; subst he) | fail)
            go_ret
            exact ⟨ret_bool HF.out.symm, hB⟩
          · obtain ⟨hTz, hTok⟩ := hT4
            have HTK := Lib.hid hTok
            have HTZ := Lib.hid hTz
            have hTz' : ¬ (0 : Int) < (T.length : Int) := by omega
            clear hTok hTz
            go_wp2_with fail
            go_meet
            exact ⟨_, rfl, HTK.out, hal⟩
          · obtain ⟨hTp, t1, hft, hb0, htb, ht0, ht1, hTok⟩ := hT5
            have hTpI : (0 : Int) < (T.length : Int) := by omega
            have hst := has_any B t1
            have HTK := Lib.hid hTok
            have HFT := Lib.hid hft; have HB0 := Lib.hid hb0; have HBt := Lib.hid htb
            clear hft hb0 htb hTok
            go_wp2_with (first | (go_at_call 45; refine (follow_any 46 (fun _ => true) any_any (fun _ _ => rfl) S a cap 0 t T ct _ (HR.out.later (by first | exact hB | go_grown) (Nat.le_refl _)) hlen (HT.out.later (by first | exact hB | go_grown) (Nat.le_refl _)) hTl).mono ?_; rintro ee w5 ⟨he, hb⟩; rw [HFT.out] at he; simp only [optV] at he; subst he; obtain ⟨hz, hc, hf⟩ := bcell hb (by first | (simp only [World.size_alloc, World.size_setCell, World.size_drew]; rfl) | rfl); have hB := below_call (B := w.heap.size) (w := w) (by go_grown) hb (Nat.le_refl _); have hal := below_call (B := w.heap.size + 2) (w := ((w.alloc (.cells #[.int .i64 S.modes, .int .u8 S.acc, .slice a S.rules.length cap] 33)).alloc (.cells #[.slice d D.length cd, .slice t T.length ct, .slice e E.length ce] 40))) (by go_grown) hb (by simp); clear hb) | (go_at_call 44; refine (hs0 _ hB8 (by omega) (by omega)).mono ?_; rintro ee w6 ⟨he, rfl⟩; rw [show B.testBit (0 : Int).toNat = _ from HB0.out] at he; subst he) | (go_at_call 44; refine (hst _ hB8 ht0 ht1).mono ?_; rintro ee w6 ⟨he, rfl⟩; rw [HBt.out] at he; subst he) | fail)
            go_meet
            exact ⟨_, rfl, HTK.out, hal⟩
        case rest =>
          clear hB hal hz hc hf
          obtain ⟨wx, rfl, hTok, hal⟩ := hcut
          have HTK := Lib.hid hTok
          have hB : Below w.heap.size w wx := (((Below.refl _ _).alloc (Nat.le_refl _) _).alloc (by simp) _).trans (hal.mono (by omega))
          obtain ⟨hz, hc, hf⟩ := bcellB hal rfl
          simp only [World.size_alloc] at hz
          clear hTok
          by_cases hE0 : E.length = 0
          · have HF : Hid (provesF S D T E = true) := pf_true HV.out HOK.out HTK.out (by rw [endOk, List.eq_nil_of_length_eq_zero hE0]; rfl)
            have hEz : ¬ (0 : Int) < (E.length : Int) := by omega
            clear hE0
            go_wp2_with fail
            go_ret
            exact ⟨ret_bool HF.out.symm, hB⟩
          have hEl0 : 0 < E.length := by omega
          have hEp : (0 : Int) < (E.length : Int) := by omega
          have HEe : Hid (E.isEmpty = false) := by show _ = _; rcases E with _ | ⟨x, E⟩; simp at hE0; rfl
          obtain ⟨b', o', ha', hb', q'⟩ := (HE.out.later hB (Nat.le_refl _)).at hEl0
          have hidx' : ∀ W : World, (Instr.indexAt 38 (.slice e E.length ce) (.int .i64 0)).run Try.prog W = .ok (.pointer (some ⟨b', o', none⟩)) W := fun W => idx_ints e b' o' E.length ce 0 ha' hEl0 W
          rw [Nat.add_zero] at q'
          have hga := getD_at hEl0
          clear hE0
          by_cases hn0 : E[0] < 0
          · have HF := Lib.hid (pf_end (S := S) (D := D) (T := T) (E := E) (by rw [endOk, HEe.out, hga, decide_eq_false (by omega)]; rfl))
            clear hga ha'
            go_wp2_with fail
            go_ret
            exact ⟨ret_bool HF.out.symm, hB⟩
          by_cases hn1 : (S.rules.length : Int) ≤ E[0]
          · have HF := Lib.hid (pf_end (S := S) (D := D) (T := T) (E := E) (by rw [endOk, HEe.out, hga, dif_neg (by omega)]; simp))
            clear hga ha'
            go_wp2_with fail
            go_ret
            exact ⟨ret_bool HF.out.symm, hB⟩
          obtain ⟨n, hn⟩ := Int.eq_ofNat_of_zero_le (show 0 ≤ E[0] by omega)
          have hnl : n < S.rules.length := by omega
          obtain ⟨b2, o2, ha2, hb2, q0, q1, q2, q3, q4⟩ := (HR.out.later hB (Nat.le_refl _)).at hnl
          have hidx := idx_rules a b2 o2 S.rules.length cap n ha2 hnl
          obtain ⟨f0, f1, t0, t1⟩ := HFit.out.at0 n hnl
          have hm1 := HFit.out.m1
          have hsA := has_any A S.rules[n].frm
          have hsB := has_any B S.rules[n].frm
          have HEO : Hid (endOk S E = match followF emptyR S.rules S.rules[n].frm E with | some t => decide (t = S.rules[n].frm) && (A.testBit t.toNat && B.testBit t.toNat) | none => false) := by
            show _ = _
            rw [endOk, HEe.out, hga, hn, decide_eq_true (by omega)]
            simp only [Int.toNat_natCast]
            rw [dif_pos hnl, HA.out, HBm.out]; rfl
          rw [hn] at q' hn0 hn1
          clear hn hga ha' ha2
          obtain ⟨fe, hfe⟩ : ∃ fe, followF emptyR S.rules S.rules[n].frm E = fe := ⟨_, rfl⟩
          have HFE := Lib.hid hfe; clear hfe
          rcases fe with _ | t2
          · have HF := Lib.hid (pf_end (S := S) (D := D) (T := T) (E := E) (by rw [HEO.out, HFE.out]))
            go_wp2_with (first | (go_at_call 45; refine (follow_any 47 emptyR empty_any (fun _ _ => rfl) S a cap S.rules[n].frm e E ce _ (HR.out.later (by first | exact hB | go_grown) (Nat.le_refl _)) hlen (HE.out.later (by first | exact hB | go_grown) (Nat.le_refl _)) hEl).mono ?_; rintro ee w5 ⟨he, hb⟩; rw [HFE.out] at he; simp only [optV] at he; subst he; obtain ⟨hz, hc, hf⟩ := bcell hb (by first | (simp only [World.size_alloc, World.size_setCell, World.size_drew]; rfl) | rfl); have hB := below_call (B := w.heap.size) (w := w) (by go_grown) hb (Nat.le_refl _); have hal := below_call (B := w.heap.size + 2) (w := ((w.alloc (.cells #[.int .i64 S.modes, .int .u8 S.acc, .slice a S.rules.length cap] 33)).alloc (.cells #[.slice d D.length cd, .slice t T.length ct, .slice e E.length ce] 40))) (by go_grown) hb (by simp); clear hb) | fail)
            go_ret
            exact ⟨ret_bool HF.out.symm, hB⟩
          have HEO2 : Hid (endOk S E = (decide (t2 = S.rules[n].frm) && (A.testBit t2.toNat && B.testBit t2.toNat))) := by show _ = _; rw [HEO.out, HFE.out]
          by_cases htf : t2 = S.rules[n].frm
          · obtain ⟨am, ham⟩ : ∃ am, A.testBit S.rules[n].frm.toNat = am := ⟨_, rfl⟩
            obtain ⟨bm, hbm⟩ : ∃ bm, B.testBit S.rules[n].frm.toNat = bm := ⟨_, rfl⟩
            have HEO3 : Hid (endOk S E = (am && bm)) := by show _ = _; rw [HEO2.out, htf, ham, hbm, decide_eq_true rfl, Bool.true_and]
            have htf1 : (t2 != S.rules[n].frm) = false := by simp [htf]
            have HAm := Lib.hid ham; have HBf := Lib.hid hbm
            clear htf ham hbm
            cases am with
            | false =>
              have HF := Lib.hid (pf_end (S := S) (D := D) (T := T) (E := E) (by rw [HEO3.out]; rfl))
              go_wp2_with (first | (go_at_call 45; refine (follow_any 47 emptyR empty_any (fun _ _ => rfl) S a cap S.rules[n].frm e E ce _ (HR.out.later (by first | exact hB | go_grown) (Nat.le_refl _)) hlen (HE.out.later (by first | exact hB | go_grown) (Nat.le_refl _)) hEl).mono ?_; rintro ee w5 ⟨he, hb⟩; rw [HFE.out] at he; simp only [optV] at he; subst he; obtain ⟨hz, hc, hf⟩ := bcell hb (by first | (simp only [World.size_alloc, World.size_setCell, World.size_drew]; rfl) | rfl); have hB := below_call (B := w.heap.size) (w := w) (by go_grown) hb (Nat.le_refl _); have hal := below_call (B := w.heap.size + 2) (w := ((w.alloc (.cells #[.int .i64 S.modes, .int .u8 S.acc, .slice a S.rules.length cap] 33)).alloc (.cells #[.slice d D.length cd, .slice t T.length ct, .slice e E.length ce] 40))) (by go_grown) hb (by simp); clear hb) | (go_at_call 44; refine (hsA _ hA8 f0 (by omega)).mono ?_; rintro ee w6 ⟨he, rfl⟩; rw [HAm.out] at he; subst he) | fail)
              go_ret
              exact ⟨ret_bool HF.out.symm, hB⟩
            | true =>
              cases bm with
              | false =>
                have HF := Lib.hid (pf_end (S := S) (D := D) (T := T) (E := E) (by rw [HEO3.out]; rfl))
                go_wp2_with (first | (go_at_call 45; refine (follow_any 47 emptyR empty_any (fun _ _ => rfl) S a cap S.rules[n].frm e E ce _ (HR.out.later (by first | exact hB | go_grown) (Nat.le_refl _)) hlen (HE.out.later (by first | exact hB | go_grown) (Nat.le_refl _)) hEl).mono ?_; rintro ee w5 ⟨he, hb⟩; rw [HFE.out] at he; simp only [optV] at he; subst he; obtain ⟨hz, hc, hf⟩ := bcell hb (by first | (simp only [World.size_alloc, World.size_setCell, World.size_drew]; rfl) | rfl); have hB := below_call (B := w.heap.size) (w := w) (by go_grown) hb (Nat.le_refl _); have hal := below_call (B := w.heap.size + 2) (w := ((w.alloc (.cells #[.int .i64 S.modes, .int .u8 S.acc, .slice a S.rules.length cap] 33)).alloc (.cells #[.slice d D.length cd, .slice t T.length ct, .slice e E.length ce] 40))) (by go_grown) hb (by simp); clear hb) | (go_at_call 44; refine (hsA _ hA8 f0 (by omega)).mono ?_; rintro ee w6 ⟨he, rfl⟩; rw [HAm.out] at he; subst he) | (go_at_call 44; refine (hsB _ hB8 f0 (by omega)).mono ?_; rintro ee w6 ⟨he, rfl⟩; rw [HBf.out] at he; subst he) | fail)
                go_ret
                exact ⟨ret_bool HF.out.symm, hB⟩
              | true =>
                have HF : Hid (provesF S D T E = true) := pf_true HV.out HOK.out HTK.out (by rw [HEO3.out]; rfl)
                go_wp2_with (first | (go_at_call 45; refine (follow_any 47 emptyR empty_any (fun _ _ => rfl) S a cap S.rules[n].frm e E ce _ (HR.out.later (by first | exact hB | go_grown) (Nat.le_refl _)) hlen (HE.out.later (by first | exact hB | go_grown) (Nat.le_refl _)) hEl).mono ?_; rintro ee w5 ⟨he, hb⟩; rw [HFE.out] at he; simp only [optV] at he; subst he; obtain ⟨hz, hc, hf⟩ := bcell hb (by first | (simp only [World.size_alloc, World.size_setCell, World.size_drew]; rfl) | rfl); have hB := below_call (B := w.heap.size) (w := w) (by go_grown) hb (Nat.le_refl _); have hal := below_call (B := w.heap.size + 2) (w := ((w.alloc (.cells #[.int .i64 S.modes, .int .u8 S.acc, .slice a S.rules.length cap] 33)).alloc (.cells #[.slice d D.length cd, .slice t T.length ct, .slice e E.length ce] 40))) (by go_grown) hb (by simp); clear hb) | (go_at_call 44; refine (hsA _ hA8 f0 (by omega)).mono ?_; rintro ee w6 ⟨he, rfl⟩; rw [HAm.out] at he; subst he) | (go_at_call 44; refine (hsB _ hB8 f0 (by omega)).mono ?_; rintro ee w6 ⟨he, rfl⟩; rw [HBf.out] at he; subst he) | fail)
                go_ret
                exact ⟨ret_bool HF.out.symm, hB⟩
          · have HF := Lib.hid (pf_end (S := S) (D := D) (T := T) (E := E) (by rw [HEO2.out, decide_eq_false htf]; rfl))
            have htf1 : (t2 != S.rules[n].frm) = true := by simp [htf]
            clear htf
            go_wp2_with (first | (go_at_call 45; refine (follow_any 47 emptyR empty_any (fun _ _ => rfl) S a cap S.rules[n].frm e E ce _ (HR.out.later (by first | exact hB | go_grown) (Nat.le_refl _)) hlen (HE.out.later (by first | exact hB | go_grown) (Nat.le_refl _)) hEl).mono ?_; rintro ee w5 ⟨he, hb⟩; rw [HFE.out] at he; simp only [optV] at he; subst he; obtain ⟨hz, hc, hf⟩ := bcell hb (by first | (simp only [World.size_alloc, World.size_setCell, World.size_drew]; rfl) | rfl); have hB := below_call (B := w.heap.size) (w := w) (by go_grown) hb (Nat.le_refl _); have hal := below_call (B := w.heap.size + 2) (w := ((w.alloc (.cells #[.int .i64 S.modes, .int .u8 S.acc, .slice a S.rules.length cap] 33)).alloc (.cells #[.slice d D.length cd, .slice t T.length ct, .slice e E.length ce] 40))) (by go_grown) hb (by simp); clear hb) | fail)
            go_ret
            exact ⟨ret_bool HF.out.symm, hB⟩
  · have hv' : validB S = false := by simpa using hv
    have HV := Lib.hid hv'
    have HF : Hid (provesF S D T E = false) := by show _ = _; rw [provesF, hv']; rfl
    clear hv hv'
    go_enter Try.func18, Try.ntmps18
    go_wp2_with (first | (go_at_call 36; refine (valid_any S a cap _ (HR.out.later (by first | exact hB | go_grown) (Nat.le_refl _)) h0 h1 hl hcap).mono ?_; rintro ee w1 ⟨he, hb⟩; rw [HV.out] at he; subst he; obtain ⟨hz, hc, hf⟩ := bcell hb (by first | (simp only [World.size_alloc, World.size_setCell, World.size_drew]; rfl) | rfl); have hB := below_call (B := w.heap.size) (w := w) (by go_grown) hb (Nat.le_refl _); have hal := below_call (B := w.heap.size + 2) (w := ((w.alloc (.cells #[.int .i64 S.modes, .int .u8 S.acc, .slice a S.rules.length cap] 33)).alloc (.cells #[.slice d D.length cd, .slice t T.length ct, .slice e E.length ce] 40))) (by go_grown) hb (by simp); clear hb))
    go_ret
    exact ⟨ret_bool HF.out.symm, hB⟩
end Go.Proofs.Ytogjcfcfgnbmkaa
