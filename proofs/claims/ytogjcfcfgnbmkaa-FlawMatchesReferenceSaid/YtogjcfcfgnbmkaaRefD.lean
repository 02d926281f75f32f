/- Contracts of reference 04: circle. -/
import Derived.Test.YtogjcfcfgnbmkaaRefC
import Derived.Test.YtogjcfcfgnbmkaaFlaw6
namespace Go.Proofs.Ytogjcfcfgnbmkaa
open Go.RowKit
set_option linter.unusedVariables false
set_option linter.unusedSimpArgs false

theorem size_drewN (w : World) (n : Nat) : (w.drewN n).heap.size = w.heap.size := rfl
theorem rreached0_any (S : Sch) (a : Option Addr) (cap : Nat) (w : World) (hR : RulS w a S.rules) (hS : Fit S) (hm : 0 < S.modes.toNat) :
    Calls Try.prog 28 #[.agg #[.int .i64 S.modes, .int .u8 S.acc, .slice a S.rules.length cap], .int .i64 0] w fun e w' => ∃ v, e = .returned v ∧ MaskAt w' w.heap.size v S.modes.toNat (reachS S) ∧ Below w.heap.size w w' := rreached_any S a cap 0 w hR hS hm
def silAt (S : Sch) (E : List Int) : Bool := E.all fun i => emptyR (S.rules.getD i.toNat ⟨0, 0, ⟨#[]⟩, ⟨#[]⟩, 0⟩)
theorem follow_none {use : Rl → Bool} {R : List Rl} : ∀ {C : List Int} {m : Int}, followF (fun _ => true) R m C = none → followF use R m C = none
  | [], m, h => by rw [followF] at h; cases h
  | i :: C, m, h => by
    rw [followF] at h ⊢
    split at h
    · rename_i hi
      rw [dif_pos hi]
      split at h
      · split
        · exact follow_none h
        · rfl
      · rename_i h2
        rw [if_neg (fun h3 => h2 ⟨h3.1, rfl⟩)]
    · rename_i hi; rw [dif_neg hi]
theorem follow_some {S : Sch} : ∀ {C : List Int} {m t : Int}, followF (fun _ => true) S.rules m C = some t → (∀ k (h : k < C.length), 0 ≤ C[k] ∧ C[k].toNat < S.rules.length) ∧ followF emptyR S.rules m C = if silAt S C = true then some t else none
  | [], m, t, h => ⟨fun k hk => by simp at hk, by rw [followF] at h ⊢; rw [h]; rfl⟩
  | i :: C, m, t, h => by
    rw [followF] at h
    split at h
    · rename_i hi
      split at h
      · rename_i h2
        obtain ⟨h3, h4⟩ := follow_some h
        refine ⟨fun k hk => ?_, ?_⟩
        · cases k with
          | zero => exact hi
          | succ k => exact h3 k (by simpa using hk)
        · rw [followF, dif_pos hi]
          have e : silAt S (i :: C) = (emptyR S.rules[i.toNat] && silAt S C) := by
            unfold silAt
            rw [List.all_cons, List.getD_eq_getElem?_getD, List.getElem?_eq_getElem hi.2]; rfl
          rw [e]
          cases he : emptyR S.rules[i.toNat] with
          | true => rw [if_pos ⟨h2.1, rfl⟩, h4, Bool.true_and]
          | false => rw [if_neg (by simp), Bool.false_and]; rfl
      · cases h
    · cases h

set_option maxHeartbeats 3200000 in
theorem circle_any (S : Sch) (a : Option Addr) (cap : Nat) (e : Option Addr) (ne ce : Nat) (E : List Int) (w : World) (hne : ne = E.length) (hR : RulS w a S.rules) (hFit : Fit S) (hE : SlS w e E) (hEl0 : 0 < E.length) (hEl : E.length ≤ 100000) :
    Calls Try.prog 48 #[.agg #[.int .i64 S.modes, .int .u8 S.acc, .slice a S.rules.length cap], .slice e ne ce] w fun ee w' => ee = .returned (.bool (endOk S E)) ∧ Below w.heap.size w w' := by
  subst hne
  have HFit := Lib.hid hFit
  have hlen := hFit.len
  obtain ⟨m0, m1, -, -, -, -⟩ := hFit
  obtain ⟨mm, hmm⟩ := Int.eq_ofNat_of_zero_le (show 0 ≤ S.modes by omega)
  have HM : Hid (S.modes.toNat = mm) := by show _ = _; omega
  have hB0 : ∀ k, Below w.heap.size w ((w.alloc (.cells #[.int .i64 S.modes, .int .u8 S.acc, .slice a S.rules.length cap] 33)).drewN k) := fun k => ((Below.refl _ _).alloc (Nat.le_refl _) _).trans (below_drewN _ _)
  have HEe : Hid (E.isEmpty = false) := by show _ = _; rcases E with _ | ⟨x, E⟩; simp at hEl0; rfl
  obtain ⟨b', o', ha', hb', q'⟩ := hE.at hEl0
  have hidx' : ∀ W : World, (Instr.indexAt 38 (.slice e E.length ce) (.int .i64 0)).run Try.prog W = .ok (.pointer (some ⟨b', o', none⟩)) W := fun W => idx_ints e b' o' E.length ce 0 ha' hEl0 W
  rw [Nat.add_zero] at q'
  have hga := getD_at hEl0
  have HE := Lib.hid hE
  have hEp : (0 : Int) < (E.length : Int) := by omega
  clear hE ha'
  by_cases hn0 : E[0] < 0
  · have HF : Hid (endOk S E = false) := by show _ = _; rw [endOk, HEe.out, hga, decide_eq_false (by omega)]; rfl
    have HR := Lib.hid hR
    clear hga hR
    go_enter Try.func48, Try.ntmps48
    go_wp2
    go_quiet (fail)
    go_wp2
    go_ret
    exact ⟨ret_bool HF.out.symm, ((Below.refl _ _).alloc (Nat.le_refl _) _).trans (below_drewN _ _)⟩
  have hd1 : decide (E[0] < 0) = false := by simp; omega
  by_cases hn1 : (S.rules.length : Int) ≤ E[0]
  · have HF : Hid (endOk S E = false) := by show _ = _; rw [endOk, HEe.out, hga, dif_neg (by omega)]; simp
    have HR := Lib.hid hR
    clear hga hR
    go_enter Try.func48, Try.ntmps48
    go_wp2
    go_quiet (fail)
    go_wp2
    go_ret
    exact ⟨ret_bool HF.out.symm, ((Below.refl _ _).alloc (Nat.le_refl _) _).trans (below_drewN _ _)⟩
  obtain ⟨n, hn⟩ := Int.eq_ofNat_of_zero_le (show 0 ≤ E[0] by omega)
  have hnl : n < S.rules.length := by omega
  obtain ⟨b2, o2, ha2, hb2, q0, q1, q2, q3, q4⟩ := hR.at hnl
  have hidx := idx_rules a b2 o2 S.rules.length cap n ha2 hnl
  obtain ⟨f0, f1, t0, t1⟩ := HFit.out.at0 n hnl
  have f2 : S.rules[n].frm < (mm : Int) := by omega
  have HEO : Hid (endOk S E = match followF emptyR S.rules S.rules[n].frm E with | some t => decide (t = S.rules[n].frm) && ((reachS S).testBit t.toNat && (liveS S).testBit t.toNat) | none => false) := by
    show _ = _
    rw [endOk, HEe.out, hga, hn, decide_eq_true (by omega)]
    simp only [Int.toNat_natCast]
    rw [dif_pos hnl]; rfl
  rw [hn] at q' hn0 hn1 hd1
  have hd2 : decide ((S.rules.length : Int) ≤ (n : Int)) = false := by simp; omega
  have hd3 : decide (S.rules.length ≤ n) = false := by simp; omega
  have HR := Lib.hid hR
  clear hn hga ha2 hmm hR
  obtain ⟨fe, hfe⟩ : ∃ fe, followF (fun _ => true) S.rules S.rules[n].frm E = fe := ⟨_, rfl⟩
  have HFE := Lib.hid hfe; clear hfe
  rcases fe with _ | t2
  · have HF : Hid (endOk S E = false) := by show _ = _; rw [HEO.out, follow_none HFE.out]
    go_enter Try.func48, Try.ntmps48
    go_wp2
    go_quiet (fail)
    go_wp2
    go_quiet (fail)
    go_wp2_with (first | (go_at_call 21; refine (chain_any S a cap S.rules[n].frm e E.length ce E _ rfl (HR.out.later (by first | exact hB | exact hB0 _ | go_grown) (Nat.le_refl _)) hlen (HE.out.later (by first | exact hB | exact hB0 _ | go_grown) (Nat.le_refl _)) hEl).mono ?_; rintro ee w5 ⟨he, hb⟩; rw [HFE.out] at he; simp only [optV] at he; subst he; obtain ⟨hz, hc, hf⟩ := bcell hb (by first | (simp only [World.size_alloc, World.size_setCell, World.size_drew, size_drewN]; rfl) | rfl); have hB := below_call (B := w.heap.size) (w := w) (by first | exact hB | exact hB0 _ | go_grown) hb (Nat.le_refl _); clear hb) | fail)
    go_ret
    exact ⟨ret_bool HF.out.symm, hB⟩
  have HIN := Lib.hid (follow_some HFE.out).1
  obtain ⟨si, hsi⟩ : ∃ si, silAt S E = si := ⟨_, rfl⟩
  have HSI : Hid ((E.all fun i => emptyR (S.rules.getD i.toNat ⟨0, 0, ⟨#[]⟩, ⟨#[]⟩, 0⟩)) = si) := hsi
  obtain ⟨am, ham⟩ : ∃ am, (reachS S).testBit S.rules[n].frm.toNat = am := ⟨_, rfl⟩
  obtain ⟨bm, hbm⟩ : ∃ bm, (liveS S).testBit S.rules[n].frm.toNat = bm := ⟨_, rfl⟩
  have HEO2 : Hid (endOk S E = (decide (t2 = S.rules[n].frm) && (si && (am && bm)))) := by
    show _ = _
    rw [HEO.out, (follow_some HFE.out).2, hsi]
    cases si with
    | false => simp
    | true =>
      simp only [if_true]
      by_cases h : t2 = S.rules[n].frm
      · subst h; rw [ham, hbm]; simp
      · rw [decide_eq_false h]; rfl
  have HAm := Lib.hid ham; have HBf := Lib.hid hbm
  clear hsi ham hbm
  by_cases htf : t2 = S.rules[n].frm
  · have htf1 : (t2 == S.rules[n].frm) = true := by simp [htf]
    have HEO3 : Hid (endOk S E = (si && (am && bm))) := by show _ = _; rw [HEO2.out, decide_eq_true htf, Bool.true_and]
    clear htf
    cases si with
    | false =>
      have HF : Hid (endOk S E = false) := by rw [HEO3.out]; rfl
      go_enter Try.func48, Try.ntmps48
      go_wp2
      go_quiet (fail)
      go_wp2
      go_quiet (fail)
      go_wp2_with (first | (go_at_call 21; refine (chain_any S a cap S.rules[n].frm e E.length ce E _ rfl (HR.out.later (by first | exact hB | exact hB0 _ | go_grown) (Nat.le_refl _)) hlen (HE.out.later (by first | exact hB | exact hB0 _ | go_grown) (Nat.le_refl _)) hEl).mono ?_; rintro ee w5 ⟨he, hb⟩; rw [HFE.out] at he; simp only [optV] at he; subst he; obtain ⟨hz, hc, hf⟩ := bcell hb (by first | (simp only [World.size_alloc, World.size_setCell, World.size_drew, size_drewN]; rfl) | rfl); have hB := below_call (B := w.heap.size) (w := w) (by first | exact hB | exact hB0 _ | go_grown) hb (Nat.le_refl _); clear hb) | (go_at_call 27; refine (silent_any S a cap e E.length ce E _ rfl (HR.out.later (by first | exact hB | exact hB0 _ | go_grown) (Nat.le_refl _)) hlen (HE.out.later (by first | exact hB | exact hB0 _ | go_grown) (Nat.le_refl _)) hEl HIN.out).mono ?_; rintro ee w6 ⟨he, hb⟩; rw [HSI.out] at he; subst he; obtain ⟨hz, hc, hf⟩ := bcell hb (by first | (simp only [World.size_alloc, World.size_setCell, World.size_drew, size_drewN]; rfl) | rfl); have hB := below_call (B := w.heap.size) (w := w) (by first | exact hB | exact hB0 _ | go_grown) hb (Nat.le_refl _); clear hb) | fail)
      go_ret
      exact ⟨ret_bool HF.out.symm, hB⟩
    | true =>
      cases am with
      | false =>
        have HF : Hid (endOk S E = false) := by rw [HEO3.out]; rfl
        go_enter Try.func48, Try.ntmps48
        go_wp2
        go_quiet (fail)
        go_wp2
        go_quiet (fail)
        go_wp2_with (first | (go_at_call 21; refine (chain_any S a cap S.rules[n].frm e E.length ce E _ rfl (HR.out.later (by first | exact hB | exact hB0 _ | go_grown) (Nat.le_refl _)) hlen (HE.out.later (by first | exact hB | exact hB0 _ | go_grown) (Nat.le_refl _)) hEl).mono ?_; rintro ee w5 ⟨he, hb⟩; rw [HFE.out] at he; simp only [optV] at he; subst he; obtain ⟨hz, hc, hf⟩ := bcell hb (by first | (simp only [World.size_alloc, World.size_setCell, World.size_drew, size_drewN]; rfl) | rfl); have hB := below_call (B := w.heap.size) (w := w) (by first | exact hB | exact hB0 _ | go_grown) hb (Nat.le_refl _); clear hb) | (go_at_call 27; refine (silent_any S a cap e E.length ce E _ rfl (HR.out.later (by first | exact hB | exact hB0 _ | go_grown) (Nat.le_refl _)) hlen (HE.out.later (by first | exact hB | exact hB0 _ | go_grown) (Nat.le_refl _)) hEl HIN.out).mono ?_; rintro ee w6 ⟨he, hb⟩; rw [HSI.out] at he; subst he; obtain ⟨hz, hc, hf⟩ := bcell hb (by first | (simp only [World.size_alloc, World.size_setCell, World.size_drew, size_drewN]; rfl) | rfl); have hB := below_call (B := w.heap.size) (w := w) (by first | exact hB | exact hB0 _ | go_grown) hb (Nat.le_refl _); clear hb) | (go_at_call 28; refine (rreached0_any S a cap _ (HR.out.later (by first | exact hB | exact hB0 _ | go_grown) (Nat.le_refl _)) HFit.out (by have := HM.out; omega)).mono ?_; rintro ee w7 ⟨v, rfl, ⟨g2, hv, hg2, hmask⟩, hb⟩; rw [HM.out] at hv hmask; subst hv; have hq := mask_cell hmask (i := S.rules[n].frm.toNat) (by omega); rw [HAm.out] at hq; clear hmask; obtain ⟨hz, hc, hf⟩ := bcell hb (by first | (simp only [World.size_alloc, World.size_setCell, World.size_drew, size_drewN]; rfl) | rfl); have hB := below_call (B := w.heap.size) (w := w) (by first | exact hB | exact hB0 _ | go_grown) hb (Nat.le_refl _); clear hb) | fail)
        go_ret
        exact ⟨ret_bool HF.out.symm, hB⟩
      | true =>
        have HF : Hid (endOk S E = bm) := by rw [HEO3.out]; rfl
        go_enter Try.func48, Try.ntmps48
        go_wp2
        go_quiet (fail)
        go_wp2
        go_quiet (fail)
        go_wp2_with (first | (go_at_call 21; refine (chain_any S a cap S.rules[n].frm e E.length ce E _ rfl (HR.out.later (by first | exact hB | exact hB0 _ | go_grown) (Nat.le_refl _)) hlen (HE.out.later (by first | exact hB | exact hB0 _ | go_grown) (Nat.le_refl _)) hEl).mono ?_; rintro ee w5 ⟨he, hb⟩; rw [HFE.out] at he; simp only [optV] at he; subst he; obtain ⟨hz, hc, hf⟩ := bcell hb (by first | (simp only [World.size_alloc, World.size_setCell, World.size_drew, size_drewN]; rfl) | rfl); have hB := below_call (B := w.heap.size) (w := w) (by first | exact hB | exact hB0 _ | go_grown) hb (Nat.le_refl _); clear hb) | (go_at_call 27; refine (silent_any S a cap e E.length ce E _ rfl (HR.out.later (by first | exact hB | exact hB0 _ | go_grown) (Nat.le_refl _)) hlen (HE.out.later (by first | exact hB | exact hB0 _ | go_grown) (Nat.le_refl _)) hEl HIN.out).mono ?_; rintro ee w6 ⟨he, hb⟩; rw [HSI.out] at he; subst he; obtain ⟨hz, hc, hf⟩ := bcell hb (by first | (simp only [World.size_alloc, World.size_setCell, World.size_drew, size_drewN]; rfl) | rfl); have hB := below_call (B := w.heap.size) (w := w) (by first | exact hB | exact hB0 _ | go_grown) hb (Nat.le_refl _); clear hb) | (go_at_call 28; refine (rreached0_any S a cap _ (HR.out.later (by first | exact hB | exact hB0 _ | go_grown) (Nat.le_refl _)) HFit.out (by have := HM.out; omega)).mono ?_; rintro ee w7 ⟨v, rfl, ⟨g2, hv, hg2, hmask⟩, hb⟩; rw [HM.out] at hv hmask; subst hv; have hq := mask_cell hmask (i := S.rules[n].frm.toNat) (by omega); rw [HAm.out] at hq; clear hmask; obtain ⟨hz, hc, hf⟩ := bcell hb (by first | (simp only [World.size_alloc, World.size_setCell, World.size_drew, size_drewN]; rfl) | rfl); have hB := below_call (B := w.heap.size) (w := w) (by first | exact hB | exact hB0 _ | go_grown) hb (Nat.le_refl _); clear hb) | (go_at_call 25; refine (rlive_any S a cap _ (HR.out.later (by first | exact hB | exact hB0 _ | go_grown) (Nat.le_refl _)) HFit.out).mono ?_; rintro ee w8 ⟨v, rfl, ⟨g3, hv, hg3, hmask⟩, hb⟩; rw [HM.out] at hv hmask; subst hv; have hq3 := mask_cell hmask (i := S.rules[n].frm.toNat) (by omega); rw [HBf.out] at hq3; clear hmask; obtain ⟨hz, hc, hf⟩ := bcell hb (by first | (simp only [World.size_alloc, World.size_setCell, World.size_drew, size_drewN]; rfl) | rfl); have hB := below_call (B := w.heap.size) (w := w) (by first | exact hB | exact hB0 _ | go_grown) hb (Nat.le_refl _); clear hb) | fail)
        go_ret
        exact ⟨ret_bool HF.out.symm, hB⟩
  · have HF : Hid (endOk S E = false) := by show _ = _; rw [HEO2.out, decide_eq_false htf]; rfl
    have htf1 : (t2 == S.rules[n].frm) = false := by simp [htf]
    clear htf
    go_enter Try.func48, Try.ntmps48
    go_wp2
    go_quiet (fail)
    go_wp2
    go_quiet (fail)
    go_wp2_with (first | (go_at_call 21; refine (chain_any S a cap S.rules[n].frm e E.length ce E _ rfl (HR.out.later (by first | exact hB | exact hB0 _ | go_grown) (Nat.le_refl _)) hlen (HE.out.later (by first | exact hB | exact hB0 _ | go_grown) (Nat.le_refl _)) hEl).mono ?_; rintro ee w5 ⟨he, hb⟩; rw [HFE.out] at he; simp only [optV] at he; subst he; obtain ⟨hz, hc, hf⟩ := bcell hb (by first | (simp only [World.size_alloc, World.size_setCell, World.size_drew, size_drewN]; rfl) | rfl); have hB := below_call (B := w.heap.size) (w := w) (by first | exact hB | exact hB0 _ | go_grown) hb (Nat.le_refl _); clear hb) | fail)
    go_ret
    exact ⟨ret_bool HF.out.symm, hB⟩
end Go.Proofs.Ytogjcfcfgnbmkaa
