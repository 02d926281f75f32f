/- Check and Valid of package scheme. -/
import Derived.Test.YtogjcfcfgnbmkaaRules
import Derived.BigQuiet
import Derived.Deep.LoopGhost
import Derived.Deep.QuietTactic
namespace Go.Proofs.Ytogjcfcfgnbmkaa
open Go.RowKit
set_option linter.unusedVariables false
set_option linter.unusedSimpArgs false

structure Sch where
  modes : Int
  acc : Int
  rules : List Rl
def headB (S : Sch) : Bool := decide (1 ≤ S.modes) && (decide (S.modes ≤ 8) && (decide (S.rules.length ≤ 64) && (decide (1 ≤ S.acc) && decide (S.acc < 2 ^ S.modes.toNat))))
def goodAt (S : Sch) (r : Rl) (R : List Rl) : Bool := rightB S.modes r && !R.any (eqRl r)
def validTo (S : Sch) (k : Nat) : Prop := ∀ i (h : i < S.rules.length), i < k → goodAt S S.rules[i] (S.rules.take i) = true
def Valid (S : Sch) : Prop := headB S = true ∧ validTo S S.rules.length
theorem below_drewN {B : Nat} (w : World) (n : Nat) : Below B w (w.drewN n) := by
  exact ⟨rfl, rfl, rfl, Nat.le_refl _, fun _ _ => rfl⟩
open Classical in
noncomputable def validB (S : Sch) : Bool := decide (Valid S)
noncomputable def errV (S : Sch) : Int := if validB S = true then 0 else 20

/-- a scheme as a value: three cells -/
def CheckPost (S : Sch) (w : World) (e : Ending) (w' : World) : Prop := ∃ i : Int, e = .returned (.tuple #[.int .i64 i, .int .i64 (errV S)]) ∧ Below w.heap.size w w'

theorem slice_low (a : Option Addr) (n cap k : Nat) (hk : k ≤ cap) (w : World) :
    (Instr.slice 31 (.slice a n cap) none (some (.int .i64 (k : Int))) none).run Try.prog w = .ok (.slice a k cap) w := by
  have h0 : (0 : Int) ≤ (k : Int) := by omega
  have h1 : (k : Int) ≤ (cap : Int) := by omega
  cases a with
  | none => simp [go_sem, Instr.slice, Instr.sliceBounds, Instr.sliceBound, asIntOf, h0, h1]; intro h; omega
  | some a => simp [go_sem, Instr.slice, Instr.sliceBounds, Instr.sliceBound, asIntOf, h0, h1]; intro h; omega
theorem pow2_bd (n : Nat) (h : n ≤ 8) : 0 ≤ (2 : Int) ^ n ∧ (2 : Int) ^ n ≤ 256 := by
  rcases (show n = 0 ∨ n = 1 ∨ n = 2 ∨ n = 3 ∨ n = 4 ∨ n = 5 ∨ n = 6 ∨ n = 7 ∨ n = 8 by omega) with rfl | rfl | rfl | rfl | rfl | rfl | rfl | rfl | rfl <;> decide
theorem validTo_snoc {S : Sch} {k : Nat} (hk : k < S.rules.length) (h : validTo S k) (hg : goodAt S S.rules[k] (S.rules.take k) = true) : validTo S (k + 1) := by
  intro i hi hik
  by_cases e : i = k
  · subst e; exact hg
  · exact h i hi (by omega)
theorem errV_bad {S : Sch} (h : ¬ Valid S) : errV S = 20 := by simp [errV, validB, h]
theorem errV_good {S : Sch} (h : Valid S) : errV S = 0 := by simp [errV, validB, h]
theorem bad_head {S : Sch} (h : headB S = false) : ¬ Valid S := fun v => by rw [v.1] at h; cases h
theorem bad_at {S : Sch} {k : Nat} (hk : k < S.rules.length) (h : goodAt S S.rules[k] (S.rules.take k) = false) : ¬ Valid S := fun v => by rw [v.2 k hk hk] at h; cases h

set_option maxHeartbeats 3200000 in
theorem check_any (S : Sch) (a : Option Addr) (cap : Nat) (w : World) (hR : RulS w a S.rules) (h0 : 0 ≤ S.acc) (h1 : S.acc ≤ 255) (hl : S.rules.length ≤ 9223372036854775807) (hcap : S.rules.length ≤ cap) :
    Calls Try.prog 54 #[.agg #[.int .i64 S.modes, .int .u8 S.acc, .slice a S.rules.length cap]] w (CheckPost S w) := by
  by_cases hm : S.modes < 1
  · have H := Lib.hid (errV_bad (S := S) (bad_head (by simp [headB]; omega)))
    go_enter Try.func54, Try.ntmps54
    go_wp2
    go_ret2
    exact ⟨-1, by rw [H.out]; rfl, by go_grown⟩
  by_cases hm2 : 8 < S.modes
  · have H := Lib.hid (errV_bad (S := S) (bad_head (by simp [headB]; omega)))
    go_enter Try.func54, Try.ntmps54
    go_wp2
    go_ret2
    exact ⟨-1, by rw [H.out]; rfl, by go_grown⟩
  by_cases hl64 : 64 < S.rules.length
  · have H := Lib.hid (errV_bad (S := S) (bad_head (by simp [headB]; omega)))
    go_enter Try.func54, Try.ntmps54
    go_wp2
    go_ret2
    exact ⟨-1, by rw [H.out]; rfl, by go_grown⟩
  by_cases ha1 : S.acc < 1
  · have H := Lib.hid (errV_bad (S := S) (bad_head (by simp [headB]; omega)))
    have hd : decide (S.acc < 1) = true := by simp; omega
    go_enter Try.func54, Try.ntmps54
    go_wp2
    go_quiet (fail)
    go_wp2
    go_ret2
    exact ⟨-1, by rw [H.out]; rfl, ((Below.refl _ _).alloc (Nat.le_refl _) _).trans (below_drewN _ _)⟩
  have hd : decide (S.acc < 1) = false := by simp; omega
  obtain ⟨p2, hp2⟩ : ∃ p, (2 : Int) ^ S.modes.toNat = p := ⟨_, rfl⟩
  have hp0 : 0 ≤ p2 ∧ p2 ≤ 256 := by
    rw [← hp2]; exact pow2_bd _ (by omega)
  have hw : wrap64 (2 ^ S.modes.toNat) = p2 := by rw [hp2]; exact IntWalk.wrap64_in _ (by omega)
  by_cases hp : p2 ≤ S.acc
  · have H := Lib.hid (errV_bad (S := S) (bad_head (by unfold headB; rw [hp2]; simp only [Bool.and_eq_true, Bool.and_eq_false_iff, decide_eq_true_eq, decide_eq_false_iff_not]; omega)))
    have HP2 := Lib.hid hp2; clear hp2
    go_enter Try.func54, Try.ntmps54
    go_wp2
    go_quiet (fail)
    go_wp2
    go_ret2
    exact ⟨-1, by rw [H.out]; rfl, ((Below.refl _ _).alloc (Nat.le_refl _) _).trans (below_drewN _ _)⟩
  have hd64 : decide (64 < (S.rules.length : Int)) = false := by simp; omega
  have hdp : decide (p2 ≤ S.acc) = false := by simp; omega
  have HH : Hid (headB S = true) := by show _ = true; simp [headB, hp2]; omega
  have HP2 := Lib.hid hp2; clear hp2
  have HR := Lib.hid hR; clear hR
  go_enter Try.func54, Try.ntmps54
  go_wp2
  go_quiet (fail)
  go_wp2
  clear hw
  go_loopg [35] S.rules.length (fun g i wr => ∃ k : Nat, k ≤ S.rules.length ∧ g = S.rules.length - k ∧ i = .int .i64 k ∧ validTo S k ∧ Below (w.heap.size + 1) (w.alloc (.cells #[.int .i64 S.modes, .int .u8 S.acc, .slice a S.rules.length cap] 33)) wr)
  case atStart => exact ⟨0, Nat.zero_le _, rfl, rfl, fun i _ h => by omega, (below_drewN _ _)⟩
  case round =>
    obtain ⟨k, hk, rfl, rfl, hv, hal⟩ := hrel
    have HV := Lib.hid hv; clear hv
    have hB : Below w.heap.size w wr := ((Below.refl _ _).alloc (Nat.le_refl _) _).trans (hal.mono (by omega))
    obtain ⟨hz, hc, hf⟩ := bcellB hal rfl
    simp only [World.size_alloc] at hz
    by_cases hlt : k < S.rules.length
    · have hRw : RulS wr a S.rules := HR.out.later hB (Nat.le_refl _)
      obtain ⟨b, o, ha, hb, q0, q1, q2, q3, q4⟩ := hRw.at hlt
      have HRk : Hid (RulS wr a (S.rules.take k)) := hRw.take k
      have HTL : Hid (k = (S.rules.take k).length) := by show k = _; rw [List.length_take]; omega
      have hidx := idx_rules a b o S.rules.length cap k ha hlt
      have hsl := slice_low a S.rules.length cap k (by omega)
      have HA := Lib.hid ha; clear ha hRw
      by_cases hr : rightB S.modes S.rules[k] = true
      · have HQ := Lib.hid hr
        by_cases hcn : (S.rules.take k).any (eqRl S.rules[k]) = true
        · have HB : Hid (errV S = 20) := errV_bad (bad_at hlt (by simp [goodAt, hr, hcn]))
          go_wp2_with fail
          go_region_held3 (fun w' => w'.cell? ⟨w.heap.size, 0, none⟩ = some (.int .i64 S.modes) ∧ w'.cell? ⟨w.heap.size, 2, none⟩ = some (.slice a S.rules.length cap) ∧ w'.cell? ⟨wr.heap.size, 0, none⟩ = some (.int .i64 S.rules[k].frm) ∧ w'.cell? ⟨wr.heap.size, 1, none⟩ = some (.int .i64 S.rules[k].dst) ∧ w'.cell? ⟨wr.heap.size, 2, none⟩ = some (.string S.rules[k].inp) ∧ w'.cell? ⟨wr.heap.size, 3, none⟩ = some (.string S.rules[k].out) ∧ w'.cell? ⟨wr.heap.size, 4, none⟩ = some (.int .i64 S.rules[k].cost)) (first | (simp [go_sem, *]; done) | go_keep) (first | (go_at_call 60; refine (right_any _ S.rules[k] _).mono ?_; rintro e w1 ⟨he, hb⟩; rw [HQ.out] at he; subst he; have HR1 : Hid (RulS w1 a (S.rules.take k)) := HRk.out.later (below_call (B := wr.heap.size) (w := wr) (by go_grown) hb (Nat.le_refl _)) (Nat.le_refl _); obtain ⟨hz, hc, hf⟩ := bcell hb (by first | (simp only [World.size_alloc, World.size_setCell, World.size_drew]; rfl) | rfl); have hB := below_call (B := w.heap.size) (w := w) (by go_grown) hb (Nat.le_refl _); have hal := below_call (B := w.heap.size + 1) (w := w.alloc (.cells #[.int .i64 S.modes, .int .u8 S.acc, .slice a S.rules.length cap] 33)) (by go_grown) hb (by simp); clear hb) | (go_at_call 61; refine (contains_any (S.rules.take k) _ _ _ S.rules[k] _ HR1.out HTL.out (by omega)).mono ?_; rintro e w1 ⟨rfl, hb⟩; obtain ⟨hz, hc, hf⟩ := bcell hb (by first | (simp only [World.size_alloc, World.size_setCell, World.size_drew]; rfl) | rfl); have hB := below_call (B := w.heap.size) (w := w) (by go_grown) hb (Nat.le_refl _); have hal := below_call (B := w.heap.size + 1) (w := w.alloc (.cells #[.int .i64 S.modes, .int .u8 S.acc, .slice a S.rules.length cap] 33)) (by go_grown) hb (by simp); clear hb))
          all_goals
            go_wp2
            go_ret2
            exact ⟨k, by rw [HB.out]; rfl, by go_grown⟩
        · have hcn' : (S.rules.take k).any (eqRl S.rules[k]) = false := by simpa using hcn
          have HB : Hid (validTo S (k + 1)) := validTo_snoc hlt HV.out (by simp [goodAt, hr, hcn'])
          clear hcn
          go_wp2_with fail
          go_region_held3 (fun w' => w'.cell? ⟨w.heap.size, 0, none⟩ = some (.int .i64 S.modes) ∧ w'.cell? ⟨w.heap.size, 2, none⟩ = some (.slice a S.rules.length cap) ∧ w'.cell? ⟨wr.heap.size, 0, none⟩ = some (.int .i64 S.rules[k].frm) ∧ w'.cell? ⟨wr.heap.size, 1, none⟩ = some (.int .i64 S.rules[k].dst) ∧ w'.cell? ⟨wr.heap.size, 2, none⟩ = some (.string S.rules[k].inp) ∧ w'.cell? ⟨wr.heap.size, 3, none⟩ = some (.string S.rules[k].out) ∧ w'.cell? ⟨wr.heap.size, 4, none⟩ = some (.int .i64 S.rules[k].cost)) (first | (simp [go_sem, *]; done) | go_keep) (first | (go_at_call 60; refine (right_any _ S.rules[k] _).mono ?_; rintro e w1 ⟨he, hb⟩; rw [HQ.out] at he; subst he; have HR1 : Hid (RulS w1 a (S.rules.take k)) := HRk.out.later (below_call (B := wr.heap.size) (w := wr) (by go_grown) hb (Nat.le_refl _)) (Nat.le_refl _); obtain ⟨hz, hc, hf⟩ := bcell hb (by first | (simp only [World.size_alloc, World.size_setCell, World.size_drew]; rfl) | rfl); have hB := below_call (B := w.heap.size) (w := w) (by go_grown) hb (Nat.le_refl _); have hal := below_call (B := w.heap.size + 1) (w := w.alloc (.cells #[.int .i64 S.modes, .int .u8 S.acc, .slice a S.rules.length cap] 33)) (by go_grown) hb (by simp); clear hb) | (go_at_call 61; refine (contains_any (S.rules.take k) _ _ _ S.rules[k] _ HR1.out HTL.out (by omega)).mono ?_; rintro e w1 ⟨rfl, hb⟩; obtain ⟨hz, hc, hf⟩ := bcell hb (by first | (simp only [World.size_alloc, World.size_setCell, World.size_drew]; rfl) | rfl); have hB := below_call (B := w.heap.size) (w := w) (by go_grown) hb (Nat.le_refl _); have hal := below_call (B := w.heap.size + 1) (w := w.alloc (.cells #[.int .i64 S.modes, .int .u8 S.acc, .slice a S.rules.length cap] 33)) (by go_grown) hb (by simp); clear hb))
          all_goals
            go_wp2
            go_roundg (S.rules.length - (k + 1))
            case rel => exact ⟨k + 1, by omega, rfl, by go_num, HB.out, by go_grown⟩
            case measure => omega
      · have hr' : rightB S.modes S.rules[k] = false := by simpa using hr
        have HQ := Lib.hid hr'
        have HB : Hid (errV S = 20) := errV_bad (bad_at hlt (by simp [goodAt, hr']))
        clear hr
        go_wp2_with fail
        first | (go_region_with (go_at_call 60; refine (right_any _ S.rules[k] _).mono ?_; rintro e w1 ⟨he, hb⟩; rw [HQ.out] at he; subst he; have HR1 : Hid (RulS w1 a (S.rules.take k)) := HRk.out.later (below_call (B := wr.heap.size) (w := wr) (by go_grown) hb (Nat.le_refl _)) (Nat.le_refl _); obtain ⟨hz, hc, hf⟩ := bcell hb (by first | (simp only [World.size_alloc, World.size_setCell, World.size_drew]; rfl) | rfl); have hB := below_call (B := w.heap.size) (w := w) (by go_grown) hb (Nat.le_refl _); have hal := below_call (B := w.heap.size + 1) (w := w.alloc (.cells #[.int .i64 S.modes, .int .u8 S.acc, .slice a S.rules.length cap] 33)) (by go_grown) hb (by simp); clear hb)) | fail
        all_goals
          go_wp2
          go_ret2
          exact ⟨k, by rw [HB.out]; rfl, by go_grown⟩
    · obtain rfl : k = S.rules.length := by omega
      have HB : Hid (errV S = 0) := errV_good ⟨HH.out, HV.out⟩
      go_wp2
      go_ret2
      exact ⟨_, by rw [HB.out]; rfl, hB⟩

theorem valid_any (S : Sch) (a : Option Addr) (cap : Nat) (w : World) (hR : RulS w a S.rules) (h0 : 0 ≤ S.acc) (h1 : S.acc ≤ 255) (hl : S.rules.length ≤ 9223372036854775807) (hcap : S.rules.length ≤ cap) :
    Calls Try.prog 36 #[.agg #[.int .i64 S.modes, .int .u8 S.acc, .slice a S.rules.length cap]] w fun e w' => e = .returned (.bool (validB S)) ∧ Below w.heap.size w w' := by
  have HR : Hid (RulS (w.alloc (.cells #[.int .i64 S.modes, .int .u8 S.acc, .slice a S.rules.length cap] 33)) a S.rules) := hR.later ((Below.refl _ _).alloc (Nat.le_refl _) _) (Nat.le_refl _)
  have HE : Hid ((errV S == 0) = validB S) := by show _ = _; unfold errV; cases validB S <;> rfl
  clear hR
  go_enter Try.func36, Try.ntmps36
  go_wp2_with (go_at_call 54; refine (check_any S a cap _ HR.out h0 h1 hl hcap).mono ?_; rintro e w1 ⟨i, rfl, hb⟩; have hB := below_call (B := w.heap.size) (w := w) (by go_grown) hb (Nat.le_refl _); clear hb)
  go_ret
  exact ⟨ret_bool HE.out, hB⟩
end Go.Proofs.Ytogjcfcfgnbmkaa
