/- Contracts of package flaw: sets of modes, the modes that are reached, and those that are live. -/
import Derived.Test.YtogjcfcfgnbmkaaCheck
namespace Go.Proofs.Ytogjcfcfgnbmkaa
open Go.RowKit
set_option linter.unusedVariables false
set_option linter.unusedSimpArgs false

/-! ### plain: edges and masks -/
structure Ed where
  f : Nat
  t : Nat
  e : Bool
def Rl.ed (r : Rl) : Ed := ⟨r.frm.toNat, r.dst.toNat, decide (r.inp.size = 0)⟩
def Sch.eds (S : Sch) : List Ed := S.rules.map Rl.ed
def stepR (L : Nat) (x : Ed) : Nat := if L.testBit x.f then L ||| 2 ^ x.t else L
def stepL (L : Nat) (x : Ed) : Nat := if L.testBit x.t then L ||| 2 ^ x.f else L
def iterN (f : Nat → Nat) : Nat → Nat → Nat
  | 0, x => x
  | n + 1, x => f (iterN f n x)
def reachedM (E : List Ed) (m : Nat) : Nat := iterN (fun L => E.foldl stepR L) m 1
def liveM (E : List Ed) (m acc : Nat) : Nat := iterN (fun L => E.foldl stepL L) m acc
/-- all modes of the rules lie within n modes -/
def Within (n : Nat) (E : List Ed) : Prop := ∀ x ∈ E, x.f < n ∧ x.t < n

theorem pow_lt (t : Nat) (h : t < 8) : 2 ^ t < 256 := by
  rcases (show t = 0 ∨ t = 1 ∨ t = 2 ∨ t = 3 ∨ t = 4 ∨ t = 5 ∨ t = 6 ∨ t = 7 by omega) with rfl | rfl | rfl | rfl | rfl | rfl | rfl | rfl <;> decide
theorem or_lt {a b : Nat} (h : a < 256) (h2 : b < 256) : a ||| b < 256 := Nat.or_lt_two_pow (n := 8) h h2
theorem stepR_lt {L : Nat} {x : Ed} (h : L < 256) (h2 : x.t < 8) : stepR L x < 256 := by
  unfold stepR; split
  · exact or_lt h (pow_lt _ h2)
  · exact h
theorem stepL_lt {L : Nat} {x : Ed} (h : L < 256) (h2 : x.f < 8) : stepL L x < 256 := by
  unfold stepL; split
  · exact or_lt h (pow_lt _ h2)
  · exact h
theorem foldR_lt : ∀ (E : List Ed) (L : Nat), Within 8 E → L < 256 → E.foldl stepR L < 256
  | [], L, _, h => h
  | x :: E, L, hE, h => foldR_lt E _ (fun y hy => hE y (by simp [hy])) (stepR_lt h (hE x (by simp)).2)
theorem foldL_lt : ∀ (E : List Ed) (L : Nat), Within 8 E → L < 256 → E.foldl stepL L < 256
  | [], L, _, h => h
  | x :: E, L, hE, h => foldL_lt E _ (fun y hy => hE y (by simp [hy])) (stepL_lt h (hE x (by simp)).1)
theorem fold_snoc {f : Nat → Ed → Nat} {E : List Ed} {k : Nat} (hk : k < E.length) (L : Nat) : (E.take (k + 1)).foldl f L = f ((E.take k).foldl f L) E[k] := by
  rw [List.take_succ_eq_append_getElem hk, List.foldl_append]; rfl
theorem within_take {n : Nat} {E : List Ed} (h : Within n E) (k : Nat) : Within n (E.take k) := fun x hx => h x (List.mem_of_mem_take hx)
theorem and_pow_eq (L m : Nat) : L &&& 2 ^ m = if L.testBit m then 2 ^ m else 0 := by
  apply Nat.eq_of_testBit_eq
  intro i
  rw [Nat.testBit_and, Nat.testBit_two_pow]
  by_cases h : m = i
  · subst h
    cases hl : L.testBit m <;> simp [Nat.testBit_two_pow]
  · cases hl : L.testBit m <;> simp [Nat.testBit_two_pow, h]
theorem and_pow (L m : Nat) : (((L &&& 2 ^ m : Nat) : Int) != 0) = L.testBit m := by
  rw [and_pow_eq]
  have : 0 < 2 ^ m := Nat.two_pow_pos m
  cases h : L.testBit m
  · simp
  · rw [if_pos rfl]; exact bne_iff_ne.2 (by omega)

/-- what the walks need to know of a scheme: it is right in all that indexes -/
structure Fit (S : Sch) : Prop where
  m0 : 1 ≤ S.modes
  m1 : S.modes ≤ 8
  a0 : 0 ≤ S.acc
  a1 : S.acc ≤ 255
  len : S.rules.length ≤ 64
  at0 : ∀ i (h : i < S.rules.length), 0 ≤ S.rules[i].frm ∧ S.rules[i].frm < S.modes ∧ 0 ≤ S.rules[i].dst ∧ S.rules[i].dst < S.modes
theorem Fit.within {S : Sch} (h : Fit S) : Within 8 S.eds := by
  intro x hx
  obtain ⟨r, hr, rfl⟩ := List.mem_map.1 hx
  obtain ⟨i, hi, rfl⟩ := List.mem_iff_getElem.1 hr
  have := h.at0 i hi
  have := h.m1
  unfold Rl.ed
  simp only
  omega
theorem eds_len (S : Sch) : S.eds.length = S.rules.length := by simp [Sch.eds]
theorem eds_at (S : Sch) (k : Nat) (h : k < S.rules.length) : S.eds[k]'(by rw [eds_len]; exact h) = S.rules[k].ed := by simp [Sch.eds]

/-! ### walks -/
theorem one_any (m : Int) (w : World) (h0 : 0 ≤ m) (h1 : m < 8) :
    Calls Try.prog 56 #[.int .i64 m] w fun e w' => e = .returned (.int .u8 ((2 ^ m.toNat : Nat) : Int)) ∧ w = w' := by
  rcases (show m = 0 ∨ m = 1 ∨ m = 2 ∨ m = 3 ∨ m = 4 ∨ m = 5 ∨ m = 6 ∨ m = 7 by omega) with rfl | rfl | rfl | rfl | rfl | rfl | rfl | rfl
  all_goals
    go_enter Try.func56, Try.ntmps56
    go_wp2
    go_ret
    exact ⟨ret_int (by decide), rfl⟩

theorem has_any (L : Nat) (m : Int) (w : World) (hL : L < 256) (h0 : 0 ≤ m) (h1 : m < 8) :
    Calls Try.prog 44 #[.int .u8 (L : Int), .int .i64 m] w fun e w' => e = .returned (.bool (L.testBit m.toNat)) ∧ w = w' := by
  have hp := pow_lt m.toNat (by omega)
  have ha : bits .and .u8 (L : Int) ((2 ^ m.toNat : Nat) : Int) = ((L &&& 2 ^ m.toNat : Nat) : Int) := u8_and_nat _ _ hL hp
  have hb := and_pow L m.toNat
  generalize hpp : (2 ^ m.toNat : Nat) = p at *
  generalize ho : L.testBit m.toNat = o at *
  have HO := Lib.hid ho; have HP := Lib.hid hpp; clear ho hpp
  generalize (L &&& p : Nat) = q at *
  go_enter Try.func44, Try.ntmps44
  go_wp2_with (go_at_call 56; refine (one_any m _ h0 h1).mono ?_; rintro e w' ⟨he, rfl⟩; rw [HP.out] at he; subst he)
  go_ret
  exact ⟨rfl, rfl⟩


set_option maxHeartbeats 1600000 in
theorem reached_any (S : Sch) (a : Option Addr) (cap : Nat) (w : World) (hR : RulS w a S.rules) (hS : Fit S) :
    Calls Try.prog 39 #[.agg #[.int .i64 S.modes, .int .u8 S.acc, .slice a S.rules.length cap]] w fun e w' => e = .returned (.int .u8 ((reachedM S.eds S.modes.toNat : Nat) : Int)) ∧ Below w.heap.size w w' := by
  obtain ⟨m0, m1, a0, a1, hlen, at0⟩ := hS
  have HW : Hid (Within 8 S.eds) := Fit.within ⟨m0, m1, a0, a1, hlen, at0⟩
  have HR := Lib.hid hR; have HAT := Lib.hid at0; clear hR at0
  obtain ⟨mm, hmm⟩ := Int.eq_ofNat_of_zero_le (show 0 ≤ S.modes by omega)
  obtain ⟨sm, hsm⟩ : ∃ x, S.modes = x := ⟨_, rfl⟩
  obtain ⟨A, hA⟩ : ∃ A : Nat, S.acc = (A : Int) := ⟨S.acc.toNat, by omega⟩
  rw [hA] at a0 a1
  rw [hmm] at m0 m1
  rw [hmm, hA]
  have HM : Hid (S.modes.toNat = mm) := by show _ = _; omega
  have HA : Hid (S.acc.toNat = A) := by show _ = _; omega
  have HMM := Lib.hid hmm
  clear hA hmm hsm
  go_enter Try.func39, Try.ntmps39
  go_wp2_with (go_at_call 56; refine (one_any _ _ (by omega) (by omega)).mono ?_; rintro e w' ⟨rfl, rfl⟩)
  go_loopw [3, 9] (fun l j wr => ∃ k : Nat, k ≤ mm ∧ j = .int .i64 k ∧ ∃ L : Nat, L = iterN (fun L => S.eds.foldl stepR L) k 1 ∧ L < 256 ∧ l = .int .u8 (L : Int) ∧ Below (w.heap.size + 1) (w.alloc (.cells #[.int .i64 (mm : Int), .int .u8 (A : Int), .slice a S.rules.length cap] 33)) wr) (fun _ j _ => mm - (intOf j).toNat)
  case atStart => exact ⟨0, by omega, rfl, _, rfl, by show (_ : Nat) < 256; first | (show (1 : Nat) < 256; omega) | (show A < 256; omega), rfl, Below.refl _ _⟩
  case round =>
    obtain ⟨k, hk, rfl, L, hL, hL8, rfl, hal⟩ := hrel
    obtain ⟨wo, rfl⟩ : ∃ wo : World, wo = wr := ⟨_, rfl⟩
    have HL := Lib.hid hL; clear hL
    obtain ⟨hz, hc, hf⟩ := bcellB hal rfl
    simp only [World.size_alloc] at hz
    by_cases hlt : k < mm
    · go_wp2
      go_loopw [3, 14] (fun l j wr => ∃ i : Nat, i ≤ S.rules.length ∧ j = .int .i64 i ∧ ∃ Q : Nat, Q = (S.eds.take i).foldl stepR L ∧ Q < 256 ∧ l = .int .u8 (Q : Int) ∧ Below (w.heap.size + 1) (w.alloc (.cells #[.int .i64 (mm : Int), .int .u8 (A : Int), .slice a S.rules.length cap] 33)) wr) (fun _ j _ => S.rules.length - (intOf j).toNat)
      case atStart => exact ⟨0, by omega, rfl, _, rfl, hL8, rfl, hal⟩
      case round =>
        obtain ⟨i, hi, rfl, Q, hQ, hQ8, rfl, hal⟩ := hrel
        have HQ := Lib.hid hQ; clear hQ hc hf hz
        have hB : Below w.heap.size w wr := ((Below.refl _ _).alloc (Nat.le_refl _) _).trans (hal.mono (by omega))
        obtain ⟨hz, hc, hf⟩ := bcellB hal rfl
        simp only [World.size_alloc] at hz
        by_cases hli : i < S.rules.length
        · obtain ⟨b, o, ha, hb, q0, q1, q2, q3, q4⟩ := (HR.out.later hB (Nat.le_refl _)).at hli
          have hidx := idx_rules a b o S.rules.length cap i ha hli
          have HAd := Lib.hid ha; clear ha
          obtain ⟨f0, f1, t0, t1⟩ := HAT.out i hli
          rw [HMM.out] at f1 t1
          have HE : Hid (S.eds[i]'(by rw [eds_len]; exact hli) = S.rules[i].ed) := eds_at S i hli
          have HF : Hid ((S.eds.take (i + 1)).foldl stepR L = stepR Q S.rules[i].ed) := by
            show _ = _
            rw [fold_snoc (by rw [eds_len]; exact hli), HE.out, ← HQ.out]
          have HS8 : Hid (stepR Q S.rules[i].ed < 256) := stepR_lt hQ8 (by show S.rules[i].dst.toNat < 8; omega)
          by_cases htb : Q.testBit S.rules[i].frm.toNat = true
          · have HSt : Hid (stepR Q S.rules[i].ed = Q ||| 2 ^ S.rules[i].dst.toNat) := by show _ = _; unfold stepR; rw [if_pos (by exact htb)]; rfl
            have hor : bits .or .u8 (Q : Int) ((2 ^ S.rules[i].dst.toNat : Nat) : Int) = ((Q ||| 2 ^ S.rules[i].dst.toNat : Nat) : Int) := u8_or_nat _ _ hQ8 (pow_lt _ (by omega))
            generalize hp : (2 ^ S.rules[i].dst.toNat : Nat) = p at *
            have HP := Lib.hid hp; clear hp
            go_wp2_with (first
              | (go_at_call 44; refine (has_any _ _ _ hQ8 f0 (by omega)).mono ?_; rintro e w' ⟨rfl, rfl⟩)
              | (go_at_call 56; refine (one_any _ _ t0 (by omega)).mono ?_; rintro e w' ⟨he, rfl⟩; rw [HP.out] at he; subst he))
            go_roundw
            case rel => exact ⟨i + 1, by omega, by go_num, _, HF.out.symm, HS8.out, by rw [HSt.out], by go_grown⟩
            case measure => simp [intOf]; omega
          · have htb' : Q.testBit S.rules[i].frm.toNat = false := by simpa using htb
            have HSt : Hid (stepR Q S.rules[i].ed = Q) := by show _ = _; unfold stepR; rw [if_neg (by exact htb)]
            clear htb
            go_wp2_with (first
              | (go_at_call 44; refine (has_any _ _ _ hQ8 f0 (by omega)).mono ?_; rintro e w' ⟨rfl, rfl⟩))
            go_roundw
            case rel => exact ⟨i + 1, by omega, by go_num, _, HF.out.symm, HS8.out, by rw [HSt.out], by go_grown⟩
            case measure => simp [intOf]; omega
        · obtain rfl : i = S.rules.length := by omega
          have HF : Hid (S.eds.take S.rules.length = S.eds) := List.take_of_length_le (by rw [eds_len]; exact Nat.le_refl _)
          go_wp2
          go_roundw
          case rel => exact ⟨k + 1, by omega, by go_num, Q, by rw [HQ.out, HF.out, HL.out]; rfl, hQ8, rfl, hal⟩
          case measure => simp [intOf]; omega
    · obtain rfl : k = mm := by omega
      have hB : Below w.heap.size w wo := ((Below.refl _ _).alloc (Nat.le_refl _) _).trans (hal.mono (by omega))
      go_wp2
      go_ret
      exact ⟨ret_int (by rw [HL.out]; rfl), hB⟩

set_option maxHeartbeats 1600000 in
theorem live_any (S : Sch) (a : Option Addr) (cap : Nat) (w : World) (hR : RulS w a S.rules) (hS : Fit S) :
    Calls Try.prog 40 #[.agg #[.int .i64 S.modes, .int .u8 S.acc, .slice a S.rules.length cap]] w fun e w' => e = .returned (.int .u8 ((liveM S.eds S.modes.toNat S.acc.toNat : Nat) : Int)) ∧ Below w.heap.size w w' := by
  obtain ⟨m0, m1, a0, a1, hlen, at0⟩ := hS
  have HW : Hid (Within 8 S.eds) := Fit.within ⟨m0, m1, a0, a1, hlen, at0⟩
  have HR := Lib.hid hR; have HAT := Lib.hid at0; clear hR at0
  obtain ⟨mm, hmm⟩ := Int.eq_ofNat_of_zero_le (show 0 ≤ S.modes by omega)
  obtain ⟨sm, hsm⟩ : ∃ x, S.modes = x := ⟨_, rfl⟩
  obtain ⟨A, hA⟩ : ∃ A : Nat, S.acc = (A : Int) := ⟨S.acc.toNat, by omega⟩
  rw [hA] at a0 a1
  rw [hmm] at m0 m1
  rw [hmm, hA]
  have HM : Hid (S.modes.toNat = mm) := by show _ = _; omega
  have HA : Hid (S.acc.toNat = A) := by show _ = _; omega
  have HMM := Lib.hid hmm
  clear hA hmm hsm
  go_enter Try.func40, Try.ntmps40
  go_wp2_with (go_at_call 56; refine (one_any _ _ (by omega) (by omega)).mono ?_; rintro e w' ⟨rfl, rfl⟩)
  go_loopw [3, 10] (fun l j wr => ∃ k : Nat, k ≤ mm ∧ j = .int .i64 k ∧ ∃ L : Nat, L = iterN (fun L => S.eds.foldl stepL L) k A ∧ L < 256 ∧ l = .int .u8 (L : Int) ∧ Below (w.heap.size + 1) (w.alloc (.cells #[.int .i64 (mm : Int), .int .u8 (A : Int), .slice a S.rules.length cap] 33)) wr) (fun _ j _ => mm - (intOf j).toNat)
  case atStart => exact ⟨0, by omega, rfl, _, rfl, by show (_ : Nat) < 256; first | (show (1 : Nat) < 256; omega) | (show A < 256; omega), rfl, Below.refl _ _⟩
  case round =>
    obtain ⟨k, hk, rfl, L, hL, hL8, rfl, hal⟩ := hrel
    obtain ⟨wo, rfl⟩ : ∃ wo : World, wo = wr := ⟨_, rfl⟩
    have HL := Lib.hid hL; clear hL
    obtain ⟨hz, hc, hf⟩ := bcellB hal rfl
    simp only [World.size_alloc] at hz
    by_cases hlt : k < mm
    · go_wp2
      go_loopw [3, 15] (fun l j wr => ∃ i : Nat, i ≤ S.rules.length ∧ j = .int .i64 i ∧ ∃ Q : Nat, Q = (S.eds.take i).foldl stepL L ∧ Q < 256 ∧ l = .int .u8 (Q : Int) ∧ Below (w.heap.size + 1) (w.alloc (.cells #[.int .i64 (mm : Int), .int .u8 (A : Int), .slice a S.rules.length cap] 33)) wr) (fun _ j _ => S.rules.length - (intOf j).toNat)
      case atStart => exact ⟨0, by omega, rfl, _, rfl, hL8, rfl, hal⟩
      case round =>
        obtain ⟨i, hi, rfl, Q, hQ, hQ8, rfl, hal⟩ := hrel
        have HQ := Lib.hid hQ; clear hQ hc hf hz
        have hB : Below w.heap.size w wr := ((Below.refl _ _).alloc (Nat.le_refl _) _).trans (hal.mono (by omega))
        obtain ⟨hz, hc, hf⟩ := bcellB hal rfl
        simp only [World.size_alloc] at hz
        by_cases hli : i < S.rules.length
        · obtain ⟨b, o, ha, hb, q0, q1, q2, q3, q4⟩ := (HR.out.later hB (Nat.le_refl _)).at hli
          have hidx := idx_rules a b o S.rules.length cap i ha hli
          have HAd := Lib.hid ha; clear ha
          obtain ⟨f0, f1, t0, t1⟩ := HAT.out i hli
          rw [HMM.out] at f1 t1
          have HE : Hid (S.eds[i]'(by rw [eds_len]; exact hli) = S.rules[i].ed) := eds_at S i hli
          have HF : Hid ((S.eds.take (i + 1)).foldl stepL L = stepL Q S.rules[i].ed) := by
            show _ = _
            rw [fold_snoc (by rw [eds_len]; exact hli), HE.out, ← HQ.out]
          have HS8 : Hid (stepL Q S.rules[i].ed < 256) := stepL_lt hQ8 (by show S.rules[i].frm.toNat < 8; omega)
          by_cases htb : Q.testBit S.rules[i].dst.toNat = true
          · have HSt : Hid (stepL Q S.rules[i].ed = Q ||| 2 ^ S.rules[i].frm.toNat) := by show _ = _; unfold stepL; rw [if_pos (by exact htb)]; rfl
            have hor : bits .or .u8 (Q : Int) ((2 ^ S.rules[i].frm.toNat : Nat) : Int) = ((Q ||| 2 ^ S.rules[i].frm.toNat : Nat) : Int) := u8_or_nat _ _ hQ8 (pow_lt _ (by omega))
            generalize hp : (2 ^ S.rules[i].frm.toNat : Nat) = p at *
            have HP := Lib.hid hp; clear hp
            go_wp2_with (first
              | (go_at_call 44; refine (has_any _ _ _ hQ8 t0 (by omega)).mono ?_; rintro e w' ⟨rfl, rfl⟩)
              | (go_at_call 56; refine (one_any _ _ f0 (by omega)).mono ?_; rintro e w' ⟨he, rfl⟩; rw [HP.out] at he; subst he))
            go_roundw
            case rel => exact ⟨i + 1, by omega, by go_num, _, HF.out.symm, HS8.out, by rw [HSt.out], by go_grown⟩
            case measure => simp [intOf]; omega
          · have htb' : Q.testBit S.rules[i].dst.toNat = false := by simpa using htb
            have HSt : Hid (stepL Q S.rules[i].ed = Q) := by show _ = _; unfold stepL; rw [if_neg (by exact htb)]
            clear htb
            go_wp2_with (first
              | (go_at_call 44; refine (has_any _ _ _ hQ8 t0 (by omega)).mono ?_; rintro e w' ⟨rfl, rfl⟩))
            go_roundw
            case rel => exact ⟨i + 1, by omega, by go_num, _, HF.out.symm, HS8.out, by rw [HSt.out], by go_grown⟩
            case measure => simp [intOf]; omega
        · obtain rfl : i = S.rules.length := by omega
          have HF : Hid (S.eds.take S.rules.length = S.eds) := List.take_of_length_le (by rw [eds_len]; exact Nat.le_refl _)
          go_wp2
          go_roundw
          case rel => exact ⟨k + 1, by omega, by go_num, Q, by rw [HQ.out, HF.out, HL.out]; rfl, hQ8, rfl, hal⟩
          case measure => simp [intOf]; omega
    · obtain rfl : k = mm := by omega
      have hB : Below w.heap.size w wo := ((Below.refl _ _).alloc (Nat.le_refl _) _).trans (hal.mono (by omega))
      go_wp2
      go_ret
      exact ⟨ret_int (by rw [HL.out]; rfl), hB⟩
end Go.Proofs.Ytogjcfcfgnbmkaa
