/- Contracts of package scheme: what is right in a scheme. -/
import Derived.Test.YtogjcfcfgnbmkaaChecked
import Derived.Test.YtogjcfcfgnbmkaaLib
import Derived.Deep.RegionHeld3
import Derived.Deep.DeepCutAuto
namespace Go.Proofs.Ytogjcfcfgnbmkaa
open Go.RowKit
set_option linter.unusedVariables false
set_option linter.unusedSimpArgs false

/-! ### plain: rules and schemes -/
structure Rl where
  frm : Int
  dst : Int
  inp : ByteArray
  out : ByteArray
  cost : Int
def Rl.val (r : Rl) : Value := .agg #[.int .i64 r.frm, .int .i64 r.dst, .string r.inp, .string r.out, .int .i64 r.cost]
def classF (c : Int) : Int := if 97 ≤ c ∧ c ≤ 122 then 1 else if 65 ≤ c ∧ c ≤ 90 then 2 else if 48 ≤ c ∧ c ≤ 57 then 3 else 0
def smallL (l : List UInt8) : Bool := l.all fun c => classF (c.toNat : Int) == 1
def knownL (l : List UInt8) : Bool := l.all fun c => !(classF (c.toNat : Int) == 0)
def smallB (s : ByteArray) : Bool := smallL s.data.toList
def knownB (s : ByteArray) : Bool := knownL s.data.toList
def rightB (m : Int) (r : Rl) : Bool := decide (0 ≤ r.frm) && (decide (r.frm < m) && (decide (0 ≤ r.dst) && (decide (r.dst < m) && (decide ((r.inp.size : Int) ≤ 4) && (smallB r.inp && (decide ((r.out.size : Int) ≤ 4) && (knownB r.out && (decide (0 ≤ r.cost) && decide (r.cost ≤ 1000)))))))))

theorem take_snoc (s : ByteArray) (k : Nat) (h : k < s.size) : s.data.toList.take (k + 1) = s.data.toList.take k ++ [s[k]] := by
  rw [List.take_succ_eq_append_getElem (by simpa using h)]; rfl
theorem take_all (s : ByteArray) (k : Nat) (h : ¬ k < s.size) : s.data.toList.take k = s.data.toList := List.take_of_length_le (by simp; exact Nat.le_of_not_lt h)
theorem all_false {p : UInt8 → Bool} (s : ByteArray) (k : Nat) (h : k < s.size) (hp : p s[k] = false) : s.data.toList.all p = false := by
  rw [List.all_eq_false]
  refine ⟨s[k], ?_, by simp [hp]⟩
  show s.data[k] ∈ s.data.toList
  simp
theorem all_snoc {p : UInt8 → Bool} (s : ByteArray) (k : Nat) (h : k < s.size) (ht : (s.data.toList.take k).all p = true) (hp : p s[k] = true) : (s.data.toList.take (k + 1)).all p = true := by
  rw [take_snoc s k h, List.all_append, ht]; simp [hp]

/-! ### walks -/
theorem class_any (c : Int) (w : World) (h0 : 0 ≤ c) (h1 : c ≤ 255) :
    Calls Try.prog 68 #[.int .u8 c] w fun e w' => e = .returned (.int .i64 (classF c)) ∧ w = w' := by
  rcases (show (97 ≤ c ∧ c ≤ 122) ∨ (65 ≤ c ∧ c ≤ 90) ∨ (48 ≤ c ∧ c ≤ 57) ∨ c < 48 ∨ (57 < c ∧ c < 65) ∨ (90 < c ∧ c < 97) ∨ 122 < c from by omega) with h | h | h | h | h | h | h
  all_goals
    go_enter Try.func68, Try.ntmps68
    go_wp2
    go_ret
    refine ⟨ret_int ?_, rfl⟩
    unfold classF
    omega

theorem allSmall_any (s : ByteArray) (w : World) (hs : s.size ≤ 9223372036854775807) :
    Calls Try.prog 64 #[.string s] w fun e w' => e = .returned (.bool (smallB s)) ∧ w = w' := by
  go_enter Try.func64, Try.ntmps64
  go_wp2
  go_loop [6] (fun i => ∃ k : Nat, k ≤ s.size ∧ i = .int .i64 k ∧ smallL (s.data.toList.take k) = true) (fun i => s.size - (intOf i).toNat)
  case atStart => exact ⟨0, Nat.zero_le _, rfl, rfl⟩
  case round =>
    obtain ⟨k, hk, rfl, ht⟩ := hrel
    have HT := Lib.hid ht; clear ht
    by_cases hlt : k < s.size
    · have b0 : (0 : Int) ≤ (s[k].toNat : Int) := by omega
      have b1 : (s[k].toNat : Int) ≤ 255 := by have := s[k].toNat_lt; omega
      by_cases hc : classF (s[k].toNat : Int) = 1
      · have hcb : (classF (s[k].toNat : Int) != 1) = false := by rw [hc]; rfl
        have HC : Hid ((classF (s[k].toNat : Int) == 1) = true) := by show _ = true; rw [hc]; rfl
        clear hc
        go_wp2_with (go_at_call 68; refine (class_any _ _ b0 b1).mono ?_; rintro e w' ⟨rfl, rfl⟩)
        go_round
        case rel => exact ⟨k + 1, by omega, by go_num, all_snoc s k hlt HT.out HC.out⟩
        case measure => simp [intOf]; omega
      · have hcb : (classF (s[k].toNat : Int) != 1) = true := by simpa using hc
        have HC : Hid ((classF (s[k].toNat : Int) == 1) = false) := by show _ = false; simpa using hc
        clear hc
        go_wp2_with (go_at_call 68; refine (class_any _ _ b0 b1).mono ?_; rintro e w' ⟨rfl, rfl⟩)
        go_ret
        exact ⟨ret_bool (all_false s k hlt HC.out).symm, rfl⟩
    · have HA := Lib.hid (take_all s k hlt)
      go_wp2
      go_ret
      exact ⟨ret_bool (by rw [smallB, ← HA.out]; exact HT.out.symm), rfl⟩

theorem allKnown_any (s : ByteArray) (w : World) (hs : s.size ≤ 9223372036854775807) :
    Calls Try.prog 65 #[.string s] w fun e w' => e = .returned (.bool (knownB s)) ∧ w = w' := by
  go_enter Try.func65, Try.ntmps65
  go_wp2
  go_loop [6] (fun i => ∃ k : Nat, k ≤ s.size ∧ i = .int .i64 k ∧ knownL (s.data.toList.take k) = true) (fun i => s.size - (intOf i).toNat)
  case atStart => exact ⟨0, Nat.zero_le _, rfl, rfl⟩
  case round =>
    obtain ⟨k, hk, rfl, ht⟩ := hrel
    have HT := Lib.hid ht; clear ht
    by_cases hlt : k < s.size
    · have b0 : (0 : Int) ≤ (s[k].toNat : Int) := by omega
      have b1 : (s[k].toNat : Int) ≤ 255 := by have := s[k].toNat_lt; omega
      by_cases hc : classF (s[k].toNat : Int) = 0
      · have hcb : (classF (s[k].toNat : Int) == 0) = true := by rw [hc]; rfl
        have HC : Hid ((!(classF (s[k].toNat : Int) == 0)) = false) := by show _ = false; rw [hc]; rfl
        clear hc
        go_wp2_with (go_at_call 68; refine (class_any _ _ b0 b1).mono ?_; rintro e w' ⟨rfl, rfl⟩)
        go_ret
        exact ⟨ret_bool (all_false s k hlt HC.out).symm, rfl⟩
      · have hcb : (classF (s[k].toNat : Int) == 0) = false := by simpa using hc
        have HC : Hid ((!(classF (s[k].toNat : Int) == 0)) = true) := by show _ = true; simpa using hc
        clear hc
        go_wp2_with (go_at_call 68; refine (class_any _ _ b0 b1).mono ?_; rintro e w' ⟨rfl, rfl⟩)
        go_round
        case rel => exact ⟨k + 1, by omega, by go_num, all_snoc s k hlt HT.out HC.out⟩
        case measure => simp [intOf]; omega
    · have HA := Lib.hid (take_all s k hlt)
      go_wp2
      go_ret
      exact ⟨ret_bool (by rw [knownB, ← HA.out]; exact HT.out.symm), rfl⟩

set_option maxHeartbeats 1600000 in
theorem right_any (m : Int) (r : Rl) (w : World) :
    Calls Try.prog 60 #[.int .i64 m, .agg #[.int .i64 r.frm, .int .i64 r.dst, .string r.inp, .string r.out, .int .i64 r.cost]] w fun e w' => e = .returned (.bool (rightB m r)) ∧ Below w.heap.size w w' := by
  go_enter Try.func60, Try.ntmps60
  go_wp2_with (first
    | (go_at_call 64; refine (allSmall_any _ _ (by omega)).mono ?_; rintro e w' ⟨rfl, rfl⟩)
    | (go_at_call 65; refine (allKnown_any _ _ (by omega)).mono ?_; rintro e w' ⟨rfl, rfl⟩))
  all_goals go_ret
  all_goals exact ⟨ret_bool (by first | (simp [rightB, *]; done) | (simp [rightB, *]; omega)), by go_grown⟩
end Go.Proofs.Ytogjcfcfgnbmkaa
