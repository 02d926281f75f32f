
/- Words: scheme.Word and reference 02's Word. -/
import Derived.Test.YtocdljmdmiphnaaDoorChecked
import Derived.Test.YtocdljmdmiphnaaDoorLib
import Derived.Deep.RegionHeld3
import Derived.Deep.DeepCutAuto
import Derived.Laws.Cover1
namespace Go.Proofs.YtocdljmdmiphnaaDoor
open Go.RowKit
set_option linter.unusedVariables false
set_option linter.unusedSimpArgs false

def classF (c : Int) : Int := if 97 ≤ c ∧ c ≤ 122 then 1 else if 65 ≤ c ∧ c ≤ 90 then 2 else if 48 ≤ c ∧ c ≤ 57 then 3 else 0
def knownL (l : List UInt8) : Bool := l.all fun c => !(classF (c.toNat : Int) == 0)
def knownB (s : ByteArray) : Bool := knownL s.data.toList
/-- what a word is -/
def wordB (s : ByteArray) : Bool := decide (1 ≤ s.size) && (decide (s.size ≤ 20) && knownB s)

theorem take_snoc (s : ByteArray) (k : Nat) (h : k < s.size) : s.data.toList.take (k + 1) = s.data.toList.take k ++ [s[k]] := by
  rw [List.take_succ_eq_append_getElem (by simpa using h)]; rfl
theorem take_all (s : ByteArray) (k : Nat) (h : ¬ k < s.size) : s.data.toList.take k = s.data.toList := List.take_of_length_le (by simp; exact Nat.le_of_not_lt h)
theorem all_false {p : UInt8 → Bool} (s : ByteArray) (k : Nat) (h : k < s.size) (hp : p s[k] = false) : s.data.toList.all p = false := by
  rw [List.all_eq_false]
  refine ⟨s[k], ?_, by simp [hp]⟩
  show s.data[k] ∈ s.data.toList
  simp
theorem all_snoc {p : UInt8 → Bool} (s : ByteArray) (k : Nat) (h : k < s.size) (ht : (s.data.toList.take k).all p = true) (hp : p s[k] = true) : (s.data.toList.take (k + 1)).all p = true := by
  rw [take_snoc s k h, List.all_append, ht]; simp [hp]

theorem class_any (c : Int) (w : World) (h0 : 0 ≤ c) (h1 : c ≤ 255) :
    Calls Tryd.prog 77 #[.int .u8 c] w fun e w' => e = .returned (.int .i64 (classF c)) ∧ w = w' := by
  rcases (show (97 ≤ c ∧ c ≤ 122) ∨ (65 ≤ c ∧ c ≤ 90) ∨ (48 ≤ c ∧ c ≤ 57) ∨ c < 48 ∨ (57 < c ∧ c < 65) ∨ (90 < c ∧ c < 97) ∨ 122 < c from by omega) with h | h | h | h | h | h | h
  all_goals
    go_enter Tryd.func77, Tryd.ntmps77
    go_wp2
    go_ret
    refine ⟨ret_int ?_, rfl⟩
    unfold classF
    omega

theorem allKnown_any (s : ByteArray) (w : World) (hs : s.size ≤ 9223372036854775807) :
    Calls Tryd.prog 67 #[.string s] w fun e w' => e = .returned (.bool (knownB s)) ∧ w = w' := by
  go_enter Tryd.func67, Tryd.ntmps67
  go_wp2
  go_loop [6] (fun i => ∃ k : Nat, k ≤ s.size ∧ i = .int .i64 k ∧ knownL (s.data.toList.take k) = true) (fun i => s.size - (intOf i).toNat)
  case atStart => exact ⟨0, Nat.zero_le _, rfl, rfl⟩
  case round =>
    obtain ⟨k, hk, rfl, ht⟩ := hrel
    have HT := Lib.hid ht; clear ht
    by_cases hlt : k < s.size
    · have b0 : (0 : Int) ≤ (s[k].toNat : Int) := by omega
      have b1 : (s[k].toNat : Int) ≤ 255 := by have := s[k].toNat_lt; omega
      by_cases hc : classF (s[k].toNat : Int) = 0
      · have hcb : (classF (s[k].toNat : Int) == 0) = true := by rw [hc]; rfl
        have HC : Hid ((!(classF (s[k].toNat : Int) == 0)) = false) := by show _ = false; rw [hc]; rfl
        clear hc
        go_wp2_with (go_at_call 77; refine (class_any _ _ b0 b1).mono ?_; rintro e w' ⟨rfl, rfl⟩)
        go_ret
        exact ⟨ret_bool (all_false s k hlt HC.out).symm, rfl⟩
      · have hcb : (classF (s[k].toNat : Int) == 0) = false := by simpa using hc
        have HC : Hid ((!(classF (s[k].toNat : Int) == 0)) = true) := by show _ = true; simpa using hc
        clear hc
        go_wp2_with (go_at_call 77; refine (class_any _ _ b0 b1).mono ?_; rintro e w' ⟨rfl, rfl⟩)
        go_round
        case rel => exact ⟨k + 1, by omega, by go_num, all_snoc s k hlt HT.out HC.out⟩
        case measure => simp [intOf]; omega
    · have HA := Lib.hid (take_all s k hlt)
      go_wp2
      go_ret
      exact ⟨ret_bool (by rw [knownB, ← HA.out]; exact HT.out.symm), rfl⟩

def inB (a b c : Int) : Bool := decide (b ≤ a) && decide (a ≤ c)
theorem inB_yes {a b c : Int} (h : b ≤ a) (h2 : a ≤ c) : inB a b c = true := by simp [inB, h, h2]
theorem inB_no {a b c : Int} (h : ¬ (b ≤ a ∧ a ≤ c)) : inB a b c = false := by
  unfold inB; rw [Bool.and_eq_false_iff]; simp; omega
theorem in_any (a b c : Int) (w : World) : Calls Tryd.prog 73 #[.int .i64 a, .int .i64 b, .int .i64 c] w fun e w' => e = .returned (.bool (inB a b c)) ∧ w' = w := by
  by_cases h : b ≤ a
  · by_cases h2 : a ≤ c
    · have H := Lib.hid (inB_yes h h2)
      go_enter Tryd.func73, Tryd.ntmps73
      go_wp2
      go_ret
      exact ⟨ret_bool (by rw [H.out]; try (simp [h2])), rfl⟩
    · have H := Lib.hid (inB_no (a := a) (b := b) (c := c) (by omega))
      go_enter Tryd.func73, Tryd.ntmps73
      go_wp2
      go_ret
      exact ⟨ret_bool (by rw [H.out]; try (simp; omega)), rfl⟩
  · have H := Lib.hid (inB_no (a := a) (b := b) (c := c) (by omega))
    go_enter Tryd.func73, Tryd.ntmps73
    go_wp2
    go_ret
    exact ⟨ret_bool (by rw [H.out]; try (simp; omega)), rfl⟩

theorem classF_0 {c : Int} : (classF c == 0) = (!(decide (97 ≤ c) && decide (c ≤ 122)) && (!(decide (65 ≤ c) && decide (c ≤ 90)) && !(decide (48 ≤ c) && decide (c ≤ 57)))) := by
  unfold classF
  by_cases h : 97 ≤ c ∧ c ≤ 122
  · simp [h]
  · by_cases h2 : 65 ≤ c ∧ c ≤ 90
    · rw [if_neg h, if_pos h2]; simp [h2]
    · by_cases h3 : 48 ≤ c ∧ c ≤ 57
      · rw [if_neg h, if_neg h2, if_pos h3]; simp [h3]
      · rw [if_neg h, if_neg h2, if_neg h3]; simp; omega
set_option maxHeartbeats 1600000 in
theorem plain_any (s : ByteArray) (w : World) (hs : s.size ≤ 9223372036854775807) :
    Calls Tryd.prog 74 #[.string s] w fun e w' => e = .returned (.bool (knownB s)) ∧ w = w' := by
  go_enter Tryd.func74, Tryd.ntmps74
  go_wp2
  go_loop [3] (fun i => ∃ k : Nat, k ≤ s.size ∧ i = .int .i64 k ∧ knownL (s.data.toList.take k) = true) (fun i => s.size - (intOf i).toNat)
  case atStart => exact ⟨0, Nat.zero_le _, rfl, rfl⟩
  case round =>
    obtain ⟨k, hk, rfl, ht⟩ := hrel
    have HT := Lib.hid ht; clear ht
    by_cases hlt : k < s.size
    · have b0 : (0 : Int) ≤ (s[k].toNat : Int) := by omega
      have b1 : (s[k].toNat : Int) ≤ 255 := by have := s[k].toNat_lt; omega
      rcases (show ((97 : Int) ≤ (s[k].toNat : Int) ∧ (s[k].toNat : Int) ≤ 122) ∨ ((65 : Int) ≤ (s[k].toNat : Int) ∧ (s[k].toNat : Int) ≤ 90) ∨ ((48 : Int) ≤ (s[k].toNat : Int) ∧ (s[k].toNat : Int) ≤ 57) ∨ ((122 : Int) < (s[k].toNat : Int)) ∨ ((90 : Int) < (s[k].toNat : Int) ∧ (s[k].toNat : Int) < 97) ∨ ((57 : Int) < (s[k].toNat : Int) ∧ (s[k].toNat : Int) < 65) ∨ ((s[k].toNat : Int) < 48) by omega) with h | h | h | h | h | h | h
      all_goals first
        | (have HC : Hid ((!(classF (s[k].toNat : Int) == 0)) = true) := by
             show _ = true
             rw [classF_0]; simp; omega
           go_wp2
           go_round
           case rel => exact ⟨k + 1, by omega, by go_num, all_snoc s k hlt HT.out HC.out⟩
           case measure => simp [intOf]; omega)
        | (have HC : Hid ((!(classF (s[k].toNat : Int) == 0)) = false) := by
             show _ = false
             rw [classF_0]; simp; omega
           go_wp2
           go_ret
           exact ⟨ret_bool (all_false s k hlt HC.out).symm, rfl⟩)
    · have HA := Lib.hid (take_all s k hlt)
      go_wp2
      go_ret
      exact ⟨ret_bool (by rw [knownB, ← HA.out]; exact HT.out.symm), rfl⟩

theorem word_any (s : ByteArray) (w : World) :
    Calls Tryd.prog 56 #[.string s] w fun e w' => e = .returned (.bool (wordB s)) ∧ w = w' := by
  by_cases h1 : 1 ≤ s.size
  · by_cases h2 : s.size ≤ 20
    · have i1 : (1 : Int) ≤ (s.size : Int) := by omega
      have i2 : (s.size : Int) ≤ 20 := by omega
      have H : Hid (wordB s = knownB s) := by show _ = _; simp [wordB, h1, h2]
      go_enter Tryd.func56, Tryd.ntmps56
      go_wp2_with (go_at_call 67; refine (allKnown_any _ _ (by omega)).mono ?_; rintro e w' ⟨rfl, rfl⟩)
      go_ret
      exact ⟨ret_bool H.out.symm, rfl⟩
    · have i1 : (1 : Int) ≤ (s.size : Int) := by omega
      have i2 : ¬ (s.size : Int) ≤ 20 := by omega
      have H : Hid (wordB s = false) := by show _ = _; simp [wordB, h1, h2]
      go_enter Tryd.func56, Tryd.ntmps56
      go_wp2
      go_ret
      exact ⟨ret_bool H.out.symm, rfl⟩
  · have i1 : ¬ (1 : Int) ≤ (s.size : Int) := by omega
    have H : Hid (wordB s = false) := by show _ = _; simp [wordB, h1]
    go_enter Tryd.func56, Tryd.ntmps56
    go_wp2
    go_ret
    exact ⟨ret_bool H.out.symm, rfl⟩
theorem rword_any (s : ByteArray) (w : World) :
    Calls Tryd.prog 62 #[.string s] w fun e w' => e = .returned (.bool (wordB s)) ∧ w = w' := by
  obtain ⟨o, ho⟩ : ∃ o, inB (s.size : Int) 1 20 = o := ⟨_, rfl⟩
  have HO := Lib.hid ho
  have ho2 : (decide (1 ≤ s.size) && decide (s.size ≤ 20)) = o := by
    rw [← ho, inB, show decide ((1 : Int) ≤ (s.size : Int)) = decide (1 ≤ s.size) from by rw [decide_eq_decide]; omega, show decide ((s.size : Int) ≤ 20) = decide (s.size ≤ 20) from by rw [decide_eq_decide]; omega]
  have H : Hid (wordB s = (o && knownB s)) := by show _ = _; rw [wordB, ← Bool.and_assoc, ho2]
  cases o with
  | true =>
    have hs : s.size ≤ 20 := by simp at ho2; exact ho2.2
    clear ho ho2
    go_enter Tryd.func62, Tryd.ntmps62
    go_wp2_with (first
      | (go_at_call 73; refine (in_any _ _ _ _).mono ?_; rintro e w' ⟨he, rfl⟩; rw [HO.out] at he; subst he)
      | (go_at_call 74; refine (plain_any _ _ (by omega)).mono ?_; rintro e w' ⟨rfl, rfl⟩))
    go_ret
    exact ⟨ret_bool (by rw [H.out]; rfl), rfl⟩
  | false =>
    clear ho ho2
    go_enter Tryd.func62, Tryd.ntmps62
    go_wp2_with (first
      | (go_at_call 73; refine (in_any _ _ _ _).mono ?_; rintro e w' ⟨he, rfl⟩; rw [HO.out] at he; subst he)
      | (go_at_call 74; refine (plain_any _ _ (by omega)).mono ?_; rintro e w' ⟨rfl, rfl⟩))
    go_ret
    exact ⟨ret_bool (by rw [H.out]; rfl), rfl⟩
end Go.Proofs.YtocdljmdmiphnaaDoor
/- Slices of strings; looking up, beginnings, counts. -/
namespace Go.Proofs.YtocdljmdmiphnaaDoor
open Go.RowKit Go.WideShapes
set_option linter.unusedVariables false
set_option linter.unusedSimpArgs false

/-- the slice at a reads as L -/
def StrS (w : World) (a : Option Addr) (L : List ByteArray) : Prop := ∀ k (hk : k < L.length), ∃ b o, a = some ⟨b, o, none⟩ ∧ b < w.heap.size ∧ w.cell? ⟨b, o + k, none⟩ = some (.string L[k])
theorem StrS.at {w : World} {a : Option Addr} {L : List ByteArray} (h : StrS w a L) {k : Nat} (hk : k < L.length) : ∃ b o, a = some ⟨b, o, none⟩ ∧ b < w.heap.size ∧ w.cell? ⟨b, o + k, none⟩ = some (.string L[k]) := h k hk
theorem StrS.later {w w1 : World} {a : Option Addr} {L : List ByteArray} {B : Nat} (h : StrS w a L) (hb : Below B w w1) (hB : w.heap.size ≤ B) : StrS w1 a L := fun k hk => by
  obtain ⟨b, o, ha, h1, h2⟩ := h k hk
  exact ⟨b, o, ha, by have := hb.size; omega, (hb.cell (p := ⟨b, o + k, none⟩) (by show b < B; omega)).trans h2⟩
theorem StrS.nil (w : World) (a : Option Addr) : StrS w a [] := fun k hk => by simp at hk
theorem idx_strs (a : Option Addr) (b o len cap k : Nat) (ha : a = some ⟨b, o, none⟩) (hk : k < len) (w : World) :
    (Instr.indexAt 26 (.slice a len cap) (.int .i64 (k : Int))).run Tryd.prog w = .ok (.pointer (some ⟨b, o + k, none⟩)) w := by
  subst ha
  have h0 : (0 : Int) ≤ (k : Int) := by omega
  have h1 : (k : Int) < (len : Int) := by omega
  simp [go_sem, h0, h1]
theorem beq_str (s t : ByteArray) : (s.toList == t.toList) = decide (s = t) := by
  rw [Bool.eq_iff_iff]
  simp only [beq_iff_eq, decide_eq_true_eq]
  constructor
  · intro h; rw [ByteArray.toList_eq, ByteArray.toList_eq] at h; exact bytes_inj h
  · rintro rfl; rfl
theorem toList_inj {s t : ByteArray} (h : s.toList = t.toList) : s = t := by
  rw [ByteArray.toList_eq, ByteArray.toList_eq] at h; exact bytes_inj h

/-! ### Index -/
/-- the first place of s, or -1 -/
def idxF (L : List ByteArray) (s : ByteArray) : Int := if L.findIdx (fun x => decide (x = s)) < L.length then (L.findIdx (fun x => decide (x = s)) : Int) else -1
theorem idxF_at {L : List ByteArray} {s : ByteArray} {k : Nat} (hk : k < L.length) (hno : ∀ j (hj : j < L.length), j < k → L[j] ≠ s) (h : L[k] = s) : idxF L s = k := by
  have : L.findIdx (fun x => decide (x = s)) = k := (List.findIdx_eq hk).2 ⟨by simp [h], fun j hj => by simpa using hno j (by omega) hj⟩
  rw [idxF, this, if_pos hk]
theorem idxF_no {L : List ByteArray} {s : ByteArray} (hno : ∀ j (hj : j < L.length), L[j] ≠ s) : idxF L s = -1 := by
  rw [idxF, if_neg]
  intro h
  have := List.findIdx_getElem (w := h)
  simp only [decide_eq_true_eq] at this
  exact hno _ h this

set_option maxHeartbeats 1600000 in
theorem rindex_any (L : List ByteArray) (n : Nat) (a : Option Addr) (cap : Nat) (s : ByteArray) (w : World) (hR : StrS w a L) (hL : n = L.length) (hn : n ≤ 9223372036854775807) :
    Calls Tryd.prog 50 #[.slice a n cap, .string s] w fun e w' => e = .returned (.int .i64 (idxF L s)) ∧ w = w' := by
  subst hL
  have HR := Lib.hid hR; clear hR
  go_enter Tryd.func50, Tryd.ntmps50
  go_wp2
  go_loop [5] (fun i => ∃ k : Nat, k ≤ L.length ∧ i = .int .i64 k ∧ ∀ j (hj : j < L.length), j < k → L[j] ≠ s) (fun i => L.length - (intOf i).toNat)
  case atStart => exact ⟨0, Nat.zero_le _, rfl, fun j _ h => by omega⟩
  case round =>
    obtain ⟨k, hk, rfl, hno⟩ := hrel
    have HN := Lib.hid hno; clear hno
    by_cases hlt : k < L.length
    · obtain ⟨b, o, ha, hb, h0⟩ := HR.out.at hlt
      have hidx := idx_strs a b o L.length cap k ha hlt
      have HA := Lib.hid ha; clear ha
      obtain ⟨x, hx⟩ : ∃ x, L[k] = x := ⟨_, rfl⟩
      have HX := Lib.hid hx
      rw [hx] at h0
      clear hx
      by_cases hq : x = s
      · have HQ := Lib.hid hq
        have hbq : (x.toList == s.toList) = true := by rw [beq_str]; simp [hq]
        clear hq
        go_wp2
        go_ret
        exact ⟨ret_int (idxF_at hlt HN.out (HX.out.trans HQ.out)).symm, rfl⟩
      · have HQ : Hid (¬ x = s) := hq
        have hbq : (x.toList == s.toList) = false := by rw [beq_str]; exact decide_eq_false hq
        clear hq
        go_wp2
        go_round
        case rel => exact ⟨k + 1, by omega, by go_num, fun j hj hjk => by
          by_cases e : j = k
          · subst e; exact fun h => HQ.out (HX.out.symm.trans h)
          · exact HN.out j hj (by omega)⟩
        case measure => simp [intOf]; omega
    · have HA := Lib.hid (idxF_no (L := L) (s := s) fun j hj => HN.out j hj (by omega))
      go_wp2
      go_ret
      exact ⟨ret_int HA.out.symm, rfl⟩

set_option maxHeartbeats 1600000 in
theorem sindex_any (L : List ByteArray) (n : Nat) (a : Option Addr) (cap : Nat) (s : ByteArray) (w : World) (hR : StrS w a L) (hL : n = L.length) (hn : n ≤ 9223372036854775807) :
    Calls Tryd.prog 48 #[.slice a n cap, .string s] w fun e w' => e = .returned (.int .i64 (idxF L s)) ∧ w = w' := by
  subst hL
  have HR := Lib.hid hR; clear hR
  go_enter Tryd.func48, Tryd.ntmps48
  go_wp2
  go_loop [8] (fun i => ∃ k : Nat, k ≤ L.length ∧ i = .int .i64 k ∧ ∀ j (hj : j < L.length), j < k → L[j] ≠ s) (fun i => L.length - (intOf i).toNat)
  case atStart => exact ⟨0, Nat.zero_le _, rfl, fun j _ h => by omega⟩
  case round =>
    obtain ⟨k, hk, rfl, hno⟩ := hrel
    have HN := Lib.hid hno; clear hno
    by_cases hlt : k < L.length
    · obtain ⟨b, o, ha, hb, h0⟩ := HR.out.at hlt
      have hidx := idx_strs a b o L.length cap k ha hlt
      have HA := Lib.hid ha; clear ha
      obtain ⟨x, hx⟩ : ∃ x, L[k] = x := ⟨_, rfl⟩
      have HX := Lib.hid hx
      rw [hx] at h0
      clear hx
      by_cases hq : x = s
      · have HQ := Lib.hid hq
        have hbq : (s.toList == x.toList) = true := by rw [beq_str]; simp [hq]
        clear hq
        go_wp2
        go_ret
        exact ⟨ret_int (idxF_at hlt HN.out (HX.out.trans HQ.out)).symm, rfl⟩
      · have HQ : Hid (¬ x = s) := hq
        have hbq : (s.toList == x.toList) = false := by rw [beq_str]; exact decide_eq_false (fun h => hq h.symm)
        clear hq
        go_wp2
        go_round
        case rel => exact ⟨k + 1, by omega, by go_num, fun j hj hjk => by
          by_cases e : j = k
          · subst e; exact fun h => HQ.out (HX.out.symm.trans h)
          · exact HN.out j hj (by omega)⟩
        case measure => simp [intOf]; omega
    · have HA := Lib.hid (idxF_no (L := L) (s := s) fun j hj => HN.out j hj (by omega))
      go_wp2
      go_ret
      exact ⟨ret_int HA.out.symm, rfl⟩
/-! ### beginnings -/
/-- s begins with p -/
def begB (s p : ByteArray) : Bool := p.data.toList.isPrefixOf s.data.toList
theorem begB_iff {s p : ByteArray} : begB s p = true ↔ p.data.toList <+: s.data.toList := List.isPrefixOf_iff_prefix
theorem beg_take {s p : ByteArray} (h : p.size ≤ s.size) : ((s.extract 0 p.size).toList == p.toList) = begB s p := by
  rw [Bool.eq_iff_iff, begB_iff, beq_iff_eq, ByteArray.toList_eq, ByteArray.toList_eq]
  have e : (s.extract 0 p.size).data.toList = s.data.toList.take p.data.toList.length := by
    simp [ByteArray.data_extract]
  rw [e, List.prefix_iff_eq_take]
  exact eq_comm
theorem beg_short {s p : ByteArray} (h : ¬ p.size ≤ s.size) : begB s p = false := by
  rw [← Bool.not_eq_true, begB_iff]
  intro h2
  have := h2.length_le
  simp at this
  exact h (by simpa using this)

end Go.Proofs.YtocdljmdmiphnaaDoor
