
/- Reference 09: Made. -/
import Derived.Test.YtocdljmdmiphnaaDoorDIns
namespace Go.Proofs.YtocdljmdmiphnaaDoor
open Go.RowKit Go.WideShapes
set_option linter.unusedVariables false
set_option linter.unusedSimpArgs false

/-- a row of bytes that came in -/
structure BR where
  a : Option Addr
  n : Nat
  c : Nat
  Z : Nat → Int
instance : Inhabited BR := ⟨⟨none, 0, 0, fun _ => 0⟩⟩
/-- what is told of a slice of slices of bytes -/
def ByteRows (w : World) (a : Option Addr) (len : Nat) (Q : Nat → BR) : Prop :=
  ∀ i, i < len → ∃ b o, a = some ⟨b, o, none⟩ ∧ b < w.heap.size ∧ w.cell? ⟨b, o + i, none⟩ = some (.slice (Q i).a (Q i).n (Q i).c) ∧ IsBytes w (Q i).a (Q i).n (Q i).Z ∧ (Q i).n ≤ 9223372036854775807
theorem ByteRows.later {w w1 : World} {a : Option Addr} {len : Nat} {Q : Nat → BR} {B : Nat} (h : ByteRows w a len Q) (hb : Below B w w1) (hB : w.heap.size ≤ B) : ByteRows w1 a len Q := fun i hi => by
  obtain ⟨b, o, ha, h1, h2, h3, h4⟩ := h i hi
  exact ⟨b, o, ha, by have := hb.size; omega, (hb.cell (p := ⟨b, o + i, none⟩) (by show b < B; omega)).trans h2, h3.later hb hB, h4⟩
theorem idx_byterows (a : Option Addr) (b o len cap k : Nat) (ha : a = some ⟨b, o, none⟩) (hk : k < len) (w : World) :
    (Instr.indexAt 22 (.slice a len cap) (.int .i64 (k : Int))).run Tryd.prog w = .ok (.pointer (some ⟨b, o + k, none⟩)) w := by
  subst ha
  have h0 : (0 : Int) ≤ (k : Int) := by omega
  have h1 : (k : Int) < (len : Int) := by omega
  simp [go_sem, h0, h1]
def madeTo (Q : Nat → BR) : Nat → List ByteArray
  | 0 => []
  | k + 1 => insF (madeTo Q k) (wordF (Q k).Z (Q k).n)
theorem madeTo_len (Q : Nat → BR) : ∀ k, (madeTo Q k).length ≤ k
  | 0 => by simp [madeTo]
  | k + 1 => by have h1 := insF_len (madeTo Q k) (wordF (Q k).Z (Q k).n); have h2 := madeTo_len Q k; rw [madeTo]; omega
/-- the dictionary of rows of numbers -/
def madeF (Q : Nat → BR) (len n : Nat) : List ByteArray := if madeTo Q (min len n) = [] then [⟨#[65]⟩] else madeTo Q (min len n)
set_option maxHeartbeats 1600000 in
set_option maxRecDepth 100000 in
theorem made_any (Q : Nat → BR) (a : Option Addr) (len cap n : Nat) (w : World) (hQ : ByteRows w a len Q) (hl : len ≤ 9223372036854775807) (hn : n ≤ 1000) :
    Calls Tryd.prog 11 #[.slice a len cap, .int .i64 (n : Int)] w (StrPost (madeF Q len n) w) := by
  have HQ := Lib.hid hQ; clear hQ
  go_enter Tryd.func11, Tryd.ntmps11
  go_wp2
  go_loopw [6, 5] (fun i v wr => ∃ (k b o c : Nat) (m : Nat), k ≤ n ∧ k ≤ len ∧ i = .int .i64 (k : Int) ∧ v = .slice (some ⟨b, o, none⟩) m c ∧ m = (madeTo Q k).length ∧ StrS wr (some ⟨b, o, none⟩) (madeTo Q k) ∧ (madeTo Q k).length ≤ c ∧ Below w.heap.size w wr) (fun i _ _ => n - (intOf i).toNat)
  case atStart => exact ⟨0, w.heap.size, 0, 0, 0, Nat.zero_le _, Nat.zero_le _, rfl, rfl, rfl, StrS.nil _ _, Nat.le_refl _, (Below.refl _ _).alloc (Nat.le_refl _) _⟩
  case round =>
    obtain ⟨k, b, o, c, m, hkn, hk, rfl, rfl, hm, hS, hc, hB⟩ := hrel
    have HS := Lib.hid hS; have HB := Lib.hid hB
    have hzB := hB.size
    have hml := madeTo_len Q k
    obtain ⟨M, hM⟩ : ∃ M, madeTo Q k = M := ⟨_, rfl⟩
    have HM := Lib.hid hM
    rw [hM] at hm hc hml HS
    subst hm
    clear hS hB hM
    by_cases hlt : k < len
    · by_cases h4 : k < n
      · have h4I : (k : Int) < (n : Int) := by omega
        obtain ⟨b1, o1, ha, hb1, h0, hb, hbl⟩ := (HQ.out.later HB.out (Nat.le_refl _)) k hlt
        have hidx := idx_byterows a b1 o1 len cap k ha hlt
        have HSU : Hid (madeTo Q (k + 1) = insF M (wordF (Q k).Z (Q k).n)) := by show _ = _; rw [madeTo, HM.out]
        obtain ⟨q, hq⟩ : ∃ q, Q k = q := ⟨_, rfl⟩
        rw [hq] at h0 hb hbl HSU
        obtain ⟨qa, qn, qc, qZ⟩ := q
        simp only at h0 hb hbl HSU
        have HBY := Lib.hid hb
        clear ha hq hb
        go_wp2_with (first
          | (go_at_call 29; refine (mkWord_any qZ qa qn qc _ HBY.out hbl).mono ?_; rintro e w5 ⟨rfl, hb5⟩; have HB5 := Lib.hid (HB.out.trans (hb5.mono hzB)); have HS5 := Lib.hid (HS.out.later hb5 (Nat.le_refl _)); clear hb5)
          | (go_at_call 28; refine (insert_any M _ b o c _ _ HS5.out rfl hc (by omega)).mono ?_; rintro e w6 ⟨b6, o6, c6, rfl, hs6, hc6, hb6⟩; have HB6 := Lib.hid (HB5.out.trans (hb6.mono HB5.out.size)); have HS6 := Lib.hid hs6; have HC6 := Lib.hid hc6; clear hb6 hs6 hc6))
        go_roundw
        case rel => exact ⟨k + 1, b6, o6, c6, _, by omega, by omega, by go_num, rfl, by rw [HSU.out], by rw [HSU.out]; exact HS6.out, by rw [HSU.out]; exact HC6.out, HB6.out⟩
        case measure => simp [intOf]; omega
      · have h4I : ¬ (k : Int) < (n : Int) := by omega
        have HA : Hid (min len n = k) := by show _ = _; omega
        by_cases h0 : M = []
        · have HR : Hid (madeF Q len n = [⟨#[65]⟩]) := by show _ = _; rw [madeF, HA.out, HM.out, if_pos h0]
          subst h0
          go_wp2
          go_ret
          rw [HR.out]
          have hrow : OwnG rowStr (wr.alloc (.cells #[.string ⟨#[65]⟩] 9)) 0 (.slice (some ⟨wr.heap.size, 0, none⟩) 1 1) [⟨#[65]⟩] := OwnG.one rowStr_ok (x := ⟨#[65]⟩) (heap_alloc_new wr _) (Nat.zero_le _)
          exact ⟨wr.heap.size, 0, 1, rfl, hrow.strs.1, Nat.le_refl _, HB.out.alloc hzB _⟩
        · have HR : Hid (madeF Q len n = M) := by show _ = _; rw [madeF, HA.out, HM.out, if_neg h0]
          have hml0 : ((M.length : Int) == 0) = false := by
            rw [beq_eq_false_iff_ne]
            have : 0 < M.length := List.length_pos_iff.2 h0
            omega
          have hne : M ≠ [] := h0
          go_wp2
          go_ret
          rw [HR.out]
          exact ⟨b, o, c, rfl, HS.out, hc, HB.out⟩
    · have HA : Hid (min len n = k) := by show _ = _; omega
      by_cases h0 : M = []
      · have HR : Hid (madeF Q len n = [⟨#[65]⟩]) := by show _ = _; rw [madeF, HA.out, HM.out, if_pos h0]
        subst h0
        go_wp2
        go_ret
        rw [HR.out]
        have hrow : OwnG rowStr (wr.alloc (.cells #[.string ⟨#[65]⟩] 9)) 0 (.slice (some ⟨wr.heap.size, 0, none⟩) 1 1) [⟨#[65]⟩] := OwnG.one rowStr_ok (x := ⟨#[65]⟩) (heap_alloc_new wr _) (Nat.zero_le _)
        exact ⟨wr.heap.size, 0, 1, rfl, hrow.strs.1, Nat.le_refl _, HB.out.alloc hzB _⟩
      · have HR : Hid (madeF Q len n = M) := by show _ = _; rw [madeF, HA.out, HM.out, if_neg h0]
        have hml0 : ((M.length : Int) == 0) = false := by
          rw [beq_eq_false_iff_ne]
          have : 0 < M.length := List.length_pos_iff.2 h0
          omega
        have hne : M ≠ [] := h0
        go_wp2
        go_ret
        rw [HR.out]
        exact ⟨b, o, c, rfl, HS.out, hc, HB.out⟩
end Go.Proofs.YtocdljmdmiphnaaDoor
