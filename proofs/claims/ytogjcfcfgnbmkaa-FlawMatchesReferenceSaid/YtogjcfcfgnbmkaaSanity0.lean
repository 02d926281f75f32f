/- Contract of the law's sanity: true. -/
import Derived.Test.YtogjcfcfgnbmkaaSane
namespace Go.Proofs.Ytogjcfcfgnbmkaa
open Go.RowKit
set_option linter.unusedVariables false
set_option linter.unusedSimpArgs false

theorem slS0 {W : World} {a : Option Addr} : SlS W a [] := fun k hk => absurd hk (by simp)
theorem slS1 {W : World} {b : Nat} {x : Int} (hb : b < W.heap.size) (hc : W.cell? ⟨b, 0, none⟩ = some (.int .i64 x)) : SlS W (some ⟨b, 0, none⟩) [x] := fun k hk => by
  obtain rfl : k = 0 := by simp at hk; omega
  exact ⟨b, 0, rfl, hb, hc⟩
theorem slS3 {W : World} {b : Nat} {x y z : Int} (hb : b < W.heap.size) (h0 : W.cell? ⟨b, 0, none⟩ = some (.int .i64 x)) (h1 : W.cell? ⟨b, 1, none⟩ = some (.int .i64 y)) (h2 : W.cell? ⟨b, 2, none⟩ = some (.int .i64 z)) : SlS W (some ⟨b, 0, none⟩) [x, y, z] := fun k hk => by
  rcases (show k = 0 ∨ k = 1 ∨ k = 2 by simp at hk; omega) with rfl | rfl | rfl
  · exact ⟨b, 0, rfl, hb, h0⟩
  · exact ⟨b, 0, rfl, hb, h1⟩
  · exact ⟨b, 0, rfl, hb, h2⟩
/-- what a found report is good for -/
def FoundR (D T E : List Nat) (W : World) (e : Ending) (w' : World) : Prop :=
  ∃ d t ee : Option Addr, ∃ c1 c2 c3 : Nat, e = .returned (.agg #[.slice d D.length c1, .slice t T.length c2, .slice ee E.length c3]) ∧ RpS w' d t ee (ints D) (ints T) (ints E) ∧ Below W.heap.size W w'
theorem found_of {D T E : List Nat} {W w' : World} {e : Ending} (h : ∃ v1 v2 v3, e = .returned (.agg #[v1, v2, v3]) ∧ Ch w' W.heap.size v1 D ∧ Ch w' W.heap.size v2 T ∧ Ch w' W.heap.size v3 E ∧ Below W.heap.size W w') : FoundR D T E W e w' := by
  obtain ⟨v1, v2, v3, rfl, h1, h2, h3, hb⟩ := h
  obtain ⟨a1, c1, rfl, -, s1⟩ := h1.sl
  obtain ⟨a2, c2, rfl, -, s2⟩ := h2.sl
  obtain ⟨a3, c3, rfl, -, s3⟩ := h3.sl
  exact ⟨a1, a2, a3, c1, c2, c3, rfl, ⟨s1, s2, s3⟩, hb⟩
theorem findA_any (a : Option Addr) (cap : Nat) (w : World) (hR : RulS w a SA.rules) (hc : 2 ≤ cap) : Calls Try.prog 14 #[.agg #[.int .i64 2, .int .u8 1, .slice a 2 cap]] w (FoundR [1] [1] [] w) := by
  have h := find_any SA a cap w hR (by decide) (by decide) (by decide) hc (fun h => fit_of h (by decide) (by decide))
  rw [findA] at h
  exact h.mono fun e w' h => found_of h
theorem soundA_any (a : Option Addr) (cap : Nat) (w : World) (hR : RulS w a SA.rules) (hc : 2 ≤ cap) : Calls Try.prog 16 #[.agg #[.int .i64 2, .int .u8 1, .slice a 2 cap]] w fun e w' => e = .returned (.int .i64 40) ∧ Below w.heap.size w w' := by
  have h := sound_any SA a cap w hR (by decide) (by decide) (by decide) hc (fun h => fit_of h (by decide) (by decide))
  rw [soundA] at h
  exact h
theorem findB_any (a : Option Addr) (cap : Nat) (w : World) (hR : RulS w a SB.rules) (hc : 3 ≤ cap) : Calls Try.prog 14 #[.agg #[.int .i64 2, .int .u8 1, .slice a 3 cap]] w (FoundR [] [] [2] w) := by
  have h := find_any SB a cap w hR (by decide) (by decide) (by decide) hc (fun h => fit_of h (by decide) (by decide))
  rw [findB] at h
  exact h.mono fun e w' h => found_of h
theorem soundB_any (a : Option Addr) (cap : Nat) (w : World) (hR : RulS w a SB.rules) (hc : 3 ≤ cap) : Calls Try.prog 16 #[.agg #[.int .i64 2, .int .u8 1, .slice a 3 cap]] w fun e w' => e = .returned (.int .i64 41) ∧ Below w.heap.size w w' := by
  have h := sound_any SB a cap w hR (by decide) (by decide) (by decide) hc (fun h => fit_of h (by decide) (by decide))
  rw [soundB] at h
  exact h
theorem findC_any (a : Option Addr) (cap : Nat) (w : World) (hR : RulS w a SC.rules) (hc : 2 ≤ cap) : Calls Try.prog 14 #[.agg #[.int .i64 2, .int .u8 1, .slice a 2 cap]] w (FoundR [1] [] [] w) := by
  have h := find_any SC a cap w hR (by decide) (by decide) (by decide) hc (fun h => fit_of h (by decide) (by decide))
  rw [findC] at h
  exact h.mono fun e w' h => found_of h
theorem soundC_any (a : Option Addr) (cap : Nat) (w : World) (hR : RulS w a SC.rules) (hc : 2 ≤ cap) : Calls Try.prog 16 #[.agg #[.int .i64 2, .int .u8 1, .slice a 2 cap]] w fun e w' => e = .returned (.int .i64 0) ∧ Below w.heap.size w w' := by
  have h := sound_any SC a cap w hR (by decide) (by decide) (by decide) hc (fun h => fit_of h (by decide) (by decide))
  rw [soundC] at h
  exact h
theorem findD_any (a : Option Addr) (cap : Nat) (w : World) (hR : RulS w a SD.rules) (hc : 1 ≤ cap) : Calls Try.prog 14 #[.agg #[.int .i64 2, .int .u8 2, .slice a 1 cap]] w (FoundR [0] [] [] w) := by
  have h := find_any SD a cap w hR (by decide) (by decide) (by decide) hc (fun h => fit_of h (by decide) (by decide))
  rw [findD] at h
  exact h.mono fun e w' h => found_of h
theorem soundD_any (a : Option Addr) (cap : Nat) (w : World) (hR : RulS w a SD.rules) (hc : 1 ≤ cap) : Calls Try.prog 16 #[.agg #[.int .i64 2, .int .u8 2, .slice a 1 cap]] w fun e w' => e = .returned (.int .i64 50) ∧ Below w.heap.size w w' := by
  have h := sound_any SD a cap w hR (by decide) (by decide) (by decide) hc (fun h => fit_of h (by decide) (by decide))
  rw [soundD] at h
  exact h
theorem findE_any (a : Option Addr) (cap : Nat) (w : World) (hR : RulS w a SE.rules) (hc : 0 ≤ cap) : Calls Try.prog 14 #[.agg #[.int .i64 0, .int .u8 0, .slice a 0 cap]] w (FoundR [] [] [] w) := by
  have h := find_any SE a cap w hR (by decide) (by decide) (by decide) hc (fun h => fit_of h (by decide) (by decide))
  rw [findE] at h
  exact h.mono fun e w' h => found_of h
theorem soundE_any (a : Option Addr) (cap : Nat) (w : World) (hR : RulS w a SE.rules) (hc : 0 ≤ cap) : Calls Try.prog 16 #[.agg #[.int .i64 0, .int .u8 0, .slice a 0 cap]] w fun e w' => e = .returned (.int .i64 20) ∧ Below w.heap.size w w' := by
  have h := sound_any SE a cap w hR (by decide) (by decide) (by decide) hc (fun h => fit_of h (by decide) (by decide))
  rw [soundE] at h
  exact h
theorem provesA1_any (a : Option Addr) (cap : Nat) (d t e : Option Addr) (cd ct ce : Nat) (w : World) (hR : RulS w a SA.rules) (hc : 2 ≤ cap) (hd : SlS w d []) (ht : SlS w t [0, 0, 1]) (he : SlS w e []) :
    Calls Try.prog 18 #[.agg #[.int .i64 2, .int .u8 1, .slice a 2 cap], .agg #[.slice d 0 cd, .slice t 3 ct, .slice e 0 ce]] w fun e w' => e = .returned (.bool true) ∧ Below w.heap.size w w' := by
  have h := proves_any SA a cap d t e [] [0, 0, 1] [] cd ct ce w hR (by decide) (by decide) (by decide) hc (fun h => fit_of h (by decide) (by decide)) hd ht he (by decide) (by decide) (by decide)
  rw [provesA1] at h
  exact h
theorem provesA2_any (a : Option Addr) (cap : Nat) (d t e : Option Addr) (cd ct ce : Nat) (w : World) (hR : RulS w a SA.rules) (hc : 2 ≤ cap) (hd : SlS w d []) (ht : SlS w t [0]) (he : SlS w e []) :
    Calls Try.prog 18 #[.agg #[.int .i64 2, .int .u8 1, .slice a 2 cap], .agg #[.slice d 0 cd, .slice t 1 ct, .slice e 0 ce]] w fun e w' => e = .returned (.bool false) ∧ Below w.heap.size w w' := by
  have h := proves_any SA a cap d t e [] [0] [] cd ct ce w hR (by decide) (by decide) (by decide) hc (fun h => fit_of h (by decide) (by decide)) hd ht he (by decide) (by decide) (by decide)
  rw [provesA2] at h
  exact h
theorem provesA3_any (a : Option Addr) (cap : Nat) (d t e : Option Addr) (cd ct ce : Nat) (w : World) (hR : RulS w a SA.rules) (hc : 2 ≤ cap) (hd : SlS w d [0]) (ht : SlS w t []) (he : SlS w e []) :
    Calls Try.prog 18 #[.agg #[.int .i64 2, .int .u8 1, .slice a 2 cap], .agg #[.slice d 1 cd, .slice t 0 ct, .slice e 0 ce]] w fun e w' => e = .returned (.bool false) ∧ Below w.heap.size w w' := by
  have h := proves_any SA a cap d t e [0] [] [] cd ct ce w hR (by decide) (by decide) (by decide) hc (fun h => fit_of h (by decide) (by decide)) hd ht he (by decide) (by decide) (by decide)
  rw [provesA3] at h
  exact h
theorem provesC1_any (a : Option Addr) (cap : Nat) (d t e : Option Addr) (cd ct ce : Nat) (w : World) (hR : RulS w a SC.rules) (hc : 2 ≤ cap) (hd : SlS w d []) (ht : SlS w t []) (he : SlS w e []) :
    Calls Try.prog 18 #[.agg #[.int .i64 2, .int .u8 1, .slice a 2 cap], .agg #[.slice d 0 cd, .slice t 0 ct, .slice e 0 ce]] w fun e w' => e = .returned (.bool true) ∧ Below w.heap.size w w' := by
  have h := proves_any SC a cap d t e [] [] [] cd ct ce w hR (by decide) (by decide) (by decide) hc (fun h => fit_of h (by decide) (by decide)) hd ht he (by decide) (by decide) (by decide)
  rw [provesC1] at h
  exact h
theorem provesE1_any (a : Option Addr) (cap : Nat) (d t e : Option Addr) (cd ct ce : Nat) (w : World) (hR : RulS w a SE.rules) (hc : 0 ≤ cap) (hd : SlS w d []) (ht : SlS w t []) (he : SlS w e []) :
    Calls Try.prog 18 #[.agg #[.int .i64 0, .int .u8 0, .slice a 0 cap], .agg #[.slice d 0 cd, .slice t 0 ct, .slice e 0 ce]] w fun e w' => e = .returned (.bool false) ∧ Below w.heap.size w w' := by
  have h := proves_any SE a cap d t e [] [] [] cd ct ce w hR (by decide) (by decide) (by decide) hc (fun h => fit_of h (by decide) (by decide)) hd ht he (by decide) (by decide) (by decide)
  rw [provesE1] at h
  exact h
theorem provesD1_any (a : Option Addr) (cap : Nat) (d t e : Option Addr) (cd ct ce : Nat) (w : World) (hR : RulS w a SD.rules) (hc : 1 ≤ cap) (hd : SlS w d []) (ht : SlS w t [0]) (he : SlS w e []) :
    Calls Try.prog 18 #[.agg #[.int .i64 2, .int .u8 2, .slice a 1 cap], .agg #[.slice d 0 cd, .slice t 1 ct, .slice e 0 ce]] w fun e w' => e = .returned (.bool false) ∧ Below w.heap.size w w' := by
  have h := proves_any SD a cap d t e [] [0] [] cd ct ce w hR (by decide) (by decide) (by decide) hc (fun h => fit_of h (by decide) (by decide)) hd ht he (by decide) (by decide) (by decide)
  rw [provesD1] at h
  exact h
end Go.Proofs.Ytogjcfcfgnbmkaa
