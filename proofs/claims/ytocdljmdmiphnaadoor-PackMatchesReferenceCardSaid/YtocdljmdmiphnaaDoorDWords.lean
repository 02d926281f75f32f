
/- dawg.Words, Index, At, Count, Valid. -/
import Derived.Test.YtocdljmdmiphnaaDoorDColl
import Derived.Test.YtocdljmdmiphnaaDoorDEq
namespace Go.Proofs.YtocdljmdmiphnaaDoor
open Go.RowKit Go.WideShapes
set_option linter.unusedVariables false
set_option linter.unusedSimpArgs false

theorem armsL_sz {rec : Int → List UInt8 → List (ByteArray × Bool) × Bool} (hr : ∀ i ws, ∀ x ∈ (rec i ws).1, x.1.size ≤ 20) (ws : List UInt8) : ∀ X, ∀ x ∈ (armsL rec ws X).1, x.1.size ≤ 20
  | [], x, hx => by cases hx
  | y :: r, x, hx => by
    rw [armsL] at hx
    split at hx
    · rcases List.mem_append.1 hx with h | h
      · exact hr _ _ x h
      · exact armsL_sz hr ws r x h
    · exact hr _ _ x hx
theorem visitL_sz (D : List Nd) : ∀ m i ws, ∀ x ∈ (visitL D m i ws).1, x.1.size ≤ 20
  | 0, _, _, x, hx => by cases hx
  | m + 1, i, ws, x, hx => by
    rw [visitL] at hx
    split at hx
    · obtain rfl := List.mem_singleton.1 hx; decide
    · rename_i h
      have hl : ws.length ≤ 20 := by
        unfold failV at h
        simp only [Bool.or_eq_true, decide_eq_true_eq, not_or] at h
        omega
      rcases List.mem_append.1 hx with h | h
      · split at h
        · obtain rfl := List.mem_singleton.1 h
          show (⟨ws.toArray⟩ : ByteArray).data.size ≤ 20
          simpa using hl
        · cases h
      · exact armsL_sz (visitL_sz D m) ws _ x h
theorem collect_yes (D : List Nd) (a : Option Addr) (c : Nat) (w : World) (hD : DawgS w a D) (hDl : D.length ≤ 9223372036854775807) (hC : CsOk D) (h : colOk (visitL D 22 0 []).1) :
    Calls Tryd.prog 49 #[.slice a D.length c] w fun e w' => ∃ a1 c1, e = .returned (.tuple #[.slice a1 (fstS (visitL D 22 0 []).1).length c1, .bool true]) ∧ OwnG rowStr w' w.heap.size (.slice a1 (fstS (visitL D 22 0 []).1).length c1) (fstS (visitL D 22 0 []).1) ∧ Below w.heap.size w w' := by
  refine (collect_any D a c w hD hDl hC).mono ?_
  rintro e w1 (⟨-, v, rfl, ho, hb⟩ | ⟨hn, -, -⟩)
  · obtain ⟨a1, c1, rfl, -, -⟩ := ho.form
    exact ⟨a1, c1, rfl, ho, hb⟩
  · exact absurd h hn
theorem collect_no (D : List Nd) (a : Option Addr) (c : Nat) (w : World) (hD : DawgS w a D) (hDl : D.length ≤ 9223372036854775807) (hC : CsOk D) (h : ¬ colOk (visitL D 22 0 []).1) :
    Calls Tryd.prog 49 #[.slice a D.length c] w fun e w' => e = .returned (.tuple #[.slice none 0 0, .bool false]) ∧ Below w.heap.size w w' := by
  refine (collect_any D a c w hD hDl hC).mono ?_
  rintro e w1 (⟨hn, -⟩ | ⟨hn, rfl, hb⟩)
  · exact absurd hn h
  · exact ⟨rfl, hb⟩
theorem build_yes (L : List ByteArray) (n : Nat) (a : Option Addr) (cap : Nat) (w : World) (hR : StrS w a L) (hL : n = L.length) (hn : n ≤ 9223372036854775807) (hc : n ≤ cap) (hT : Tab w) (h : Dict L) :
    Calls Tryd.prog 22 #[.slice a n cap] w fun e w' => ∃ a c, e = .returned (.tuple #[.slice a (ofF (restAt 0 L)).length c, .int .i64 0]) ∧ (ofF (restAt 0 L)).length ≤ c ∧ (ofF (restAt 0 L)).length ≤ 4200 ∧ DawgS w' a (ofF (restAt 0 L)) ∧ Below w.heap.size w w' := by
  refine (build_any L n a cap w hR hL hn hc hT).mono ?_
  rintro e w1 (⟨-, h⟩ | ⟨hn, -⟩)
  · exact h
  · exact absurd h hn
theorem build_no (L : List ByteArray) (n : Nat) (a : Option Addr) (cap : Nat) (w : World) (hR : StrS w a L) (hL : n = L.length) (hn : n ≤ 9223372036854775807) (hc : n ≤ cap) (hT : Tab w) (h : ¬ Dict L) :
    Calls Tryd.prog 22 #[.slice a n cap] w fun e w' => e = .returned (.tuple #[.slice none 0 0, .int .i64 90]) ∧ Below w.heap.size w w' := by
  refine (build_any L n a cap w hR hL hn hc hT).mono ?_
  rintro e w1 (⟨hn, -⟩ | ⟨-, h⟩)
  · exact absurd hn h
  · exact h
/-- what Words answers -/
noncomputable def wordsF (D : List Nd) : List ByteArray := @ite _ (colOk (visitL D 22 0 []).1) (Classical.propDecidable _) (fstS (visitL D 22 0 []).1) []
theorem wordsF_yes {D : List Nd} (h : colOk (visitL D 22 0 []).1) : wordsF D = fstS (visitL D 22 0 []).1 := if_pos h
theorem wordsF_no {D : List Nd} (h : ¬ colOk (visitL D 22 0 []).1) : wordsF D = [] := if_neg h
theorem wordsF_sz (D : List Nd) : ∀ x ∈ wordsF D, x.size ≤ 20 := fun x hx => by
  by_cases h : colOk (visitL D 22 0 []).1
  · rw [wordsF_yes h] at hx
    obtain ⟨y, hy, rfl⟩ := List.mem_map.1 hx
    exact visitL_sz D 22 0 [] y hy
  · rw [wordsF_no h] at hx; cases hx
theorem wordsF_len (D : List Nd) : (wordsF D).length ≤ 200 := by
  by_cases h : colOk (visitL D 22 0 []).1
  · rw [wordsF_yes h]; simpa [fstS] using h.2
  · rw [wordsF_no h]; exact Nat.zero_le _
theorem words_any (D : List Nd) (a : Option Addr) (c : Nat) (w : World) (hD : DawgS w a D) (hDl : D.length ≤ 9223372036854775807) (hC : CsOk D) :
    Calls Tryd.prog 26 #[.slice a D.length c] w fun e w' => ∃ a1 c1, e = .returned (.slice a1 (wordsF D).length c1) ∧ StrS w' a1 (wordsF D) ∧ (wordsF D).length ≤ c1 ∧ Below w.heap.size w w' := by
  have HD := Lib.hid hD; clear hD
  by_cases h : colOk (visitL D 22 0 []).1
  · have HY := Lib.hid (wordsF_yes h)
    have HH := Lib.hid h
    clear h
    go_enter Tryd.func26, Tryd.ntmps26
    go_wp2_with (first
      | (go_at_call 49; refine (collect_yes D a c w HD.out hDl hC HH.out).mono ?_; rintro e w1 ⟨a1, c1, rfl, ho, hb⟩; have HO := Lib.hid ho; have HB := Lib.hid hb; clear ho hb))
    go_ret
    have := HO.out.strs
    rw [HY.out]
    exact ⟨_, _, rfl, this.1, this.2.2, HB.out⟩
  · have HY := Lib.hid (wordsF_no h)
    have HH : Hid (¬ colOk (visitL D 22 0 []).1) := h
    clear h
    go_enter Tryd.func26, Tryd.ntmps26
    go_wp2_with (first
      | (go_at_call 49; refine (collect_no D a c w HD.out hDl hC HH.out).mono ?_; rintro e w1 ⟨rfl, hb⟩; have HB := Lib.hid hb; clear hb))
    go_ret
    rw [HY.out]
    exact ⟨_, _, rfl, StrS.nil _ _, Nat.le_refl _, HB.out⟩
theorem dindex_any (D : List Nd) (a : Option Addr) (c : Nat) (s : ByteArray) (w : World) (hD : DawgS w a D) (hDl : D.length ≤ 9223372036854775807) (hC : CsOk D) :
    Calls Tryd.prog 25 #[.slice a D.length c, .string s] w fun e w' => e = .returned (.int .i64 (idxF (wordsF D) s)) ∧ Below w.heap.size w w' := by
  have HD := Lib.hid hD; clear hD
  have hl := wordsF_len D
  go_enter Tryd.func25, Tryd.ntmps25
  go_wp2_with (first
    | (go_at_call 26; refine (words_any D a c w HD.out hDl hC).mono ?_; rintro e w1 ⟨a1, c1, rfl, hs, -, hb⟩; have HS := Lib.hid hs; have HB := Lib.hid hb; clear hs hb)
    | (go_at_call 48; refine (sindex_any (wordsF D) _ a1 c1 s w1 HS.out rfl (by omega)).mono ?_; rintro e w2 ⟨rfl, rfl⟩))
  go_ret
  exact ⟨rfl, HB.out⟩
/-- what At answers -/
def atV (L : List ByteArray) (i : Int) : Value := if h : 0 ≤ i ∧ i < L.length then .tuple #[.string (L[i.toNat]'(by omega)), .int .i64 0] else .tuple #[.string ⟨#[]⟩, .int .i64 90]
/-- what Valid answers -/
noncomputable def validF (D : List Nd) : Bool := @decide (colOk (visitL D 22 0 []).1 ∧ Dict (fstS (visitL D 22 0 []).1) ∧ D = ofF (restAt 0 (fstS (visitL D 22 0 []).1))) (Classical.propDecidable _)
theorem validF_yes {D : List Nd} (h : colOk (visitL D 22 0 []).1 ∧ Dict (fstS (visitL D 22 0 []).1) ∧ D = ofF (restAt 0 (fstS (visitL D 22 0 []).1))) : validF D = true := @decide_eq_true _ (Classical.propDecidable _) h
theorem validF_no {D : List Nd} (h : ¬ (colOk (visitL D 22 0 []).1 ∧ Dict (fstS (visitL D 22 0 []).1) ∧ D = ofF (restAt 0 (fstS (visitL D 22 0 []).1)))) : validF D = false := @decide_eq_false _ (Classical.propDecidable _) h
theorem valid_any (D : List Nd) (a : Option Addr) (c : Nat) (w : World) (hD : DawgS w a D) (hDl : D.length ≤ 9223372036854775807) (hC : CsOk D) (hT : Tab w) :
    Calls Tryd.prog 31 #[.slice a D.length c] w fun e w' => e = .returned (.bool (validF D)) ∧ Below w.heap.size w w' := by
  have HD := Lib.hid hD; have HT := Lib.hid hT; clear hD hT
  by_cases h : colOk (visitL D 22 0 []).1
  · have HH := Lib.hid h
    clear h
    have hlen : (fstS (visitL D 22 0 []).1).length ≤ 200 := by simpa [fstS] using HH.out.2
    by_cases hd : Dict (fstS (visitL D 22 0 []).1)
    · have HDI := Lib.hid hd
      clear hd
      have HV : Hid (validF D = decide (D = ofF (restAt 0 (fstS (visitL D 22 0 []).1)))) := by
        show _ = _
        by_cases he : D = ofF (restAt 0 (fstS (visitL D 22 0 []).1))
        · rw [decide_eq_true he]; exact validF_yes ⟨HH.out, HDI.out, he⟩
        · rw [decide_eq_false he]; exact validF_no fun h => he h.2.2
      go_enter Tryd.func31, Tryd.ntmps31
      go_wp2_with (first
        | (go_at_call 49; refine (collect_yes D a c w HD.out hDl hC HH.out).mono ?_; rintro e w1 ⟨a1, c1, rfl, ho, hb⟩; have HO := Lib.hid ho; have HB := Lib.hid hb; clear ho hb)
        | (go_at_call 22; refine (build_yes (fstS (visitL D 22 0 []).1) _ a1 c1 w1 HO.out.strs.1 rfl (by omega) HO.out.strs.2.2 (HT.out.later HB.out) HDI.out).mono ?_; rintro e w2 ⟨a2, c2, rfl, -, hl2, hdw, hb⟩; have HW := Lib.hid hdw; have HB2 := Lib.hid hb; clear hdw hb)
        | (go_at_call 52; refine (equal_any D _ a a2 _ _ c c2 w2 ((HD.out.later HB.out (Nat.le_refl _)).later HB2.out (Nat.le_refl _)) HW.out rfl rfl hDl (by omega)).mono ?_; rintro e w3 ⟨rfl, hb⟩; have HB3 := Lib.hid hb; clear hb))
      go_ret
      rw [HV.out]
      exact ⟨rfl, HB.out.trans ((HB2.out.mono HB.out.size).trans (HB3.out.mono (Nat.le_trans HB.out.size HB2.out.size)))⟩
    · have HDI : Hid (¬ Dict (fstS (visitL D 22 0 []).1)) := hd
      have HV := Lib.hid (validF_no (D := D) fun h => hd h.2.1)
      clear hd
      go_enter Tryd.func31, Tryd.ntmps31
      go_wp2_with (first
        | (go_at_call 49; refine (collect_yes D a c w HD.out hDl hC HH.out).mono ?_; rintro e w1 ⟨a1, c1, rfl, ho, hb⟩; have HO := Lib.hid ho; have HB := Lib.hid hb; clear ho hb)
        | (go_at_call 22; refine (build_no (fstS (visitL D 22 0 []).1) _ a1 c1 w1 HO.out.strs.1 rfl (by omega) HO.out.strs.2.2 (HT.out.later HB.out) HDI.out).mono ?_; rintro e w2 ⟨rfl, hb⟩; have HB2 := Lib.hid hb; clear hb))
      go_ret
      rw [HV.out]
      exact ⟨rfl, HB.out.trans (HB2.out.mono HB.out.size)⟩
  · have HH : Hid (¬ colOk (visitL D 22 0 []).1) := h
    have HV := Lib.hid (validF_no (D := D) fun hh => h hh.1)
    clear h
    go_enter Tryd.func31, Tryd.ntmps31
    go_wp2_with (first
      | (go_at_call 49; refine (collect_no D a c w HD.out hDl hC HH.out).mono ?_; rintro e w1 ⟨rfl, hb⟩; have HB := Lib.hid hb; clear hb))
    go_ret
    rw [HV.out]
    exact ⟨rfl, HB.out⟩
end Go.Proofs.YtocdljmdmiphnaaDoor
