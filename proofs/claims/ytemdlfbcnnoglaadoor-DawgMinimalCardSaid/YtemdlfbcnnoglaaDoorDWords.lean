/- dawg.Words, Index, At, Count, Valid. -/
import Derived.Test.YtemdlfbcnnoglaaDoorDColl
import Derived.Test.YtemdlfbcnnoglaaDoorDEq
namespace Go.Proofs.YtemdlfbcnnoglaaDoor
open Go.RowKit Go.WideShapes
set_option linter.unusedVariables false
set_option linter.unusedSimpArgs false

theorem armsL_sz {rec : Int → List UInt8 → List (ByteArray × Bool) × Bool} (hr : ∀ i ws, ∀ x ∈ (rec i ws).1, x.1.size ≤ 20) (ws : List UInt8) : ∀ X, ∀ x ∈ (armsL rec ws X).1, x.1.size ≤ 20
  | [], x, hx => by cases hx
  | y :: r, x, hx => by
    rw [armsL] at hx
    split at hx
    · rcases List.mem_append.1 hx with h | h
      · exact hr _ _ x h
      · exact armsL_sz hr ws r x h
    · exact hr _ _ x hx
theorem visitL_sz (D : List Nd) : ∀ m i ws, ∀ x ∈ (visitL D m i ws).1, x.1.size ≤ 20
  | 0, _, _, x, hx => by cases hx
  | m + 1, i, ws, x, hx => by
    rw [visitL] at hx
    split at hx
    · obtain rfl := List.mem_singleton.1 hx; decide
    · rename_i h
      have hl : ws.length ≤ 20 := by
        unfold failV at h
        simp only [Bool.or_eq_true, decide_eq_true_eq, not_or] at h
        omega
      rcases List.mem_append.1 hx with h | h
      · split at h
        · obtain rfl := List.mem_singleton.1 h
          show (⟨ws.toArray⟩ : ByteArray).data.size ≤ 20
          simpa using hl
        · cases h
      · exact armsL_sz (visitL_sz D m) ws _ x h
theorem collect_yes (D : List Nd) (a : Option Addr) (c : Nat) (w : World) (hD : DawgS w a D) (hDl : D.length ≤ 9223372036854775807) (hC : CsOk D) (h : colOk (visitL D 22 0 []).1) :
    Calls Tryd.prog 35 #[.slice a D.length c] w fun e w' => ∃ a1 c1, e = .returned (.tuple #[.slice a1 (fstS (visitL D 22 0 []).1).length c1, .bool true]) ∧ OwnG rowStr w' w.heap.size (.slice a1 (fstS (visitL D 22 0 []).1).length c1) (fstS (visitL D 22 0 []).1) ∧ Below w.heap.size w w' := by
  refine (collect_any D a c w hD hDl hC).mono ?_
  rintro e w1 (⟨-, v, rfl, ho, hb⟩ | ⟨hn, -, -⟩)
  · obtain ⟨a1, c1, rfl, -, -⟩ := ho.form
    exact ⟨a1, c1, rfl, ho, hb⟩
  · exact absurd h hn
theorem collect_no (D : List Nd) (a : Option Addr) (c : Nat) (w : World) (hD : DawgS w a D) (hDl : D.length ≤ 9223372036854775807) (hC : CsOk D) (h : ¬ colOk (visitL D 22 0 []).1) :
    Calls Tryd.prog 35 #[.slice a D.length c] w fun e w' => e = .returned (.tuple #[.slice none 0 0, .bool false]) ∧ Below w.heap.size w w' := by
  refine (collect_any D a c w hD hDl hC).mono ?_
  rintro e w1 (⟨hn, -⟩ | ⟨hn, rfl, hb⟩)
  · exact absurd hn h
  · exact ⟨rfl, hb⟩
theorem build_yes (L : List ByteArray) (n : Nat) (a : Option Addr) (cap : Nat) (w : World) (hR : StrS w a L) (hL : n = L.length) (hn : n ≤ 9223372036854775807) (hc : n ≤ cap) (hT : Tab w) (h : Dict L) :
    Calls Tryd.prog 13 #[.slice a n cap] w fun e w' => ∃ a c, e = .returned (.tuple #[.slice a (ofF (restAt 0 L)).length c, .int .i64 0]) ∧ (ofF (restAt 0 L)).length ≤ c ∧ (ofF (restAt 0 L)).length ≤ 4200 ∧ DawgS w' a (ofF (restAt 0 L)) ∧ Below w.heap.size w w' := by
  refine (build_any L n a cap w hR hL hn hc hT).mono ?_
  rintro e w1 (⟨-, h⟩ | ⟨hn, -⟩)
  · exact h
  · exact absurd h hn
theorem build_no (L : List ByteArray) (n : Nat) (a : Option Addr) (cap : Nat) (w : World) (hR : StrS w a L) (hL : n = L.length) (hn : n ≤ 9223372036854775807) (hc : n ≤ cap) (hT : Tab w) (h : ¬ Dict L) :
    Calls Tryd.prog 13 #[.slice a n cap] w fun e w' => e = .returned (.tuple #[.slice none 0 0, .int .i64 90]) ∧ Below w.heap.size w w' := by
  refine (build_any L n a cap w hR hL hn hc hT).mono ?_
  rintro e w1 (⟨hn, -⟩ | ⟨-, h⟩)
  · exact absurd hn h
  · exact h
/-- what Words answers -/
noncomputable def wordsF (D : List Nd) : List ByteArray := @ite _ (colOk (visitL D 22 0 []).1) (Classical.propDecidable _) (fstS (visitL D 22 0 []).1) []
theorem wordsF_yes {D : List Nd} (h : colOk (visitL D 22 0 []).1) : wordsF D = fstS (visitL D 22 0 []).1 := if_pos h
theorem wordsF_no {D : List Nd} (h : ¬ colOk (visitL D 22 0 []).1) : wordsF D = [] := if_neg h
theorem wordsF_sz (D : List Nd) : ∀ x ∈ wordsF D, x.size ≤ 20 := fun x hx => by
  by_cases h : colOk (visitL D 22 0 []).1
  · rw [wordsF_yes h] at hx
    obtain ⟨y, hy, rfl⟩ := List.mem_map.1 hx
    exact visitL_sz D 22 0 [] y hy
  · rw [wordsF_no h] at hx; cases hx
theorem wordsF_len (D : List Nd) : (wordsF D).length ≤ 200 := by
  by_cases h : colOk (visitL D 22 0 []).1
  · rw [wordsF_yes h]; simpa [fstS] using h.2
  · rw [wordsF_no h]; exact Nat.zero_le _
theorem words_any (D : List Nd) (a : Option Addr) (c : Nat) (w : World) (hD : DawgS w a D) (hDl : D.length ≤ 9223372036854775807) (hC : CsOk D) :
    Calls Tryd.prog 24 #[.slice a D.length c] w fun e w' => ∃ a1 c1, e = .returned (.slice a1 (wordsF D).length c1) ∧ StrS w' a1 (wordsF D) ∧ (wordsF D).length ≤ c1 ∧ Below w.heap.size w w' := by
  have HD := Lib.hid hD; clear hD
  by_cases h : colOk (visitL D 22 0 []).1
  · have HY := Lib.hid (wordsF_yes h)
    have HH := Lib.hid h
    clear h
    go_enter Tryd.func24, Tryd.ntmps24
    go_wp2_with (first
      | (go_at_call 35; refine (collect_yes D a c w HD.out hDl hC HH.out).mono ?_; rintro e w1 ⟨a1, c1, rfl, ho, hb⟩; have HO := Lib.hid ho; have HB := Lib.hid hb; clear ho hb))
    go_ret
    have := HO.out.strs
    rw [HY.out]
    exact ⟨_, _, rfl, this.1, this.2.2, HB.out⟩
  · have HY := Lib.hid (wordsF_no h)
    have HH : Hid (¬ colOk (visitL D 22 0 []).1) := h
    clear h
    go_enter Tryd.func24, Tryd.ntmps24
    go_wp2_with (first
      | (go_at_call 35; refine (collect_no D a c w HD.out hDl hC HH.out).mono ?_; rintro e w1 ⟨rfl, hb⟩; have HB := Lib.hid hb; clear hb))
    go_ret
    rw [HY.out]
    exact ⟨_, _, rfl, StrS.nil _ _, Nat.le_refl _, HB.out⟩
theorem dindex_any (D : List Nd) (a : Option Addr) (c : Nat) (s : ByteArray) (w : World) (hD : DawgS w a D) (hDl : D.length ≤ 9223372036854775807) (hC : CsOk D) :
    Calls Tryd.prog 20 #[.slice a D.length c, .string s] w fun e w' => e = .returned (.int .i64 (idxF (wordsF D) s)) ∧ Below w.heap.size w w' := by
  have HD := Lib.hid hD; clear hD
  have hl := wordsF_len D
  go_enter Tryd.func20, Tryd.ntmps20
  go_wp2_with (first
    | (go_at_call 24; refine (words_any D a c w HD.out hDl hC).mono ?_; rintro e w1 ⟨a1, c1, rfl, hs, -, hb⟩; have HS := Lib.hid hs; have HB := Lib.hid hb; clear hs hb)
    | (go_at_call 38; refine (sindex_any (wordsF D) _ a1 c1 s w1 HS.out rfl (by omega)).mono ?_; rintro e w2 ⟨rfl, rfl⟩))
  go_ret
  exact ⟨rfl, HB.out⟩
/-- what At answers -/
def atV (L : List ByteArray) (i : Int) : Value := if h : 0 ≤ i ∧ i < L.length then .tuple #[.string (L[i.toNat]'(by omega)), .int .i64 0] else .tuple #[.string ⟨#[]⟩, .int .i64 90]
theorem at_any (D : List Nd) (a : Option Addr) (c : Nat) (i : Int) (w : World) (hD : DawgS w a D) (hDl : D.length ≤ 9223372036854775807) (hC : CsOk D) :
    Calls Tryd.prog 26 #[.slice a D.length c, .int .i64 i] w fun e w' => e = .returned (atV (wordsF D) i) ∧ Below w.heap.size w w' := by
  have HD := Lib.hid hD; clear hD
  have hl := wordsF_len D
  by_cases h0 : i < 0
  · have HV : Hid (atV (wordsF D) i = .tuple #[.string ⟨#[]⟩, .int .i64 90]) := dif_neg (by omega)
    go_enter Tryd.func26, Tryd.ntmps26
    go_wp2_with (first
      | (go_at_call 24; refine (words_any D a c w HD.out hDl hC).mono ?_; rintro e w1 ⟨a1, c1, rfl, hs, -, hb⟩; have HS := Lib.hid hs; have HB := Lib.hid hb; clear hs hb))
    go_ret2
    exact ⟨by rw [HV.out]; rfl, HB.out⟩
  · by_cases h1 : (wordsF D).length ≤ i
    · have HV : Hid (atV (wordsF D) i = .tuple #[.string ⟨#[]⟩, .int .i64 90]) := dif_neg (by omega)
      go_enter Tryd.func26, Tryd.ntmps26
      go_wp2_with (first
        | (go_at_call 24; refine (words_any D a c w HD.out hDl hC).mono ?_; rintro e w1 ⟨a1, c1, rfl, hs, -, hb⟩; have HS := Lib.hid hs; have HB := Lib.hid hb; clear hs hb))
      go_ret2
      exact ⟨by rw [HV.out]; rfl, HB.out⟩
    · obtain ⟨k, rfl⟩ : ∃ k : Nat, i = k := ⟨i.toNat, by omega⟩
      have hk : k < (wordsF D).length := by omega
      have HV : Hid (atV (wordsF D) k = .tuple #[.string (wordsF D)[k], .int .i64 0]) := dif_pos (by omega)
      clear h0 h1
      go_enter Tryd.func26, Tryd.ntmps26
      go_upto_region 2 with (first
        | (go_at_call 24; refine (words_any D a c w HD.out hDl hC).mono ?_; rintro e w1 ⟨a1, c1, rfl, hs, -, hb⟩; have HS := Lib.hid hs; have HB := Lib.hid hb; clear hs hb))
      obtain ⟨b, o, ha, hb2, h0⟩ := HS.out.at hk
      have hidx := idx_strs a1 b o (wordsF D).length c1 k ha hk
      have HA := Lib.hid ha; clear ha
      go_wp2
      go_ret2
      exact ⟨by rw [HV.out]; rfl, HB.out⟩
set_option maxHeartbeats 1600000 in
theorem count_any (D : List Nd) (a : Option Addr) (c : Nat) (s : ByteArray) (w : World) (hD : DawgS w a D) (hDl : D.length ≤ 9223372036854775807) (hC : CsOk D) :
    Calls Tryd.prog 21 #[.slice a D.length c, .string s] w fun e w' => e = .returned (.int .i64 (begN (wordsF D) s : Int)) ∧ Below w.heap.size w w' := by
  have HD := Lib.hid hD; clear hD
  have hl := wordsF_len D
  have HZ := Lib.hid (wordsF_sz D)
  have HW := Lib.hid (words_any D a c w HD.out hDl hC)
  obtain ⟨L, hL⟩ : ∃ L, wordsF D = L := ⟨_, rfl⟩
  rw [hL] at hl HZ HW
  rw [hL]
  clear hL
  go_enter Tryd.func21, Tryd.ntmps21
  go_wp2_with (first
      | (go_at_call 24; refine HW.out.mono ?_; rintro e w1 ⟨a1, c1, rfl, hs, -, hb⟩; have HS := Lib.hid hs; have HB := Lib.hid hb; clear hs hb))
  go_loop [11, 5] (fun i c => ∃ k : Nat, ∃ m : Nat, k ≤ L.length ∧ i = .int .i64 k ∧ c = .int .i64 (m : Int) ∧ m = begN (L.take k) s) (fun i c => L.length - (intOf i).toNat)
  case atStart => exact ⟨0, 0, Nat.zero_le _, rfl, rfl, by simp [begN]⟩
  case round =>
    obtain ⟨k, m, hk, rfl, rfl, hm⟩ := hrel
    have hmk : m ≤ L.length := by rw [hm]; exact Nat.le_trans (begN_le _ _) (List.length_take_le' _ _)
    have HM := Lib.hid hm; clear hm
    by_cases hlt : k < L.length
    · obtain ⟨b, o, ha, hb, h0⟩ := HS.out.at hlt
      have hidx := idx_strs a1 b o L.length c1 k ha hlt
      have HA := Lib.hid ha; clear ha
      have hxs := HZ.out L[k] (List.getElem_mem hlt)
      obtain ⟨x, hx⟩ : ∃ x, L[k] = x := ⟨_, rfl⟩
      have HQS := Lib.hid (begN_succ (p := s) hlt)
      rw [hx] at h0 hxs HQS
      clear hx
      obtain ⟨q, hq⟩ : ∃ q, begB x s = q := ⟨_, rfl⟩
      have HQ := Lib.hid hq
      clear hq
      cases q with
      | true =>
        go_wp2_with (go_at_call 39; refine (hasPrefix_any _ _ _ (by omega)).mono ?_; rintro e w' ⟨he, rfl⟩; rw [HQ.out] at he; subst he)
        go_round
        case rel => exact ⟨k + 1, m + 1, by omega, by go_num, by go_num, by rw [HQS.out, HQ.out, HM.out]; rfl⟩
        case measure => simp [intOf]; omega
      | false =>
        go_wp2_with (go_at_call 39; refine (hasPrefix_any _ _ _ (by omega)).mono ?_; rintro e w' ⟨he, rfl⟩; rw [HQ.out] at he; subst he)
        go_round
        case rel => exact ⟨k + 1, m, by omega, by go_num, rfl, by rw [HQS.out, HQ.out, HM.out]; rfl⟩
        case measure => simp [intOf]; omega
    · have HA : Hid (m = begN L s) := by show _ = _; rw [HM.out, List.take_of_length_le (by omega)]
      go_wp2
      go_ret
      exact ⟨ret_int (by rw [HA.out]), HB.out⟩
/-- what Valid answers -/
noncomputable def validF (D : List Nd) : Bool := @decide (colOk (visitL D 22 0 []).1 ∧ Dict (fstS (visitL D 22 0 []).1) ∧ D = ofF (restAt 0 (fstS (visitL D 22 0 []).1))) (Classical.propDecidable _)
theorem validF_yes {D : List Nd} (h : colOk (visitL D 22 0 []).1 ∧ Dict (fstS (visitL D 22 0 []).1) ∧ D = ofF (restAt 0 (fstS (visitL D 22 0 []).1))) : validF D = true := @decide_eq_true _ (Classical.propDecidable _) h
theorem validF_no {D : List Nd} (h : ¬ (colOk (visitL D 22 0 []).1 ∧ Dict (fstS (visitL D 22 0 []).1) ∧ D = ofF (restAt 0 (fstS (visitL D 22 0 []).1)))) : validF D = false := @decide_eq_false _ (Classical.propDecidable _) h
theorem valid_any (D : List Nd) (a : Option Addr) (c : Nat) (w : World) (hD : DawgS w a D) (hDl : D.length ≤ 9223372036854775807) (hC : CsOk D) (hT : Tab w) :
    Calls Tryd.prog 16 #[.slice a D.length c] w fun e w' => e = .returned (.bool (validF D)) ∧ Below w.heap.size w w' := by
  have HD := Lib.hid hD; have HT := Lib.hid hT; clear hD hT
  by_cases h : colOk (visitL D 22 0 []).1
  · have HH := Lib.hid h
    clear h
    have hlen : (fstS (visitL D 22 0 []).1).length ≤ 200 := by simpa [fstS] using HH.out.2
    by_cases hd : Dict (fstS (visitL D 22 0 []).1)
    · have HDI := Lib.hid hd
      clear hd
      have HV : Hid (validF D = decide (D = ofF (restAt 0 (fstS (visitL D 22 0 []).1)))) := by
        show _ = _
        by_cases he : D = ofF (restAt 0 (fstS (visitL D 22 0 []).1))
        · rw [decide_eq_true he]; exact validF_yes ⟨HH.out, HDI.out, he⟩
        · rw [decide_eq_false he]; exact validF_no fun h => he h.2.2
      go_enter Tryd.func16, Tryd.ntmps16
      go_wp2_with (first
        | (go_at_call 35; refine (collect_yes D a c w HD.out hDl hC HH.out).mono ?_; rintro e w1 ⟨a1, c1, rfl, ho, hb⟩; have HO := Lib.hid ho; have HB := Lib.hid hb; clear ho hb)
        | (go_at_call 13; refine (build_yes (fstS (visitL D 22 0 []).1) _ a1 c1 w1 HO.out.strs.1 rfl (by omega) HO.out.strs.2.2 (HT.out.later HB.out) HDI.out).mono ?_; rintro e w2 ⟨a2, c2, rfl, -, hl2, hdw, hb⟩; have HW := Lib.hid hdw; have HB2 := Lib.hid hb; clear hdw hb)
        | (go_at_call 36; refine (equal_any D _ a a2 _ _ c c2 w2 ((HD.out.later HB.out (Nat.le_refl _)).later HB2.out (Nat.le_refl _)) HW.out rfl rfl hDl (by omega)).mono ?_; rintro e w3 ⟨rfl, hb⟩; have HB3 := Lib.hid hb; clear hb))
      go_ret
      rw [HV.out]
      exact ⟨rfl, HB.out.trans ((HB2.out.mono HB.out.size).trans (HB3.out.mono (Nat.le_trans HB.out.size HB2.out.size)))⟩
    · have HDI : Hid (¬ Dict (fstS (visitL D 22 0 []).1)) := hd
      have HV := Lib.hid (validF_no (D := D) fun h => hd h.2.1)
      clear hd
      go_enter Tryd.func16, Tryd.ntmps16
      go_wp2_with (first
        | (go_at_call 35; refine (collect_yes D a c w HD.out hDl hC HH.out).mono ?_; rintro e w1 ⟨a1, c1, rfl, ho, hb⟩; have HO := Lib.hid ho; have HB := Lib.hid hb; clear ho hb)
        | (go_at_call 13; refine (build_no (fstS (visitL D 22 0 []).1) _ a1 c1 w1 HO.out.strs.1 rfl (by omega) HO.out.strs.2.2 (HT.out.later HB.out) HDI.out).mono ?_; rintro e w2 ⟨rfl, hb⟩; have HB2 := Lib.hid hb; clear hb))
      go_ret
      rw [HV.out]
      exact ⟨rfl, HB.out.trans (HB2.out.mono HB.out.size)⟩
  · have HH : Hid (¬ colOk (visitL D 22 0 []).1) := h
    have HV := Lib.hid (validF_no (D := D) fun hh => h hh.1)
    clear h
    go_enter Tryd.func16, Tryd.ntmps16
    go_wp2_with (first
      | (go_at_call 35; refine (collect_no D a c w HD.out hDl hC HH.out).mono ?_; rintro e w1 ⟨rfl, hb⟩; have HB := Lib.hid hb; clear hb))
    go_ret
    rw [HV.out]
    exact ⟨rfl, HB.out⟩
end Go.Proofs.YtemdlfbcnnoglaaDoor
