
/- Reference 09's Listed and Valid. -/
import Derived.Test.YtocdljmdmiphnaaDoorDList
import Derived.Test.YtocdljmdmiphnaaDoorDSame
import Derived.Test.YtocdljmdmiphnaaDoorDDict
import Derived.Deep.QuietTactic
import Derived.BigQuiet
namespace Go.Proofs.YtocdljmdmiphnaaDoor
open Go.RowKit Go.WideShapes
set_option linter.unusedVariables false
set_option linter.unusedSimpArgs false

/-- what Listed lists: the steps that are left, the texts -/
def listedF (D : List Nd) : Nat × List Wd := listF D 22 0 [] (5000, [])
def fewB (D : List Nd) : Bool := decide (0 < (listedF D).1)
theorem listedF_len (D : List Nd) : (listedF D).2.length ≤ 5000 := by
  have := listF_le D 22 0 [] (5000, [])
  unfold listedF
  simp at this; omega
set_option maxHeartbeats 800000 in
theorem listed_any (D : List Nd) (a : Option Addr) (c : Nat) (w : World) (hD : DawgS w a D) (hDl : D.length ≤ 9223372036854775807) (hC : CsOk D) :
    Calls Tryd.prog 36 #[.slice a D.length c] w fun e w' => ∃ a1 c1, e = .returned (.tuple #[.slice a1 (listedF D).2.length c1, .bool (fewB D)]) ∧ OwnG rowStr w' w.heap.size (.slice a1 (listedF D).2.length c1) (rowsB (listedF D).2) ∧ Below w.heap.size w w' := by
  have HD := Lib.hid hD; clear hD
  obtain ⟨w2, hw2⟩ : ∃ w2, w2 = w.alloc (Obj.cells #[.slice a D.length c, .int .i64 5000, .slice none 0 0] 104) := ⟨_, rfl⟩
  have HST : Hid (LsSt w w2 w2 w.heap.size w.heap.size a D.length c 5000 (.slice none 0 0) []) := by
    show LsSt _ _ _ _ _ _ _ _ _ _ _
    refine ⟨by rw [hw2]; exact heap_alloc_new _ _, OwnG.nil _ _ _, Nat.le_refl _, by rw [hw2]; exact (Below.refl _ _).alloc (Nat.le_refl _) _, fun _ _ _ _ _ _ => rfl⟩
  have hcall := list_any w w.heap.size w.heap.size a c D (Nat.le_refl _) HD.out hDl hC 22 0 [] 5000 [] (.slice none 0 0) w2 (by omega) (by omega) (by simp) (by simp) (by simp) HST.out
  have hq : listF D 22 0 [] (5000, []) = listedF D := rfl
  rw [hq, hw2] at hcall
  clear hq
  obtain ⟨LF, hLF⟩ : ∃ LF, listedF D = LF := ⟨_, rfl⟩
  have HFW : Hid (fewB D = decide (0 < LF.1)) := by show _ = _; rw [fewB, hLF]
  rw [hLF] at hcall
  rw [hLF]
  obtain ⟨lf, ou⟩ := LF
  have HC := Lib.hid hcall
  clear hcall hLF HST hw2
  simp only at HFW ⊢
  have hem : toB [] = ⟨#[]⟩ := rfl
  rw [hem] at HC
  clear hem
  go_enter Tryd.func36, Tryd.ntmps36
  go_upto_region 3 with (first
    | (go_at_call 54; refine HC.out.mono ?_; rintro e w3 ⟨rfl, v3, hl3⟩; obtain ⟨a1, c1, hv3, -, -⟩ := hl3.own.form; subst hv3; have HL3 := Lib.hid hl3; clear hl3))
  obtain ⟨rp0, rp1, rp2⟩ := cells3' HL3.out.rep
  clear HC
  go_quiet (fail)
  go_wp2
  go_ret2
  have hlen := rowsB_len ou
  have hdr : ∀ k, Ext w3 (w3.drewN k) := fun k => below_drewN (Below.refl _ _) k
  refine ⟨a1, c1, ?_, ?_, HL3.out.bl.trans (Below.mono (hdr nq) HL3.out.size)⟩
  · rw [HFW.out, ← hlen]; rfl
  · rw [← hlen]; exact HL3.out.own.later (hdr nq) (Nat.le_refl _)
/-- what the reference's Valid answers -/
noncomputable def validR (D : List Nd) : Bool := @decide (fewB D = true ∧ Dict (rowsB (listedF D).2) ∧ D = ofF (listedF D).2) (Classical.propDecidable _)
theorem validR_yes {D : List Nd} (h : fewB D = true ∧ Dict (rowsB (listedF D).2) ∧ D = ofF (listedF D).2) : validR D = true := @decide_eq_true _ (Classical.propDecidable _) h
theorem validR_no {D : List Nd} (h : ¬ (fewB D = true ∧ Dict (rowsB (listedF D).2) ∧ D = ofF (listedF D).2)) : validR D = false := @decide_eq_false _ (Classical.propDecidable _) h
theorem rest_rows (r : Rst) : restAt 0 (rowsB r) = r := by
  unfold restAt rowsB
  rw [List.map_map]
  have : ((fun s : ByteArray => s.data.toList.drop 0) ∘ toB) = id := by
    funext l
    show (toB l).data.toList.drop 0 = l
    rw [List.drop_zero]; rfl
  rw [this, List.map_id]
set_option maxHeartbeats 800000 in
theorem rvalid_any (D : List Nd) (a : Option Addr) (c : Nat) (w : World) (hD : DawgS w a D) (hDl : D.length ≤ 9223372036854775807) (hC : CsOk D) :
    Calls Tryd.prog 24 #[.slice a D.length c] w fun e w' => e = .returned (.bool (validR D)) ∧ Below w.heap.size w w' := by
  have HD := Lib.hid hD; clear hD
  have hLl := listedF_len D
  by_cases hf : fewB D = true
  · have HCA := Lib.hid (listed_any D a c w HD.out hDl hC)
    rw [hf] at HCA
    by_cases hd : Dict (rowsB (listedF D).2)
    · have HDI := Lib.hid hd
      have hdb := dictB_yes hd
      have HV : Hid (validR D = decide (D = ofF (listedF D).2)) := by
        show _ = _
        by_cases he : D = ofF (listedF D).2
        · rw [decide_eq_true he]; exact validR_yes ⟨hf, hd, he⟩
        · rw [decide_eq_false he]; exact validR_no fun h => he h.2.2
      have HF := Lib.hid hf
      clear hd hf
      go_enter Tryd.func24, Tryd.ntmps24
      go_wp2_with (first
        | (go_at_call 36; refine HCA.out.mono ?_; rintro e w1 ⟨a1, c1, rfl, ho, hb⟩; have HO := Lib.hid ho; have HB := Lib.hid hb; clear ho hb)
        | (go_at_call 47; refine (rdictionary_any (rowsB (listedF D).2) _ a1 c1 w1 HO.out.strs.1 (rowsB_len _).symm (by omega)).mono ?_; rintro e w2 ⟨rfl, hb⟩; rw [hdb]; have HB2 := Lib.hid hb; clear hb)
        | (go_at_call 12; refine (of_any (rowsB (listedF D).2) _ a1 c1 w2 (HO.out.strs.1.later HB2.out (Nat.le_refl _)) (rowsB_len _).symm (by have := HO.out.strs.2.2; rw [rowsB_len] at this; exact this) HDI.out).mono ?_; rintro e w3 ⟨a3, c3, rfl, -, hdw, hb⟩; have HW := Lib.hid hdw; have HB3 := Lib.hid hb; have HLE := Lib.hid (ofF_len HDI.out); rw [rest_rows] at HW HLE ⊢; clear hdw hb)
        | (go_at_call 27; refine (rsame_any D _ a a3 _ _ c c3 w3 (((HD.out.later HB.out (Nat.le_refl _)).later HB2.out (Nat.le_refl _)).later HB3.out (Nat.le_refl _)) HW.out rfl rfl hDl (Nat.le_trans HLE.out (by omega))).mono ?_; rintro e w4 ⟨rfl, hb⟩; have HB4 := Lib.hid hb; clear hb))
      go_ret
      rw [HV.out]
      exact ⟨rfl, HB.out.trans ((HB2.out.mono HB.out.size).trans ((HB3.out.mono (Nat.le_trans HB.out.size HB2.out.size)).trans (HB4.out.mono (Nat.le_trans HB.out.size (Nat.le_trans HB2.out.size HB3.out.size)))))⟩
    · have hdb := dictB_no hd
      have HV := Lib.hid (validR_no (D := D) fun h => hd h.2.1)
      clear hd
      go_enter Tryd.func24, Tryd.ntmps24
      go_wp2_with (first
        | (go_at_call 36; refine HCA.out.mono ?_; rintro e w1 ⟨a1, c1, rfl, ho, hb⟩; have HO := Lib.hid ho; have HB := Lib.hid hb; clear ho hb)
        | (go_at_call 47; refine (rdictionary_any (rowsB (listedF D).2) _ a1 c1 w1 HO.out.strs.1 (rowsB_len _).symm (by omega)).mono ?_; rintro e w2 ⟨rfl, hb⟩; rw [hdb]; have HB2 := Lib.hid hb; clear hb))
      go_ret
      rw [HV.out]
      exact ⟨rfl, HB.out.trans (HB2.out.mono HB.out.size)⟩
  · have HV := Lib.hid (validR_no (D := D) fun h => hf h.1)
    have hf2 : fewB D = false := by simpa using hf
    have HCA := Lib.hid (listed_any D a c w HD.out hDl hC)
    rw [hf2] at HCA
    clear hf hf2
    go_enter Tryd.func24, Tryd.ntmps24
    go_wp2_with (first
      | (go_at_call 36; refine HCA.out.mono ?_; rintro e w1 ⟨a1, c1, rfl, ho, hb⟩; have HO := Lib.hid ho; have HB := Lib.hid hb; clear ho hb))
    go_ret
    rw [HV.out]
    exact ⟨rfl, HB.out⟩
end Go.Proofs.YtocdljmdmiphnaaDoor
