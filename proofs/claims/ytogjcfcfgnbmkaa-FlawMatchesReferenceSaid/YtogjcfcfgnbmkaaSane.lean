/- Plain: the five fixed schemes of the law's sanity, and what is found in them. -/
import Derived.Test.YtogjcfcfgnbmkaaLawA
import Derived.Test.YtogjcfcfgnbmkaaFlaw6
namespace Go.Proofs.Ytogjcfcfgnbmkaa
set_option linter.unusedVariables false
set_option linter.unusedSimpArgs false

def rl (f t : Int) (i : List UInt8) : Rl := ⟨f, t, ⟨i.toArray⟩, ⟨#[]⟩, 0⟩
def SA : Sch := ⟨2, 1, [rl 0 0 [97], rl 0 1 [98]]⟩
def SB : Sch := ⟨2, 1, [rl 0 1 [97], rl 1 0 [], rl 1 1 []]⟩
def SC : Sch := ⟨2, 1, [rl 0 0 [97], rl 1 0 [98]]⟩
def SD : Sch := ⟨2, 2, [rl 0 0 [97]]⟩
def SE : Sch := ⟨0, 0, []⟩
/-- equality of rules, in a form that is computed -/
def eqRl' (r q : Rl) : Bool := decide (r.frm = q.frm) && (decide (r.dst = q.dst) && (decide (r.inp.data.toList = q.inp.data.toList) && (decide (r.out.data.toList = q.out.data.toList) && decide (r.cost = q.cost))))
theorem eqRl_eq (r q : Rl) : eqRl r q = eqRl' r q := by
  unfold eqRl eqRl'; simp only [ByteArray.toList_eq]
def validC (S : Sch) : Bool := headB S && (List.range S.rules.length).all fun i => match S.rules[i]? with | some r => rightB S.modes r && !(S.rules.take i).any (eqRl' r) | none => true
theorem validB_iff (S : Sch) : validB S = true ↔ Valid S := by simp [validB]
theorem valid_of {S : Sch} (h : validC S = true) : validB S = true := by
  unfold validC at h
  rw [Bool.and_eq_true, List.all_eq_true] at h
  rw [validB_iff]
  refine ⟨h.1, fun i hi _ => ?_⟩
  have := h.2 i (by simpa using hi)
  rw [List.getElem?_eq_getElem hi] at this
  unfold goodAt
  have e : (S.rules.take i).any (eqRl S.rules[i]) = (S.rules.take i).any (eqRl' S.rules[i]) := by congr 1; funext q; exact eqRl_eq _ _
  rw [e]; exact this
theorem fit_of {S : Sch} (h : validB S = true) (ha : 0 ≤ S.acc) (hb : S.acc ≤ 255) : Fit S := by
  have hv : Valid S := (validB_iff S).1 h
  have h1 := hv.1
  unfold headB at h1
  simp only [Bool.and_eq_true, decide_eq_true_eq] at h1
  refine ⟨h1.1, h1.2.1, ha, hb, h1.2.2.1, fun i hi => ?_⟩
  have h2 := hv.2 i hi hi
  unfold goodAt rightB at h2
  simp only [Bool.and_eq_true, decide_eq_true_eq] at h2
  exact ⟨h2.1.1, h2.1.2.1, h2.1.2.2.1, h2.1.2.2.2.1⟩
theorem vA : validB SA = true := valid_of (by decide +kernel)
theorem vB : validB SB = true := valid_of (by decide +kernel)
theorem vC : validB SC = true := valid_of (by decide +kernel)
theorem vD : validB SD = true := valid_of (by decide +kernel)
theorem vE : validB SE = false := by
  cases hb : validB SE with
  | false => rfl
  | true => exact absurd ((validB_iff SE).1 hb).1 (by decide +kernel)
theorem findA : findF SA = ⟨[1], [1], []⟩ := by rw [findF, if_pos vA]; congr 1 <;> decide +kernel
theorem findB : findF SB = ⟨[], [], [2]⟩ := by rw [findF, if_pos vB]; congr 1 <;> decide +kernel
theorem findC : findF SC = ⟨[1], [], []⟩ := by rw [findF, if_pos vC]; congr 1 <;> decide +kernel
theorem findD : findF SD = ⟨[0], [], []⟩ := by rw [findF, if_pos vD]; congr 1 <;> decide +kernel
theorem findE : findF SE = ⟨[], [], []⟩ := by rw [findF, if_neg (by rw [vE]; simp)]
theorem soundA : soundF SA = 40 := by rw [soundF, if_pos vA, if_pos (by decide +kernel), if_pos (by decide +kernel)]
theorem soundB : soundF SB = 41 := by rw [soundF, if_pos vB, if_pos (by decide +kernel), if_neg (by decide +kernel), if_neg (by decide +kernel)]
theorem soundC : soundF SC = 0 := by rw [soundF, if_pos vC, if_pos (by decide +kernel), if_neg (by decide +kernel), if_pos (by decide +kernel)]
theorem soundD : soundF SD = 50 := by rw [soundF, if_pos vD, if_neg (by decide +kernel)]
theorem soundE : soundF SE = 20 := by rw [soundF, if_neg (by rw [vE]; simp)]
theorem provesA1 : provesF SA [] [0, 0, 1] [] = true := by rw [provesF, vA]; decide +kernel
theorem provesA2 : provesF SA [] [0] [] = false := by rw [provesF, vA]; decide +kernel
theorem provesA3 : provesF SA [0] [] [] = false := by rw [provesF, vA]; decide +kernel
theorem provesC1 : provesF SC [] [] [] = true := by rw [provesF, vC]; decide +kernel
theorem provesE1 : provesF SE [] [] [] = false := by rw [provesF, vE]; rfl
theorem provesD1 : provesF SD [] [0] [] = false := by rw [provesF, vD]; decide +kernel
end Go.Proofs.Ytogjcfcfgnbmkaa
