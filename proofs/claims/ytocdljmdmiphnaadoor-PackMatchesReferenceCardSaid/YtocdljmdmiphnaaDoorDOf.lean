
/- Reference 09's Of. -/
import Derived.Test.YtocdljmdmiphnaaDoorDRef
namespace Go.Proofs.YtocdljmdmiphnaaDoor
open Go.RowKit Go.WideShapes
set_option linter.unusedVariables false
set_option linter.unusedSimpArgs false

theorem ofF_arcs {L : List ByteArray} (hd : Dict L) : ∀ i (hi : i < (ofF (restAt 0 L)).length), (ofF (restAt 0 L))[i].arcs.length ≤ 1000 := fun i hi => by
  obtain ⟨Mt, hgt, -⟩ := of_tab hd.okR.1 hd.okR.2
  obtain ⟨r, _, _, h3⟩ := hgt.nd i hi
  rw [h3.len]; have := grp_len r; omega
theorem ofF_len {L : List ByteArray} (hd : Dict L) : (ofF (restAt 0 L)).length ≤ 4200 := by
  have hle := ofF_le hd.okR.1
  have hln : (restAt 0 L).length = L.length := by simp [restAt]
  have := hd.2.1
  omega
set_option maxHeartbeats 800000 in
theorem of_any (L : List ByteArray) (n : Nat) (a : Option Addr) (cap : Nat) (w : World) (hR : StrS w a L) (hL : n = L.length) (hc : n ≤ cap) (hd : Dict L) :
    Calls Tryd.prog 12 #[.slice a n cap] w fun e w' => ∃ a1 c1, e = .returned (.slice a1 (ofF (restAt 0 L)).length c1) ∧ (ofF (restAt 0 L)).length ≤ c1 ∧ DawgS w' a1 (ofF (restAt 0 L)) ∧ Below w.heap.size w w' := by
  subst hL
  have HR := Lib.hid hR; have HD := Lib.hid hd
  have hln : (restAt 0 L).length = L.length := by simp [restAt]
  have HLN := Lib.hid hln
  have h200 := hd.2.1
  clear hR hd hln
  obtain ⟨w2, hw2⟩ : ∃ w2, w2 = w.alloc (Obj.cells #[Value.slice none 0 0, Value.slice none 0 0] 72) := ⟨_, rfl⟩
  have HB2 : Hid (Below w.heap.size w w2) := by
    show Below _ _ _
    rw [hw2]
    exact (Below.refl _ _).alloc (Nat.le_refl _) _
  have HST : Hid (RSt w w2 w.heap.size w.heap.size (.slice none 0 0) (.slice none 0 0) [] [] [] []) := by
    show RSt _ _ _ _ _ _ _ _ _ _
    rw [hw2]
    exact ⟨heap_alloc_new _ _, OwnG.nil _ _ _, rfl, fun k h => by simp at h, OwnG.nil _ _ _, rfl, fun k h => by simp at h, Nat.le_refl _⟩
  have HRI : Hid (RestIn w w.heap.size w2 ⟨a, (restAt 0 L).length, cap⟩ (restAt 0 L)) := by
    refine ⟨rfl, by show (restAt 0 L).length ≤ cap; rw [HLN.out]; exact hc, by rw [HLN.out]; omega, .inl ?_⟩
    rw [rowsB_rest]; exact HR.out
  have hcall := rnode_any w w.heap.size w.heap.size (Nat.le_refl _) 21 (restAt 0 L) a cap (.slice none 0 0) (.slice none 0 0) [] [] [] [] w2 HRI.out HD.out.okR.1.2.2 HD.out.okR.2 (by
    have := ofF_len HD.out
    exact Nat.le_trans this (by omega)) rfl HST.out HB2.out
  rw [HLN.out] at hcall
  have HC := Lib.hid hcall
  rw [hw2] at HC
  clear hcall
  go_enter Tryd.func12, Tryd.ntmps12
  go_upto_region 3 with (first
    | (go_at_call 30; refine HC.out.mono ?_; rintro e w3 ⟨v3, vr3, N3, S3, E3, rfl, hb3, -, -, hB3, -, -⟩; have HB3 := Lib.hid hb3; have HW3 := Lib.hid hB3; clear hb3 hB3))
  have hrep := HB3.out.rep
  obtain ⟨a3, c3, hv3, hc3, hdw⟩ := OwnD.dawg (w := w3) (B := w.heap.size) (v := v3) (D := ofF (restAt 0 L)) ⟨N3, HB3.out.own, HB3.out.len, HB3.out.arcs⟩ (ofF_arcs HD.out)
  subst hv3
  have HDW := Lib.hid hdw
  obtain ⟨r0, r1⟩ := cells2 hrep
  clear hrep hdw
  go_wp2
  go_ret
  exact ⟨_, _, rfl, hc3, HDW.out, HW3.out⟩
end Go.Proofs.YtocdljmdmiphnaaDoor
