/- Contract of reference 04: next. -/
import Derived.Test.YtogjcfcfgnbmkaaNext
namespace Go.Proofs.Ytogjcfcfgnbmkaa
open Go.RowKit
set_option linter.unusedVariables false
set_option linter.unusedSimpArgs false

def useS (silent : Bool) (r : Rl) : Bool := !silent || emptyR r
theorem emptyR_str (r : Rl) : (emptyR r = true → (!r.inp.toList.isEmpty) = false) ∧ (emptyR r = false → (!r.inp.toList.isEmpty) = true) := by
  have : r.inp.toList.isEmpty = decide (r.inp.size = 0) := by
    rw [ByteArray.toList_eq, Bool.eq_iff_iff, decide_eq_true_iff, List.isEmpty_iff, ← ByteArray.size_data]
    constructor
    · intro h; rw [← Array.length_toList, h]; rfl
    · intro h; exact List.eq_nil_of_length_eq_zero (by rw [Array.length_toList]; exact h)
  unfold emptyR
  rw [this]
  cases decide (r.inp.size = 0) <;> simp
theorem set_one {w : World} {g i : Nat} {y : Value} {cs cs' : Array Value} {t : TypeId} {f : Nat × Nat} (h : w.heap[g]? = some (.cells cs t f)) (hc : cs.setIfInBounds i y = cs') : (w.setCell ⟨g, i, none⟩ y).heap[g]? = some (.cells cs' t f) := by
  simp only [World.setCell]
  rw [Array.getElem?_modify, if_pos rfl, h, ← hc]; rfl
theorem set16 {w : World} {g : Nat} {x0 x1 x2 x3 x4 x5 x6 x7 x8 x9 x10 x11 x12 x13 x14 x15 y0 y1 y2 y3 y4 y5 y6 y7 y8 y9 y10 y11 y12 y13 y14 y15 : Value} {t : TypeId} {f : Nat × Nat} (h : w.heap[g]? = some (.cells #[x0, x1, x2, x3, x4, x5, x6, x7, x8, x9, x10, x11, x12, x13, x14, x15] t f)) :
    ((((((((((((((((w.setCell ⟨g, 0, none⟩ y0).setCell ⟨g, 1, none⟩ y1).setCell ⟨g, 2, none⟩ y2).setCell ⟨g, 3, none⟩ y3).setCell ⟨g, 4, none⟩ y4).setCell ⟨g, 5, none⟩ y5).setCell ⟨g, 6, none⟩ y6).setCell ⟨g, 7, none⟩ y7).setCell ⟨g, 8, none⟩ y8).setCell ⟨g, 9, none⟩ y9).setCell ⟨g, 10, none⟩ y10).setCell ⟨g, 11, none⟩ y11).setCell ⟨g, 12, none⟩ y12).setCell ⟨g, 13, none⟩ y13).setCell ⟨g, 14, none⟩ y14).setCell ⟨g, 15, none⟩ y15).heap[g]? = some (.cells #[y0, y1, y2, y3, y4, y5, y6, y7, y8, y9, y10, y11, y12, y13, y14, y15] t f) := by
  have h0 := set_one (i := 0) (y := y0) (cs' := #[y0, x1, x2, x3, x4, x5, x6, x7, x8, x9, x10, x11, x12, x13, x14, x15]) h rfl
  have h1 := set_one (i := 1) (y := y1) (cs' := #[y0, y1, x2, x3, x4, x5, x6, x7, x8, x9, x10, x11, x12, x13, x14, x15]) h0 rfl
  have h2 := set_one (i := 2) (y := y2) (cs' := #[y0, y1, y2, x3, x4, x5, x6, x7, x8, x9, x10, x11, x12, x13, x14, x15]) h1 rfl
  have h3 := set_one (i := 3) (y := y3) (cs' := #[y0, y1, y2, y3, x4, x5, x6, x7, x8, x9, x10, x11, x12, x13, x14, x15]) h2 rfl
  have h4 := set_one (i := 4) (y := y4) (cs' := #[y0, y1, y2, y3, y4, x5, x6, x7, x8, x9, x10, x11, x12, x13, x14, x15]) h3 rfl
  have h5 := set_one (i := 5) (y := y5) (cs' := #[y0, y1, y2, y3, y4, y5, x6, x7, x8, x9, x10, x11, x12, x13, x14, x15]) h4 rfl
  have h6 := set_one (i := 6) (y := y6) (cs' := #[y0, y1, y2, y3, y4, y5, y6, x7, x8, x9, x10, x11, x12, x13, x14, x15]) h5 rfl
  have h7 := set_one (i := 7) (y := y7) (cs' := #[y0, y1, y2, y3, y4, y5, y6, y7, x8, x9, x10, x11, x12, x13, x14, x15]) h6 rfl
  have h8 := set_one (i := 8) (y := y8) (cs' := #[y0, y1, y2, y3, y4, y5, y6, y7, y8, x9, x10, x11, x12, x13, x14, x15]) h7 rfl
  have h9 := set_one (i := 9) (y := y9) (cs' := #[y0, y1, y2, y3, y4, y5, y6, y7, y8, y9, x10, x11, x12, x13, x14, x15]) h8 rfl
  have h10 := set_one (i := 10) (y := y10) (cs' := #[y0, y1, y2, y3, y4, y5, y6, y7, y8, y9, y10, x11, x12, x13, x14, x15]) h9 rfl
  have h11 := set_one (i := 11) (y := y11) (cs' := #[y0, y1, y2, y3, y4, y5, y6, y7, y8, y9, y10, y11, x12, x13, x14, x15]) h10 rfl
  have h12 := set_one (i := 12) (y := y12) (cs' := #[y0, y1, y2, y3, y4, y5, y6, y7, y8, y9, y10, y11, y12, x13, x14, x15]) h11 rfl
  have h13 := set_one (i := 13) (y := y13) (cs' := #[y0, y1, y2, y3, y4, y5, y6, y7, y8, y9, y10, y11, y12, y13, x14, x15]) h12 rfl
  have h14 := set_one (i := 14) (y := y14) (cs' := #[y0, y1, y2, y3, y4, y5, y6, y7, y8, y9, y10, y11, y12, y13, y14, x15]) h13 rfl
  have h15 := set_one (i := 15) (y := y15) (cs' := #[y0, y1, y2, y3, y4, y5, y6, y7, y8, y9, y10, y11, y12, y13, y14, y15]) h14 rfl
  exact h15
theorem cells16 {w : World} {g : Nat} {y0 y1 y2 y3 y4 y5 y6 y7 y8 y9 y10 y11 y12 y13 y14 y15 : Value} {t : TypeId} {f : Nat × Nat} (h : w.heap[g]? = some (.cells #[y0, y1, y2, y3, y4, y5, y6, y7, y8, y9, y10, y11, y12, y13, y14, y15] t f)) :
    w.cell? ⟨g, 0, none⟩ = some y0 ∧ w.cell? ⟨g, 1, none⟩ = some y1 ∧ w.cell? ⟨g, 2, none⟩ = some y2 ∧ w.cell? ⟨g, 3, none⟩ = some y3 ∧ w.cell? ⟨g, 4, none⟩ = some y4 ∧ w.cell? ⟨g, 5, none⟩ = some y5 ∧ w.cell? ⟨g, 6, none⟩ = some y6 ∧ w.cell? ⟨g, 7, none⟩ = some y7 ∧ w.cell? ⟨g, 8, none⟩ = some y8 ∧ w.cell? ⟨g, 9, none⟩ = some y9 ∧ w.cell? ⟨g, 10, none⟩ = some y10 ∧ w.cell? ⟨g, 11, none⟩ = some y11 ∧ w.cell? ⟨g, 12, none⟩ = some y12 ∧ w.cell? ⟨g, 13, none⟩ = some y13 ∧ w.cell? ⟨g, 14, none⟩ = some y14 ∧ w.cell? ⟨g, 15, none⟩ = some y15 := by
  refine ⟨?_, ?_, ?_, ?_, ?_, ?_, ?_, ?_, ?_, ?_, ?_, ?_, ?_, ?_, ?_, ?_⟩
  all_goals (rw [cell_of_row w g _ _ _ f h]; rfl)
theorem other16 {w : World} {g b : Nat} {y0 y1 y2 y3 y4 y5 y6 y7 y8 y9 y10 y11 y12 y13 y14 y15 : Value} (hb : b ≠ g) : ((((((((((((((((w.setCell ⟨g, 0, none⟩ y0).setCell ⟨g, 1, none⟩ y1).setCell ⟨g, 2, none⟩ y2).setCell ⟨g, 3, none⟩ y3).setCell ⟨g, 4, none⟩ y4).setCell ⟨g, 5, none⟩ y5).setCell ⟨g, 6, none⟩ y6).setCell ⟨g, 7, none⟩ y7).setCell ⟨g, 8, none⟩ y8).setCell ⟨g, 9, none⟩ y9).setCell ⟨g, 10, none⟩ y10).setCell ⟨g, 11, none⟩ y11).setCell ⟨g, 12, none⟩ y12).setCell ⟨g, 13, none⟩ y13).setCell ⟨g, 14, none⟩ y14).setCell ⟨g, 15, none⟩ y15).heap[b]? = w.heap[b]? := by
  rw [Below.heap_setCell _ _ _ _ hb, Below.heap_setCell _ _ _ _ hb, Below.heap_setCell _ _ _ _ hb, Below.heap_setCell _ _ _ _ hb, Below.heap_setCell _ _ _ _ hb, Below.heap_setCell _ _ _ _ hb, Below.heap_setCell _ _ _ _ hb, Below.heap_setCell _ _ _ _ hb, Below.heap_setCell _ _ _ _ hb, Below.heap_setCell _ _ _ _ hb, Below.heap_setCell _ _ _ _ hb, Below.heap_setCell _ _ _ _ hb, Below.heap_setCell _ _ _ _ hb, Below.heap_setCell _ _ _ _ hb, Below.heap_setCell _ _ _ _ hb, Below.heap_setCell _ _ _ _ hb]
theorem wk_new (w : World) (o1 o2 o3 : Obj) : WkRow ((((w.alloc o1).alloc o2).alloc o3).alloc (.cells #[.bool false, .bool false, .bool false, .bool false, .bool false, .bool false, .bool false, .bool false, .slice none 0 0, .slice none 0 0, .slice none 0 0, .slice none 0 0, .slice none 0 0, .slice none 0 0, .slice none 0 0, .slice none 0 0] 91)) (w.heap.size + 1 + 1 + 1) Wk.empty.is (fun _ => .slice none 0 0) := by
  have h := heap_alloc_new (((w.alloc o1).alloc o2).alloc o3) (.cells #[.bool false, .bool false, .bool false, .bool false, .bool false, .bool false, .bool false, .bool false, .slice none 0 0, .slice none 0 0, .slice none 0 0, .slice none 0 0, .slice none 0 0, .slice none 0 0, .slice none 0 0, .slice none 0 0] 91)
  unfold WkRow
  have e : (wkL Wk.empty.is (fun _ => Value.slice none 0 0)).toArray = #[.bool false, .bool false, .bool false, .bool false, .bool false, .bool false, .bool false, .bool false, .slice none 0 0, .slice none 0 0, .slice none 0 0, .slice none 0 0, .slice none 0 0, .slice none 0 0, .slice none 0 0, .slice none 0 0] := rfl
  rw [e]
  simpa using h
set_option maxHeartbeats 6400000 in
set_option maxRecDepth 100000 in
theorem next_any (S : Sch) (a : Option Addr) (cap : Nat) (K : Wk) (vK : Nat → Value) (silent : Bool) (L : Nat) (w : World) (hR : RulS w a S.rules) (hS : Fit S) (hK : ∀ t, t < 8 → Ch w 0 (vK t) (K.ch t)) (hL : ∀ t, t < 8 → (K.ch t).length ≤ L) (hL2 : L ≤ 100) :
    Calls Try.prog 58 #[.agg #[.int .i64 S.modes, .int .u8 S.acc, .slice a S.rules.length cap], .agg #[.bool (K.is 0), .bool (K.is 1), .bool (K.is 2), .bool (K.is 3), .bool (K.is 4), .bool (K.is 5), .bool (K.is 6), .bool (K.is 7), vK 0, vK 1, vK 2, vK 3, vK 4, vK 5, vK 6, vK 7], .bool silent] w fun e w' => ∃ (vO : Nat → Value), e = .returned (.agg (wkL (nextK (useS silent) S.rules K).is vO).toArray) ∧ (∀ t, t < 8 → Ch w' w.heap.size (vO t) ((nextK (useS silent) S.rules K).ch t)) ∧ Below w.heap.size w w' := by
  have HR := Lib.hid hR; have HS := Lib.hid hS; have HK := Lib.hid hK; have HL := Lib.hid hL
  have hlen := hS.len
  have hm1 := hS.m1
  clear hR hS hK hL
  have hform : ∀ t, t < 8 → ∃ b n c, vK t = .slice b n c := fun t ht => (HK.out t ht).form
  obtain ⟨b0, n0, c0, e0⟩ := hform 0 (by omega)
  obtain ⟨b1, n1, c1, e1⟩ := hform 1 (by omega)
  obtain ⟨b2, n2, c2, e2⟩ := hform 2 (by omega)
  obtain ⟨b3, n3, c3, e3⟩ := hform 3 (by omega)
  obtain ⟨b4, n4, c4, e4⟩ := hform 4 (by omega)
  obtain ⟨b5, n5, c5, e5⟩ := hform 5 (by omega)
  obtain ⟨b6, n6, c6, e6⟩ := hform 6 (by omega)
  obtain ⟨b7, n7, c7, e7⟩ := hform 7 (by omega)
  clear hform
  go_enter Try.func58, Try.ntmps58
  go_upto_region 3 with fail
  have HKR : Hid (WkRow (((w.alloc (.cells #[.int .i64 S.modes, .int .u8 S.acc, .slice a S.rules.length cap] 33)).alloc (.cells #[.bool (K.is 0), .bool (K.is 1), .bool (K.is 2), .bool (K.is 3), .bool (K.is 4), .bool (K.is 5), .bool (K.is 6), .bool (K.is 7), .slice b0 n0 c0, .slice b1 n1 c1, .slice b2 n2 c2, .slice b3 n3 c3, .slice b4 n4 c4, .slice b5 n5 c5, .slice b6 n6 c6, .slice b7 n7 c7] 91)).alloc (.cells #[.bool false, .bool false, .bool false, .bool false, .bool false, .bool false, .bool false, .bool false, .slice none 0 0, .slice none 0 0, .slice none 0 0, .slice none 0 0, .slice none 0 0, .slice none 0 0, .slice none 0 0, .slice none 0 0] 91)) (w.heap.size + 1) K.is vK) := by
    have h := heap_alloc_new (w.alloc (.cells #[.int .i64 S.modes, .int .u8 S.acc, .slice a S.rules.length cap] 33)) (.cells #[.bool (K.is 0), .bool (K.is 1), .bool (K.is 2), .bool (K.is 3), .bool (K.is 4), .bool (K.is 5), .bool (K.is 6), .bool (K.is 7), .slice b0 n0 c0, .slice b1 n1 c1, .slice b2 n2 c2, .slice b3 n3 c3, .slice b4 n4 c4, .slice b5 n5 c5, .slice b6 n6 c6, .slice b7 n7 c7] 91)
    show WkRow _ _ _ _
    unfold WkRow
    have e : (wkL K.is vK).toArray = #[.bool (K.is 0), .bool (K.is 1), .bool (K.is 2), .bool (K.is 3), .bool (K.is 4), .bool (K.is 5), .bool (K.is 6), .bool (K.is 7), .slice b0 n0 c0, .slice b1 n1 c1, .slice b2 n2 c2, .slice b3 n3 c3, .slice b4 n4 c4, .slice b5 n5 c5, .slice b6 n6 c6, .slice b7 n7 c7] := by
      rw [← e0, ← e1, ← e2, ← e3, ← e4, ← e5, ← e6, ← e7]; rfl
    rw [e, Below.heap_alloc _ _ _ (by simp)]
    simpa using h
  have HNX0 : Hid (NX w.heap.size (((w.alloc (.cells #[.int .i64 S.modes, .int .u8 S.acc, .slice a S.rules.length cap] 33)).alloc (.cells #[.bool (K.is 0), .bool (K.is 1), .bool (K.is 2), .bool (K.is 3), .bool (K.is 4), .bool (K.is 5), .bool (K.is 6), .bool (K.is 7), .slice b0 n0 c0, .slice b1 n1 c1, .slice b2 n2 c2, .slice b3 n3 c3, .slice b4 n4 c4, .slice b5 n5 c5, .slice b6 n6 c6, .slice b7 n7 c7] 91)).alloc (.cells #[.bool false, .bool false, .bool false, .bool false, .bool false, .bool false, .bool false, .bool false, .slice none 0 0, .slice none 0 0, .slice none 0 0, .slice none 0 0, .slice none 0 0, .slice none 0 0, .slice none 0 0, .slice none 0 0] 91)) (w.heap.size + 1 + 1 + 1) K Wk.empty vK (fun _ => .slice none 0 0) ((((w.alloc (.cells #[.int .i64 S.modes, .int .u8 S.acc, .slice a S.rules.length cap] 33)).alloc (.cells #[.bool (K.is 0), .bool (K.is 1), .bool (K.is 2), .bool (K.is 3), .bool (K.is 4), .bool (K.is 5), .bool (K.is 6), .bool (K.is 7), .slice b0 n0 c0, .slice b1 n1 c1, .slice b2 n2 c2, .slice b3 n3 c3, .slice b4 n4 c4, .slice b5 n5 c5, .slice b6 n6 c6, .slice b7 n7 c7] 91)).alloc (.cells #[.bool false, .bool false, .bool false, .bool false, .bool false, .bool false, .bool false, .bool false, .slice none 0 0, .slice none 0 0, .slice none 0 0, .slice none 0 0, .slice none 0 0, .slice none 0 0, .slice none 0 0, .slice none 0 0] 91)).alloc (.cells #[.bool false, .bool false, .bool false, .bool false, .bool false, .bool false, .bool false, .bool false, .slice none 0 0, .slice none 0 0, .slice none 0 0, .slice none 0 0, .slice none 0 0, .slice none 0 0, .slice none 0 0, .slice none 0 0] 91))) :=
    ⟨fun t ht => (HK.out t ht).below (show Below w.heap.size w _ by go_grown) (HK.out t ht).lt, fun t ht => Ch.nil _ _, wk_new _ _ _ _, by go_grown, by omega⟩
  clear e0 e1 e2 e3 e4 e5 e6 e7
  go_loopw [8] (fun i wr => ∃ (k : Nat) (vO : Nat → Value), k ≤ S.rules.length ∧ i = .int .i64 k ∧ NX w.heap.size (((w.alloc (.cells #[.int .i64 S.modes, .int .u8 S.acc, .slice a S.rules.length cap] 33)).alloc (.cells #[.bool (K.is 0), .bool (K.is 1), .bool (K.is 2), .bool (K.is 3), .bool (K.is 4), .bool (K.is 5), .bool (K.is 6), .bool (K.is 7), .slice b0 n0 c0, .slice b1 n1 c1, .slice b2 n2 c2, .slice b3 n3 c3, .slice b4 n4 c4, .slice b5 n5 c5, .slice b6 n6 c6, .slice b7 n7 c7] 91)).alloc (.cells #[.bool false, .bool false, .bool false, .bool false, .bool false, .bool false, .bool false, .bool false, .slice none 0 0, .slice none 0 0, .slice none 0 0, .slice none 0 0, .slice none 0 0, .slice none 0 0, .slice none 0 0, .slice none 0 0] 91)) (w.heap.size + 1 + 1 + 1) K (nextTo (useS silent) S.rules K k) vK vO wr) (fun i _ => S.rules.length - (intOf i).toNat)
  case atStart => exact ⟨0, _, by omega, rfl, HNX0.out⟩
  case round =>
    obtain ⟨k, vO, hk, rfl, hnx⟩ := hrel
    have HNX := Lib.hid hnx
    have hal := hnx.bl
    have hB : Below w.heap.size w wr := (show Below w.heap.size w (((w.alloc (.cells #[.int .i64 S.modes, .int .u8 S.acc, .slice a S.rules.length cap] 33)).alloc (.cells #[.bool (K.is 0), .bool (K.is 1), .bool (K.is 2), .bool (K.is 3), .bool (K.is 4), .bool (K.is 5), .bool (K.is 6), .bool (K.is 7), .slice b0 n0 c0, .slice b1 n1 c1, .slice b2 n2 c2, .slice b3 n3 c3, .slice b4 n4 c4, .slice b5 n5 c5, .slice b6 n6 c6, .slice b7 n7 c7] 91)).alloc (.cells #[.bool false, .bool false, .bool false, .bool false, .bool false, .bool false, .bool false, .bool false, .slice none 0 0, .slice none 0 0, .slice none 0 0, .slice none 0 0, .slice none 0 0, .slice none 0 0, .slice none 0 0, .slice none 0 0] 91)) by go_grown).trans (hal.mono (by omega))
    obtain ⟨hz, -, -⟩ := bcellB hal rfl
    obtain ⟨-, hc, hf⟩ := bcellB (hal.mono (show w.heap.size + 1 ≤ (w.heap.size + 1 + 1 + 1) by omega)) rfl
    simp only [World.size_alloc] at hz
    have hKrow : WkRow wr (w.heap.size + 1) K.is vK := HKR.out.below hal (by omega)
    by_cases hlt : k < S.rules.length
    · obtain ⟨b, o, ha, hb, q0, q1, q2, q3, q4⟩ := (HR.out.later hB (Nat.le_refl _)).at hlt
      have hidx := idx_rules a b o S.rules.length cap k ha hlt
      have HA := Lib.hid ha; clear ha
      obtain ⟨f0, f1, t0, t1⟩ := HS.out.at0 k hlt
      have f8 : S.rules[k].frm < 8 := by omega
      have t8 : S.rules[k].dst < 8 := by omega
      have qk := hKrow.is (i := S.rules[k].frm.toNat) (by omega)
      have qv := hKrow.vs (i := S.rules[k].frm.toNat) (by omega)
      obtain ⟨bf, nf, cf, ef⟩ := (HK.out S.rules[k].frm.toNat (by omega)).form
      rw [ef] at qv
      have HEf := Lib.hid ef; clear ef
      obtain ⟨kf, hkf⟩ : ∃ kf, K.is S.rules[k].frm.toNat = kf := ⟨_, rfl⟩
      rw [hkf] at qk
      obtain ⟨O, hO⟩ : ∃ O, nextTo (useS silent) S.rules K k = O := ⟨_, rfl⟩
      have HO := Lib.hid hO
      have HN : Hid (nextTo (useS silent) S.rules K (k + 1) = stepK (useS silent) K O k S.rules[k]) := by show _ = _; rw [nextTo, dif_pos hlt, hO]
      rw [hO] at HNX
      have HKF := Lib.hid hkf
      have HKrow := Lib.hid hKrow
      clear hkf hO hnx hKrow
      have hemp := emptyR_str S.rules[k]
      cases kf with
      | false =>
        have HN2 : Hid (nextTo (useS silent) S.rules K (k + 1) = O) := by show _ = _; rw [HN.out, stepK, HKF.out, Bool.false_and, if_neg (by simp)]
        clear hemp
        go_wp2
        go_roundw
        case rel => exact ⟨k + 1, vO, by omega, by go_num, by rw [HN2.out]; exact HNX.out.below (by go_grown)⟩
        case measure => simp [intOf]; omega
      | true =>
        have hrow := HNX.out.row
        have qo := hrow.is (i := S.rules[k].dst.toNat) (by omega)
        have qov := hrow.vs (i := S.rules[k].dst.toNat) (by omega)
        obtain ⟨bo, no, co, eo⟩ := (HNX.out.okO S.rules[k].dst.toNat (by omega)).form
        rw [eo] at qov
        have HEo := Lib.hid eo; clear eo
        have hgl := hrow.lt
        have hz1 := hrow.free (i := S.rules[k].dst.toNat)
        have hz2 := hrow.free (i := 8 + S.rules[k].dst.toNat)
        clear hrow
        obtain ⟨of, hof⟩ : ∃ of, O.is S.rules[k].dst.toNat = of := ⟨_, rfl⟩
        rw [hof] at qo
        have HOF := Lib.hid hof; clear hof
        have hL1 := HL.out S.rules[k].frm.toNat (by omega)
        have hOL : Hid ((O.ch S.rules[k].dst.toNat).length ≤ L + 1) := by show _ ≤ _; rw [← HO.out]; exact nextTo_len HL.out (fun r hr => by obtain ⟨i, hi, rfl⟩ := List.mem_iff_getElem.1 hr; have := HS.out.at0 i hi; omega) _ _ (by omega)
        have hOL1 := hOL.out
        have hcase : (silent = false ∨ silent = true ∧ emptyR S.rules[k] = true) ∨ (silent = true ∧ emptyR S.rules[k] = false) := by
          cases silent <;> cases emptyR S.rules[k] <;> simp
        rcases hcase with hcase | ⟨hs, he⟩
        · have HU : Hid (useS silent S.rules[k] = true) := by
            show _ = _; unfold useS
            rcases hcase with h | ⟨h1, h2⟩
            · rw [h]; rfl
            · rw [h2]; simp
          have HN2 : Hid (nextTo (useS silent) S.rules K (k + 1) = if !O.is S.rules[k].dst.toNat || beforeB (ints (K.ch S.rules[k].frm.toNat ++ [k])) (ints (O.ch S.rules[k].dst.toNat)) then O.put S.rules[k].dst.toNat (K.ch S.rules[k].frm.toNat ++ [k]) else O) := by
            show _ = _; rw [HN.out, stepK, HKF.out, HU.out, Bool.true_and, if_pos rfl]
          have hemp1 := fun h => hemp.1 h
          have h7 : World.ownsRow ((wr.alloc (.cells #[.int .i64 S.rules[k].frm, .int .i64 S.rules[k].dst, .string S.rules[k].inp, .string S.rules[k].out, .int .i64 S.rules[k].cost] 29)).alloc (.cells #[] 3)) (wr.heap.size + 1) 3 1 (.slice (some ⟨wr.heap.size + 1, 0, none⟩) 0 0) 0 [] :=
            ⟨rfl, .inr ⟨_, 0, #[], rfl, Nat.le_refl _, by have := heap_alloc_new (wr.alloc (.cells #[.int .i64 S.rules[k].frm, .int .i64 S.rules[k].dst, .string S.rules[k].inp, .string S.rules[k].out, .int .i64 S.rules[k].cost] 29)) (.cells #[] 3); simpa using this, Nat.le_refl _, Nat.zero_le _, rfl, rfl⟩⟩
          have hchK : Ch ((wr.alloc (.cells #[.int .i64 S.rules[k].frm, .int .i64 S.rules[k].dst, .string S.rules[k].inp, .string S.rules[k].out, .int .i64 S.rules[k].cost] 29)).alloc (.cells #[] 3)) 0 (.slice bf nf cf) (K.ch S.rules[k].frm.toNat) := by
            have h := HNX.out.okK S.rules[k].frm.toNat (by omega)
            rw [HEf.out] at h
            exact h.below (by go_grown) h.lt
          obtain ⟨i0, hi, iz0, iz1, iz2⟩ := info_parts info_int
          have HCK := Lib.hid hchK; have H7 := Lib.hid h7
          have hgE : w.heap.size + 1 + 1 + 1 + 1 ≤ wr.heap.size := by omega
          clear hemp h7 hchK
          obtain ⟨bb, hbb⟩ : ∃ bb, beforeB (ints (K.ch S.rules[k].frm.toNat ++ [k])) (ints (O.ch S.rules[k].dst.toNat)) = bb := ⟨_, rfl⟩
          have HN3 : Hid (nextTo (useS silent) S.rules K (k + 1) = if !of || bb then O.put S.rules[k].dst.toNat (K.ch S.rules[k].frm.toNat ++ [k]) else O) := by
            show _ = _; rw [HN2.out, HOF.out, hbb]
          have HBB := Lib.hid hbb
          clear hbb
          have HSo : Hid (∀ W, NX w.heap.size (((w.alloc (.cells #[.int .i64 S.modes, .int .u8 S.acc, .slice a S.rules.length cap] 33)).alloc (.cells #[.bool (K.is 0), .bool (K.is 1), .bool (K.is 2), .bool (K.is 3), .bool (K.is 4), .bool (K.is 5), .bool (K.is 6), .bool (K.is 7), .slice b0 n0 c0, .slice b1 n1 c1, .slice b2 n2 c2, .slice b3 n3 c3, .slice b4 n4 c4, .slice b5 n5 c5, .slice b6 n6 c6, .slice b7 n7 c7] 91)).alloc (.cells #[.bool false, .bool false, .bool false, .bool false, .bool false, .bool false, .bool false, .bool false, .slice none 0 0, .slice none 0 0, .slice none 0 0, .slice none 0 0, .slice none 0 0, .slice none 0 0, .slice none 0 0, .slice none 0 0] 91)) (w.heap.size + 1 + 1 + 1) K O vK vO W → SlS W bo (ints (O.ch S.rules[k].dst.toNat)) ∧ no = (ints (O.ch S.rules[k].dst.toNat)).length) := fun W h => by
            have h2 := h.okO S.rules[k].dst.toNat (by omega)
            rw [HEo.out] at h2
            exact ⟨h2.sls.1, h2.sls.2.trans (ints_len _).symm⟩
          have hcs : (of = false ∨ of = true ∧ bb = true) ∨ (of = true ∧ bb = false) := by cases of <;> cases bb <;> simp
          rcases hcase with hs | ⟨hs, he⟩
          all_goals
            subst hs
            try have hemp3 := hemp1 he
            clear hemp1
            rcases hcs with (hof | ⟨hof, hbb⟩) | ⟨hof, hbb⟩
          all_goals
            subst hof
            try subst hbb
            go_wp2_with (first | (at_builtin; refine wpList_append_ch rfl _ _ rfl (wr.heap.size + 1) (.slice (some ⟨wr.heap.size + 1, 0, none⟩) 0 0) 0 [] rfl H7.out 0 (.slice bf nf cf) (K.ch S.rules[k].frm.toNat) rfl HCK.out (by omega) (by simp) ?_; intro v1 w1 hown1 hgr1; have HO1 : Hid (World.ownsRow w1 (wr.heap.size + 1) 3 1 v1 (K.ch S.rules[k].frm.toNat).length (nats (K.ch S.rules[k].frm.toNat))) := (by have h := hown1; rw [Nat.zero_add, List.nil_append] at h; exact h); have hb1 : Below wr.heap.size wr w1 := (by exact (((Below.refl _ wr).alloc (Nat.le_refl _) _).alloc (by simp) _).grown hgr1 (by simp only [World.size_alloc]; omega) (fun q hq => by (have hq2 : some (wr.heap.size + 1) = some q := hq; injection hq2; omega))); have hz3 := hb1.size; have hb1r : Below (wr.heap.size + 1) (wr.alloc (.cells #[.int .i64 S.rules[k].frm, .int .i64 S.rules[k].dst, .string S.rules[k].inp, .string S.rules[k].out, .int .i64 S.rules[k].cost] 29)) w1 := (by exact ((Below.refl _ _).alloc (by simp) _).grown hgr1 (by simp only [World.size_alloc]; omega) (fun q hq => by (have hq2 : some (wr.heap.size + 1) = some q := hq; injection hq2; omega))); have hsz1 := hb1r.size; have HB1 := Lib.hid hb1; have HB1r := Lib.hid hb1r; clear hown1 hgr1 hb1 hb1r) | (at_builtin; refine wpList_append_own _ rfl _ _ 38 rfl (wr.heap.size + 1) 3 i0 (.int .i64 0) 1 8 Try.underlying38 hi iz0 iz1 iz2 rfl (by decide) v1 (K.ch S.rules[k].frm.toNat).length (nats (K.ch S.rules[k].frm.toNat)) rfl (World.ownsRow.alloc HO1.out _) ⟨w1.heap.size, 0, none⟩ 1 1 [.int .i64 (k : Int)] rfl rfl (cell_one_new _ _ _) (by simp [Value.oneCell']) (by unfold maxLen; omega) (by omega) (by simp only [World.size_alloc] at hsz1 ⊢; omega) ?_; intro v2 w2 hown2 hgr2 _; have HC2 := Lib.hid (ch_snoc hown2); have hb2 : Below (wr.heap.size + 1) (wr.alloc (.cells #[.int .i64 S.rules[k].frm, .int .i64 S.rules[k].dst, .string S.rules[k].inp, .string S.rules[k].out, .int .i64 S.rules[k].cost] 29)) w2 := (by exact (HB1r.out.alloc (by simp only [World.size_alloc] at hsz1 ⊢; omega) _).grown hgr2 (by simp only [World.size_alloc] at hsz1 ⊢; omega) (fun q hq => by have := HO1.out; exact Ch.ge (xs := K.ch S.rules[k].frm.toNat) this q hq)); obtain ⟨hzA, hcA, hfA⟩ := bcellB hb2 rfl; have hzA2 : wr.heap.size + 1 ≤ w2.heap.size := (by simpa using hzA); have hbw2 : Below wr.heap.size wr w2 := (by exact ((Below.refl _ wr).alloc (Nat.le_refl _) _).trans (hb2.mono (by omega))); have HNX2 := Lib.hid (HNX.out.below hbw2); obtain ⟨bA, nA, cA, hvA⟩ := HC2.out.form; subst hvA; have HCf := Lib.hid (HC2.out.mono (show w.heap.size ≤ wr.heap.size + 1 by omega)); have hB := hB.trans (hbw2.mono (show w.heap.size ≤ wr.heap.size by omega)); clear hown2 hgr2 hb2 hbw2) | (go_at_call 59; refine (before_any bA bo nA no cA co (ints (K.ch S.rules[k].frm.toNat ++ [k])) (ints (O.ch S.rules[k].dst.toNat)) _ (HC2.out.sls.2.trans (ints_len _).symm) (HSo.out _ HNX2.out).2 HC2.out.sls.1 (HSo.out _ HNX2.out).1 (by rw [ints_len, List.length_append]; simp only [List.length_cons, List.length_nil]; omega) (by rw [ints_len]; omega)).mono ?_; rintro ee w3 ⟨he3, hb⟩; rw [HBB.out] at he3; subst he3; have HNX3 := Lib.hid (HNX2.out.below hb); have HCg := Lib.hid (HCf.out.below hb HCf.out.lt); obtain ⟨hzB, hcB, hfB⟩ := bcell hb rfl; have hB := hB.trans (hb.mono (show w.heap.size ≤ w2.heap.size by have := hB.size; omega)); clear hb) | fail)
            first
              | (go_roundw
                 case rel => first | exact ⟨k + 1, vO, by omega, by go_num, by rw [HN3.out]; exact HNX3.out⟩ | exact ⟨k + 1, _, by omega, by go_num, by rw [HN3.out]; exact HNX3.out.store (by omega) HCg.out⟩ | exact ⟨k + 1, _, by omega, by go_num, by rw [HN3.out]; exact HNX2.out.store (by omega) HCf.out⟩
                 case measure => simp [intOf]; omega)
              | fail
        · have HN2 : Hid (nextTo (useS silent) S.rules K (k + 1) = O) := by show _ = _; rw [HN.out, stepK, HKF.out]; unfold useS; rw [hs, he]; rfl
          have hemp2 := hemp.2 he
          subst hs
          clear hemp he
          go_wp2
          go_roundw
          case rel => exact ⟨k + 1, vO, by omega, by go_num, by rw [HN2.out]; exact HNX.out.below (by go_grown)⟩
          case measure => simp [intOf]; omega
    · obtain rfl : k = S.rules.length := by omega
      go_upto_region 12 with fail
      obtain ⟨O, hO⟩ : ∃ O, nextTo (useS silent) S.rules K S.rules.length = O := ⟨_, rfl⟩
      have HO : Hid (nextK (useS silent) S.rules K = O) := hO
      have HNX : Hid (NX w.heap.size (((w.alloc (.cells #[.int .i64 S.modes, .int .u8 S.acc, .slice a S.rules.length cap] 33)).alloc (.cells #[.bool (K.is 0), .bool (K.is 1), .bool (K.is 2), .bool (K.is 3), .bool (K.is 4), .bool (K.is 5), .bool (K.is 6), .bool (K.is 7), .slice b0 n0 c0, .slice b1 n1 c1, .slice b2 n2 c2, .slice b3 n3 c3, .slice b4 n4 c4, .slice b5 n5 c5, .slice b6 n6 c6, .slice b7 n7 c7] 91)).alloc (.cells #[.bool false, .bool false, .bool false, .bool false, .bool false, .bool false, .bool false, .bool false, .slice none 0 0, .slice none 0 0, .slice none 0 0, .slice none 0 0, .slice none 0 0, .slice none 0 0, .slice none 0 0, .slice none 0 0] 91)) (w.heap.size + 1 + 1 + 1) K O vK vO wr) := by have := HNX.out; rw [hO] at this; exact this
      clear hO hnx
      have hrow := HNX.out.row
      obtain ⟨p0, m0, d0, g0⟩ := (HNX.out.okO 0 (by omega)).form
      obtain ⟨p1, m1, d1, g1⟩ := (HNX.out.okO 1 (by omega)).form
      obtain ⟨p2, m2, d2, g2⟩ := (HNX.out.okO 2 (by omega)).form
      obtain ⟨p3, m3, d3, g3⟩ := (HNX.out.okO 3 (by omega)).form
      obtain ⟨p4, m4, d4, g4⟩ := (HNX.out.okO 4 (by omega)).form
      obtain ⟨p5, m5, d5, g5⟩ := (HNX.out.okO 5 (by omega)).form
      obtain ⟨p6, m6, d6, g6⟩ := (HNX.out.okO 6 (by omega)).form
      obtain ⟨p7, m7, d7, g7⟩ := (HNX.out.okO 7 (by omega)).form
      have r0 := hrow.is (i := 0) (by omega)
      have r1 := hrow.is (i := 1) (by omega)
      have r2 := hrow.is (i := 2) (by omega)
      have r3 := hrow.is (i := 3) (by omega)
      have r4 := hrow.is (i := 4) (by omega)
      have r5 := hrow.is (i := 5) (by omega)
      have r6 := hrow.is (i := 6) (by omega)
      have r7 := hrow.is (i := 7) (by omega)
      have r8 := hrow.vs (i := 0) (by omega)
      rw [g0] at r8
      have r9 := hrow.vs (i := 1) (by omega)
      rw [g1] at r9
      have r10 := hrow.vs (i := 2) (by omega)
      rw [g2] at r10
      have r11 := hrow.vs (i := 3) (by omega)
      rw [g3] at r11
      have r12 := hrow.vs (i := 4) (by omega)
      rw [g4] at r12
      have r13 := hrow.vs (i := 5) (by omega)
      rw [g5] at r13
      have r14 := hrow.vs (i := 6) (by omega)
      rw [g6] at r14
      have r15 := hrow.vs (i := 7) (by omega)
      rw [g7] at r15
      simp only [Nat.reduceAdd] at r8 r9 r10 r11 r12 r13 r14 r15
      have hrb : wr.heap[w.heap.size + 1 + 1]? = some (.cells #[.bool false, .bool false, .bool false, .bool false, .bool false, .bool false, .bool false, .bool false, .slice none 0 0, .slice none 0 0, .slice none 0 0, .slice none 0 0, .slice none 0 0, .slice none 0 0, .slice none 0 0, .slice none 0 0] 91 (0, 0)) := by
        refine (hal.block (w.heap.size + 1 + 1) (by omega)).trans ?_
        have := heap_alloc_new ((w.alloc (.cells #[.int .i64 S.modes, .int .u8 S.acc, .slice a S.rules.length cap] 33)).alloc (.cells #[.bool (K.is 0), .bool (K.is 1), .bool (K.is 2), .bool (K.is 3), .bool (K.is 4), .bool (K.is 5), .bool (K.is 6), .bool (K.is 7), .slice b0 n0 c0, .slice b1 n1 c1, .slice b2 n2 c2, .slice b3 n3 c3, .slice b4 n4 c4, .slice b5 n5 c5, .slice b6 n6 c6, .slice b7 n7 c7] 91)) (.cells #[.bool false, .bool false, .bool false, .bool false, .bool false, .bool false, .bool false, .bool false, .slice none 0 0, .slice none 0 0, .slice none 0 0, .slice none 0 0, .slice none 0 0, .slice none 0 0, .slice none 0 0, .slice none 0 0] 91)
        simpa using this
      obtain ⟨s0, s1, s2, s3, s4, s5, s6, s7, s8, s9, s10, s11, s12, s13, s14, s15⟩ := cells16 hrb
      have sf : ∀ i, wr.frozen? ⟨w.heap.size + 1 + 1, i, none⟩ = false := fun i => by simp [World.frozen?, hrb]
      have hfin := set16 (y0 := .bool (O.is 0)) (y1 := .bool (O.is 1)) (y2 := .bool (O.is 2)) (y3 := .bool (O.is 3)) (y4 := .bool (O.is 4)) (y5 := .bool (O.is 5)) (y6 := .bool (O.is 6)) (y7 := .bool (O.is 7)) (y8 := .slice p0 m0 d0) (y9 := .slice p1 m1 d1) (y10 := .slice p2 m2 d2) (y11 := .slice p3 m3 d3) (y12 := .slice p4 m4 d4) (y13 := .slice p5 m5 d5) (y14 := .slice p6 m6 d6) (y15 := .slice p7 m7 d7) hrb
      have HFin := Lib.hid hfin
      have HRb := Lib.hid hrb
      have hEQ : Hid (#[.bool (O.is 0), .bool (O.is 1), .bool (O.is 2), .bool (O.is 3), .bool (O.is 4), .bool (O.is 5), .bool (O.is 6), .bool (O.is 7), .slice p0 m0 d0, .slice p1 m1 d1, .slice p2 m2 d2, .slice p3 m3 d3, .slice p4 m4 d4, .slice p5 m5 d5, .slice p6 m6 d6, .slice p7 m7 d7] = (wkL O.is vO).toArray) := by
        show _ = _
        rw [← g0, ← g1, ← g2, ← g3, ← g4, ← g5, ← g6, ← g7]; rfl
      clear hrow hrb hfin g0 g1 g2 g3 g4 g5 g6 g7
      go_wp2
      obtain ⟨u0, u1, u2, u3, u4, u5, u6, u7, u8, u9, u10, u11, u12, u13, u14, u15⟩ := cells16 HFin.out
      refine bodyPost_ret (v := .agg #[.bool (O.is 0), .bool (O.is 1), .bool (O.is 2), .bool (O.is 3), .bool (O.is 4), .bool (O.is 5), .bool (O.is 6), .bool (O.is 7), .slice p0 m0 d0, .slice p1 m1 d1, .slice p2 m2 d2, .slice p3 m3 d3, .slice p4 m4 d4, .slice p5 m5 d5, .slice p6 m6 d6, .slice p7 m7 d7]) (by simp [results, Try.results58, go_sem, u0, u1, u2, u3, u4, u5, u6, u7, u8, u9, u10, u11, u12, u13, u14, u15]) rfl ⟨vO, ?_, ?_, ?_⟩
      · rw [hEQ.out, HO.out]
      · intro t ht
        rw [HO.out]
        refine (HNX.out.okO t ht).same fun q hq => other16 fun e => ?_
        obtain ⟨cs', h2⟩ := (HNX.out.okO t ht).own hq
        rw [e, HRb.out] at h2; cases h2
      · exact ((((((((((((((((hB.setCell (by simp; omega) _)).setCell (by simp; omega) _).setCell (by simp; omega) _).setCell (by simp; omega) _).setCell (by simp; omega) _).setCell (by simp; omega) _).setCell (by simp; omega) _).setCell (by simp; omega) _).setCell (by simp; omega) _).setCell (by simp; omega) _).setCell (by simp; omega) _).setCell (by simp; omega) _).setCell (by simp; omega) _).setCell (by simp; omega) _).setCell (by simp; omega) _).setCell (by simp; omega) _
end Go.Proofs.Ytogjcfcfgnbmkaa
