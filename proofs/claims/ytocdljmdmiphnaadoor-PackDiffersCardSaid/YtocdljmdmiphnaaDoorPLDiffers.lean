
/- PackDiffers: the walk. -/
import Derived.Test.YtocdljmdmiphnaaDoorPG
namespace Go.Proofs.YtocdljmdmiphnaaDoor
set_option linter.unusedVariables false
set_option linter.unusedSimpArgs false

section
open Go.ChangeShapes Go.WideShapes Go.ChangeAt Go.RowKit
variable {H : Type} {enc : TypeId × Value → H} {w : World} {base : Nat} {spare : Nat → Bool} {held : Bool} {d : DataW H} {p : List MemPlace} {r : Reach} {b0 : Nat} {v : Value}
open Go.Deep in
set_option maxRecDepth 100000 in
theorem slice_bytess {fuel : Nat} {cs : List Value} {x : DataW H × List MemPlace} (h : DataW.trod enc Tryd.prog w base spare held fuel 22 cs = some x) : ∃ y : BytsA, cs = [y.val] ∧ BytsOk w y := by
  rcases open_slice1 Tryd.underlying22 (by kernel_rfl) h with ⟨h0, _⟩ | ⟨ad, l, c, m, n, V, D, Pl, h0, hba, hl, hcm, hmm, _, hel⟩
  · exact ⟨⟨none, 0, 0, fun _ => default⟩, h0, fun i hi => absurd hi (Nat.not_lt_zero i), by show 0 ≤ _; omega⟩
  · have hlm : l ≤ m := by rw [hmm]; split <;> omega
    have hle : l ≤ 9223372036854775807 := by unfold maxLen at hcm; omega
    have key : ∀ i, i < l → ∃ q : BR, w.cell? (ad.add i) = some (.slice q.a q.n q.c) ∧ IsBytes w q.a q.n q.Z ∧ q.n ≤ 9223372036854775807 := fun i hi => by
      obtain ⟨h1, h2⟩ := hel i (by omega)
      obtain ⟨a1, l1, c1, Z, hz, g1, g2⟩ := slice_bytes h2
      have : V i = .slice a1 l1 c1 := List.head_eq_of_cons_eq hz
      rw [this] at h1
      exact ⟨⟨a1, l1, c1, Z⟩, h1, g1, g2⟩
    obtain ⟨Q, hQ⟩ := choose_lt (α := BR) key
    refine ⟨⟨some ad, l, c, Q⟩, h0, fun i (hi : i < l) => ?_, hle⟩
    obtain ⟨b, o, sp⟩ := ad
    have hs := World.cell?_spot (hQ 0 (by omega)).1
    obtain rfl : sp = none := by simpa [Addr.add] using hs
    have hk := hQ i hi
    have hb := World.block_lt_of_cell? w _ hk.1
    rw [addr_block] at hb
    rw [addr_add] at hk
    exact ⟨b, o, rfl, hb, hk⟩
set_option maxRecDepth 100000 in
theorem slice_uints' {fuel : Nat} {cs : List Value} {x : DataW H × List MemPlace} (h : DataW.trod enc Tryd.prog w base spare held fuel 23 cs = some x) : ∃ y : UintA, cs = [y.val] ∧ UintOk w y := by
  obtain ⟨a, l, c, Z, h0, h1, h2⟩ := slice_uints h
  exact ⟨⟨a, l, c, Z⟩, h0, h1, h2⟩
set_option maxRecDepth 100000 in
/-- an array of two values of one cell each -/
theorem open_two {t e : TypeId} (ht : Tryd.prog.underlying t = some (.array 2 e)) (hce : Tryd.prog.cellsOf e = 1) (hC : Tryd.prog.cellsOf t = 2) (hv : Value.okWide Tryd.prog w r b0 t v) (h : DataW.Trod enc Tryd.prog w base spare held t v d p) :
    ∃ v0 v1, v = .agg #[v0, v1] ∧ (∃ f x, DataW.trod enc Tryd.prog w base spare held f e [v0] = some x) ∧ ∃ f x, DataW.trod enc Tryd.prog w base spare held f e [v1] = some x := by
  obtain ⟨cs, rfl⟩ : ∃ cs, v = .agg cs := by
    unfold Value.okWide at hv
    rw [ht] at hv
    obtain ⟨cs, h, _⟩ := hv
    exact ⟨cs, h⟩
  obtain ⟨f, hf⟩ := h
  obtain ⟨xs, m, rfl, hm, hlen, hx, hel⟩ := DataW.trod_array ht hf
  rw [hC] at hlen
  have hlen' : cs.toList.length = 2 := by simpa [Value.cells] using hlen
  obtain ⟨c0, c1, hcs⟩ : ∃ c0 c1, cs = #[c0, c1] := by
    obtain ⟨l⟩ := cs
    obtain ⟨c0, c1, rfl⟩ := list2 (show l.length = 2 from hlen')
    exact ⟨c0, c1, rfl⟩
  subst hcs
  refine ⟨c0, c1, rfl, ?_, ?_⟩
  · have h1 := hel 0 (by omega)
    rw [hce] at h1
    obtain ⟨y, hy⟩ : ∃ y, xs[0]? = some y := ⟨_, List.getElem?_eq_getElem (by omega)⟩
    rw [hy] at h1
    exact ⟨_, y, by simpa [Value.cells] using h1⟩
  · have h1 := hel 1 (by omega)
    rw [hce] at h1
    obtain ⟨y, hy⟩ : ∃ y, xs[1]? = some y := ⟨_, List.getElem?_eq_getElem (by omega)⟩
    rw [hy] at h1
    exact ⟨_, y, by simpa [Value.cells] using h1⟩
structure Byts2 where
  x : BytsA
  y : BytsA
def Byts2.val (z : Byts2) : Value := .agg #[z.x.val, z.y.val]
structure Byts2Ok (w : World) (z : Byts2) : Prop where
  x : BytsOk w z.x
  y : BytsOk w z.y
structure Uint2 where
  x : UintA
  y : UintA
def Uint2.val (z : Uint2) : Value := .agg #[z.x.val, z.y.val]
structure Uint2Ok (w : World) (z : Uint2) : Prop where
  x : UintOk w z.x
  y : UintOk w z.y
set_option maxRecDepth 100000 in
theorem open_byts2 (hv : Value.okWide Tryd.prog w r b0 46 v) (h : DataW.Trod enc Tryd.prog w base spare held 46 v d p) : ∃ x : Byts2, v = x.val ∧ Byts2Ok w x := by
  obtain ⟨v0, v1, rfl, ⟨f, x, h0⟩, f1, x1, h1⟩ := open_two Tryd.underlying46 (by kernel_rfl) (by kernel_rfl) hv h
  obtain ⟨y0, e0, k0⟩ := slice_bytess h0
  obtain ⟨y1, e1, k1⟩ := slice_bytess h1
  obtain rfl : v0 = y0.val := List.head_eq_of_cons_eq e0
  obtain rfl : v1 = y1.val := List.head_eq_of_cons_eq e1
  exact ⟨⟨y0, y1⟩, rfl, k0, k1⟩
set_option maxRecDepth 100000 in
theorem open_uint2 (hv : Value.okWide Tryd.prog w r b0 47 v) (h : DataW.Trod enc Tryd.prog w base spare held 47 v d p) : ∃ x : Uint2, v = x.val ∧ Uint2Ok w x := by
  obtain ⟨v0, v1, rfl, ⟨f, x, h0⟩, f1, x1, h1⟩ := open_two Tryd.underlying47 (by kernel_rfl) (by kernel_rfl) hv h
  obtain ⟨y0, e0, k0⟩ := slice_uints' h0
  obtain ⟨y1, e1, k1⟩ := slice_uints' h1
  obtain rfl : v0 = y0.val := List.head_eq_of_cons_eq e0
  obtain rfl : v1 = y1.val := List.head_eq_of_cons_eq e1
  exact ⟨⟨y0, y1⟩, rfl, k0, k1⟩
end
open Go.RowKit Go.WideShapes
/-! ### plain -/
theorem ofF_inj {L M : List ByteArray} (hL : Dict L) (hM : Dict M) (h : ofF (restAt 0 L) = ofF (restAt 0 M)) : L = M := by
  have := words_of hL
  rw [h, words_of hM] at this
  exact this.symm
theorem pack_eq_iff {L M : List ByteArray} {c d : List Int} (hL : Dict L) (hM : Dict M) (hc : cntOk L.length c) (hd : cntOk M.length d) : packB (ofF (restAt 0 L)) c = packB (ofF (restAt 0 M)) d ↔ L = M ∧ c = d := by
  constructor
  · intro h
    have h1 := isPack_mk hL hc
    rw [h] at h1
    obtain ⟨e1, e2⟩ := pack_inj h1 (isPack_mk hM hd)
    exact ⟨ofF_inj hL hM e1, e2⟩
  · rintro ⟨rfl, rfl⟩; rfl
structure BoxC (w : World) (g : Nat) (cs : Array Value) (t : TypeId) : Prop where
  lt : g < w.heap.size
  at' : w.heap[g]? = some (.cells cs t (0, 0))
theorem BoxC.go {w w1 : World} {g : Nat} {cs : Array Value} {t : TypeId} (h : BoxC w g cs t) (hb : Below w.heap.size w w1) : BoxC w1 g cs t := ⟨Nat.lt_of_lt_of_le h.lt hb.size, (hb.block g h.lt).trans h.at'⟩
theorem BoxC.new (w : World) (cs : Array Value) (t : TypeId) : BoxC (w.alloc (.cells cs t (0, 0))) w.heap.size cs t := ⟨by simp only [World.size_alloc]; omega, heap_alloc_new _ _⟩
set_option maxHeartbeats 6400000 in
set_option maxRecDepth 100000 in
theorem packDiffers_view (xx : Byts2) (yy : Uint2) (w : World) (hxx : Byts2Ok w xx) (hyy : Uint2Ok w yy) (hT : Tab w) :
    Calls Tryd.prog 6 #[xx.val, yy.val] w fun e w' => e = .returned (.bool true) ∧ Below w.heap.size w w' := by
  obtain ⟨⟨a, len, cap, Q⟩, ⟨ax, lenx, capx, Qx⟩⟩ := xx
  obtain ⟨⟨a2, len2, cap2, Z⟩, ⟨a2x, len2x, cap2x, Zx⟩⟩ := yy
  obtain ⟨⟨hQ, hl⟩, ⟨hQx, hlx⟩⟩ := hxx
  obtain ⟨⟨hZ, hl2⟩, ⟨hZx, hl2x⟩⟩ := hyy
  simp only at hQ hl hZ hl2 hQx hlx hZx hl2x
  show Calls Tryd.prog 6 #[.agg #[.slice a len cap, .slice ax lenx capx], .agg #[.slice a2 len2 cap2, .slice a2x len2x cap2x]] w _
  obtain ⟨w0, hw0⟩ : ∃ w0, w.alloc (.cells #[.slice a len cap, .slice ax lenx capx] 46) = w0 := ⟨_, rfl⟩
  obtain ⟨w1, hw1⟩ : ∃ w1, w0.alloc (.cells #[.slice a2 len2 cap2, .slice a2x len2x cap2x] 47) = w1 := ⟨_, rfl⟩
  have hX0 : Below w.heap.size w w0 := by rw [← hw0]; exact below_new _ _
  have hX1 : Below w0.heap.size w0 w1 := by rw [← hw1]; exact below_new _ _
  have hbx0 : BoxC w0 w.heap.size #[.slice a len cap, .slice ax lenx capx] 46 := by rw [← hw0]; exact BoxC.new _ _ _
  have hbx1 : BoxC w1 w0.heap.size #[.slice a2 len2 cap2, .slice a2x len2x cap2x] 47 := by rw [← hw1]; exact BoxC.new _ _ _
  have hs0 : Since w w1 := (Since.mk hX0).go hX1
  have HQ := Lib.hid ((hQ.go hX0).go hX1); have HZ := Lib.hid ((hZ.go hX0).go hX1); have HQx := Lib.hid ((hQx.go hX0).go hX1); have HZx := Lib.hid ((hZx.go hX0).go hX1); have HT := Lib.hid ((hT.go hX0).go hX1)
  have HS := Lib.hid hs0
  have HBX := Lib.hid (hbx0.go hX1); have HBY := Lib.hid hbx1
  obtain ⟨g0, hg0⟩ : ∃ g0, w.heap.size = g0 := ⟨_, rfl⟩
  have hz0 : w0.heap.size = g0 + 1 := by rw [← hw0, World.size_alloc, hg0]
  clear hQ hZ hQx hZx hT hX0 hX1 hbx0 hbx1 hs0
  replace HBX : Hid (BoxC w1 g0 #[.slice a len cap, .slice ax lenx capx] 46) := by rw [← hg0]; exact HBX
  replace HBY : Hid (BoxC w1 (g0 + 1) #[.slice a2 len2 cap2, .slice a2x len2x cap2x] 47) := by rw [← hz0]; exact HBY
  go_enter Tryd.func6, Tryd.ntmps6
  go_wp2_with fail
  refine (psanity_any _ HT.out).mono ?_
  rintro e w2 ⟨rfl, hb⟩
  replace HQ := Lib.hid (HQ.out.go hb); replace HQx := Lib.hid (HQx.out.go hb); replace HZ := Lib.hid (HZ.out.go hb); replace HZx := Lib.hid (HZx.out.go hb); replace HT := Lib.hid (HT.out.go hb); replace HS := Lib.hid (HS.out.go hb); replace HBX := Lib.hid (HBX.out.go hb); replace HBY := Lib.hid (HBY.out.go hb)
  clear hb
  clear hw0 hw1 hg0 hz0
  obtain ⟨bx0, bx1⟩ := cells2 HBX.out.at'
  go_wp2_with fail
  refine (made_d 8 8 rfl (by decide) (by decide) HQ.out hl).mono ?_
  rintro e w3 ⟨L, b, o, c, -, rfl, hd, hm, hs4, hc, hR, hb⟩
  replace HQ := Lib.hid (HQ.out.go hb); replace HQx := Lib.hid (HQx.out.go hb); replace HZ := Lib.hid (HZ.out.go hb); replace HZx := Lib.hid (HZx.out.go hb); replace HT := Lib.hid (HT.out.go hb); replace HS := Lib.hid (HS.out.go hb); replace HBX := Lib.hid (HBX.out.go hb); replace HBY := Lib.hid (HBY.out.go hb)
  clear hb
  have HR := Lib.hid hR; have HD := Lib.hid hd; obtain ⟨hn70, hzA, hfl⟩ := small_dict hd (by omega) hs4; have HZA := Lib.hid hzA; clear hR hd HQ hs4 hzA hfl hn70 bx0 bx1
  
  obtain ⟨bx0, bx1⟩ := cells2 HBX.out.at'
  go_wp2_with fail
  refine (made_d 8 8 rfl (by decide) (by decide) HQx.out hlx).mono ?_
  rintro e w4 ⟨M, bx, ox, cx, -, rfl, hd, hmx, hs4, hcx, hR, hb⟩
  replace HQx := Lib.hid (HQx.out.go hb); replace HZ := Lib.hid (HZ.out.go hb); replace HZx := Lib.hid (HZx.out.go hb); replace HT := Lib.hid (HT.out.go hb); replace HS := Lib.hid (HS.out.go hb); replace HBY := Lib.hid (HBY.out.go hb); replace HR := Lib.hid (HR.out.go hb)
  clear hb
  have HRx := Lib.hid hR; have HDx := Lib.hid hd; obtain ⟨hn70, hzA, hfl⟩ := small_dict hd (by omega) hs4; have HZAx := Lib.hid hzA; clear hR hd HQx hs4 hzA hfl hn70 bx0 bx1
  
  clear HBX
  obtain ⟨bx0, bx1⟩ := cells2 HBY.out.at'
  go_wp2_with fail
  refine (rmade_any Z a2 len2 cap2 L.length w4 HZ.out hl2 (by omega)).mono ?_
  rintro e w5 ⟨a5, c5, rfl, hC, hb⟩
  replace HZ := Lib.hid (HZ.out.go hb); replace HZx := Lib.hid (HZx.out.go hb); replace HT := Lib.hid (HT.out.go hb); replace HS := Lib.hid (HS.out.go hb); replace HBY := Lib.hid (HBY.out.go hb); replace HR := Lib.hid (HR.out.go hb); replace HRx := Lib.hid (HRx.out.go hb)
  clear hb
  have HCO := Lib.hid (mkC_ok HZ.out L.length)
  obtain ⟨cn, hcn⟩ : ∃ cn, mkC Z len2 L.length = cn := ⟨_, rfl⟩
  rw [hcn] at HCO hC
  have HC := Lib.hid hC
  clear hcn hC HZ bx0 bx1
  obtain ⟨bx0, bx1⟩ := cells2 HBY.out.at'
  go_wp2_with fail
  refine (rmade_any Zx a2x len2x cap2x M.length w5 HZx.out hl2x (by omega)).mono ?_
  rintro e w6 ⟨a6, c6, rfl, hC, hb⟩
  replace HZx := Lib.hid (HZx.out.go hb); replace HT := Lib.hid (HT.out.go hb); replace HS := Lib.hid (HS.out.go hb); replace HR := Lib.hid (HR.out.go hb); replace HRx := Lib.hid (HRx.out.go hb); replace HC := Lib.hid (HC.out.go hb)
  clear hb
  have HCOx := Lib.hid (mkC_ok HZx.out M.length)
  obtain ⟨cm, hcm⟩ : ∃ cm, mkC Zx len2x M.length = cm := ⟨_, rfl⟩
  rw [hcm] at HCOx hC
  have HCx := Lib.hid hC
  clear hcm hC HZx bx0 bx1 HBY
  go_wp2_with fail
  refine (of_d HD.out HR.out rfl hc).mono ?_
  rintro e w7 ⟨a7, n7, c7, rfl, hA, hb⟩
  replace HT := Lib.hid (HT.out.go hb); replace HS := Lib.hid (HS.out.go hb); replace HR := Lib.hid (HR.out.go hb); replace HRx := Lib.hid (HRx.out.go hb); replace HC := Lib.hid (HC.out.go hb); replace HCx := Lib.hid (HCx.out.go hb)
  clear hb
  have HA := Lib.hid hA; clear hA
  go_wp2_with fail
  refine (pack_yes HA.out HZA.out HC.out HCO.out HT.out).mono ?_
  rintro e w8 ⟨a8, n8, c8, rfl, hB, hb⟩
  replace HT := Lib.hid (HT.out.go hb); replace HS := Lib.hid (HS.out.go hb); replace HR := Lib.hid (HR.out.go hb); replace HRx := Lib.hid (HRx.out.go hb); replace HC := Lib.hid (HC.out.go hb); replace HCx := Lib.hid (HCx.out.go hb)
  clear hb
  have HB := Lib.hid hB; clear hB HA
  go_wp2_with fail
  refine (of_d HDx.out HRx.out rfl hcx).mono ?_
  rintro e w9 ⟨a9, n9, c9, rfl, hA, hb⟩
  replace HT := Lib.hid (HT.out.go hb); replace HS := Lib.hid (HS.out.go hb); replace HR := Lib.hid (HR.out.go hb); replace HRx := Lib.hid (HRx.out.go hb); replace HC := Lib.hid (HC.out.go hb); replace HCx := Lib.hid (HCx.out.go hb); replace HB := Lib.hid (HB.out.go hb)
  clear hb
  have HA := Lib.hid hA; clear hA
  go_wp2_with fail
  refine (pack_yes HA.out HZAx.out HCx.out HCOx.out HT.out).mono ?_
  rintro e w10 ⟨a10, n10, c10, rfl, hB, hb⟩
  replace HT := Lib.hid (HT.out.go hb); replace HS := Lib.hid (HS.out.go hb); replace HR := Lib.hid (HR.out.go hb); replace HRx := Lib.hid (HRx.out.go hb); replace HC := Lib.hid (HC.out.go hb); replace HCx := Lib.hid (HCx.out.go hb); replace HB := Lib.hid (HB.out.go hb)
  clear hb
  have HBx := Lib.hid hB; clear hB HA HT
  go_wp2_with fail
  refine (sameWords_any L M _ _ _ _ c cx w10 HR.out HRx.out rfl rfl (by omega) (by omega)).mono ?_
  rintro e w11 ⟨he, hb⟩
  replace HS := Lib.hid (HS.out.go hb); replace HC := Lib.hid (HC.out.go hb); replace HCx := Lib.hid (HCx.out.go hb); replace HB := Lib.hid (HB.out.go hb); replace HBx := Lib.hid (HBx.out.go hb)
  clear hb
  obtain ⟨l, hl9⟩ : ∃ l, packB (ofF (restAt 0 L)) cn = l := ⟨_, rfl⟩
  obtain ⟨m, hm9⟩ : ∃ m, packB (ofF (restAt 0 M)) cm = m := ⟨_, rfl⟩
  have hiff := pack_eq_iff HD.out HDx.out HCO.out HCOx.out
  rw [hl9, hm9] at hiff
  rw [hl9] at HB
  rw [hm9] at HBx
  have HI := Lib.hid hiff
  clear hl9 hm9 hiff
  by_cases hLM : L = M
  · have HLM := Lib.hid hLM
    rw [decide_eq_true hLM] at he
    subst he
    clear hLM
    go_wp2_with fail
    refine (ints_any cn cm L.length M.length a5 a6 c5 c6 w11 HC.out.ints HCx.out.ints HC.out.len HCx.out.len (by omega) (by omega)).mono ?_
    rintro e w12 ⟨he, hb⟩
    replace HS := Lib.hid (HS.out.go hb); replace HB := Lib.hid (HB.out.go hb); replace HBx := Lib.hid (HBx.out.go hb)
    have heq : decide (l = m) = decide (cn = cm) := by
      by_cases h : cn = cm
      · rw [decide_eq_true h, decide_eq_true (HI.out.2 ⟨HLM.out, h⟩)]
      · rw [decide_eq_false h, decide_eq_false fun e => h (HI.out.1 e).2]
    obtain ⟨q, hq⟩ : ∃ q, decide (cn = cm) = q := ⟨_, rfl⟩
    rw [hq] at he heq
    subst he
    have hv1 := conv_byts w12 a8 n8 c8 l HB.out.byts HB.out.len
    have hv2 := conv_byts w12 a10 n10 c10 m HBx.out.byts HBx.out.len
    have hstr : (l == m) = q := by rw [← heq]; by_cases h : l = m <;> simp [h]
    have hqq : (q == q) = true := by simp
    clear hb hq heq
    go_wp2
    go_ret
    exact ⟨rfl, HS.out.out⟩
  · rw [decide_eq_false hLM] at he
    subst he
    have hlm : l ≠ m := fun e => hLM (HI.out.1 e).1
    have hv1 := conv_byts w11 a8 n8 c8 l HB.out.byts HB.out.len
    have hv2 := conv_byts w11 a10 n10 c10 m HBx.out.byts HBx.out.len
    have hstr : (l == m) = false := by simp [hlm]
    clear hlm hLM
    go_wp2
    go_ret
    exact ⟨rfl, HS.out.out⟩
end Go.Proofs.YtocdljmdmiphnaaDoor
