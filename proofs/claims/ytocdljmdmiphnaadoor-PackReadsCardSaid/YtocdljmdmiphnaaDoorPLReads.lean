
/- PackReads: the walk. -/
import Derived.Test.YtocdljmdmiphnaaDoorPG
namespace Go.Proofs.YtocdljmdmiphnaaDoor
open Go.RowKit Go.WideShapes
set_option linter.unusedVariables false
set_option linter.unusedSimpArgs false

set_option maxHeartbeats 3200000 in
set_option maxRecDepth 100000 in
theorem packReads_view (xl : BytsA) (y : UintA) (w : World) (hx : BytsOk w xl) (hy : UintOk w y) (hT : Tab w) :
    Calls Tryd.prog 4 #[xl.val, y.val] w fun e w' => e = .returned (.bool true) ∧ Below w.heap.size w w' := by
  obtain ⟨a, len, cap, Q⟩ := xl
  obtain ⟨a2, len2, cap2, Z⟩ := y
  obtain ⟨hQ, hl⟩ := hx
  obtain ⟨hZ, hl2⟩ := hy
  simp only at hQ hl hZ hl2
  have hs0 := Since.refl w
  have HQ := Lib.hid hQ; have HZ := Lib.hid hZ; have HT := Lib.hid hT; have HS := Lib.hid hs0
  clear hQ hZ hT hs0
  show Calls Tryd.prog 4 #[.slice a len cap, .slice a2 len2 cap2] w _
  go_enter Tryd.func4, Tryd.ntmps4
  go_wp2_with fail
  refine (psanity_any w HT.out).mono ?_
  rintro e w1 ⟨rfl, hb⟩
  replace HQ := Lib.hid (HQ.out.go hb); replace HZ := Lib.hid (HZ.out.go hb); replace HT := Lib.hid (HT.out.go hb); replace HS := Lib.hid (HS.out.go hb)
  clear hb
  go_wp2_with fail
  refine (made_d 12 12 rfl (by decide) (by decide) HQ.out hl).mono ?_
  rintro e w2 ⟨L, b, o, c, -, rfl, hd, hm, hs4, hc, hR, hb⟩
  replace HQ := Lib.hid (HQ.out.go hb); replace HZ := Lib.hid (HZ.out.go hb); replace HT := Lib.hid (HT.out.go hb); replace HS := Lib.hid (HS.out.go hb)
  clear hb
  have HR := Lib.hid hR; have HD := Lib.hid hd; obtain ⟨hn70, hzA, hfl⟩ := small_dict hd hm hs4; have HZA := Lib.hid hzA; have HFL := Lib.hid hfl; clear hR hd HQ hs4 hzA hfl hn70
  go_wp2_with fail
  refine (of_d HD.out HR.out rfl hc).mono ?_
  rintro e w3 ⟨a3, n3, c3, rfl, hA, hb⟩
  replace HZ := Lib.hid (HZ.out.go hb); replace HT := Lib.hid (HT.out.go hb); replace HS := Lib.hid (HS.out.go hb); replace HR := Lib.hid (HR.out.go hb)
  clear hb
  have HA := Lib.hid hA; clear hA
  go_wp2_with fail
  refine (rmade_any Z a2 len2 cap2 L.length w3 HZ.out hl2 (by omega)).mono ?_
  rintro e w4 ⟨a4, c4, rfl, hC, hb⟩
  replace HT := Lib.hid (HT.out.go hb); replace HS := Lib.hid (HS.out.go hb); replace HR := Lib.hid (HR.out.go hb); replace HA := Lib.hid (HA.out.go hb)
  clear hb
  have HCO := Lib.hid (mkC_ok HZ.out L.length)
  obtain ⟨cn, hcn⟩ : ∃ cn, mkC Z len2 L.length = cn := ⟨_, rfl⟩
  rw [hcn] at HCO hC
  have HC := Lib.hid hC
  clear hcn hC HZ
  go_wp2_with fail
  refine (pack_yes HA.out HZA.out HC.out HCO.out HT.out).mono ?_
  rintro e w5 ⟨a5, n5, c5, rfl, hB, hb⟩
  replace HT := Lib.hid (HT.out.go hb); replace HS := Lib.hid (HS.out.go hb); replace HR := Lib.hid (HR.out.go hb); replace HA := Lib.hid (HA.out.go hb); replace HC := Lib.hid (HC.out.go hb)
  clear hb
  have HB := Lib.hid hB; clear hB; have HPS := Lib.hid (pack_small HFL.out hm HCO.out)
  go_wp2_with fail
  refine (unpackL_d HB.out (by have := HPS.out; omega) HT.out).mono ?_
  rintro e w6 ⟨v6, rfl, hV, hb⟩
  replace HT := Lib.hid (HT.out.go hb); replace HS := Lib.hid (HS.out.go hb); replace HR := Lib.hid (HR.out.go hb); replace HA := Lib.hid (HA.out.go hb); replace HC := Lib.hid (HC.out.go hb); replace HB := Lib.hid (HB.out.go hb)
  clear hb
  rw [unpF_yes (isPack_mk HD.out HCO.out)] at hV
  obtain ⟨aD, cD, aC, cC, rfl, hcD, hcC, hdw, hint, -, -⟩ := hV
  unfold UVal
  have hA6 : AutS w6 aD (ofF (restAt 0 L)).length cD L := ⟨HD.out, rfl, hcD, hdw⟩
  have hC6 : CntS w6 aC cn.length cC cn := ⟨hint, rfl, hcC⟩
  have HA6 := Lib.hid hA6; have HC6 := Lib.hid hC6
  have HX := Lib.hid (below_new w6 (.cells #[.slice aD (ofF (restAt 0 L)).length cD, .slice aC cn.length cC, .int .i64 0] 40))
  clear hA6 hC6 hcD hcC hdw hint
  go_wp2_with fail
  refine (pack_yes (HA6.out.go HX.out) HZA.out (HC6.out.go HX.out) HCO.out (HT.out.go HX.out)).mono ?_
  rintro e w7 ⟨a7, n7, c7, rfl, hB7, hb⟩
  have hrep := (hb.block w6.heap.size (by simp only [World.size_alloc]; omega)).trans (heap_alloc_new w6 (.cells #[.slice aD (ofF (restAt 0 L)).length cD, .slice aC cn.length cC, .int .i64 0] 40))
  obtain ⟨q0, q1, q2⟩ := cells3' hrep
  have HB7 := Lib.hid hB7
  have HX7 := Lib.hid (HX.out.trans (hb.mono HX.out.size))
  replace HS := Lib.hid (HS.out.go HX7.out); replace HA := Lib.hid (HA.out.go HX7.out); replace HC := Lib.hid (HC.out.go HX7.out); replace HB := Lib.hid (HB.out.go HX7.out); replace HA6 := Lib.hid (HA6.out.go HX7.out); replace HC6 := Lib.hid (HC6.out.go HX7.out)
  have hcl : cn.length ≤ 12 := by have := HCO.out.1; omega
  have hDl := ofF_len HD.out
  obtain ⟨nD, hnD⟩ : ∃ nD, (ofF (restAt 0 L)).length = nD := ⟨_, rfl⟩
  obtain ⟨nC, hnC⟩ : ∃ nC, cn.length = nC := ⟨_, rfl⟩
  rw [hnD] at q0 hDl HA6
  rw [hnC] at q1 hcl HC6
  have HND := Lib.hid hnD; have HNC := Lib.hid hnC
  rw [hnD, hnC]
  clear hb hB7 hrep HX HX7 hnD hnC
  go_wp2_with fail
  refine (same_core (ofF (restAt 0 L)) (ofF (restAt 0 L)) cn cn 0 0 aD a3 aC a4 nD n3 nC L.length cD c3 cC c4 w7 HA6.out.rows HA.out.rows HC6.out.ints HC.out.ints HA6.out.len HA.out.len HC6.out.len HC.out.len (by omega) (by have := HA.out.small; omega) (by omega) (by omega)).mono ?_
  rintro e w8 ⟨he, hb⟩
  rw [decide_eq_true (show (0 : Int) = 0 ∧ ofF (restAt 0 L) = ofF (restAt 0 L) ∧ cn = cn from ⟨rfl, rfl, rfl⟩)] at he
  subst he
  replace HS := Lib.hid (HS.out.go hb); replace HB := Lib.hid (HB.out.go hb); replace HB7 := Lib.hid (HB7.out.go hb)
  clear hb q0 q1 q2
  have hev := packB_even (ofF (restAt 0 L)) cn
  obtain ⟨l, hl9⟩ : ∃ l, packB (ofF (restAt 0 L)) cn = l := ⟨_, rfl⟩
  rw [hl9] at HB HB7 hev
  have hv1 := conv_byts w8 a7 n7 c7 l HB7.out.byts HB7.out.len
  have hv2 := conv_byts w8 a5 n5 c5 l HB.out.byts HB.out.len
  have hmod : (n5 : Int).tmod 2 = 0 := by rw [HB.out.len, show ((l.length : Nat) : Int).tmod 2 = ((l.length % 2 : Nat) : Int) from Int.ofNat_tmod l.length 2, hev]; rfl
  clear hl9 hev
  go_wp2
  go_ret
  exact ⟨rfl, HS.out.out⟩
end Go.Proofs.YtocdljmdmiphnaaDoor
