
/- PackSizes: the walk. -/
import Derived.Test.YtocdljmdmiphnaaDoorPG
namespace Go.Proofs.YtocdljmdmiphnaaDoor
open Go.RowKit Go.WideShapes
set_option linter.unusedVariables false
set_option linter.unusedSimpArgs false

def arcsN (D : List Nd) : Nat := (D.map fun x => x.arcs.length).sum
theorem arcsN_succ {D : List Nd} {k : Nat} (hk : k < D.length) : arcsN (D.take (k + 1)) = arcsN (D.take k) + D[k].arcs.length := by
  unfold arcsN
  rw [List.take_succ_eq_append_getElem hk, List.map_append, List.sum_append]; simp
theorem arcsN_size (D : List Nd) : sizeN D = D.length + 2 * arcsN D ∧ sizeM D = D.length + 3 * arcsN D := by
  induction D with
  | nil => exact ⟨rfl, rfl⟩
  | cons x D ih =>
    have e1 : sizeN (x :: D) = 1 + 2 * x.arcs.length + sizeN D := rfl
    have e2 : sizeM (x :: D) = 1 + 3 * x.arcs.length + sizeM D := rfl
    have e3 : arcsN (x :: D) = x.arcs.length + arcsN D := rfl
    rw [e1, e2, e3, List.length_cons]; omega
def halfC (c : List Int) : List Int := c.map (·.tdiv 2)
theorem halfC_succ {c : List Int} {k : Nat} (hk : k < c.length) : halfC (c.take (k + 1)) = halfC (c.take k) ++ [c[k].tdiv 2] := by
  unfold halfC
  rw [List.take_succ_eq_append_getElem hk, List.map_append]; rfl
theorem halfC_ok {n : Nat} {c : List Int} (h : cntOk n c) : cntOk n (halfC c) := by
  refine ⟨by unfold halfC; rw [List.length_map]; exact h.1, fun x hx => ?_⟩
  obtain ⟨y, hy, rfl⟩ := List.mem_map.1 hx
  obtain ⟨h0, h1⟩ := h.2 y hy
  rw [Int.tdiv_eq_ediv_of_nonneg h0]
  omega
/-- the sizes of packs -/
theorem pack_sizes {L : List ByteArray} {c : List Int} (hd : Dict L) (hc : cntOk L.length c) :
    (packB (ofF (restAt 0 L)) c).length ≤ (ofF (restAt 0 L)).length + 3 * arcsN (ofF (restAt 0 L)) + 5 * L.length + 5 ∧
    (ofF (restAt 0 L)).length + 2 * arcsN (ofF (restAt 0 L)) + L.length + 4 ≤ (packB (ofF (restAt 0 L)) c).length ∧
    (packB (ofF (restAt 0 L)) (halfC c)).length ≤ (packB (ofF (restAt 0 L)) c).length := by
  obtain ⟨f1, f2⟩ := form_len hd
  obtain ⟨s1, s2⟩ := arcsN_size (ofF (restAt 0 L))
  have h5 := cntB_len5 hc.2
  have h1 := cntB_ge c
  have hh := cntB_half (c := c) fun x hx => (hc.2 x hx).1
  have hl := hc.1
  have hcb : (cntB (halfC c)).length ≤ (cntB c).length := hh
  rw [packB_len, packB_len]
  unfold dataB
  rw [pad_len, pad_len]
  unfold bodyB
  rw [List.length_append, List.length_append]
  omega
set_option maxHeartbeats 3200000 in
set_option maxRecDepth 100000 in
theorem packSizes_view (xl : BytsA) (y : UintA) (w : World) (hx : BytsOk w xl) (hy : UintOk w y) (hT : Tab w) :
    Calls Tryd.prog 7 #[xl.val, y.val] w fun e w' => e = .returned (.bool true) ∧ Below w.heap.size w w' := by
  obtain ⟨a, len, cap, Q⟩ := xl
  obtain ⟨a2, len2, cap2, Z⟩ := y
  obtain ⟨hQ, hl⟩ := hx
  obtain ⟨hZ, hl2⟩ := hy
  simp only at hQ hl hZ hl2
  have hs0 := Since.refl w
  have HQ := Lib.hid hQ; have HZ := Lib.hid hZ; have HT := Lib.hid hT; have HS := Lib.hid hs0
  clear hQ hZ hT hs0
  show Calls Tryd.prog 7 #[.slice a len cap, .slice a2 len2 cap2] w _
  go_enter Tryd.func7, Tryd.ntmps7
  go_wp2_with fail
  refine (psanity_any w HT.out).mono ?_
  rintro e w1 ⟨rfl, hb⟩
  replace HQ := Lib.hid (HQ.out.go hb); replace HZ := Lib.hid (HZ.out.go hb); replace HT := Lib.hid (HT.out.go hb); replace HS := Lib.hid (HS.out.go hb)
  clear hb
  go_wp2_with fail
  refine (made_d 12 12 rfl (by decide) (by decide) HQ.out hl).mono ?_
  rintro e w2 ⟨L, b, o, c, -, rfl, hd, hm, hs4, hc, hR, hb⟩
  replace HQ := Lib.hid (HQ.out.go hb); replace HZ := Lib.hid (HZ.out.go hb); replace HT := Lib.hid (HT.out.go hb); replace HS := Lib.hid (HS.out.go hb)
  clear hb
  have HR := Lib.hid hR; have HD := Lib.hid hd; obtain ⟨hn70, hzA, hfl⟩ := small_dict hd hm hs4; have HZA := Lib.hid hzA; have HFL := Lib.hid hfl; clear hR hd HQ hs4 hzA hfl
  go_wp2_with fail
  refine (of_d HD.out HR.out rfl hc).mono ?_
  rintro e w3 ⟨a3, n3, c3, rfl, hA, hb⟩
  replace HZ := Lib.hid (HZ.out.go hb); replace HT := Lib.hid (HT.out.go hb); replace HS := Lib.hid (HS.out.go hb); replace HR := Lib.hid (HR.out.go hb)
  clear hb
  have HA := Lib.hid hA; have HN3 := Lib.hid hA.len; have hn3 : n3 ≤ 70 := by have := hA.len; omega
  clear hA HR hn70
  obtain ⟨D, hDe⟩ : ∃ D, ofF (restAt 0 L) = D := ⟨_, rfl⟩
  have HDE := Lib.hid hDe
  rw [hDe] at HN3
  clear hDe
  go_wp2
  go_loopw [9, 8] (fun q v wr => ∃ k : Nat, k ≤ n3 ∧ q = .int .i64 (k : Int) ∧ v = .int .i64 (arcsN (D.take k) : Int) ∧ arcsN (D.take k) ≤ k * 94 ∧ Since w3 wr) (fun q _ _ => n3 - (intOf q).toNat)
  case atStart => exact ⟨0, Nat.zero_le _, rfl, rfl, Nat.le_refl _, Since.refl _⟩
  case round =>
    obtain ⟨k, hk, rfl, rfl, hak, hS⟩ := hrel
    have HSr := Lib.hid hS
    clear hS
    by_cases hlt : k < n3
    · have hkD : k < D.length := by have := HN3.out; omega
      have hdw : DawgS w3 a3 D := by have := HA.out.rows; rwa [HDE.out] at this
      obtain ⟨b3, o3, ha3, hb3, -, aa, cc, g1, -, -⟩ := (hdw.go HSr.out.out).at hkD
      have hidx := idx_nodes a3 b3 o3 n3 c3 k ha3 hlt
      have hsu := arcsN_succ hkD
      have h94 : D[k].arcs.length ≤ 94 := by
        obtain ⟨Mt, h1, h2⟩ := of_tab HD.out.okR.1 HD.out.okR.2
        rw [HDE.out] at h1
        obtain ⟨r, _, _, h3⟩ := h1.nd k hkD
        rw [h3.len]; exact grp_len r
      obtain ⟨m, hm9⟩ : ∃ m, D[k].arcs.length = m := ⟨_, rfl⟩
      rw [hm9] at g1 hsu h94
      obtain ⟨p, hp⟩ : ∃ p, arcsN (D.take k) = p := ⟨_, rfl⟩
      rw [hp] at hsu hak ⊢
      have HSU := Lib.hid hsu
      clear ha3 hm9 hp hdw hsu
      go_wp2
      go_roundw
      case rel => exact ⟨k + 1, by omega, by go_num, by rw [HSU.out]; go_num, by rw [HSU.out]; omega, HSr.out⟩
      case measure => simp [intOf]; omega
    · have hkn : D.take k = D := List.take_of_length_le (by have := HN3.out; omega)
      rw [hkn] at hak ⊢
      replace HZ := Lib.hid (HZ.out.go HSr.out.out); replace HT := Lib.hid (HT.out.go HSr.out.out); replace HS := Lib.hid (HS.out.go HSr.out.out); replace HA := Lib.hid (HA.out.go HSr.out.out)
      obtain ⟨ac, hac⟩ : ∃ ac, arcsN D = ac := ⟨_, rfl⟩
      rw [hac] at hak ⊢
      have HAC := Lib.hid hac
      have hac7 : ac ≤ 7000 := by omega
      clear HSr hkn hac hak
      go_wp2_with fail
      refine (rmade_any Z a2 len2 cap2 L.length wr HZ.out hl2 (by omega)).mono ?_
      rintro e w4 ⟨a4, c4, rfl, hC, hb⟩
      replace HT := Lib.hid (HT.out.go hb); replace HS := Lib.hid (HS.out.go hb); replace HA := Lib.hid (HA.out.go hb)
      have HCO := Lib.hid (mkC_ok HZ.out L.length)
      obtain ⟨cn, hcn⟩ : ∃ cn, mkC Z len2 L.length = cn := ⟨_, rfl⟩
      rw [hcn] at HCO hC
      have HC := Lib.hid hC
      obtain ⟨nC, hnC⟩ : ∃ nC, L.length = nC := ⟨_, rfl⟩
      have HNC := Lib.hid hnC
      have hnC12 : nC ≤ 12 := by omega
      rw [hnC] at HC hc ⊢
      clear hcn hC hb HZ hnC hm
      have HX4 := Lib.hid (below_new w4 (.cells #[] 3))
      go_wp2
      go_loopw [12, 11] (fun q v wr => ∃ k : Nat, k ≤ nC ∧ q = .int .i64 (k : Int) ∧ OwnG rowInt wr w4.heap.size v (halfC (cn.take k)) ∧ Since w4 wr) (fun q _ _ => nC - (intOf q).toNat)
      case atStart => exact ⟨0, Nat.zero_le _, rfl, OwnG.empty rowInt (heap_alloc_new w4 (.cells #[] 3)) (Nat.le_refl _), ⟨HX4.out⟩⟩
      case round =>
        obtain ⟨k, hk, rfl, ho, hS⟩ := hrel
        have HO := Lib.hid ho; have HSr := Lib.hid hS
        obtain ⟨va, vc, hv, -, -⟩ := ho.form
        subst hv
        have hkl : (halfC (cn.take k)).length ≤ 12 := by unfold halfC; rw [List.length_map, List.length_take]; omega
        have HKL := Lib.hid hkl
        clear ho hS hkl
        by_cases hlt : k < nC
        · have hkc : k < cn.length := by have := HC.out.len; omega
          obtain ⟨b4, o4, ha4, hb4, q0⟩ := (HC.out.go HSr.out.out).ints.at hkc
          have hidx := idx_ints a4 b4 o4 nC c4 k ha4 hlt
          have HMS := Lib.hid (halfC_succ hkc)
          obtain ⟨h0, h1⟩ := HCO.out.2 cn[k] (List.getElem_mem hkc)
          obtain ⟨z, hz⟩ : ∃ z, cn[k] = z := ⟨_, rfl⟩
          rw [hz] at q0 h0 h1 HMS
          obtain ⟨x, hx⟩ : ∃ x, z.tdiv 2 = x := ⟨_, rfl⟩
          have hxb : 0 ≤ x ∧ x ≤ 1073741824 := by rw [← hx, Int.tdiv_eq_ediv_of_nonneg h0]; omega
          rw [hx] at HMS
          have hw1 : IntKind.i64.wrap x = x := IntWalk.i64_in _ (by omega)
          have hzr := HSr.out.out.size
          have hxA : Below wr.heap.size wr (wr.alloc (.cells #[.int .i64 x] 3)) := (Below.refl _ wr).alloc (Nat.le_refl _) _
          have HXA := Lib.hid hxA
          have HSX := Lib.hid (HSr.out.go hxA)
          clear hxA ha4 hz
          go_wp2_with (first | (at_builtin; go_loud (refine wpList_app rowInt_ok rfl _ _ rfl rfl (HO.out.later HXA.out (Nat.le_refl _)) ⟨wr.heap.size, 0, none⟩ 1 [x] rfl (cells_built (heap_alloc_new wr (.cells #[.int .i64 x] 3))) (by have := HKL.out; simp only [List.length_singleton]; omega) (by simp only [World.size_alloc]; omega) ?_); intro v5 w5 hown5 hg5; have HO5 := Lib.hid hown5; have HG5 := Lib.hid hg5; clear hown5 hg5))
          go_roundw
          case rel => exact ⟨k + 1, by omega, by go_num, by rw [HMS.out]; exact HO5.out, ⟨HSX.out.out.trans (HG5.out.below HSX.out.out.size HO.out.ge)⟩⟩
          case measure => simp [intOf]; omega
        · have hkn : cn.take k = cn := List.take_of_length_le (by have := HC.out.len; omega)
          have ho := HO.out
          rw [hkn] at ho ⊢
          have HO2 := Lib.hid (ho.ints.1)
          have HCH := Lib.hid (halfC_ok HCO.out)
          have hhl : (halfC cn).length = nC := by unfold halfC; rw [List.length_map]; exact HC.out.len.symm
          have hcap2 : nC ≤ vc := by
            obtain ⟨_, _, e, h5, _⟩ := ho.form
            injection e with e1 e2 e3
            subst e3; omega
          rw [hhl]
          have HC2 : Hid (CntS wr (va) nC vc (halfC cn)) := Lib.hid ⟨HO2.out, hhl.symm, hcap2⟩
          replace HT := Lib.hid (HT.out.go HSr.out.out); replace HS := Lib.hid (HS.out.go HSr.out.out); replace HA := Lib.hid (HA.out.go HSr.out.out); replace HC := Lib.hid (HC.out.go HSr.out.out)
          clear ho hkn hhl HO HSr HO2 HKL HX4
          go_wp2_with fail
          refine (pack_yes HA.out HZA.out HC.out HCO.out HT.out).mono ?_
          rintro e w5 ⟨a5, n5, c5, rfl, hB, hb⟩
          have HB := Lib.hid hB.len
          replace HT := Lib.hid (HT.out.go hb); replace HS := Lib.hid (HS.out.go hb); replace HA := Lib.hid (HA.out.go hb); replace HC2 := Lib.hid (HC2.out.go hb)
          clear hb hB
          go_wp2_with fail
          refine (pack_yes HA.out HZA.out HC2.out HCH.out HT.out).mono ?_
          rintro e w6 ⟨a6, n6, c6, rfl, hB, hb⟩
          have HB2 := Lib.hid hB.len
          replace HS := Lib.hid (HS.out.go hb)
          clear hb hB
          obtain ⟨p1, p2, p3⟩ := pack_sizes HD.out HCO.out
          rw [HDE.out, HAC.out, ← HN3.out, HNC.out] at p1
          rw [HDE.out, HAC.out, ← HN3.out, HNC.out] at p2
          have e5 := HB.out
          have e6 := HB2.out
          rw [HDE.out] at e5 e6 p3
          rw [← e5] at p1 p2 p3
          rw [← e6] at p3
          have hw1 : IntKind.i64.wrap (3 * (ac : Int)) = 3 * (ac : Int) := IntWalk.i64_in _ (by omega)
          have hw2 : IntKind.i64.wrap ((n3 : Int) + 3 * (ac : Int)) = (n3 : Int) + 3 * (ac : Int) := IntWalk.i64_in _ (by omega)
          have hw3 : IntKind.i64.wrap (5 * (nC : Int)) = 5 * (nC : Int) := IntWalk.i64_in _ (by omega)
          have hw4 : IntKind.i64.wrap ((n3 : Int) + 3 * (ac : Int) + 5 * (nC : Int)) = (n3 : Int) + 3 * (ac : Int) + 5 * (nC : Int) := IntWalk.i64_in _ (by omega)
          have hw5 : IntKind.i64.wrap ((n3 : Int) + 3 * (ac : Int) + 5 * (nC : Int) + 5) = (n3 : Int) + 3 * (ac : Int) + 5 * (nC : Int) + 5 := IntWalk.i64_in _ (by omega)
          have hw6 : IntKind.i64.wrap (2 * (ac : Int)) = 2 * (ac : Int) := IntWalk.i64_in _ (by omega)
          have hw7 : IntKind.i64.wrap ((n3 : Int) + 2 * (ac : Int)) = (n3 : Int) + 2 * (ac : Int) := IntWalk.i64_in _ (by omega)
          have hw8 : IntKind.i64.wrap ((n3 : Int) + 2 * (ac : Int) + (nC : Int)) = (n3 : Int) + 2 * (ac : Int) + (nC : Int) := IntWalk.i64_in _ (by omega)
          have hw9 : IntKind.i64.wrap ((n3 : Int) + 2 * (ac : Int) + (nC : Int) + 4) = (n3 : Int) + 2 * (ac : Int) + (nC : Int) + 4 := IntWalk.i64_in _ (by omega)
          have t1 : (n5 : Int) ≤ (n3 : Int) + 3 * (ac : Int) + 5 * (nC : Int) + 5 := by omega
          have t2 : (n6 : Int) ≤ (n5 : Int) := by omega
          have t3 : (n3 : Int) + 2 * (ac : Int) + (nC : Int) + 4 ≤ (n5 : Int) := by omega
          clear p1 p2 p3 e5 e6
          go_wp2
          go_ret
          exact ⟨rfl, HS.out.out⟩
end Go.Proofs.YtocdljmdmiphnaaDoor
