/- DawgPlaces: the walk. -/
import Derived.Test.YtemdlfbcnnoglaaDoorDLawK
import Derived.Test.YtemdlfbcnnoglaaDoorDViews
namespace Go.Proofs.YtemdlfbcnnoglaaDoor
open Go.RowKit Go.WideShapes
set_option linter.unusedVariables false
set_option linter.unusedSimpArgs false

theorem Dict.ne {L : List ByteArray} (h : Dict L) {j k : Nat} (hj : j < L.length) (hk : k < L.length) (hjk : j < k) : L[j] ≠ L[k] := fun e => by
  have := List.pairwise_iff_getElem.1 h.sorted j k hj hk hjk
  rw [e, ltS_irr] at this
  cases this
theorem idxF_dict {L : List ByteArray} (h : Dict L) {k : Nat} (hk : k < L.length) : idxF L L[k] = (k : Int) :=
  idxF_at hk (fun j hj hjk => h.ne hj hk hjk) rfl
theorem atV_yes {L : List ByteArray} {k : Nat} (hk : k < L.length) {i : Int} (hi : i = (k : Int)) : atV L i = .tuple #[.string L[k], .int .i64 0] := by
  subst hi
  rw [atV, dif_pos ⟨by omega, by omega⟩]
  rfl
theorem atV_no {L : List ByteArray} {i : Int} (h : ¬ (0 ≤ i ∧ i < (L.length : Int))) : atV L i = .tuple #[.string ⟨#[]⟩, .int .i64 90] := by
  rw [atV, dif_neg h]
set_option maxHeartbeats 1600000 in
theorem dawgPlaces_view (xl : BytsA) (i : Int) (w : World) (hx : BytsOk w xl) (hi0 : -128 ≤ i) (hi1 : i ≤ 127) (hT : Tab w) :
    Calls Tryd.prog 6 #[xl.val, .int .i8 i] w fun e w' => e = .returned (.bool true) ∧ Below w.heap.size w w' := by
  obtain ⟨a, len, cap, Q⟩ := xl
  obtain ⟨hQ, hl⟩ := hx
  simp only at hQ hl
  have hs0 := Since.refl w
  have HQ := Lib.hid hQ; have HT := Lib.hid hT; have HS := Lib.hid hs0
  clear hQ hT hs0
  have hwi : IntKind.i64.wrap i = i := IntWalk.i64_in i (by omega)
  show Calls Tryd.prog 6 #[.slice a len cap, .int .i8 i] w _
  go_enter Tryd.func6, Tryd.ntmps6
  go_wp2_with fail
  refine (sanity_any w HT.out).mono ?_
  rintro e w1 ⟨rfl, hb⟩
  replace HQ := Lib.hid (HQ.out.go hb); replace HS := Lib.hid (HS.out.go hb)
  clear hb
  clear HT
  go_wp2_with fail
  refine (made_d 14 14 rfl (by decide) (by decide) HQ.out hl).mono ?_
  rintro e w2 ⟨L, b, o, c, -, rfl, hd, hm2, -, hc, hR, hb⟩
  replace HS := Lib.hid (HS.out.go hb)
  clear hb
  have HR := Lib.hid hR; have HD := Lib.hid hd; clear hR hd HQ
  go_wp2_with fail
  refine (of_d HD.out HR.out rfl hc).mono ?_
  rintro e w3 ⟨a3, n3, c3, rfl, hA, hb⟩
  replace HS := Lib.hid (HS.out.go hb); replace HR := Lib.hid (HR.out.go hb)
  clear hb
  have HA := Lib.hid hA; clear hA
  go_wp2
  go_loopw [8] (fun i wr => ∃ k : Nat, k ≤ L.length ∧ i = .int .i64 (k : Int) ∧ Since w3 wr) (fun i _ => L.length - (intOf i).toNat)
  case atStart => exact ⟨0, Nat.zero_le _, rfl, Since.refl _⟩
  case round =>
    obtain ⟨k, hk, rfl, hB⟩ := hrel
    have HSr := Lib.hid (HS.out.go hB.out); have HRr := Lib.hid (HR.out.go hB.out); have HAr := Lib.hid (HA.out.go hB.out)
    have HBr := Lib.hid hB
    clear hB
    by_cases hlt : k < L.length
    · have HV := Lib.hid (atV_yes hlt rfl)
      have HI := Lib.hid (idxF_dict HD.out hlt)
      have HX := Lib.hid (HRr.out.at hlt)
      obtain ⟨x, hx⟩ : ∃ x, L[k] = x := ⟨_, rfl⟩
      rw [hx] at HV HI HX
      clear hx
      obtain ⟨bb, ob, ha, hbb, h0⟩ := HX.out
      have hidx := idx_strs (some ⟨b, o, none⟩) bb ob L.length c k ha hlt
      have HX0 := Lib.hid h0
      clear ha h0 HX
      go_wp2_with fail
      refine (at_d HAr.out (k : Int)).mono ?_
      rintro e v1 ⟨he, hb⟩
      rw [HV.out] at he
      subst he
      have h0 := (hb.cell (p := ⟨bb, ob + k, none⟩) hbb).trans HX0.out
      replace HSr := Lib.hid (HSr.out.go hb); replace HAr := Lib.hid (HAr.out.go hb); replace HBr := Lib.hid (HBr.out.go hb)
      clear hb hbb
      go_wp2_with fail
      refine (index_d HAr.out x).mono ?_
      rintro e v2 ⟨he, hb⟩
      rw [HI.out] at he
      subst he
      replace HBr := Lib.hid (HBr.out.go hb)
      clear hb h0
      go_wp2
      go_roundw
      case rel => exact ⟨k + 1, by omega, by go_num, HBr.out⟩
      case measure => simp [intOf]; omega
    · by_cases hin : 0 ≤ i ∧ i < (L.length : Int)
      · have HV := Lib.hid (atV_yes (L := L) (k := i.toNat) (by omega) (i := i) (by omega))
        obtain ⟨x, hx⟩ : ∃ x, L[i.toNat]'(by omega) = x := ⟨_, rfl⟩
        rw [hx] at HV
        clear hx
        obtain ⟨g0, g1⟩ := hin
        go_wp2_with fail
        refine (at_d HAr.out i).mono ?_
        rintro e v1 ⟨he, hb⟩
        rw [HV.out] at he
        subst he
        replace HSr := Lib.hid (HSr.out.go hb)
        clear hb
        go_wp2
        go_ret
        exact ⟨rfl, HSr.out.out⟩
      · have HV := Lib.hid (atV_no hin)
        by_cases g0 : 0 ≤ i
        · have g1 : decide (i < (L.length : Int)) = false := decide_eq_false fun h => hin ⟨g0, h⟩
          clear hin
          go_wp2_with fail
          refine (at_d HAr.out i).mono ?_
          rintro e v1 ⟨he, hb⟩
          rw [HV.out] at he
          subst he
          replace HSr := Lib.hid (HSr.out.go hb)
          clear hb
          go_wp2
          go_ret
          exact ⟨rfl, HSr.out.out⟩
        · clear hin
          go_wp2_with fail
          refine (at_d HAr.out i).mono ?_
          rintro e v1 ⟨he, hb⟩
          rw [HV.out] at he
          subst he
          replace HSr := Lib.hid (HSr.out.go hb)
          clear hb
          go_wp2
          go_ret
          exact ⟨rfl, HSr.out.out⟩
end Go.Proofs.YtemdlfbcnnoglaaDoor
