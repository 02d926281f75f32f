/- DawgMatchesReference: the walk. -/
import Derived.Test.YtemdlfbcnnoglaaDoorDLawK
import Derived.Test.YtemdlfbcnnoglaaDoorDViews
namespace Go.Proofs.YtemdlfbcnnoglaaDoor
open Go.RowKit Go.WideShapes
set_option linter.unusedVariables false
set_option linter.unusedSimpArgs false

set_option maxHeartbeats 1600000 in
theorem walkMatch (Q : Nat → BR) (a : Option Addr) (len cap : Nat) (Z : Nat → Int) (ax : Option Addr) (lx cx : Nat) (w : World) (hQ : ByteRows w a len Q) (hl : len ≤ 9223372036854775807) (hZ : IsBytes w ax lx Z) (hlx : lx ≤ 9223372036854775807) (hT : Tab w) :
    Calls Tryd.prog 3 #[.slice a len cap, .slice ax lx cx] w fun e w' => e = .returned (.bool true) ∧ Below w.heap.size w w' := by
  have hs0 := Since.refl w
  have HQ := Lib.hid hQ; have HZ := Lib.hid hZ; have HT := Lib.hid hT; have HS := Lib.hid hs0
  clear hQ hZ hT hs0
  go_enter Tryd.func3, Tryd.ntmps3
  go_wp2_with fail
  refine (sanity_any w HT.out).mono ?_
  rintro e w1 ⟨rfl, hb⟩
  replace HQ := Lib.hid (HQ.out.go hb); replace HZ := Lib.hid (HZ.out.go hb); replace HT := Lib.hid (HT.out.go hb); replace HS := Lib.hid (HS.out.go hb)
  clear hb
  go_wp2_with fail
  refine (made_d 14 14 rfl (by decide) (by decide) HQ.out hl).mono ?_
  rintro e w2 ⟨L, b, o, c, -, rfl, hd, hm2, -, hc, hR, hb⟩
  replace HQ := Lib.hid (HQ.out.go hb); replace HZ := Lib.hid (HZ.out.go hb); replace HT := Lib.hid (HT.out.go hb); replace HS := Lib.hid (HS.out.go hb)
  clear hb
  have HR := Lib.hid hR; have HD := Lib.hid hd; clear hR hd
  go_wp2_with fail
  refine (build_d HD.out HR.out rfl hc HT.out).mono ?_
  rintro e w3 ⟨a3, n3, c3, rfl, hA, hb⟩
  replace HQ := Lib.hid (HQ.out.go hb); replace HZ := Lib.hid (HZ.out.go hb); replace HT := Lib.hid (HT.out.go hb); replace HS := Lib.hid (HS.out.go hb); replace HR := Lib.hid (HR.out.go hb)
  clear hb
  have HA := Lib.hid hA; clear hA
  go_wp2_with fail
  refine (of_d HD.out HR.out rfl hc).mono ?_
  rintro e w4 ⟨a4, n4, c4, rfl, hE, hb⟩
  replace HZ := Lib.hid (HZ.out.go hb); replace HT := Lib.hid (HT.out.go hb); replace HS := Lib.hid (HS.out.go hb); replace HR := Lib.hid (HR.out.go hb); replace HA := Lib.hid (HA.out.go hb)
  clear hb
  have HE := Lib.hid hE; clear hE
  go_wp2_with fail
  refine (same_d HA.out HE.out).mono ?_
  rintro e w5 ⟨he, hb⟩
  rw [decide_eq_true rfl] at he
  subst he
  replace HZ := Lib.hid (HZ.out.go hb); replace HT := Lib.hid (HT.out.go hb); replace HS := Lib.hid (HS.out.go hb); replace HR := Lib.hid (HR.out.go hb); replace HA := Lib.hid (HA.out.go hb)
  clear hb
  clear HE
  go_wp2_with fail
  refine (valid_d HA.out HT.out).mono ?_
  rintro e w6 ⟨rfl, hb⟩
  replace HZ := Lib.hid (HZ.out.go hb); replace HS := Lib.hid (HS.out.go hb); replace HR := Lib.hid (HR.out.go hb); replace HA := Lib.hid (HA.out.go hb)
  clear hb
  clear HT
  go_wp2_with fail
  refine (mkWord_any Z ax lx cx w6 HZ.out hlx).mono ?_
  rintro e w7 ⟨rfl, hb⟩
  replace HS := Lib.hid (HS.out.go hb); replace HR := Lib.hid (HR.out.go hb); replace HA := Lib.hid (HA.out.go hb)
  clear hb
  clear HZ
  obtain ⟨s, hs⟩ : ∃ s, wordF Z lx = s := ⟨_, rfl⟩
  have HW : Hid (wordB s = true ∧ s.size ≤ 4) := by show _ ∧ _; rw [← hs]; exact ⟨(wordF_ok Z lx).1, (wordF_ok Z lx).2.1⟩
  rw [hs]; clear hs
  go_wp2
  have hs7 : s.size ≤ 4 := HW.out.2
  go_loopw [10] (fun i wr => ∃ k : Nat, k ≤ s.size + 1 ∧ i = .int .i64 (k : Int) ∧ Since w7 wr) (fun i _ => 10 - (intOf i).toNat)
  case atStart => exact ⟨0, Nat.zero_le _, rfl, Since.refl _⟩
  case round =>
    obtain ⟨k, hk, rfl, hB⟩ := hrel
    have HB := Lib.hid hB.out
    have HSr := Lib.hid (HS.out.go hB.out); have HRr := Lib.hid (HR.out.go hB.out); have HAr := Lib.hid (HA.out.go hB.out)
    have HBr := Lib.hid hB
    clear hB HB
    by_cases hlt : k ≤ s.size
    · have hsl := str_to s k hlt
      obtain ⟨p, hp⟩ : ∃ p, s.extract 0 k = p := ⟨_, rfl⟩
      have HP : Hid (Ascii p) := by show Ascii p; rw [← hp]; exact ascii_extract HW.out.1 k
      rw [hp] at hsl
      clear hp
      go_wp2_with fail
      refine (has_d HAr.out p HP.out).mono ?_
      rintro e v1 ⟨rfl, hb⟩
      replace HSr := Lib.hid (HSr.out.go hb); replace HRr := Lib.hid (HRr.out.go hb); replace HAr := Lib.hid (HAr.out.go hb); replace HBr := Lib.hid (HBr.out.go hb)
      clear hb
      go_wp2_with fail
      refine (rindex_any L _ _ c p v1 HRr.out rfl (by omega)).mono ?_
      rintro e v2 ⟨rfl, hw⟩
      subst hw
      go_wp2_with fail
      refine (index_d HAr.out p).mono ?_
      rintro e v3 ⟨rfl, hb⟩
      replace HSr := Lib.hid (HSr.out.go hb); replace HRr := Lib.hid (HRr.out.go hb); replace HAr := Lib.hid (HAr.out.go hb); replace HBr := Lib.hid (HBr.out.go hb)
      clear hb
      go_wp2_with fail
      refine (rindex_any L _ _ c p v3 HRr.out rfl (by omega)).mono ?_
      rintro e v4 ⟨rfl, hw⟩
      subst hw
      go_wp2_with fail
      refine (count_d HAr.out p).mono ?_
      rintro e v5 ⟨rfl, hb⟩
      replace HSr := Lib.hid (HSr.out.go hb); replace HRr := Lib.hid (HRr.out.go hb); replace HAr := Lib.hid (HAr.out.go hb); replace HBr := Lib.hid (HBr.out.go hb)
      clear hb
      go_wp2_with fail
      refine (rcount_any L _ _ c p v5 HRr.out rfl (by omega) HD.out.size).mono ?_
      rintro e v6 ⟨rfl, hw⟩
      subst hw
      go_wp2
      go_roundw
      case rel => exact ⟨k + 1, by omega, by go_num, HBr.out⟩
      case measure => simp [intOf]; omega
    · go_wp2
      go_ret
      exact ⟨rfl, HSr.out.out⟩
theorem dawgMatchesReference_view (x : BytsA) (y : BytA) (w : World) (hx : BytsOk w x) (hy : BytOk w y) (hT : Tab w) :
    Calls Tryd.prog 3 #[x.val, y.val] w fun e w' => e = .returned (.bool true) ∧ Below w.heap.size w w' :=
  walkMatch x.Q x.a x.len x.cap y.Z y.a y.len y.cap w hx.rows hx.le hy.by' hy.le hT
end Go.Proofs.YtemdlfbcnnoglaaDoor
