/- DawgWords: the walk. -/
import Derived.Test.YtemdlfbcnnoglaaDoorDLawK
import Derived.Test.YtemdlfbcnnoglaaDoorDViews
namespace Go.Proofs.YtemdlfbcnnoglaaDoor
open Go.RowKit Go.WideShapes
set_option linter.unusedVariables false
set_option linter.unusedSimpArgs false

theorem ascii_A {s : ByteArray} (h : wordB s = true) : Ascii (s ++ ⟨#[65]⟩) := fun c hc => by
  have e : (s ++ ⟨#[65]⟩ : ByteArray).data.toList = s.data.toList ++ [65] := by rw [ByteArray.data_append, Array.toList_append]
  rw [e] at hc
  rcases List.mem_append.1 hc with hc | hc
  · have := (word_facts h).2.2 c hc; omega
  · rw [List.mem_singleton.1 hc]; decide
theorem ascii_word {s : ByteArray} (h : wordB s = true) : Ascii s := fun c hc => by
  have := (word_facts h).2.2 c hc; omega
set_option maxHeartbeats 1600000 in
theorem dawgWords_view (xl xm : BytsA) (y : BytA) (w : World) (hx : BytsOk w xl) (hm : BytsOk w xm) (hy : BytOk w y) (hT : Tab w) :
    Calls Tryd.prog 4 #[xl.val, xm.val, y.val] w fun e w' => e = .returned (.bool true) ∧ Below w.heap.size w w' := by
  obtain ⟨a, len, cap, Q⟩ := xl
  obtain ⟨a2, len2, cap2, Q2⟩ := xm
  obtain ⟨ax, lx, cx, Z⟩ := y
  obtain ⟨hQ, hl⟩ := hx
  obtain ⟨hQ2, hl2⟩ := hm
  obtain ⟨hZ, hlx⟩ := hy
  simp only at hQ hl hQ2 hl2 hZ hlx
  have hs0 := Since.refl w
  have HQ := Lib.hid hQ; have HQ2 := Lib.hid hQ2; have HZ := Lib.hid hZ; have HT := Lib.hid hT; have HS := Lib.hid hs0
  clear hQ hQ2 hZ hT hs0
  show Calls Tryd.prog 4 #[.slice a len cap, .slice a2 len2 cap2, .slice ax lx cx] w _
  go_enter Tryd.func4, Tryd.ntmps4
  go_wp2_with fail
  refine (sanity_any w HT.out).mono ?_
  rintro e w1 ⟨rfl, hb⟩
  replace HQ := Lib.hid (HQ.out.go hb); replace HQ2 := Lib.hid (HQ2.out.go hb); replace HZ := Lib.hid (HZ.out.go hb); replace HT := Lib.hid (HT.out.go hb); replace HS := Lib.hid (HS.out.go hb)
  clear hb
  go_wp2_with fail
  refine (made_d 14 14 rfl (by decide) (by decide) HQ.out hl).mono ?_
  rintro e w2 ⟨L, b, o, c, -, rfl, hd, hm2, -, hc, hR, hb⟩
  replace HQ := Lib.hid (HQ.out.go hb); replace HQ2 := Lib.hid (HQ2.out.go hb); replace HZ := Lib.hid (HZ.out.go hb); replace HT := Lib.hid (HT.out.go hb); replace HS := Lib.hid (HS.out.go hb)
  clear hb
  have HR := Lib.hid hR; have HD := Lib.hid hd; clear hR hd HQ
  go_wp2_with fail
  refine (made_d 14 14 rfl (by decide) (by decide) HQ2.out hl2).mono ?_
  rintro e w3 ⟨M, b2, o2, c2, -, rfl, hd, hn2, -, hc2, hR, hb⟩
  replace HQ2 := Lib.hid (HQ2.out.go hb); replace HZ := Lib.hid (HZ.out.go hb); replace HT := Lib.hid (HT.out.go hb); replace HS := Lib.hid (HS.out.go hb); replace HR := Lib.hid (HR.out.go hb)
  clear hb
  have HR2 := Lib.hid hR; have HD2 := Lib.hid hd; clear hR hd HQ2
  go_wp2_with fail
  refine (build_d HD.out HR.out rfl hc HT.out).mono ?_
  rintro e w4 ⟨a3, n3, c3, rfl, hA, hb⟩
  replace HZ := Lib.hid (HZ.out.go hb); replace HT := Lib.hid (HT.out.go hb); replace HS := Lib.hid (HS.out.go hb); replace HR := Lib.hid (HR.out.go hb); replace HR2 := Lib.hid (HR2.out.go hb)
  clear hb
  have HA := Lib.hid hA; clear hA
  go_wp2_with fail
  refine (build_d HD2.out HR2.out rfl hc2 HT.out).mono ?_
  rintro e w5 ⟨a4, n4, c4, rfl, hA, hb⟩
  replace HZ := Lib.hid (HZ.out.go hb); replace HT := Lib.hid (HT.out.go hb); replace HS := Lib.hid (HS.out.go hb); replace HR := Lib.hid (HR.out.go hb); replace HR2 := Lib.hid (HR2.out.go hb); replace HA := Lib.hid (HA.out.go hb)
  clear hb
  have HA2 := Lib.hid hA; clear hA HT
  go_wp2_with fail
  refine (words_d HA.out).mono ?_
  rintro e w6 ⟨a5, c5, rfl, hW, -, hb⟩
  replace HZ := Lib.hid (HZ.out.go hb); replace HS := Lib.hid (HS.out.go hb); replace HR := Lib.hid (HR.out.go hb); replace HR2 := Lib.hid (HR2.out.go hb); replace HA := Lib.hid (HA.out.go hb); replace HA2 := Lib.hid (HA2.out.go hb)
  clear hb
  have HW := Lib.hid hW; clear hW
  go_wp2_with fail
  refine (sameWords_any L L _ _ a5 _ c5 c w6 HW.out HR.out rfl rfl (by omega) (by omega)).mono ?_
  rintro e w7 ⟨he, hb⟩
  rw [decide_eq_true rfl] at he
  subst he
  replace HZ := Lib.hid (HZ.out.go hb); replace HS := Lib.hid (HS.out.go hb); replace HR := Lib.hid (HR.out.go hb); replace HR2 := Lib.hid (HR2.out.go hb); replace HA := Lib.hid (HA.out.go hb); replace HA2 := Lib.hid (HA2.out.go hb)
  clear hb
  clear HW
  obtain ⟨q, hq⟩ : ∃ q, decide (L = M) = q := ⟨_, rfl⟩
  have HEQ := Lib.hid hq; clear hq
  go_wp2_with fail
  refine (same_d HA.out HA2.out).mono ?_
  rintro e w8 ⟨he, hb⟩
  rw [HEQ.out] at he
  subst he
  replace HZ := Lib.hid (HZ.out.go hb); replace HS := Lib.hid (HS.out.go hb); replace HR := Lib.hid (HR.out.go hb); replace HR2 := Lib.hid (HR2.out.go hb); replace HA := Lib.hid (HA.out.go hb); replace HA2 := Lib.hid (HA2.out.go hb)
  clear hb
  clear HA2
  go_wp2_with fail
  refine (sameWords_any L M _ _ _ _ c c2 w8 HR.out HR2.out rfl rfl (by omega) (by omega)).mono ?_
  rintro e w9 ⟨he, hb⟩
  rw [HEQ.out] at he
  subst he
  replace HZ := Lib.hid (HZ.out.go hb); replace HS := Lib.hid (HS.out.go hb); replace HR := Lib.hid (HR.out.go hb); replace HR2 := Lib.hid (HR2.out.go hb); replace HA := Lib.hid (HA.out.go hb)
  clear hb
  clear HEQ
  have hqq : (q != q) = false := by cases q <;> rfl
  go_wp2
  clear hqq
  go_loopw [14] (fun i wr => ∃ k : Nat, k ≤ M.length ∧ i = .int .i64 (k : Int) ∧ Since w9 wr) (fun i _ => M.length - (intOf i).toNat)
  case atStart => exact ⟨0, Nat.zero_le _, rfl, Since.refl _⟩
  case round =>
    obtain ⟨k, hk, rfl, hB⟩ := hrel
    have HSr := Lib.hid (HS.out.go hB.out); have HRr := Lib.hid (HR.out.go hB.out); have HAr := Lib.hid (HA.out.go hB.out); have HZr := Lib.hid (HZ.out.go hB.out); have HR2r := Lib.hid (HR2.out.go hB.out)
    have HBr := Lib.hid hB
    clear hB
    by_cases hlt : k < M.length
    · obtain ⟨bb, ob, ha, hbb, h0⟩ := HR2r.out.at hlt
      have hidx := idx_strs (some ⟨b2, o2, none⟩) bb ob M.length c2 k ha hlt
      obtain ⟨x, hx⟩ : ∃ x, M[k] = x := ⟨_, rfl⟩
      have HAX : Hid (Ascii x) := by show Ascii x; rw [← hx]; exact ascii_word (HD2.out.word _ (List.getElem_mem hlt))
      rw [hx] at h0
      have HX0 := Lib.hid h0
      obtain ⟨i, hi⟩ : ∃ i, idxF L x = i := ⟨_, rfl⟩
      obtain ⟨q, hq⟩ : ∃ q, decide (0 ≤ i) = q := ⟨_, rfl⟩
      have HI := Lib.hid hi; have HQ := Lib.hid hq
      have hqq : (q != q) = false := by cases q <;> rfl
      clear hx h0 ha hi
      go_upto_region 10 with fail
      refine wp_region_rv (by kernel_rfl) (Vs [fun v _ => v = .slice a3 n3 c3, fun v _ => v = .slice (some ⟨b2, o2, none⟩) M.length c2, fun v _ => v = .int .i64 (k : Int), fun v _ => v = .pointer (some ⟨bb, ob + k, none⟩), fun v _ => v = .string x, fun v _ => v = .bool q, fun v _ => v = .slice (some ⟨b, o, none⟩) L.length c, fun v _ => v = .slice (some ⟨b2, o2, none⟩) M.length c2, fun v _ => v = .int .i64 (k : Int), fun v _ => v = .pointer (some ⟨bb, ob + k, none⟩), fun v _ => v = .string x, fun v _ => v = .int .i64 i, fun v _ => v = .bool q, fun v _ => v = .bool false]) (fun W => Below wr.heap.size wr W) 87 (by kernel_rfl) rfl ?hVx ?hSx ?hS (opsOk_all ?hop) ?hfin
      case hop =>
        refine ⟨?_, ?_, ?_, ?_, ?_, ?_, ?_, ?_, ?_, ?_, ?_, ?_, ?_, ?_, trivial⟩
        all_goals
          intro A W hsz hS hdep hbase
          have x0' := (hS.cell (p := ⟨bb, ob + k, none⟩) hbb).trans HX0.out
          have h8 : A.tmps.getD 8 undef = .slice (some ⟨b, o, none⟩) L.length c := hbase 8 (by kernel_rfl)
          have h9 : A.tmps.getD 9 undef = .slice (some ⟨b2, o2, none⟩) M.length c2 := hbase 9 (by kernel_rfl)
          have h10 : A.tmps.getD 10 undef = .slice a3 n3 c3 := hbase 10 (by kernel_rfl)
          have h14 : A.tmps.getD 14 undef = .int .i64 (k : Int) := hbase 14 (by kernel_rfl)
          clear hbase
          simp [slotOf, Region.binds, Vs] at hdep
        · refine opOk_run rfl (.inl ⟨_, W, ?_, rfl, Ext.refl _⟩); clear hsz hS; simp [go_sem, Act.eval, *]
        · refine opOk_run rfl (.inl ⟨_, W, ?_, rfl, Ext.refl _⟩); clear hsz hS; simp [go_sem, Act.eval, *]
        · refine opOk_run rfl (.inl ⟨_, W, ?_, rfl, Ext.refl _⟩); clear hsz hS; simp [go_sem, Act.eval, *]
        · refine opOk_run rfl (.inl ⟨_, W, ?_, rfl, Ext.refl _⟩); clear hsz hS; simp [go_sem, Act.eval, *]
        · refine opOk_run rfl (.inl ⟨_, W, ?_, rfl, Ext.refl _⟩); clear hsz hS; simp [go_sem, Act.eval, *]
        · refine opOk_run rfl (.inr ⟨18, #[.slice a3 n3 c3, .string x], W, by (clear hsz hS; simp [go_sem, Act.eval, *]), ?_⟩)
          refine (has_d (HAr.out.go hS) x HAX.out).mono ?_
          rintro e w' ⟨he, hb⟩
          rw [HI.out, HQ.out] at he
          exact ⟨_, he, rfl, hb⟩
        · refine opOk_run rfl (.inl ⟨_, W, ?_, rfl, Ext.refl _⟩); clear hsz hS; simp [go_sem, Act.eval, *]
        · refine opOk_run rfl (.inl ⟨_, W, ?_, rfl, Ext.refl _⟩); clear hsz hS; simp [go_sem, Act.eval, *]
        · refine opOk_run rfl (.inl ⟨_, W, ?_, rfl, Ext.refl _⟩); clear hsz hS; simp [go_sem, Act.eval, *]
        · refine opOk_run rfl (.inl ⟨_, W, ?_, rfl, Ext.refl _⟩); clear hsz hS; simp [go_sem, Act.eval, *]
        · refine opOk_run rfl (.inl ⟨_, W, ?_, rfl, Ext.refl _⟩); clear hsz hS; simp [go_sem, Act.eval, *]
        · refine opOk_run rfl (.inr ⟨19, #[.slice (some ⟨b, o, none⟩) L.length c, .string x], W, by (clear hsz hS; simp [go_sem, Act.eval, *]), ?_⟩)
          refine (rindex_any L _ _ c x W (HRr.out.go hS) rfl (by omega)).mono ?_
          rintro e w' ⟨he, rfl⟩
          rw [HI.out] at he
          exact ⟨_, he, rfl, Ext.refl _⟩
        · refine opOk_run rfl (.inl ⟨_, W, ?_, rfl, Ext.refl _⟩); clear hsz hS; simp [go_sem, Act.eval, *]
        · refine opOk_run rfl (.inl ⟨_, W, ?_, rfl, Ext.refl _⟩); clear hsz hS; simp [go_sem, Act.eval, *]
      case hVx => exact vs_stays (by simp only [List.mem_cons, List.not_mem_nil, or_false, forall_eq_or_imp, forall_eq]; exact ⟨stays_const _, stays_const _, stays_const _, stays_const _, stays_const _, stays_const _, stays_const _, stays_const _, stays_const _, stays_const _, stays_const _, stays_const _, stays_const _, stays_const _⟩)
      case hSx => exact fun W W' h hx => h.trans (Below.mono hx h.size)
      case hS => exact Below.refl _ _
      case hfin =>
        intro A W hsz hdf hS hv hbase
        obtain ⟨x, hx, hA⟩ := act_puts [59, 60, 61, 62, 63, 64, 65, 66, 67, 68, 69, 70, 71, 72] (by kernel_rfl) hsz hdf hbase
        have e72 : x 72 = .bool false := (hx 72).trans (hv 13 (by decide))
        rw [hA]
        simp only [List.foldl]
        rw [e72]
        clear e72
        simp only [Act.put, List.setIfInBounds_toArray, List.set_cons_succ, List.set_cons_zero]
        clear hA hx hv hbase hsz hdf
        have HBX := Lib.hid (HBr.out.go hS)
        clear hS
        go_wp2_with fail
        go_roundw
        case rel => exact ⟨k + 1, by omega, by go_num, HBX.out⟩
        case measure => simp [intOf]; omega
    · clear HR2r HBr
      go_wp2_with fail
      refine (mkWord_any Z ax lx cx wr HZr.out hlx).mono ?_
      rintro e v1 ⟨rfl, hb⟩
      replace HSr := Lib.hid (HSr.out.go hb); replace HRr := Lib.hid (HRr.out.go hb); replace HAr := Lib.hid (HAr.out.go hb)
      clear hb
      obtain ⟨s, hs⟩ : ∃ s, wordF Z lx = s := ⟨_, rfl⟩
      have HP : Hid (Ascii (s ++ ⟨#[65]⟩)) := by show Ascii _; rw [← hs]; exact ascii_A (wordF_ok Z lx).1
      have hsz : s.size ≤ 4 := by rw [← hs]; exact (wordF_ok Z lx).2.1
      rw [hs]; clear hs
      go_wp2_with fail
      refine (has_d HAr.out _ HP.out).mono ?_
      rintro e v2 ⟨rfl, hb⟩
      replace HSr := Lib.hid (HSr.out.go hb); replace HRr := Lib.hid (HRr.out.go hb)
      clear hb
      go_wp2_with fail
      refine (rindex_any L _ _ c _ v2 HRr.out rfl (by omega)).mono ?_
      rintro e v3 ⟨rfl, hw⟩
      subst hw
      obtain ⟨i, hi⟩ : ∃ i, idxF L (s ++ ⟨#[65]⟩) = i := ⟨_, rfl⟩
      rw [hi]
      clear hi
      go_wp2
      go_ret
      exact ⟨rfl, HSr.out.out⟩
end Go.Proofs.YtemdlfbcnnoglaaDoor
