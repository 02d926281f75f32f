
/- PackWords: the walk. -/
import Derived.Test.YtocdljmdmiphnaaDoorPG
namespace Go.Proofs.YtocdljmdmiphnaaDoor
open Go.RowKit Go.WideShapes
set_option linter.unusedVariables false
set_option linter.unusedSimpArgs false

theorem Dict.ne {L : List ByteArray} (h : Dict L) {j k : Nat} (hj : j < L.length) (hk : k < L.length) (hjk : j < k) : L[j] ≠ L[k] := fun e => by
  have := List.pairwise_iff_getElem.1 h.sorted j k hj hk hjk
  rw [e, ltS_irr] at this
  cases this
theorem idxF_dict {L : List ByteArray} (h : Dict L) {k : Nat} (hk : k < L.length) : idxF L L[k] = (k : Int) :=
  idxF_at hk (fun j hj hjk => h.ne hj hk hjk) rfl
def StrRow (L : List ByteArray) (v : Value) (w : World) : Prop := ∃ a c, v = .slice a L.length c ∧ StrS w a L
theorem strRow_stays (L : List ByteArray) : Stays (StrRow L) := by
  rintro v w w' ⟨a, c, h, hs⟩ hx
  exact ⟨a, c, h, hs.go hx⟩
set_option maxHeartbeats 3200000 in
set_option maxRecDepth 100000 in
theorem packWords_view (xl : BytsA) (y : UintA) (k : Int) (w : World) (hx : BytsOk w xl) (hy : UintOk w y) (hk0 : 0 ≤ k) (hk1 : k ≤ 255) (hT : Tab w) :
    Calls Tryd.prog 9 #[xl.val, y.val, .int .u8 k] w fun e w' => e = .returned (.bool true) ∧ Below w.heap.size w w' := by
  obtain ⟨a, len, cap, Q⟩ := xl
  obtain ⟨a2, len2, cap2, Z⟩ := y
  obtain ⟨hQ, hl⟩ := hx
  obtain ⟨hZ, hl2⟩ := hy
  simp only at hQ hl hZ hl2
  have hs0 := Since.refl w
  have HQ := Lib.hid hQ; have HZ := Lib.hid hZ; have HT := Lib.hid hT; have HS := Lib.hid hs0
  clear hQ hZ hT hs0
  have hwk : IntKind.i64.wrap k = k := IntWalk.i64_in k (by omega)
  show Calls Tryd.prog 9 #[.slice a len cap, .slice a2 len2 cap2, .int .u8 k] w _
  go_enter Tryd.func9, Tryd.ntmps9
  go_wp2_with fail
  refine (psanity_any w HT.out).mono ?_
  rintro e w1 ⟨rfl, hb⟩
  replace HQ := Lib.hid (HQ.out.go hb); replace HZ := Lib.hid (HZ.out.go hb); replace HT := Lib.hid (HT.out.go hb); replace HS := Lib.hid (HS.out.go hb)
  clear hb
  go_wp2_with fail
  refine (made_d 12 12 rfl (by decide) (by decide) HQ.out hl).mono ?_
  rintro e w2 ⟨L, b, o, c, -, rfl, hd, hm, hs4, hc, hR, hb⟩
  replace HQ := Lib.hid (HQ.out.go hb); replace HZ := Lib.hid (HZ.out.go hb); replace HT := Lib.hid (HT.out.go hb); replace HS := Lib.hid (HS.out.go hb)
  clear hb
  have HR := Lib.hid hR; have HD := Lib.hid hd; obtain ⟨hn70, hzA, hfl⟩ := small_dict hd hm hs4; have HZA := Lib.hid hzA; have HFL := Lib.hid hfl; have hl1 := hd.1; clear hR hd HQ hs4 hzA hfl hn70
  go_wp2_with fail
  refine (build_d HD.out HR.out rfl hc HT.out).mono ?_
  rintro e w3 ⟨a3, n3, c3, rfl, hA, hb⟩
  replace HZ := Lib.hid (HZ.out.go hb); replace HT := Lib.hid (HT.out.go hb); replace HS := Lib.hid (HS.out.go hb); replace HR := Lib.hid (HR.out.go hb)
  clear hb
  have HA := Lib.hid hA; clear hA
  go_wp2_with fail
  refine (rmade_any Z a2 len2 cap2 L.length w3 HZ.out hl2 (by omega)).mono ?_
  rintro e w4 ⟨a4, c4, rfl, hC, hb⟩
  replace HT := Lib.hid (HT.out.go hb); replace HS := Lib.hid (HS.out.go hb); replace HR := Lib.hid (HR.out.go hb); replace HA := Lib.hid (HA.out.go hb)
  clear hb
  have HCO := Lib.hid (mkC_ok HZ.out L.length)
  obtain ⟨cn, hcn⟩ : ∃ cn, mkC Z len2 L.length = cn := ⟨_, rfl⟩
  rw [hcn] at HCO hC
  have HC := Lib.hid hC
  clear hcn hC HZ
  go_wp2_with fail
  refine (pack_yes HA.out HZA.out HC.out HCO.out HT.out).mono ?_
  rintro e w5 ⟨a5, n5, c5, rfl, hB, hb⟩
  replace HT := Lib.hid (HT.out.go hb); replace HS := Lib.hid (HS.out.go hb); replace HR := Lib.hid (HR.out.go hb); replace HC := Lib.hid (HC.out.go hb)
  clear hb
  have HB := Lib.hid hB; clear hB HA; have HPS := Lib.hid (pack_small HFL.out hm HCO.out)
  go_wp2_with fail
  refine (unpack_d HB.out (by have := HPS.out; omega) HT.out).mono ?_
  rintro e w6 ⟨hp, hb⟩
  replace HT := Lib.hid (HT.out.go hb); replace HS := Lib.hid (HS.out.go hb); replace HR := Lib.hid (HR.out.go hb); replace HC := Lib.hid (HC.out.go hb)
  clear hb
  rw [unpF_yes (isPack_mk HD.out HCO.out)] at hp
  obtain ⟨aD, cD, aC, cC, rfl, hcD, hcC, hdw, hown⟩ := hp
  clear HB HPS
  have hA6 : AutS w6 aD (ofF (restAt 0 L)).length cD L := ⟨HD.out, rfl, hcD, hdw⟩
  have hC6 : CntS w6 aC cn.length cC cn := ⟨hown.ints.1, rfl, hcC⟩
  have HA6 := Lib.hid hA6; have HC6 := Lib.hid hC6
  have hlc := HCO.out.1
  rw [hlc] at hC6 HC6
  rw [hlc]
  obtain ⟨nD, hnD⟩ : ∃ nD, (ofF (restAt 0 L)).length = nD := ⟨_, rfl⟩
  rw [hnD] at HA6 ⊢
  clear hA6 hC6 hcD hcC hdw hown hnD
  go_wp2_with fail
  refine (rvalid_n (ofF (restAt 0 L)) nD aD cD w6 HA6.out.len HA6.out.rows (by have := HA6.out.small; omega) (csOk_of HD.out)).mono ?_
  rintro e w7 ⟨he, hb⟩
  rw [valid_of HD.out] at he
  subst he
  replace HS := Lib.hid (HS.out.go hb); replace HR := Lib.hid (HR.out.go hb); replace HC := Lib.hid (HC.out.go hb); replace HC6 := Lib.hid (HC6.out.go hb); replace HA6 := Lib.hid (HA6.out.go hb)
  clear hb
  clear HT
  obtain ⟨j, hj⟩ : ∃ j : Nat, k.tmod (L.length : Int) = (j : Int) := ⟨(k.tmod (L.length : Int)).toNat, by have := Int.tmod_nonneg (L.length : Int) hk0; omega⟩
  have hjl : j < L.length := by have := Int.tmod_lt_of_pos k (show (0 : Int) < (L.length : Int) by omega); omega
  obtain ⟨bb, ob, ha, hbb, h0⟩ := HR.out.at hjl
  have hidx := idx_strs (some ⟨b, o, none⟩) bb ob L.length c j ha hjl
  have HI := Lib.hid (idxF_dict HD.out hjl)
  obtain ⟨x, hx⟩ : ∃ x, L[j] = x := ⟨_, rfl⟩
  rw [hx] at h0 HI
  have hne : ((L.length : Int) != 0) = true := bne_iff_ne.2 (by omega)
  clear ha hx
  go_wp2_with fail
  refine (index_d HA6.out x).mono ?_
  rintro e w8 ⟨he, hb⟩
  rw [HI.out] at he
  subst he
  replace HS := Lib.hid (HS.out.go hb); replace HR := Lib.hid (HR.out.go hb); replace HC := Lib.hid (HC.out.go hb); replace HC6 := Lib.hid (HC6.out.go hb); replace HA6 := Lib.hid (HA6.out.go hb)
  clear hb hidx h0 hbb
  have hjc : j < cn.length := by omega
  obtain ⟨b6, o6, ha6, hb6, q6⟩ := HC6.out.ints.at hjc
  obtain ⟨b4, o4, ha4, hb4, q4⟩ := HC.out.ints.at hjc
  have hidx6 := idx_ints aC b6 o6 L.length cC j ha6 hjl
  have hidx4 := idx_ints a4 b4 o4 L.length c4 j ha4 hjl
  obtain ⟨z, hz⟩ : ∃ z, cn[j] = z := ⟨_, rfl⟩
  rw [hz] at q6 q4
  have HQ6 := Lib.hid q6; have HQ4 := Lib.hid q4
  clear hz ha6 ha4 q6 q4
  have hlne : ¬ L = [] := fun e => by rw [e] at hl1; simp at hl1
  go_upto_region 11 with fail
  refine wp_region_st (by kernel_rfl) (Vs [fun v _ => v = .bool true, fun v _ => v = .bool true, fun v _ => v = .int .i64 (j : Int), fun v _ => v = .int .u8 k, fun v _ => v = .int .i64 k, fun v _ => v = .slice (some ⟨b, o, none⟩) L.length c, fun v _ => v = .int .i64 (L.length : Int), fun v _ => v = .int .i64 (j : Int), fun v _ => v = .bool true, fun v _ => v = .bool true, fun v _ => v = .bool true, fun v _ => v = .slice aC L.length cC, fun v _ => v = .int .i64 (j : Int), fun v _ => v = .pointer (some ⟨b6, o6 + j, none⟩), fun v _ => v = .int .i64 z, fun v _ => v = .slice a4 L.length c4, fun v _ => v = .int .i64 (j : Int), fun v _ => v = .pointer (some ⟨b4, o4 + j, none⟩), fun v _ => v = .int .i64 z, fun v _ => v = .bool true, fun v _ => v = .bool true, fun v _ => v = .bool true, fun v _ => v = .slice aD nD cD, StrRow L, fun v _ => v = .slice (some ⟨b, o, none⟩) L.length c, fun v _ => v = .bool true, fun v _ => v = .bool true, fun v _ => v = .bool true]) (Xs [Ext, Ext, Ext, Ext, Ext, Ext, Ext, Ext, Ext, Ext, Ext, Ext, Ext, Ext, Ext, Ext, Ext, Ext, Ext, Ext, Ext, Ext, Ext, Ext, Ext, Ext, Ext, Ext]) (fun fL => (fun W => Below w8.heap.size w8 W) ) [0, 1, 3, 3, 11, 3, 35, 123, 255, 511, 1023, 2047, 2047, 8191, 16383, 2047, 2047, 100351, 231423, 524287, 1048575, 2097151, 4194303, 8388607, 4194303, 33554431, 67108863, 134217727] 103 28 (by kernel_rfl) rfl ?hV ?hS ?hop ?hfin ?hlast
  case hV =>
    refine xs_stays (vs_stays (by simp only [List.mem_cons, List.not_mem_nil, or_false, forall_eq_or_imp, forall_eq]; exact ⟨stays_const _, stays_const _, stays_const _, stays_const _, stays_const _, stays_const _, stays_const _, stays_const _, stays_const _, stays_const _, stays_const _, stays_const _, stays_const _, stays_const _, stays_const _, stays_const _, stays_const _, stays_const _, stays_const _, stays_const _, stays_const _, stays_const _, stays_const _, strRow_stays L, stays_const _, stays_const _, stays_const _, stays_const _⟩)) ?_
    exact ⟨.inl rfl, .inl rfl, .inl rfl, .inl rfl, .inl rfl, .inl rfl, .inl rfl, .inl rfl, .inl rfl, .inl rfl, .inl rfl, .inl rfl, .inl rfl, .inl rfl, .inl rfl, .inl rfl, .inl rfl, .inl rfl, .inl rfl, .inl rfl, .inl rfl, .inl rfl, .inl rfl, .inl rfl, .inl rfl, .inl rfl, .inl rfl, .inl rfl, trivial⟩
  case hS =>
    intro fL hf
    show (fun W => Below w8.heap.size w8 W)  _
    exact (Below.refl _ w8).drew
  case hop =>
    refine ⟨?_, ?_, ?c2, ?c3, ?c4, ?c5, ?c6, ?c7, ?c8, ?_, ?_, ?c11, ?c12, ?c13, ?c14, ?c15, ?c16, ?c17, ?c18, ?c19, ?_, ?_, ?c22, ?c23, ?c24, ?c25, ?_, ?_, trivial⟩
    all_goals first | rw [if_neg (by decide)] | rw [if_pos (by decide)]
    all_goals try intro ac W fL hsz hfi hms hdn hS0 hdep hbase hund
    all_goals try have hS : (fun W => Below w8.heap.size w8 W)  W := hS0
    all_goals try (
      have x6 := (hS.cell (p := ⟨b6, o6 + j, none⟩) hb6).trans HQ6.out
      have x4 := (hS.cell (p := ⟨b4, o4 + j, none⟩) hb4).trans HQ4.out)
    all_goals try (have h7 : ac.tmps.getD 7 undef = .bool true := hbase 7 (by kernel_rfl); have hh7 := h7; rw [Array.getD_eq_getD_getElem?] at hh7)
    all_goals try (have h18 : ac.tmps.getD 18 undef = .int .i64 (j : Int) := hbase 18 (by kernel_rfl); have hh18 := h18; rw [Array.getD_eq_getD_getElem?] at hh18)
    all_goals try (have h2 : ac.tmps.getD 2 undef = .int .u8 k := hbase 2 (by kernel_rfl); have hh2 := h2; rw [Array.getD_eq_getD_getElem?] at hh2)
    all_goals try (have h8 : ac.tmps.getD 8 undef = .slice (some ⟨b, o, none⟩) L.length c := hbase 8 (by kernel_rfl); have hh8 := h8; rw [Array.getD_eq_getD_getElem?] at hh8)
    all_goals try (have h15 : ac.tmps.getD 15 undef = .slice aC L.length cC := hbase 15 (by kernel_rfl); have hh15 := h15; rw [Array.getD_eq_getD_getElem?] at hh15)
    all_goals try (have h11 : ac.tmps.getD 11 undef = .slice a4 L.length c4 := hbase 11 (by kernel_rfl); have hh11 := h11; rw [Array.getD_eq_getD_getElem?] at hh11)
    all_goals try (have h14 : ac.tmps.getD 14 undef = .slice aD nD cD := hbase 14 (by kernel_rfl); have hh14 := h14; rw [Array.getD_eq_getD_getElem?] at hh14)
    all_goals try (have d76 : ac.tmps.getD 76 undef = .bool true := hdep 0 (by decide); have dd76 := d76; rw [Array.getD_eq_getD_getElem?] at dd76)
    all_goals try (have d77 : ac.tmps.getD 77 undef = .bool true := hdep 1 (by decide); have dd77 := d77; rw [Array.getD_eq_getD_getElem?] at dd77)
    all_goals try (have d78 : ac.tmps.getD 78 undef = .int .i64 (j : Int) := hdep 2 (by decide); have dd78 := d78; rw [Array.getD_eq_getD_getElem?] at dd78)
    all_goals try (have d79 : ac.tmps.getD 79 undef = .int .u8 k := hdep 3 (by decide); have dd79 := d79; rw [Array.getD_eq_getD_getElem?] at dd79)
    all_goals try (have d80 : ac.tmps.getD 80 undef = .int .i64 k := hdep 4 (by decide); have dd80 := d80; rw [Array.getD_eq_getD_getElem?] at dd80)
    all_goals try (have d81 : ac.tmps.getD 81 undef = .slice (some ⟨b, o, none⟩) L.length c := hdep 5 (by decide); have dd81 := d81; rw [Array.getD_eq_getD_getElem?] at dd81)
    all_goals try (have d82 : ac.tmps.getD 82 undef = .int .i64 (L.length : Int) := hdep 6 (by decide); have dd82 := d82; rw [Array.getD_eq_getD_getElem?] at dd82)
    all_goals try (have d83 : ac.tmps.getD 83 undef = .int .i64 (j : Int) := hdep 7 (by decide); have dd83 := d83; rw [Array.getD_eq_getD_getElem?] at dd83)
    all_goals try (have d84 : ac.tmps.getD 84 undef = .bool true := hdep 8 (by decide); have dd84 := d84; rw [Array.getD_eq_getD_getElem?] at dd84)
    all_goals try (have d85 : ac.tmps.getD 85 undef = .bool true := hdep 9 (by decide); have dd85 := d85; rw [Array.getD_eq_getD_getElem?] at dd85)
    all_goals try (have d86 : ac.tmps.getD 86 undef = .bool true := hdep 10 (by decide); have dd86 := d86; rw [Array.getD_eq_getD_getElem?] at dd86)
    all_goals try (have d87 : ac.tmps.getD 87 undef = .slice aC L.length cC := hdep 11 (by decide); have dd87 := d87; rw [Array.getD_eq_getD_getElem?] at dd87)
    all_goals try (have d88 : ac.tmps.getD 88 undef = .int .i64 (j : Int) := hdep 12 (by decide); have dd88 := d88; rw [Array.getD_eq_getD_getElem?] at dd88)
    all_goals try (have d89 : ac.tmps.getD 89 undef = .pointer (some ⟨b6, o6 + j, none⟩) := hdep 13 (by decide); have dd89 := d89; rw [Array.getD_eq_getD_getElem?] at dd89)
    all_goals try (have d90 : ac.tmps.getD 90 undef = .int .i64 z := hdep 14 (by decide); have dd90 := d90; rw [Array.getD_eq_getD_getElem?] at dd90)
    all_goals try (have d91 : ac.tmps.getD 91 undef = .slice a4 L.length c4 := hdep 15 (by decide); have dd91 := d91; rw [Array.getD_eq_getD_getElem?] at dd91)
    all_goals try (have d92 : ac.tmps.getD 92 undef = .int .i64 (j : Int) := hdep 16 (by decide); have dd92 := d92; rw [Array.getD_eq_getD_getElem?] at dd92)
    all_goals try (have d93 : ac.tmps.getD 93 undef = .pointer (some ⟨b4, o4 + j, none⟩) := hdep 17 (by decide); have dd93 := d93; rw [Array.getD_eq_getD_getElem?] at dd93)
    all_goals try (have d94 : ac.tmps.getD 94 undef = .int .i64 z := hdep 18 (by decide); have dd94 := d94; rw [Array.getD_eq_getD_getElem?] at dd94)
    all_goals try (have d95 : ac.tmps.getD 95 undef = .bool true := hdep 19 (by decide); have dd95 := d95; rw [Array.getD_eq_getD_getElem?] at dd95)
    all_goals try (have d96 : ac.tmps.getD 96 undef = .bool true := hdep 20 (by decide); have dd96 := d96; rw [Array.getD_eq_getD_getElem?] at dd96)
    all_goals try (have d97 : ac.tmps.getD 97 undef = .bool true := hdep 21 (by decide); have dd97 := d97; rw [Array.getD_eq_getD_getElem?] at dd97)
    all_goals try (have d98 : ac.tmps.getD 98 undef = .slice aD nD cD := hdep 22 (by decide); have dd98 := d98; rw [Array.getD_eq_getD_getElem?] at dd98)
    all_goals try have d99 : (StrRow L) (ac.tmps.getD 99 undef) W := hdep 23 (by decide)
    all_goals try (have d100 : ac.tmps.getD 100 undef = .slice (some ⟨b, o, none⟩) L.length c := hdep 24 (by decide); have dd100 := d100; rw [Array.getD_eq_getD_getElem?] at dd100)
    all_goals try (have d101 : ac.tmps.getD 101 undef = .bool true := hdep 25 (by decide); have dd101 := d101; rw [Array.getD_eq_getD_getElem?] at dd101)
    all_goals try (have d102 : ac.tmps.getD 102 undef = .bool true := hdep 26 (by decide); have dd102 := d102; rw [Array.getD_eq_getD_getElem?] at dd102)
    all_goals try clear hbase hdep hms hdn hund
    case c2 => refine opOk_runG (j := 1) (d := 77) (b := true) rfl (by kernel_rfl) dd77 rfl (.inl ⟨_, W, ?_, rfl, Ext.refl _, hS0⟩); clear hsz hS hS0 hfi; simp [go_sem, Act.eval, *]
    case c3 => refine opOk_runG (j := 1) (d := 77) (b := true) rfl (by kernel_rfl) dd77 rfl (.inl ⟨_, W, ?_, rfl, Ext.refl _, hS0⟩); clear hsz hS hS0 hfi; simp [go_sem, Act.eval, *]
    case c4 => refine opOk_runG (j := 1) (d := 77) (b := true) rfl (by kernel_rfl) dd77 rfl (.inl ⟨_, W, ?_, rfl, Ext.refl _, hS0⟩); clear hsz hS hS0 hfi; simp [go_sem, Act.eval, *]
    case c5 => refine opOk_runG (j := 1) (d := 77) (b := true) rfl (by kernel_rfl) dd77 rfl (.inl ⟨_, W, ?_, rfl, Ext.refl _, hS0⟩); clear hsz hS hS0 hfi; simp [go_sem, Act.eval, *]
    case c6 => refine opOk_runG (j := 1) (d := 77) (b := true) rfl (by kernel_rfl) dd77 rfl (.inl ⟨_, W, ?_, rfl, Ext.refl _, hS0⟩); clear hsz hS hS0 hfi; simp [go_sem, Act.eval, *]
    case c7 => refine opOk_runG (j := 1) (d := 77) (b := true) rfl (by kernel_rfl) dd77 rfl (.inl ⟨_, W, ?_, rfl, Ext.refl _, hS0⟩); clear hsz hS hS0 hfi; simp [go_sem, Act.eval, *]
    case c8 => refine opOk_runG (j := 1) (d := 77) (b := true) rfl (by kernel_rfl) dd77 rfl (.inl ⟨_, W, ?_, rfl, Ext.refl _, hS0⟩); clear hsz hS hS0 hfi; simp [go_sem, Act.eval, *]
    case c11 => refine opOk_runG (j := 10) (d := 86) (b := true) rfl (by kernel_rfl) dd86 rfl (.inl ⟨_, W, ?_, rfl, Ext.refl _, hS0⟩); clear hsz hS hS0 hfi; simp [go_sem, Act.eval, *]
    case c12 => refine opOk_runG (j := 10) (d := 86) (b := true) rfl (by kernel_rfl) dd86 rfl (.inl ⟨_, W, ?_, rfl, Ext.refl _, hS0⟩); clear hsz hS hS0 hfi; simp [go_sem, Act.eval, *]
    case c13 => refine opOk_runG (j := 10) (d := 86) (b := true) rfl (by kernel_rfl) dd86 rfl (.inl ⟨_, W, ?_, rfl, Ext.refl _, hS0⟩); clear hsz hS hS0 hfi; simp [go_sem, Act.eval, *]
    case c14 => refine opOk_runG (j := 10) (d := 86) (b := true) rfl (by kernel_rfl) dd86 rfl (.inl ⟨_, W, ?_, rfl, Ext.refl _, hS0⟩); clear hsz hS hS0 hfi; simp [go_sem, Act.eval, *]
    case c15 => refine opOk_runG (j := 10) (d := 86) (b := true) rfl (by kernel_rfl) dd86 rfl (.inl ⟨_, W, ?_, rfl, Ext.refl _, hS0⟩); clear hsz hS hS0 hfi; simp [go_sem, Act.eval, *]
    case c16 => refine opOk_runG (j := 10) (d := 86) (b := true) rfl (by kernel_rfl) dd86 rfl (.inl ⟨_, W, ?_, rfl, Ext.refl _, hS0⟩); clear hsz hS hS0 hfi; simp [go_sem, Act.eval, *]
    case c17 => refine opOk_runG (j := 10) (d := 86) (b := true) rfl (by kernel_rfl) dd86 rfl (.inl ⟨_, W, ?_, rfl, Ext.refl _, hS0⟩); clear hsz hS hS0 hfi; simp [go_sem, Act.eval, *]
    case c18 => refine opOk_runG (j := 10) (d := 86) (b := true) rfl (by kernel_rfl) dd86 rfl (.inl ⟨_, W, ?_, rfl, Ext.refl _, hS0⟩); clear hsz hS hS0 hfi; simp [go_sem, Act.eval, *]
    case c19 => refine opOk_runG (j := 10) (d := 86) (b := true) rfl (by kernel_rfl) dd86 rfl (.inl ⟨_, W, ?_, rfl, Ext.refl _, hS0⟩); clear hsz hS hS0 hfi; simp [go_sem, Act.eval, *]
    case c22 => refine opOk_runG (j := 21) (d := 97) (b := true) rfl (by kernel_rfl) dd97 rfl (.inl ⟨_, W, ?_, rfl, Ext.refl _, hS0⟩); clear hsz hS hS0 hfi; simp [go_sem, Act.eval, *]
    case c23 =>
      refine opOk_runG (j := 21) (d := 97) (b := true) rfl (by kernel_rfl) dd97 rfl (.inr ⟨26, #[.slice aD nD cD], W, by (clear hsz hS hS0 hfi; simp [go_sem, Act.eval, *]), ?_⟩)
      refine (words_d (HA6.out.go hS)).mono ?_
      rintro e w9 ⟨a1, c1, rfl, hs, hc1, hb9⟩
      exact ⟨_, rfl, ⟨a1, c1, rfl, hs⟩, hb9, Below.trans hS (Below.mono hb9 hS.size)⟩
    case c24 => refine opOk_runG (j := 21) (d := 97) (b := true) rfl (by kernel_rfl) dd97 rfl (.inl ⟨_, W, ?_, rfl, Ext.refl _, hS0⟩); clear hsz hS hS0 hfi; simp [go_sem, Act.eval, *]
    case c25 =>
      obtain ⟨a1, c1, e99, hg99⟩ := d99
      have dd99 := e99
      rw [Array.getD_eq_getD_getElem?] at dd99
      refine opOk_runG (j := 21) (d := 97) (b := true) rfl (by kernel_rfl) dd97 rfl (.inr ⟨20, #[.slice a1 L.length c1, .slice (some ⟨b, o, none⟩) L.length c], W, by (clear hsz hS hS0 hfi hg99; simp [go_sem, Act.eval, *]), ?_⟩)
      refine (sameWords_any L L _ _ _ _ _ _ W hg99 (HR.out.go hS) rfl rfl (by omega) (by omega)).mono ?_
      rintro e w9 ⟨he, hb9⟩
      rw [decide_eq_true rfl] at he
      subst he
      exact ⟨_, rfl, rfl, hb9, Below.trans hS (Below.mono hb9 hS.size)⟩
    all_goals (refine opOk_run rfl (.inl ⟨_, W, ?_, rfl, Ext.refl _, hS0⟩); clear hsz hS hS0 hfi; simp [go_sem, Act.eval, *]; done)
  case hlast =>
    intro h; exact absurd rfl h
  case hfin =>
    intro _ ac W hsz hdf fL hf hS0 hv hbase
    have hS : (fun W => Below w8.heap.size w8 W)  W := hS0
    clear hS0
    obtain ⟨sx, hsx, hsA⟩ := act_puts [76, 77, 78, 79, 80, 81, 82, 83, 84, 85, 86, 87, 88, 89, 90, 91, 92, 93, 94, 95, 96, 97, 98, 99, 100, 101, 102, 6] (by kernel_rfl) hsz hdf hbase
    have e6 : sx 6 = .bool true := (hsx 6).trans (hv 27 (by decide))
    rw [hsA]
    simp only [List.foldl]
    rw [e6]
    clear e6
    simp only [Act.put, List.setIfInBounds_toArray, List.set_cons_succ, List.set_cons_zero]
    clear hsA hsx hv hbase hsz hdf hf
    have HSr := Lib.hid (HS.out.go hS)
    clear hS
    go_wp2
    go_ret
    exact ⟨rfl, HSr.out.out⟩
end Go.Proofs.YtocdljmdmiphnaaDoor
