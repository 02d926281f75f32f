/- The walk of FlawDead: true. -/
import Derived.Test.YtogjcfcfgnbmkaaLawB
import Derived.Test.YtogjcfcfgnbmkaaViews
namespace Go.Proofs.Ytogjcfcfgnbmkaa
open Go.RowKit
set_option linter.unusedVariables false
set_option linter.unusedSimpArgs false

set_option maxHeartbeats 3200000 in
set_option maxRecDepth 100000 in
theorem flawDead_any (M A : Int) (a : Option Addr) (len cap : Nat) (Z : Nat → Nat → Int) (al : Option Addr) (ll cl : Nat) (Zb : Nat → Int) (w : World) (hM0 : 0 ≤ M) (hM1 : M ≤ 255) (hA0 : 0 ≤ A) (hA1 : A ≤ 255) (hZ : IsRows .u8 3 w a len Z) (hZb : IsBytes w al ll Zb) (hll : ll ≤ 9223372036854775807) :
    Calls Try.prog 5 #[.agg #[.int .u8 M, .int .u8 A, .slice a len cap], .slice al ll cl] w fun e w' => e = .returned (.bool true) ∧ Below w.heap.size w w' := by
  have HZ := Lib.hid hZ; have HZb := Lib.hid hZb; clear hZ hZb
  go_enter Try.func5, Try.ntmps5
  go_wp2_with fail
  refine (sanity_any _).mono ?_
  rintro e w1 ⟨rfl, hb⟩
  obtain ⟨hz, hc, hf⟩ := bcell hb (by first | (simp only [World.size_alloc]; rfl) | rfl)
  have hB := below_call (B := w.heap.size) (w := w) (by go_grown) hb (Nat.le_refl _)
  have HAL1 : Hid (Below (w.heap.size + 1) (w.alloc (.cells #[.int .u8 M, .int .u8 A, .slice a len cap] 24)) w1) := hb.mono (by simp only [World.size_alloc]; omega)
  clear hb
  go_wp2_with fail
  refine (made_any M A a len cap _ hM0 hM1 hA0 hA1 Z (isRows_later HZ.out hB (Nat.le_refl _))).mono ?_
  rintro e w2 ⟨S, b, c, rfl, hv, hm1, hm5, ha0, ha1, hl12, -, hown, hb⟩
  have HFit := Lib.hid (fit_of hv (by omega) ha1)
  have HV := Lib.hid hv
  have HF : Hid (findF S = ⟨deadF S S.rules.length, stuckF S, endF S⟩) := by show _ = _; rw [findF, if_pos hv]
  have hB2 := hB.trans (hb.mono hB.size)
  have HLW0 := Lib.hid (lw_new (M0 := (w.alloc (.cells #[.int .u8 M, .int .u8 A, .slice a len cap] 24))) (hown.mono hB.size) (HAL1.out.trans (hb.mono hz)) (Nat.le_trans hz hb.size))
  have hl63 : S.rules.length ≤ 9223372036854775807 := by omega
  clear hc hf hv hown hb hB
  obtain ⟨hz2, hc, hf⟩ := bcellB HLW0.out.bl rfl
  have hz3 : w.heap.size + 1 ≤ w2.heap.size := HLW0.out.gm
  go_wp2_with fail
  refine (find_any S b c _ HLW0.out.rul (by omega) ha1 hl63 HLW0.out.cap (fun _ => HFit.out)).mono ?_
  rintro e w4 ⟨v1, v2, v3, rfl, hc1, hc2, hc3, hb⟩
  rw [HF.out] at hc1
  obtain ⟨ad, nd, cd, rfl⟩ := hc1.form
  obtain ⟨at', nt, ct, rfl⟩ := hc2.form
  obtain ⟨ae, ne, ce, rfl⟩ := hc3.form
  have hfd := rep_field0 ad at' ae nd cd nt ct ne ce
  have HLW4 := Lib.hid (HLW0.out.below hb)
  have hB4 := hB2.trans (((Below.refl _ w2).alloc hB2.size _).trans (hb.mono (by simp only [World.size_alloc]; omega)))
  have HC1 := Lib.hid hc1
  clear hc hf hb hc1 hc2 hc3 hz2
  obtain ⟨hzz, hc, hf⟩ := bcellB HLW4.out.bl rfl
  obtain ⟨d0, d1, d2⟩ := HLW4.out.cells
  go_wp2_with fail
  refine (walk_any S b c 0 al ll cl Zb _ HLW4.out.rul (by omega) (HZb.out.later hB4 (Nat.le_refl _)) hll).mono ?_
  rintro e w5 ⟨vr, rfl, hcr, hb⟩
  obtain ⟨ar, nr, cr, rfl⟩ := hcr.form
  obtain ⟨RT, hRT⟩ : ∃ RT, RT = walkF S.rules 0 (numsF Zb ll) := ⟨_, rfl⟩
  have HRT10 : Hid (RT.length ≤ 10) := by show _ ≤ _; rw [hRT]; exact Nat.le_trans (walkF_len _ _ _) (by simp [numsF]; omega)
  have HPRE : Hid (∀ n, ∃ t, t < S.modes.toNat ∧ leads anyU S.rules 0 (RT.take n) = some t ∧ followF (fun _ => true) S.rules 0 (ints (RT.take n)) = some (t : Int)) := fun n => by rw [hRT]; exact walk_pre HFit.out (numsF Zb ll) 0 n HFit.out.pos
  rw [← hRT] at hcr
  have HD0 : Hid (SlS w5 ad (ints (deadF S S.rules.length)) ∧ nd = (ints (deadF S S.rules.length)).length) := ⟨(HC1.out.sls.1).later hb (Nat.le_refl _), HC1.out.sls.2.trans (ints_len _).symm⟩
  have HRS : Hid (SlS w5 ar (ints RT) ∧ nr = RT.length ∧ RT.length ≤ cr) := ⟨hcr.sls.1, hcr.sls.2, by obtain ⟨a', c', he, h1, -⟩ := hcr.sl; cases he; exact h1⟩
  have HLW5 := Lib.hid (HLW4.out.below hb)
  have hB5 := hB4.trans (hb.mono hB4.size)
  have hnr := HRS.out.2.1
  have hnr10 : nr ≤ 10 := by have := HRT10.out; omega
  have HNR := Lib.hid hnr
  clear hc hf d0 d1 d2 hb hcr hRT hzz hnr
  go_wp2_with fail
  go_loopw [9] (fun i wr => ∃ k : Nat, k ≤ nr + 1 ∧ i = .int .i64 k ∧ Below w5.heap.size w5 wr) (fun i _ => nr + 1 - (intOf i).toNat)
  case atStart => exact ⟨0, by omega, rfl, Below.refl _ _⟩
  case round =>
    obtain ⟨k, hk, rfl, hbr⟩ := hrel
    have HLW := Lib.hid (HLW5.out.below hbr)
    have hB := hB5.trans (hbr.mono hB5.size)
    have HBR := Lib.hid hbr
    clear hbr
    obtain ⟨hzz, hc, hf⟩ := bcellB HLW.out.bl rfl
    obtain ⟨d0, d1, d2⟩ := HLW.out.cells
    by_cases hkl : k ≤ nr
    · obtain ⟨t, ht, hlead, hfol⟩ := HPRE.out k
      have HLD := Lib.hid hlead; have HFO := Lib.hid hfol
      have hkI : (k : Int) ≤ (nr : Int) := by omega
      have ht8 : (t : Int) < 8 := by omega
      have hgz : w2.heap.size < wr.heap.size := HLW.out.gs
      clear hlead hfol
      have hsl := slice_low_ints ar nr cr k (by have := HRS.out.2; omega)
      go_upto_region 8 with fail
      refine wp_region_rv (by kernel_rfl) (Vs [fun v _ => v = .agg #[.int .i64 S.modes, .int .u8 S.acc, .slice b S.rules.length c], fun v _ => v = Value.slice ar nr cr, fun v _ => v = .int .i64 (k : Int), fun v _ => v = Value.slice ar k cr, fun v _ => v = .tuple #[.int .i64 (t : Int), .bool true], fun v _ => v = .tuple #[.int .i64 (t : Int), .bool true], fun v _ => v = .int .i64 (t : Int), fun v _ => v = .bool true, fun v _ => v = .int .i64 (t : Int), fun v _ => v = .bool true]) (fun W => Below wr.heap.size wr W) 67 (by kernel_rfl) rfl ?hVx ?hSx ?hS (opsOk_all ?hop) ?hfin
      case hop =>
        refine ⟨?_, ?_, ?_, ?_, ?_, ?_, ?_, ?_, ?_, ?_, trivial⟩
        all_goals
          intro A W hsz hS hdep hbase
          have hlw := HLW.out.below hS
          obtain ⟨hzW, hcW, hfW⟩ := bcellB hlw.bl rfl
          obtain ⟨d0', d1', d2'⟩ := hlw.cells
          have h6 : A.tmps.getD 6 undef = .pointer (some ⟨w2.heap.size, 0, none⟩) := hbase 6 (by kernel_rfl)
          have h8 : A.tmps.getD 8 undef = .slice ar nr cr := hbase 8 (by kernel_rfl)
          have h9 : A.tmps.getD 9 undef = .int .i64 (k : Int) := hbase 9 (by kernel_rfl)
          clear hlw
          clear hbase
          simp [slotOf, Region.binds, Vs] at hdep
          first
            | (refine opOk_run rfl (.inl ⟨_, W, ?_, rfl, Ext.refl _⟩); clear hsz hS; simp [go_sem, Act.eval, *]; done)
            | skip
        · refine opOk_run rfl (.inr ⟨21, #[.agg #[.int .i64 S.modes, .int .u8 S.acc, .slice b S.rules.length c], .int .i64 0, .slice ar k cr], W, by (clear hsz hS; simp [go_sem, Act.eval, *]), ?_⟩)
          refine (chain_any S b c 0 ar k cr (ints (RT.take k)) W (by rw [ints_len, List.length_take]; have := HRS.out.2.1; omega) (HLW.out.below hS).rul (by omega) (by rw [ints_take]; exact slS_take (HRS.out.1.later (HBR.out.trans (hS.mono HBR.out.size)) (Nat.le_refl _)) k) (by rw [ints_len, List.length_take]; omega)).mono ?_
          rintro e w' ⟨rfl, hb⟩
          exact ⟨_, rfl, by rw [HFO.out]; rfl, hb⟩
      case hVx => exact vs_stays (by simp only [List.mem_cons, List.not_mem_nil, or_false, forall_eq_or_imp, forall_eq]; exact ⟨stays_const _, stays_const _, stays_const _, stays_const _, stays_const _, stays_const _, stays_const _, stays_const _, stays_const _, stays_const _⟩)
      case hSx => exact fun W W' h hx => h.trans (Below.mono hx h.size)
      case hS => exact Below.refl _ _
      case hfin =>
        intro A W hsz hdf hS hv hbase
        obtain ⟨x, hx, hA⟩ := act_puts [30, 31, 32, 33, 34, 29, 35, 36, 10, 11] (by kernel_rfl) hsz hdf hbase
        have e10 : x 10 = .int .i64 (t : Int) := (hx 10).trans (hv 8 (by decide))
        rw [hA]
        simp only [List.foldl]
        rw [e10]
        clear e10
        simp only [Act.put, List.setIfInBounds_toArray, List.set_cons_succ, List.set_cons_zero]
        clear hA hx hv hbase hsz hdf
        have HLWW := Lib.hid (HLW.out.below hS)
        have hBW := hB.trans (hS.mono hB.size)
        have HBW := Lib.hid (HBR.out.trans (hS.mono HBR.out.size))
        clear hc hf d0 d1 d2 hzz hsl hB hS
        obtain ⟨hzz, hc, hf⟩ := bcellB HLWW.out.bl rfl
        obtain ⟨d0, d1, d2⟩ := HLWW.out.cells
        obtain ⟨bit, hbit⟩ : ∃ bit, S.acc.toNat.testBit t = bit := ⟨_, rfl⟩
        have HBIT := Lib.hid hbit
        clear hbit
        go_wp2_with fail
        refine (accepts_any S b c (t : Int) _ (by omega) ha1 (by omega) ht8).mono ?_
        rintro e w6 ⟨he, hb⟩
        rw [Int.toNat_natCast, HBIT.out] at he
        subst he
        have HLW6 := Lib.hid (HLWW.out.below hb)
        have hB6 := hBW.trans (hb.mono hBW.size)
        have HB6 := Lib.hid (HBW.out.trans (hb.mono HBW.out.size))
        clear hc hf d0 d1 d2 hzz hb
        obtain ⟨hzz, hc, hf⟩ := bcellB HLW6.out.bl rfl
        obtain ⟨d0, d1, d2⟩ := HLW6.out.cells
        cases bit with
        | false =>
          go_wp2_with fail
          go_roundw
          case rel => exact ⟨k + 1, by omega, by go_num, HB6.out⟩
          case measure => simp [intOf]; omega
        | true =>
          have hkl2 : k ≤ RT.length := by have := HRS.out.2.1; omega
          have HLD2 : Hid (leads anyU S.rules 0 (RT.take k) = some t) := HLD.out
          have HSD := Lib.hid (HD0.out.1.later HB6.out (Nat.le_refl _))
          have HSR := Lib.hid (HRS.out.1.later HB6.out (Nat.le_refl _))
          have hnr2 : (RT.length : Int) = (nr : Int) := by have := HRS.out.2.1; omega
          have HNR2 := Lib.hid hnr2
          clear hnr2
          go_wp2_with fail
          go_loop [12] (fun i => ∃ j : Nat, j ≤ k ∧ i = .int .i64 j) (fun i => k - (intOf i).toNat)
          case atStart => exact ⟨0, by omega, rfl⟩
          case round =>
            obtain ⟨j, hj, rfl⟩ := hrel
            by_cases hjk : j < k
            · have hjr : j < RT.length := by omega
              obtain ⟨br, orr, hra, hrb, q⟩ := HSR.out.at (k := j) (by rw [ints_len]; exact hjr)
              have hidr := idx_ints ar br orr nr cr j hra (by have := HRS.out.2.1; omega)
              have hge : (ints RT)[j]'(by rw [ints_len]; exact hjr) = (RT[j] : Int) := by simp [ints]
              rw [hge] at q
              have HNO : Hid (hasB (ints (deadF S S.rules.length)) (RT[j] : Int) = false) := has_route HFit.out HLD2.out HBIT.out (by
                rw [List.mem_iff_getElem]
                exact ⟨j, by rw [List.length_take]; omega, List.getElem_take⟩)
              have HRA := Lib.hid hra
              clear hra hge
              go_wp2_with (first
                | (go_at_call 23; refine (lhas_any ad nd cd (ints (deadF S S.rules.length)) (RT[j] : Int) _ HD0.out.2 HSD.out (by rw [ints_len]; have := deadF_len S S.rules.length; omega)).mono ?_; rintro e w' ⟨he, rfl⟩; rw [HNO.out] at he; subst he)
                | fail)
              go_round
              case rel => exact ⟨j + 1, by omega, by go_num⟩
              case measure => simp [intOf]; omega
            · obtain rfl : j = k := by omega
              go_wp2_with fail
              go_roundw
              case rel => exact ⟨j + 1, by omega, by go_num, HB6.out⟩
              case measure => simp [intOf]; omega
    · have hkI : ¬ ((k : Int) ≤ (nr : Int)) := by omega
      have HBR2 := Lib.hid (Below.refl wr.heap.size wr)
      go_wp2_with fail
      obtain ⟨wo, rfl⟩ : ∃ wo : World, wo = wr := ⟨_, rfl⟩
      clear hc hf d0 d1 d2 hzz hkI hkl hk
      go_loopw [13] (fun i wi => ∃ k : Nat, k ≤ S.rules.length ∧ i = .int .i64 k ∧ Below wo.heap.size wo wi) (fun i _ => S.rules.length - (intOf i).toNat)
      case atStart => exact ⟨0, by omega, rfl, Below.refl _ _⟩
      case round =>
        obtain ⟨k, hk, rfl, hbi⟩ := hrel
        have HLW3 := Lib.hid (HLW.out.below hbi)
        have hB3 := hB.trans (hbi.mono hB.size)
        have HBI := Lib.hid hbi
        have HSD := Lib.hid (HD0.out.1.later (HBR.out.trans (hbi.mono HBR.out.size)) (Nat.le_refl _))
        clear hbi
        obtain ⟨hzz, hc, hf⟩ := bcellB HLW3.out.bl rfl
        obtain ⟨d0, d1, d2⟩ := HLW3.out.cells
        by_cases hkr : k < S.rules.length
        · obtain ⟨db, hdb⟩ : ∃ db, deadB (reachS S) (liveS S) S.rules[k] = db := ⟨_, rfl⟩
          have HDB := Lib.hid hdb
          have HDH : Hid (hasB (ints (deadF S S.rules.length)) (k : Int) = db) := by have := has_dead hkr; rw [hdb] at this; exact this
          clear hdb
          go_upto_region 18 with fail
          refine wp_region_rv (by kernel_rfl) (Vs [fun v _ => v = .slice ad nd cd, fun v _ => v = .int .i64 (k : Int), fun v _ => v = .bool db, fun v _ => v = .agg #[.int .i64 S.modes, .int .u8 S.acc, .slice b S.rules.length c], fun v _ => v = .int .i64 (k : Int), fun v _ => v = .bool db, fun v _ => v = .bool false]) (fun W => Below wr.heap.size wr W) 67 (by kernel_rfl) rfl ?hVx ?hSx ?hS (opsOk_all ?hop) ?hfin
          case hop =>
            refine ⟨?_, ?_, ?_, ?_, ?_, ?_, ?_, trivial⟩
            all_goals
              intro A W hsz hS hdep hbase
              have hlw := HLW3.out.below hS
              obtain ⟨hzW, hcW, hfW⟩ := bcellB hlw.bl rfl
              obtain ⟨d0', d1', d2'⟩ := hlw.cells
              have h6 : A.tmps.getD 6 undef = .pointer (some ⟨w2.heap.size, 0, none⟩) := hbase 6 (by kernel_rfl)
              have h7 : A.tmps.getD 7 undef = .slice ad nd cd := hbase 7 (by kernel_rfl)
              have h13 : A.tmps.getD 13 undef = .int .i64 (k : Int) := hbase 13 (by kernel_rfl)
              clear hlw
              clear hbase
              simp [slotOf, Region.binds, Vs] at hdep
              first
                | (refine opOk_run rfl (.inl ⟨_, W, ?_, rfl, Ext.refl _⟩); clear hsz hS; simp [go_sem, Act.eval, *]; done)
                | skip
            · refine opOk_run rfl (.inr ⟨23, #[.slice ad nd cd, .int .i64 (k : Int)], W, by (clear hsz hS; simp [go_sem, Act.eval, *]), ?_⟩)
              refine (lhas_any ad nd cd (ints (deadF S S.rules.length)) (k : Int) W HD0.out.2 (HSD.out.later hS (Nat.le_refl _)) (by rw [ints_len]; have := deadF_len S S.rules.length; omega)).mono ?_
              rintro e w' ⟨he, rfl⟩
              rw [HDH.out] at he
              exact ⟨_, he, rfl, Ext.refl _⟩
            · refine opOk_run rfl (.inr ⟨24, #[.agg #[.int .i64 S.modes, .int .u8 S.acc, .slice b S.rules.length c], .int .i64 (k : Int)], W, by (clear hsz hS; simp [go_sem, Act.eval, *]), ?_⟩)
              refine (rdead_any S b c k W (HLW3.out.below hS).rul HFit.out hkr).mono ?_
              rintro e w' ⟨he, hb⟩
              rw [HDB.out] at he
              exact ⟨_, he, rfl, hb⟩
          case hVx => exact vs_stays (by simp only [List.mem_cons, List.not_mem_nil, or_false, forall_eq_or_imp, forall_eq]; exact ⟨stays_const _, stays_const _, stays_const _, stays_const _, stays_const _, stays_const _, stays_const _⟩)
          case hSx => exact fun W W' h hx => h.trans (Below.mono hx h.size)
          case hS => exact Below.refl _ _
          case hfin =>
            intro A W hsz hdf hS hv hbase
            obtain ⟨x, hx, hA⟩ := act_puts [59, 60, 61, 62, 63, 64, 65] (by kernel_rfl) hsz hdf hbase
            have e65 : x 65 = .bool false := (hx 65).trans (hv 6 (by decide))
            rw [hA]
            simp only [List.foldl]
            rw [e65]
            clear e65
            simp only [Act.put, List.setIfInBounds_toArray, List.set_cons_succ, List.set_cons_zero]
            clear hA hx hv hbase hsz hdf
            have HLWW := Lib.hid (HLW3.out.below hS)
            have hBW := hB3.trans (hS.mono hB3.size)
            have HBW := Lib.hid (HBI.out.trans (hS.mono HBI.out.size))
            clear hc hf d0 d1 d2 hzz hB3 hS
            obtain ⟨hzz, hc, hf⟩ := bcellB HLWW.out.bl rfl
            obtain ⟨d0, d1, d2⟩ := HLWW.out.cells
            go_wp2_with fail
            go_roundw
            case rel => exact ⟨k + 1, by omega, by go_num, HBW.out⟩
            case measure => simp [intOf]; omega
        · go_wp2_with fail
          go_ret
          exact ⟨rfl, hB3⟩
theorem flawDead_view (x : RawA) (y : BytA) (w : World) (hx : RawOk w x) (hy : BytOk w y) :
    Calls Try.prog 5 #[x.val, y.val] w fun e w' => e = .returned (.bool true) ∧ Below w.heap.size w w' :=
  flawDead_any x.M x.A x.a x.len x.cap x.Z y.a y.len y.cap y.Z w hx.m0 hx.m1 hx.a0 hx.a1 hx.rows hy.by' hy.le
end Go.Proofs.Ytogjcfcfgnbmkaa
