/- The walk of FlawChains: true. -/
import Derived.Test.YtogjcfcfgnbmkaaLawB
import Derived.Test.YtogjcfcfgnbmkaaViews
import Derived.Test.YtogjcfcfgnbmkaaPlainB
namespace Go.Proofs.Ytogjcfcfgnbmkaa
open Go.RowKit
set_option linter.unusedVariables false
set_option linter.unusedSimpArgs false

set_option maxHeartbeats 6400000 in
set_option maxRecDepth 100000 in
theorem flawChains_any (M A : Int) (a : Option Addr) (len cap : Nat) (Z : Nat → Nat → Int) (al : Option Addr) (ll cl : Nat) (Zb : Nat → Int) (fr : Int) (w : World) (hM0 : 0 ≤ M) (hM1 : M ≤ 255) (hA0 : 0 ≤ A) (hA1 : A ≤ 255) (hZ : IsRows .u8 3 w a len Z) (hZb : IsBytes w al ll Zb) (hll : ll ≤ 9223372036854775807) (hf0 : 0 ≤ fr) (hf1 : fr ≤ 255) :
    Calls Try.prog 6 #[.agg #[.int .u8 M, .int .u8 A, .slice a len cap], .slice al ll cl, .int .u8 fr] w fun e w' => e = .returned (.bool true) ∧ Below w.heap.size w w' := by
  have HZ := Lib.hid hZ; have HZb := Lib.hid hZb; clear hZ hZb
  go_enter Try.func6, Try.ntmps6
  go_wp2_with fail
  refine (sanity_any _).mono ?_
  rintro e w1 ⟨rfl, hb⟩
  obtain ⟨hz, hc, hf⟩ := bcell hb (by first | (simp only [World.size_alloc]; rfl) | rfl)
  have hB := below_call (B := w.heap.size) (w := w) (by go_grown) hb (Nat.le_refl _)
  have HAL1 : Hid (Below (w.heap.size + 1) (w.alloc (.cells #[.int .u8 M, .int .u8 A, .slice a len cap] 24)) w1) := hb.mono (by simp only [World.size_alloc]; omega)
  clear hb
  go_wp2_with fail
  refine (made_any M A a len cap _ hM0 hM1 hA0 hA1 Z (isRows_later HZ.out hB (Nat.le_refl _))).mono ?_
  rintro e w2 ⟨S, b, c, rfl, hv, hm1, hm5, ha0, ha1, hl12, -, hown, hb⟩
  have HFit := Lib.hid (fit_of hv (by omega) ha1)
  have HV := Lib.hid hv
  have HF : Hid (findF S = ⟨deadF S S.rules.length, stuckF S, endF S⟩) := by show _ = _; rw [findF, if_pos hv]
  have hB2 := hB.trans (hb.mono hB.size)
  have HLW0 := Lib.hid (lw_new (M0 := (w.alloc (.cells #[.int .u8 M, .int .u8 A, .slice a len cap] 24))) (hown.mono hB.size) (HAL1.out.trans (hb.mono hz)) (Nat.le_trans hz hb.size))
  have hl63 : S.rules.length ≤ 9223372036854775807 := by omega
  clear hc hf hv hown hb hB
  obtain ⟨hz2, hc, hf⟩ := bcellB HLW0.out.bl rfl
  have hz3 : w.heap.size + 1 ≤ w2.heap.size := HLW0.out.gm
  go_wp2_with fail
  refine (find_any S b c _ HLW0.out.rul (by omega) ha1 hl63 HLW0.out.cap (fun _ => HFit.out)).mono ?_
  rintro e w4 ⟨v1, v2, v3, rfl, hc1, hc2, hc3, hb⟩
  rw [HF.out] at hc2 hc3
  obtain ⟨ad, nd, cd, rfl⟩ := hc1.form
  obtain ⟨as', ns, cs, rfl⟩ := hc2.form
  obtain ⟨ae, ne, ce, rfl⟩ := hc3.form
  have HLW4g : w2.heap.size < w4.heap.size := (HLW0.out.below hb).gs
  have HNS8 : ns ≤ 100 := by have h9 : ns = (stuckF S).length := hc2.sls.2; have := stuckF_len HFit.out; omega
  have HNE8 : ne ≤ 100 := by have h9 : ne = (endF S).length := hc3.sls.2; have := endF_len HFit.out; omega
  have hbx := hb.trans ((Below.refl _ w4).alloc hb.size (.cells #[.slice ad nd cd, .slice as' ns cs, .slice ae ne ce] 40))
  have HLW4 := Lib.hid (HLW0.out.below hbx)
  have hB4 := hB2.trans (((Below.refl _ w2).alloc hB2.size _).trans (hbx.mono (by simp only [World.size_alloc]; omega)))
  have HREP4 := Lib.hid (heap_alloc_new w4 (.cells #[.slice ad nd cd, .slice as' ns cs, .slice ae ne ce] 40))
  have HST4 : Hid (SlS w4 as' (ints (stuckF S)) ∧ ns = (ints (stuckF S)).length) := ⟨hc2.sls.1, hc2.sls.2.trans (ints_len _).symm⟩
  have HEN4 : Hid (SlS w4 ae (ints (endF S)) ∧ ne = (ints (endF S)).length) := ⟨hc3.sls.1, hc3.sls.2.trans (ints_len _).symm⟩
  clear hc hf hb hbx hc1 hc2 hc3 hz2
  obtain ⟨hzz, hc, hf⟩ := bcellB HLW4.out.bl rfl
  obtain ⟨d0, d1, d2⟩ := HLW4.out.cells
  have hgz4 : w2.heap.size < w4.heap.size := HLW4g
  have hmI : S.modes = ((S.modes.toNat : Nat) : Int) := by omega
  obtain ⟨mm, hmm⟩ : ∃ mm, S.modes.toNat = mm := ⟨_, rfl⟩
  rw [hmm] at hmI
  have HMM := Lib.hid hmm
  have HMI := Lib.hid hmI
  have hmm0 : 0 < mm := by omega
  have hmm5 : mm ≤ 5 := by omega
  clear hmm hmI
  go_wp2_with fail
  refine (rlive_any S b c _ HLW4.out.rul HFit.out).mono ?_
  rintro e w5 ⟨v, rfl, ⟨gl, hv, hg3, hmask⟩, hb⟩
  rw [HMM.out] at hmask hv
  subst hv
  have HLW5 := Lib.hid (HLW4.out.below hb)
  have hB5 := hB4.trans (hb.mono hB4.size)
  have HR5 := Lib.hid ((hb.block w4.heap.size (by simp only [World.size_alloc]; omega)).trans HREP4.out)
  have HX5 : Hid (Below w4.heap.size w4 w5) := ((Below.refl _ w4).alloc (Nat.le_refl _) _).trans (hb.mono (by simp only [World.size_alloc]; omega))
  have hgl5 : gl < w5.heap.size := (Array.getElem?_eq_some_iff.1 hmask).1
  have HMASK5 := Lib.hid hmask
  clear hc hf d0 d1 d2 hzz hb hmask
  obtain ⟨hzz, hc, hf⟩ := bcellB HLW5.out.bl rfl
  obtain ⟨d0, d1, d2⟩ := HLW5.out.cells
  go_wp2_with fail
  refine (walk_any S b c 0 al ll cl Zb _ HLW5.out.rul (by omega) (HZb.out.later hB5 (Nat.le_refl _)) hll).mono ?_
  rintro e w6 ⟨vr, rfl, hcr, hb⟩
  obtain ⟨ar, nr, cr, rfl⟩ := hcr.form
  obtain ⟨RT, hRT⟩ : ∃ RT, RT = walkF S.rules 0 (numsF Zb ll) := ⟨_, rfl⟩
  have HRT10 : Hid (RT.length ≤ 10) := by show _ ≤ _; rw [hRT]; exact Nat.le_trans (walkF_len _ _ _) (by simp [numsF]; omega)
  have HPRE : Hid (∀ n, ∃ t, t < S.modes.toNat ∧ leads anyU S.rules 0 (RT.take n) = some t ∧ followF (fun _ => true) S.rules 0 (ints (RT.take n)) = some (t : Int)) := fun n => by rw [hRT]; exact walk_pre HFit.out (numsF Zb ll) 0 n HFit.out.pos
  rw [← hRT] at hcr
  have HRS : Hid (SlS w6 ar (ints RT) ∧ nr = RT.length ∧ RT.length ≤ cr) := ⟨hcr.sls.1, hcr.sls.2, by obtain ⟨a', c', he, h1, -⟩ := hcr.sl; cases he; exact h1⟩
  have HLW6 := Lib.hid (HLW5.out.below hb)
  have hB6 := hB5.trans (hb.mono hB5.size)
  have hgr5 : w4.heap.size < w5.heap.size := (Array.getElem?_eq_some_iff.1 HR5.out).1
  have HR6 := Lib.hid ((hb.block w4.heap.size hgr5).trans HR5.out)
  have HX6 : Hid (Below w4.heap.size w4 w6) := HX5.out.trans (hb.mono HX5.out.size)
  have HMASK6 := Lib.hid ((hb.block gl hgl5).trans HMASK5.out)
  have hgl6 : gl < w6.heap.size := Nat.lt_of_lt_of_le hgl5 hb.size
  have hgr6 : w4.heap.size < w6.heap.size := Nat.lt_of_lt_of_le hgr5 hb.size
  have hnr := HRS.out.2.1
  have hnr10 : nr ≤ 10 := by have := HRT10.out; omega
  have HNR := Lib.hid hnr
  have hns8 : ns ≤ 100 := HNS8
  have hne8 : ne ≤ 100 := HNE8
  clear hc hf d0 d1 d2 hzz hb hcr hRT hnr
  obtain ⟨b0, hb0⟩ : ∃ b0, (liveS S).testBit 0 = b0 := ⟨_, rfl⟩
  have HB0 := Lib.hid hb0
  clear hb0
  go_wp2_with fail
  go_loopw [12] (fun i wr => ∃ k : Nat, 1 ≤ k ∧ k ≤ nr + 1 ∧ i = .int .i64 k ∧ Below w6.heap.size w6 wr) (fun i _ => nr + 1 - (intOf i).toNat)
  case atStart => exact ⟨1, by omega, by omega, rfl, Below.refl _ _⟩
  case round =>
    obtain ⟨k, hk1, hk, rfl, hbr⟩ := hrel
    have HLW := Lib.hid (HLW6.out.below hbr)
    have hB := hB6.trans (hbr.mono hB6.size)
    have HBR := Lib.hid hbr
    have HX := Lib.hid (HX6.out.trans (hbr.mono HX6.out.size))
    have HR := Lib.hid ((hbr.block w4.heap.size hgr6).trans HR6.out)
    have HMK := Lib.hid ((hbr.block gl hgl6).trans HMASK6.out)
    clear hbr
    obtain ⟨hzz, hc, hf⟩ := bcellB HLW.out.bl rfl
    obtain ⟨d0, d1, d2⟩ := HLW.out.cells
    obtain ⟨r0, r1, r2⟩ := cells3 HR.out
    have q0 := mask_cell HMK.out (i := 0) hmm0
    rw [HB0.out] at q0
    by_cases hkl : k ≤ nr ∧ b0 = true
    · obtain ⟨hkl, rfl⟩ := hkl
      obtain ⟨t, ht, hlead, hfol⟩ := HPRE.out k
      have HLD := Lib.hid hlead; have HFO := Lib.hid hfol
      have hkI : (k : Int) ≤ (nr : Int) := by omega
      have htm : t < mm := by rw [← HMM.out]; exact ht
      have htI : (t : Int) < (mm : Int) := by omega
      have hsl := slice_low_ints ar nr cr k (by have := HRS.out.2; omega)
      have hcne : RT.take k ≠ [] := fun e => by have h9 := congrArg List.length e; rw [List.length_take] at h9; simp only [List.length_nil] at h9; have h8 := HRS.out.2.1; omega
      have HCNE := Lib.hid hcne
      clear hlead hfol ht hcne
      have hgz : w2.heap.size < wr.heap.size := HLW.out.gs
      go_upto_region 9 with fail
      refine wp_region_rv (by kernel_rfl) (Vs [fun v _ => v = .agg #[.int .i64 S.modes, .int .u8 S.acc, .slice b S.rules.length c], fun v _ => v = .slice ar nr cr, fun v _ => v = .int .i64 (k : Int), fun v _ => v = .slice ar k cr, fun v _ => v = .tuple #[.int .i64 (t : Int), .bool true], fun v _ => v = .tuple #[.int .i64 (t : Int), .bool true], fun v _ => v = .int .i64 (t : Int), fun v _ => v = .bool true, fun v _ => v = .int .i64 (t : Int), fun v _ => v = .bool true]) (fun W => Below wr.heap.size wr W) 132 (by kernel_rfl) rfl ?hVx ?hSx ?hS (opsOk_all ?hop) ?hfin
      case hop =>
        refine ⟨?_, ?_, ?_, ?_, ?_, ?_, ?_, ?_, ?_, ?_, trivial⟩
        all_goals
          intro A W hsz hS hdep hbase
          have hlw := HLW.out.below hS
          obtain ⟨hzW, hcW, hfW⟩ := bcellB hlw.bl rfl
          obtain ⟨d0', d1', d2'⟩ := hlw.cells
          obtain ⟨r0', r1', r2'⟩ := cells3 ((hS.block w4.heap.size (Nat.lt_of_lt_of_le hgr6 HBR.out.size)).trans HR.out)
          have hmk := (hS.block gl (Nat.lt_of_lt_of_le hgl6 HBR.out.size)).trans HMK.out
          have qt := mask_cell hmk (i := t) htm
          have hit := idx_mask gl mm t htm
          clear hlw hmk
          have h8 : A.tmps.getD 8 undef = .pointer (some ⟨w2.heap.size, 0, none⟩) := hbase 8 (by kernel_rfl)
          have h11 : A.tmps.getD 11 undef = .slice ar nr cr := hbase 11 (by kernel_rfl)
          have h12 : A.tmps.getD 12 undef = .int .i64 (k : Int) := hbase 12 (by kernel_rfl)
          clear hbase
          simp [slotOf, Region.binds, Vs] at hdep
        · refine opOk_run rfl (.inl ⟨_, W, ?_, rfl, Ext.refl _⟩); clear hsz hS; simp [go_sem, Act.eval, *]
        · refine opOk_run rfl (.inl ⟨_, W, ?_, rfl, Ext.refl _⟩); clear hsz hS; simp [go_sem, Act.eval, *]
        · refine opOk_run rfl (.inl ⟨_, W, ?_, rfl, Ext.refl _⟩); clear hsz hS; simp [go_sem, Act.eval, *]
        · refine opOk_run rfl (.inl ⟨_, W, ?_, rfl, Ext.refl _⟩); clear hsz hS; simp [go_sem, Act.eval, *]
        · refine opOk_run rfl (.inr ⟨21, #[.agg #[.int .i64 S.modes, .int .u8 S.acc, .slice b S.rules.length c], .int .i64 0, .slice ar k cr], W, by (clear hsz hS; simp [go_sem, Act.eval, *]), ?_⟩)
          refine (chain_any S b c 0 ar k cr (ints (RT.take k)) W (by rw [ints_len, List.length_take]; have := HRS.out.2.1; omega) (HLW.out.below hS).rul (by omega) (by rw [ints_take]; exact slS_take (HRS.out.1.later (HBR.out.trans (hS.mono HBR.out.size)) (Nat.le_refl _)) k) (by rw [ints_len, List.length_take]; omega)).mono ?_
          rintro e w' ⟨rfl, hb⟩
          exact ⟨_, rfl, by rw [HFO.out]; rfl, hb⟩
        · refine opOk_run rfl (.inl ⟨_, W, ?_, rfl, Ext.refl _⟩); clear hsz hS; simp [go_sem, Act.eval, *]
        · refine opOk_run rfl (.inl ⟨_, W, ?_, rfl, Ext.refl _⟩); clear hsz hS; simp [go_sem, Act.eval, *]
        · refine opOk_run rfl (.inl ⟨_, W, ?_, rfl, Ext.refl _⟩); clear hsz hS; simp [go_sem, Act.eval, *]
        · refine opOk_run rfl (.inl ⟨_, W, ?_, rfl, Ext.refl _⟩); clear hsz hS; simp [go_sem, Act.eval, *]
        · refine opOk_run rfl (.inl ⟨_, W, ?_, rfl, Ext.refl _⟩); clear hsz hS; simp [go_sem, Act.eval, *]
      case hVx => exact vs_stays (by simp only [List.mem_cons, List.not_mem_nil, or_false, forall_eq_or_imp, forall_eq]; exact ⟨stays_const _, stays_const _, stays_const _, stays_const _, stays_const _, stays_const _, stays_const _, stays_const _, stays_const _, stays_const _⟩)
      case hSx => exact fun W W' h hx => h.trans (Below.mono hx h.size)
      case hS => exact Below.refl _ _
      case hfin =>
        intro A W hsz hdf hS hv hbase
        obtain ⟨x, hx, hA⟩ := act_puts [42, 43, 44, 45, 46, 41, 47, 48, 13, 14] (by kernel_rfl) hsz hdf hbase
        have e13 : x 13 = .int .i64 (t : Int) := (hx 13).trans (hv 8 (by decide))
        rw [hA]
        simp only [List.foldl]
        rw [e13]
        clear e13
        simp only [Act.put, List.setIfInBounds_toArray, List.set_cons_succ, List.set_cons_zero]
        clear hA hx hv hbase hsz hdf
        have HLWW := Lib.hid (HLW.out.below hS)
        have hBW := hB.trans (hS.mono hB.size)
        have HBW := Lib.hid (HBR.out.trans (hS.mono HBR.out.size))
        have HXW := Lib.hid (HX.out.trans (hS.mono HX.out.size))
        have HRW := Lib.hid ((hS.block w4.heap.size (Nat.lt_of_lt_of_le hgr6 HBR.out.size)).trans HR.out)
        have HMKW := Lib.hid ((hS.block gl (Nat.lt_of_lt_of_le hgl6 HBR.out.size)).trans HMK.out)
        clear hc hf d0 d1 d2 hzz hB hS r0 r1 r2 q0
        obtain ⟨hzz, hc, hf⟩ := bcellB HLWW.out.bl rfl
        obtain ⟨d0, d1, d2⟩ := HLWW.out.cells
        obtain ⟨r0, r1, r2⟩ := cells3 HRW.out
        obtain ⟨lt, hlt⟩ : ∃ lt, (liveS S).testBit t = lt := ⟨_, rfl⟩
        have HLT := Lib.hid hlt
        clear hlt
        cases lt with
        | true =>
          go_wp2_with fail
          refine wp_region_rv (by kernel_rfl) (Vs [fun v _ => v = .slice (some ⟨gl, 0, none⟩) mm mm, fun v _ => v = .int .i64 (t : Int), fun v _ => v = .pointer (some ⟨gl, t, none⟩), fun v _ => v = .bool true, fun v _ => v = .bool false, fun v _ => v = .bool false, fun v _ => v = undef, fun v _ => v = undef, fun v _ => v = undef, fun v _ => v = undef, fun v _ => v = undef, fun v _ => v = undef, fun v _ => v = undef, fun v _ => v = undef, fun v _ => v = undef, fun v _ => v = undef, fun v _ => v = undef, fun v _ => v = undef, fun v _ => v = undef, fun v _ => v = .bool false]) (fun W1 => Below W.heap.size W W1) 132 (by kernel_rfl) rfl ?hVx ?hSx ?hS (opsOk_all ?hop) ?hfin
          case hop =>
            refine ⟨?_, ?_, ?_, ?_, ?_, ?_, ?_, ?_, ?_, ?_, ?_, ?_, ?_, ?_, ?_, ?_, ?_, ?_, ?_, ?_, trivial⟩
            all_goals
              intro A W hsz hS hdep hbase
              have hmk := (hS.block gl (Nat.lt_of_lt_of_le hgl6 HBW.out.size)).trans HMKW.out
              have qt := mask_cell hmk (i := t) htm
              rw [HLT.out] at qt
              have hit := idx_mask gl mm t htm
              clear hmk
              have h10 : A.tmps.getD 10 undef = .slice (some ⟨gl, 0, none⟩) mm mm := hbase 10 (by kernel_rfl)
              have h13 : A.tmps.getD 13 undef = .int .i64 (t : Int) := hbase 13 (by kernel_rfl)
              have h9 : A.tmps.getD 9 undef = .pointer (some ⟨w4.heap.size, 0, none⟩) := hbase 9 (by kernel_rfl)
              have h11 : A.tmps.getD 11 undef = .slice ar nr cr := hbase 11 (by kernel_rfl)
              have h12 : A.tmps.getD 12 undef = .int .i64 (k : Int) := hbase 12 (by kernel_rfl)
              clear hbase
              simp [slotOf, Region.binds, Vs] at hdep
            · refine opOk_run rfl (.inl ⟨_, W, ?_, rfl, Ext.refl _⟩); clear hsz hS; simp [go_sem, Act.eval, *]
            · refine opOk_run rfl (.inl ⟨_, W, ?_, rfl, Ext.refl _⟩); clear hsz hS; simp [go_sem, Act.eval, *]
            · refine opOk_run rfl (.inl ⟨_, W, ?_, rfl, Ext.refl _⟩); clear hsz hS; simp [go_sem, Act.eval, *]
            · refine opOk_run rfl (.inl ⟨_, W, ?_, rfl, Ext.refl _⟩); clear hsz hS; simp [go_sem, Act.eval, *]
            · refine opOk_run rfl (.inl ⟨_, W, ?_, rfl, Ext.refl _⟩); clear hsz hS; simp [go_sem, Act.eval, *]
            · refine opOk_run rfl (.inl ⟨_, W, ?_, rfl, Ext.refl _⟩); clear hsz hS; simp [go_sem, Act.eval, *]
            · exact opOk_skip (j := 5) (d := 54) (b := false) rfl (by kernel_rfl) (by first | exact hdep | exact hdep.1 | exact hdep.2 | exact hdep.2.1 | exact hdep.2.2 | exact hdep.2.2.1 | exact hdep.2.2.2 | exact hdep.2.2.2.1 | exact hdep.2.2.2.2) rfl rfl
            · exact opOk_skip (j := 5) (d := 54) (b := false) rfl (by kernel_rfl) (by first | exact hdep | exact hdep.1 | exact hdep.2 | exact hdep.2.1 | exact hdep.2.2 | exact hdep.2.2.1 | exact hdep.2.2.2 | exact hdep.2.2.2.1 | exact hdep.2.2.2.2) rfl rfl
            · exact opOk_skip (j := 5) (d := 54) (b := false) rfl (by kernel_rfl) (by first | exact hdep | exact hdep.1 | exact hdep.2 | exact hdep.2.1 | exact hdep.2.2 | exact hdep.2.2.1 | exact hdep.2.2.2 | exact hdep.2.2.2.1 | exact hdep.2.2.2.2) rfl rfl
            · exact opOk_skip (j := 5) (d := 54) (b := false) rfl (by kernel_rfl) (by first | exact hdep | exact hdep.1 | exact hdep.2 | exact hdep.2.1 | exact hdep.2.2 | exact hdep.2.2.1 | exact hdep.2.2.2 | exact hdep.2.2.2.1 | exact hdep.2.2.2.2) rfl rfl
            · exact opOk_skip (j := 5) (d := 54) (b := false) rfl (by kernel_rfl) (by first | exact hdep | exact hdep.1 | exact hdep.2 | exact hdep.2.1 | exact hdep.2.2 | exact hdep.2.2.1 | exact hdep.2.2.2 | exact hdep.2.2.2.1 | exact hdep.2.2.2.2) rfl rfl
            · exact opOk_skip_undef (j := 10) (d := 59) rfl (by kernel_rfl) (by first | exact hdep | exact hdep.1 | exact hdep.2 | exact hdep.2.1 | exact hdep.2.2 | exact hdep.2.2.1 | exact hdep.2.2.2 | exact hdep.2.2.2.1 | exact hdep.2.2.2.2) rfl
            · exact opOk_skip_undef (j := 10) (d := 59) rfl (by kernel_rfl) (by first | exact hdep | exact hdep.1 | exact hdep.2 | exact hdep.2.1 | exact hdep.2.2 | exact hdep.2.2.1 | exact hdep.2.2.2 | exact hdep.2.2.2.1 | exact hdep.2.2.2.2) rfl
            · exact opOk_skip_undef (j := 10) (d := 59) rfl (by kernel_rfl) (by first | exact hdep | exact hdep.1 | exact hdep.2 | exact hdep.2.1 | exact hdep.2.2 | exact hdep.2.2.1 | exact hdep.2.2.2 | exact hdep.2.2.2.1 | exact hdep.2.2.2.2) rfl
            · exact opOk_skip_undef (j := 10) (d := 59) rfl (by kernel_rfl) (by first | exact hdep | exact hdep.1 | exact hdep.2 | exact hdep.2.1 | exact hdep.2.2 | exact hdep.2.2.1 | exact hdep.2.2.2 | exact hdep.2.2.2.1 | exact hdep.2.2.2.2) rfl
            · exact opOk_skip_undef (j := 10) (d := 59) rfl (by kernel_rfl) (by first | exact hdep | exact hdep.1 | exact hdep.2 | exact hdep.2.1 | exact hdep.2.2 | exact hdep.2.2.1 | exact hdep.2.2.2 | exact hdep.2.2.2.1 | exact hdep.2.2.2.2) rfl
            · exact opOk_skip_undef (j := 10) (d := 59) rfl (by kernel_rfl) (by first | exact hdep | exact hdep.1 | exact hdep.2 | exact hdep.2.1 | exact hdep.2.2 | exact hdep.2.2.1 | exact hdep.2.2.2 | exact hdep.2.2.2.1 | exact hdep.2.2.2.2) rfl
            · exact opOk_skip_undef (j := 10) (d := 59) rfl (by kernel_rfl) (by first | exact hdep | exact hdep.1 | exact hdep.2 | exact hdep.2.1 | exact hdep.2.2 | exact hdep.2.2.1 | exact hdep.2.2.2 | exact hdep.2.2.2.1 | exact hdep.2.2.2.2) rfl
            · exact opOk_skip (j := 5) (d := 54) (b := false) rfl (by kernel_rfl) (by first | exact hdep | exact hdep.1 | exact hdep.2 | exact hdep.2.1 | exact hdep.2.2 | exact hdep.2.2.1 | exact hdep.2.2.2 | exact hdep.2.2.2.1 | exact hdep.2.2.2.2) rfl rfl
            · refine opOk_run rfl (.inl ⟨_, W, ?_, rfl, Ext.refl _⟩); clear hsz hS; simp [go_sem, Act.eval, *]
          case hVx => exact vs_stays (by simp only [List.mem_cons, List.not_mem_nil, or_false, forall_eq_or_imp, forall_eq]; exact ⟨stays_const _, stays_const _, stays_const _, stays_const _, stays_const _, stays_const _, stays_const _, stays_const _, stays_const _, stays_const _, stays_const _, stays_const _, stays_const _, stays_const _, stays_const _, stays_const _, stays_const _, stays_const _, stays_const _, stays_const _⟩)
          case hSx => exact fun W W' h hx => h.trans (Below.mono hx h.size)
          case hS => exact Below.refl _ _
          case hfin =>
            intro A W hsz hdf hS hv hbase
            obtain ⟨x, hx, hA⟩ := act_puts [49, 50, 51, 52, 53, 54, 55, 56, 57, 58, 59, 60, 61, 62, 63, 64, 65, 66, 67, 68] (by kernel_rfl) hsz hdf hbase
            have e68 : x 68 = .bool false := (hx 68).trans (hv 19 (by decide))
            rw [hA]
            simp only [List.foldl]
            rw [e68]
            clear e68
            simp only [Act.put, List.setIfInBounds_toArray, List.set_cons_succ, List.set_cons_zero]
            clear hA hx hv hbase hsz hdf
            have HBW1 := Lib.hid (HBW.out.trans (hS.mono HBW.out.size))
            clear hS
            go_wp2_with fail
            go_roundw
            case rel => exact ⟨k + 1, by omega, by omega, by go_num, HBW1.out⟩
            case measure => simp [intOf]; omega

        | false =>
          go_wp2_with fail
          have hstk := stuck_first HFit.out HB0.out HCNE.out HLD.out HLT.out
          have hns0 : ¬ (ns = 0) := fun e => hstk.1 (List.eq_nil_of_length_eq_zero (by have := HST4.out.2; rw [ints_len] at this; omega))
          have hnsI : ((ns : Int) == 0) = false := by simp [hns0]
          have HFS := Lib.hid hstk.2
          clear hstk hns0
          refine wp_region_rv (by kernel_rfl) (Vs [fun v _ => v = .slice (some ⟨gl, 0, none⟩) mm mm, fun v _ => v = .int .i64 (t : Int), fun v _ => v = .pointer (some ⟨gl, t, none⟩), fun v _ => v = .bool false, fun v _ => v = .bool true, fun v _ => v = .bool true, fun v _ => v = .pointer (some ⟨w4.heap.size, 1, none⟩), fun v _ => v = .slice as' ns cs, fun v _ => v = .int .i64 (ns : Int), fun v _ => v = .bool false, fun v _ => v = .bool false, fun v _ => v = .pointer (some ⟨w4.heap.size, 1, none⟩), fun v _ => v = .slice as' ns cs, fun v _ => v = .slice ar nr cr, fun v _ => v = .int .i64 (k : Int), fun v _ => v = .slice ar k cr, fun v _ => v = .bool true, fun v _ => v = .bool false, fun v _ => v = .bool false, fun v _ => v = .bool false]) (fun W1 => Below W.heap.size W W1) 132 (by kernel_rfl) rfl ?hVx ?hSx ?hS (opsOk_all ?hop) ?hfin
          case hop =>
            refine ⟨?_, ?_, ?_, ?_, ?_, ?_, ?_, ?_, ?_, ?_, ?_, ?_, ?_, ?_, ?_, ?_, ?_, ?_, ?_, ?_, trivial⟩
            all_goals
              intro A W hsz hS hdep hbase
              have hmk := (hS.block gl (Nat.lt_of_lt_of_le hgl6 HBW.out.size)).trans HMKW.out
              have qt := mask_cell hmk (i := t) htm
              rw [HLT.out] at qt
              have hit := idx_mask gl mm t htm
              obtain ⟨r0', r1', r2'⟩ := cells3 ((hS.block w4.heap.size (Nat.lt_of_lt_of_le hgr6 HBW.out.size)).trans HRW.out)
              clear hmk
              have h10 : A.tmps.getD 10 undef = .slice (some ⟨gl, 0, none⟩) mm mm := hbase 10 (by kernel_rfl)
              have h13 : A.tmps.getD 13 undef = .int .i64 (t : Int) := hbase 13 (by kernel_rfl)
              have h9 : A.tmps.getD 9 undef = .pointer (some ⟨w4.heap.size, 0, none⟩) := hbase 9 (by kernel_rfl)
              have h11 : A.tmps.getD 11 undef = .slice ar nr cr := hbase 11 (by kernel_rfl)
              have h12 : A.tmps.getD 12 undef = .int .i64 (k : Int) := hbase 12 (by kernel_rfl)
              clear hbase
              simp [slotOf, Region.binds, Vs] at hdep
            · refine opOk_run rfl (.inl ⟨_, W, ?_, rfl, Ext.refl _⟩); clear hsz hS; simp [go_sem, Act.eval, *]
            · refine opOk_run rfl (.inl ⟨_, W, ?_, rfl, Ext.refl _⟩); clear hsz hS; simp [go_sem, Act.eval, *]
            · refine opOk_run rfl (.inl ⟨_, W, ?_, rfl, Ext.refl _⟩); clear hsz hS; simp [go_sem, Act.eval, *]
            · refine opOk_run rfl (.inl ⟨_, W, ?_, rfl, Ext.refl _⟩); clear hsz hS; simp [go_sem, Act.eval, *]
            · refine opOk_run rfl (.inl ⟨_, W, ?_, rfl, Ext.refl _⟩); clear hsz hS; simp [go_sem, Act.eval, *]
            · refine opOk_run rfl (.inl ⟨_, W, ?_, rfl, Ext.refl _⟩); clear hsz hS; simp [go_sem, Act.eval, *]
            · refine opOk_runG (j := 5) (d := 54) (b := true) rfl (by kernel_rfl) (by first | exact hdep | exact hdep.1 | exact hdep.2 | exact hdep.2.1 | exact hdep.2.2 | exact hdep.2.2.1 | exact hdep.2.2.2 | exact hdep.2.2.2.1 | exact hdep.2.2.2.2) rfl (.inl ⟨_, W, ?_, rfl, Ext.refl _⟩); clear hsz hS; simp [go_sem, Act.eval, *]
            · refine opOk_runG (j := 5) (d := 54) (b := true) rfl (by kernel_rfl) (by first | exact hdep | exact hdep.1 | exact hdep.2 | exact hdep.2.1 | exact hdep.2.2 | exact hdep.2.2.1 | exact hdep.2.2.2 | exact hdep.2.2.2.1 | exact hdep.2.2.2.2) rfl (.inl ⟨_, W, ?_, rfl, Ext.refl _⟩); clear hsz hS; simp [go_sem, Act.eval, *]
            · refine opOk_runG (j := 5) (d := 54) (b := true) rfl (by kernel_rfl) (by first | exact hdep | exact hdep.1 | exact hdep.2 | exact hdep.2.1 | exact hdep.2.2 | exact hdep.2.2.1 | exact hdep.2.2.2 | exact hdep.2.2.2.1 | exact hdep.2.2.2.2) rfl (.inl ⟨_, W, ?_, rfl, Ext.refl _⟩); clear hsz hS; simp [go_sem, Act.eval, *]
            · refine opOk_runG (j := 5) (d := 54) (b := true) rfl (by kernel_rfl) (by first | exact hdep | exact hdep.1 | exact hdep.2 | exact hdep.2.1 | exact hdep.2.2 | exact hdep.2.2.1 | exact hdep.2.2.2 | exact hdep.2.2.2.1 | exact hdep.2.2.2.2) rfl (.inl ⟨_, W, ?_, rfl, Ext.refl _⟩); clear hsz hS; simp [go_sem, Act.eval, *]
            · refine opOk_runG (j := 5) (d := 54) (b := true) rfl (by kernel_rfl) (by first | exact hdep | exact hdep.1 | exact hdep.2 | exact hdep.2.1 | exact hdep.2.2 | exact hdep.2.2.1 | exact hdep.2.2.2 | exact hdep.2.2.2.1 | exact hdep.2.2.2.2) rfl (.inl ⟨_, W, ?_, rfl, Ext.refl _⟩); clear hsz hS; simp [go_sem, Act.eval, *]
            · refine opOk_runG (j := 10) (d := 59) (b := false) rfl (by kernel_rfl) (by first | exact hdep | exact hdep.1 | exact hdep.2 | exact hdep.2.1 | exact hdep.2.2 | exact hdep.2.2.1 | exact hdep.2.2.2 | exact hdep.2.2.2.1 | exact hdep.2.2.2.2) rfl (.inl ⟨_, W, ?_, rfl, Ext.refl _⟩); clear hsz hS; simp [go_sem, Act.eval, *]
            · refine opOk_runG (j := 10) (d := 59) (b := false) rfl (by kernel_rfl) (by first | exact hdep | exact hdep.1 | exact hdep.2 | exact hdep.2.1 | exact hdep.2.2 | exact hdep.2.2.1 | exact hdep.2.2.2 | exact hdep.2.2.2.1 | exact hdep.2.2.2.2) rfl (.inl ⟨_, W, ?_, rfl, Ext.refl _⟩); clear hsz hS; simp [go_sem, Act.eval, *]
            · refine opOk_runG (j := 10) (d := 59) (b := false) rfl (by kernel_rfl) (by first | exact hdep | exact hdep.1 | exact hdep.2 | exact hdep.2.1 | exact hdep.2.2 | exact hdep.2.2.1 | exact hdep.2.2.2 | exact hdep.2.2.2.1 | exact hdep.2.2.2.2) rfl (.inl ⟨_, W, ?_, rfl, Ext.refl _⟩); clear hsz hS; simp [go_sem, Act.eval, *]
            · refine opOk_runG (j := 10) (d := 59) (b := false) rfl (by kernel_rfl) (by first | exact hdep | exact hdep.1 | exact hdep.2 | exact hdep.2.1 | exact hdep.2.2 | exact hdep.2.2.1 | exact hdep.2.2.2 | exact hdep.2.2.2.1 | exact hdep.2.2.2.2) rfl (.inl ⟨_, W, ?_, rfl, Ext.refl _⟩); clear hsz hS; simp [go_sem, Act.eval, *]
            · refine opOk_runG (j := 10) (d := 59) (b := false) rfl (by kernel_rfl) (by first | exact hdep | exact hdep.1 | exact hdep.2 | exact hdep.2.1 | exact hdep.2.2 | exact hdep.2.2.1 | exact hdep.2.2.2 | exact hdep.2.2.2.1 | exact hdep.2.2.2.2) rfl (.inl ⟨_, W, ?_, rfl, Ext.refl _⟩); clear hsz hS; simp [go_sem, Act.eval, *]
            · refine opOk_runG (j := 10) (d := 59) (b := false) rfl (by kernel_rfl) (by first | exact hdep | exact hdep.1 | exact hdep.2 | exact hdep.2.1 | exact hdep.2.2 | exact hdep.2.2.1 | exact hdep.2.2.2 | exact hdep.2.2.2.1 | exact hdep.2.2.2.2) rfl (.inr ⟨26, #[.slice as' ns cs, .slice ar k cr], W, by (clear hsz hS; simp [go_sem, Act.eval, *]), ?_⟩)
              refine (lfirst_any as' ar ns k cs cr (ints (stuckF S)) (ints (RT.take k)) W HST4.out.2 (by rw [ints_len, List.length_take]; have := HRS.out.2.1; omega) (HST4.out.1.later (HXW.out.trans (hS.mono HXW.out.size)) (Nat.le_refl _)) (by rw [ints_take]; exact slS_take (HRS.out.1.later (HBW.out.trans (hS.mono HBW.out.size)) (Nat.le_refl _)) k) (by have := HST4.out.2; omega) (by rw [ints_len, List.length_take]; omega)).mono ?_
              rintro e w' ⟨he, hb⟩
              rw [HFS.out] at he
              exact ⟨_, he, rfl, hb⟩
            · refine opOk_runG (j := 10) (d := 59) (b := false) rfl (by kernel_rfl) (by first | exact hdep | exact hdep.1 | exact hdep.2 | exact hdep.2.1 | exact hdep.2.2 | exact hdep.2.2.1 | exact hdep.2.2.2 | exact hdep.2.2.2.1 | exact hdep.2.2.2.2) rfl (.inl ⟨_, W, ?_, rfl, Ext.refl _⟩); clear hsz hS; simp [go_sem, Act.eval, *]
            · refine opOk_runG (j := 5) (d := 54) (b := true) rfl (by kernel_rfl) (by first | exact hdep | exact hdep.1 | exact hdep.2 | exact hdep.2.1 | exact hdep.2.2 | exact hdep.2.2.1 | exact hdep.2.2.2 | exact hdep.2.2.2.1 | exact hdep.2.2.2.2) rfl (.inl ⟨_, W, ?_, rfl, Ext.refl _⟩); clear hsz hS; simp [go_sem, Act.eval, *]
            · refine opOk_run rfl (.inl ⟨_, W, ?_, rfl, Ext.refl _⟩); clear hsz hS; simp [go_sem, Act.eval, *]
          case hVx => exact vs_stays (by simp only [List.mem_cons, List.not_mem_nil, or_false, forall_eq_or_imp, forall_eq]; exact ⟨stays_const _, stays_const _, stays_const _, stays_const _, stays_const _, stays_const _, stays_const _, stays_const _, stays_const _, stays_const _, stays_const _, stays_const _, stays_const _, stays_const _, stays_const _, stays_const _, stays_const _, stays_const _, stays_const _, stays_const _⟩)
          case hSx => exact fun W W' h hx => h.trans (Below.mono hx h.size)
          case hS => exact Below.refl _ _
          case hfin =>
            intro A W hsz hdf hS hv hbase
            obtain ⟨x, hx, hA⟩ := act_puts [49, 50, 51, 52, 53, 54, 55, 56, 57, 58, 59, 60, 61, 62, 63, 64, 65, 66, 67, 68] (by kernel_rfl) hsz hdf hbase
            have e68 : x 68 = .bool false := (hx 68).trans (hv 19 (by decide))
            rw [hA]
            simp only [List.foldl]
            rw [e68]
            clear e68
            simp only [Act.put, List.setIfInBounds_toArray, List.set_cons_succ, List.set_cons_zero]
            clear hA hx hv hbase hsz hdf
            have HBW1 := Lib.hid (HBW.out.trans (hS.mono HBW.out.size))
            clear hS
            go_wp2_with fail
            go_roundw
            case rel => exact ⟨k + 1, by omega, by omega, by go_num, HBW1.out⟩
            case measure => simp [intOf]; omega
    · have hex : (¬ ((k : Int) ≤ (nr : Int))) ∨ (((k : Int) ≤ (nr : Int)) ∧ b0 = false) := by
        by_cases h : k ≤ nr
        · refine .inr ⟨by omega, ?_⟩
          cases b0 with
          | false => rfl
          | true => exact absurd ⟨h, rfl⟩ hkl
        · exact .inl (by omega)
      rcases hex with hkI | ⟨hkI, rfl⟩
      all_goals
        obtain ⟨m, hm⟩ : ∃ m : Nat, fr % S.modes = (m : Int) := ⟨(fr % S.modes).toNat, by have := Int.emod_nonneg fr (show S.modes ≠ 0 by omega); omega⟩
        have htm2 : m < mm := by have := Int.emod_lt_of_pos fr (show 0 < S.modes by omega); have := HMI.out; omega
        have hmI2 : (m : Int) < (mm : Int) := by omega
        have hB0 := hB
        go_wp2_with fail
        try simp only [hm]
        refine (walk_any S b c (m : Int) al ll cl Zb _ HLW.out.rul (by omega) (HZb.out.later hB (Nat.le_refl _)) hll).mono ?_
        rintro e w7 ⟨vc, rfl, hcc, hb⟩
        obtain ⟨ac, nc, cc2, rfl⟩ := hcc.form
        obtain ⟨CC, hCC⟩ : ∃ CC, CC = walkF S.rules (m : Int) (numsF Zb ll) := ⟨_, rfl⟩
        have HCC10 : Hid (CC.length ≤ 10) := by show _ ≤ _; rw [hCC]; exact Nat.le_trans (walkF_len _ _ _) (by simp [numsF]; omega)
        have HPR2 : Hid (∀ n, ∃ t, t < S.modes.toNat ∧ leads anyU S.rules m (CC.take n) = some t ∧ followF (fun _ => true) S.rules (m : Int) (ints (CC.take n)) = some (t : Int)) := fun n => by rw [hCC]; exact walk_pre HFit.out (numsF Zb ll) m n (by rw [HMM.out]; exact htm2)
        rw [← hCC] at hcc
        have HCS7 : Hid (SlS w7 ac (ints CC) ∧ nc = CC.length ∧ CC.length ≤ cc2) := ⟨hcc.sls.1, hcc.sls.2, by obtain ⟨a', c', he, h1, -⟩ := hcc.sl; cases he; exact h1⟩
        have HLW7 := Lib.hid (HLW.out.below hb)
        have hB7 := hB.trans (hb.mono hB.size)
        have HX7 := Lib.hid (HX.out.trans (hb.mono HX.out.size))
        have HR7 := Lib.hid ((hb.block w4.heap.size (Nat.lt_of_lt_of_le hgr6 HBR.out.size)).trans HR.out)
        have HMK7 := Lib.hid ((hb.block gl (Nat.lt_of_lt_of_le hgl6 HBR.out.size)).trans HMK.out)
        have HB67 := Lib.hid (HBR.out.trans (hb.mono HBR.out.size))
        have hgr7 := Nat.lt_of_lt_of_le (Nat.lt_of_lt_of_le hgr6 HBR.out.size) hb.size
        have hgl7 := Nat.lt_of_lt_of_le (Nat.lt_of_lt_of_le hgl6 HBR.out.size) hb.size
        have hnc10 : nc ≤ 10 := by have := HCC10.out; have := HCS7.out.2.1; omega
        clear hc hf d0 d1 d2 hzz hb hcc hCC r0 r1 r2 q0 hB hm hB0
        go_wp2_with fail
        go_loopw [17] (fun i wr => ∃ k : Nat, 1 ≤ k ∧ k ≤ nc + 1 ∧ i = .int .i64 k ∧ Below w7.heap.size w7 wr) (fun i _ => nc + 1 - (intOf i).toNat)
        case atStart => exact ⟨1, by omega, by omega, rfl, Below.refl _ _⟩
        case round =>
          obtain ⟨k, hk1, hk, rfl, hbr⟩ := hrel
          have HLW := Lib.hid (HLW7.out.below hbr)
          have hB := hB7.trans (hbr.mono hB7.size)
          have HBR := Lib.hid hbr
          have HX := Lib.hid (HX7.out.trans (hbr.mono HX7.out.size))
          have HR := Lib.hid ((hbr.block w4.heap.size hgr7).trans HR7.out)
          have HMK := Lib.hid ((hbr.block gl hgl7).trans HMK7.out)
          clear hbr
          obtain ⟨hzz, hc, hf⟩ := bcellB HLW.out.bl rfl
          obtain ⟨d0, d1, d2⟩ := HLW.out.cells
          obtain ⟨r0, r1, r2⟩ := cells3 HR.out
          by_cases hkl : k ≤ nc
          · obtain ⟨t, ht, hlead, hfol⟩ := HPR2.out k
            have HLD := Lib.hid hlead; have HFO := Lib.hid hfol
            have hkI : (k : Int) ≤ (nc : Int) := by omega
            have hsl := slice_low_ints ac nc cc2 k (by have := HCS7.out.2; omega)
            have hcne : CC.take k ≠ [] := fun e => by have h9 := congrArg List.length e; rw [List.length_take] at h9; simp only [List.length_nil] at h9; have h8 := HCS7.out.2.1; omega
            have HCNE := Lib.hid hcne
            have HIN : Hid (∀ q (h : q < (ints (CC.take k)).length), 0 ≤ (ints (CC.take k))[q] ∧ (ints (CC.take k))[q].toNat < S.rules.length) := (follow_some hfol).1
            have HCS : Hid (SlS w7 ac (ints CC) ∧ nc = CC.length ∧ CC.length ≤ cc2) := HCS7.out
            have hgr6 := hgr7
            have hgl6 := hgl7
            clear hlead hfol ht hcne
            go_upto_region 17 with fail
            refine wp_region_rv (by kernel_rfl) (Vs [fun v _ => v = .agg #[.int .i64 S.modes, .int .u8 S.acc, .slice b S.rules.length c], fun v _ => v = .int .i64 (m : Int), fun v _ => v = .slice ac nc cc2, fun v _ => v = .int .i64 (k : Int), fun v _ => v = .slice ac k cc2, fun v _ => v = .tuple #[.int .i64 (t : Int), .bool true], fun v _ => v = .tuple #[.int .i64 (t : Int), .bool true], fun v _ => v = .int .i64 (t : Int), fun v _ => v = .bool true, fun v _ => v = .int .i64 (t : Int), fun v _ => v = .bool true]) (fun W => Below wr.heap.size wr W) 132 (by kernel_rfl) rfl ?hVx ?hSx ?hS (opsOk_all ?hop) ?hfin
            case hop =>
              refine ⟨?_, ?_, ?_, ?_, ?_, ?_, ?_, ?_, ?_, ?_, ?_, trivial⟩
              all_goals
                intro A W hsz hS hdep hbase
                have hlw := HLW.out.below hS
                obtain ⟨hzW, hcW, hfW⟩ := bcellB hlw.bl rfl
                obtain ⟨d0', d1', d2'⟩ := hlw.cells
                clear hlw
                have h8 : A.tmps.getD 8 undef = .pointer (some ⟨w2.heap.size, 0, none⟩) := hbase 8 (by kernel_rfl)
                have h15 : A.tmps.getD 15 undef = .int .i64 (m : Int) := hbase 15 (by kernel_rfl)
                have h16 : A.tmps.getD 16 undef = .slice ac nc cc2 := hbase 16 (by kernel_rfl)
                have h17 : A.tmps.getD 17 undef = .int .i64 (k : Int) := hbase 17 (by kernel_rfl)
                clear hbase
                simp [slotOf, Region.binds, Vs] at hdep
              · refine opOk_run rfl (.inl ⟨_, W, ?_, rfl, Ext.refl _⟩); clear hsz hS; simp [go_sem, Act.eval, *]
              · refine opOk_run rfl (.inl ⟨_, W, ?_, rfl, Ext.refl _⟩); clear hsz hS; simp [go_sem, Act.eval, *]
              · refine opOk_run rfl (.inl ⟨_, W, ?_, rfl, Ext.refl _⟩); clear hsz hS; simp [go_sem, Act.eval, *]
              · refine opOk_run rfl (.inl ⟨_, W, ?_, rfl, Ext.refl _⟩); clear hsz hS; simp [go_sem, Act.eval, *]
              · refine opOk_run rfl (.inl ⟨_, W, ?_, rfl, Ext.refl _⟩); clear hsz hS; simp [go_sem, Act.eval, *]
              · refine opOk_run rfl (.inr ⟨21, #[.agg #[.int .i64 S.modes, .int .u8 S.acc, .slice b S.rules.length c], .int .i64 (m : Int), .slice ac k cc2], W, by (clear hsz hS; simp [go_sem, Act.eval, *]), ?_⟩)
                refine (chain_any S b c (m : Int) ac k cc2 (ints (CC.take k)) W (by rw [ints_len, List.length_take]; have := HCS.out.2.1; omega) (HLW.out.below hS).rul (by omega) (by rw [ints_take]; exact slS_take (HCS.out.1.later (HBR.out.trans (hS.mono HBR.out.size)) (Nat.le_refl _)) k) (by rw [ints_len, List.length_take]; omega)).mono ?_
                rintro e w' ⟨rfl, hb⟩
                exact ⟨_, rfl, by rw [HFO.out]; rfl, hb⟩
              · refine opOk_run rfl (.inl ⟨_, W, ?_, rfl, Ext.refl _⟩); clear hsz hS; simp [go_sem, Act.eval, *]
              · refine opOk_run rfl (.inl ⟨_, W, ?_, rfl, Ext.refl _⟩); clear hsz hS; simp [go_sem, Act.eval, *]
              · refine opOk_run rfl (.inl ⟨_, W, ?_, rfl, Ext.refl _⟩); clear hsz hS; simp [go_sem, Act.eval, *]
              · refine opOk_run rfl (.inl ⟨_, W, ?_, rfl, Ext.refl _⟩); clear hsz hS; simp [go_sem, Act.eval, *]
              · refine opOk_run rfl (.inl ⟨_, W, ?_, rfl, Ext.refl _⟩); clear hsz hS; simp [go_sem, Act.eval, *]
            case hVx => exact vs_stays (by simp only [List.mem_cons, List.not_mem_nil, or_false, forall_eq_or_imp, forall_eq]; exact ⟨stays_const _, stays_const _, stays_const _, stays_const _, stays_const _, stays_const _, stays_const _, stays_const _, stays_const _, stays_const _, stays_const _⟩)
            case hSx => exact fun W W' h hx => h.trans (Below.mono hx h.size)
            case hS => exact Below.refl _ _
            case hfin =>
              intro A W hsz hdf hS hv hbase
              obtain ⟨x, hx, hA⟩ := act_puts [85, 86, 87, 88, 89, 90, 84, 91, 92, 18, 19] (by kernel_rfl) hsz hdf hbase
              have e18 : x 18 = .int .i64 (t : Int) := (hx 18).trans (hv 9 (by decide))
              rw [hA]
              simp only [List.foldl]
              rw [e18]
              clear e18
              simp only [Act.put, List.setIfInBounds_toArray, List.set_cons_succ, List.set_cons_zero]
              clear hA hx hv hbase hsz hdf
              have HLWW := Lib.hid (HLW.out.below hS)
              have hBW := hB.trans (hS.mono hB.size)
              have HBW := Lib.hid (HBR.out.trans (hS.mono HBR.out.size))
              have HXW := Lib.hid (HX.out.trans (hS.mono HX.out.size))
              have HRW := Lib.hid ((hS.block w4.heap.size (Nat.lt_of_lt_of_le hgr6 HBR.out.size)).trans HR.out)
              have HMKW := Lib.hid ((hS.block gl (Nat.lt_of_lt_of_le hgl6 HBR.out.size)).trans HMK.out)
              clear hc hf d0 d1 d2 hzz hB hS r0 r1 r2
              obtain ⟨hzz, hc, hf⟩ := bcellB HLWW.out.bl rfl
              obtain ⟨d0, d1, d2⟩ := HLWW.out.cells
              obtain ⟨r0, r1, r2⟩ := cells3 HRW.out
              obtain ⟨sil, hsil⟩ : ∃ sil, ((ints (CC.take k)).all fun i => emptyR (S.rules.getD i.toNat ⟨0, 0, ⟨#[]⟩, ⟨#[]⟩, 0⟩)) = sil := ⟨_, rfl⟩
              have HSIL := Lib.hid hsil
              obtain ⟨lm, hlm⟩ : ∃ lm, (liveS S).testBit m = lm := ⟨_, rfl⟩
              have HLM := Lib.hid hlm
              obtain ⟨rb, hrb⟩ : ∃ rb, (reachS S).testBit m = rb := ⟨_, rfl⟩
              have HRB := Lib.hid hrb
              clear hsil hlm hrb
              by_cases htm : t = m
              · have htm2' : m = t := htm.symm
                subst htm2'
                cases sil with
                | false =>
                  go_wp2_with fail
                  refine wp_region_rv (by kernel_rfl) (Vs [fun v _ => v = .int .i64 (m : Int), fun v _ => v = .int .i64 (m : Int), fun v _ => v = .bool true, fun v _ => v = .bool true, fun v _ => v = .agg #[.int .i64 S.modes, .int .u8 S.acc, .slice b S.rules.length c], fun v _ => v = .slice ac nc cc2, fun v _ => v = .int .i64 (k : Int), fun v _ => v = .slice ac k cc2, fun v _ => v = .bool false, fun v _ => v = .bool false, fun v _ => v = .bool false, fun v _ => v = undef, fun v _ => v = undef, fun v _ => v = undef, fun v _ => v = undef, fun v _ => v = .bool false, fun v _ => v = .bool false, fun v _ => v = undef, fun v _ => v = undef, fun v _ => v = undef, fun v _ => v = undef, fun v _ => v = undef, fun v _ => v = .bool false, fun v _ => v = .bool false, fun v _ => v = undef, fun v _ => v = undef, fun v _ => v = undef, fun v _ => v = undef, fun v _ => v = undef, fun v _ => v = undef, fun v _ => v = undef, fun v _ => v = undef, fun v _ => v = undef, fun v _ => v = undef, fun v _ => v = undef, fun v _ => v = undef, fun v _ => v = undef, fun v _ => v = .bool false]) (fun W1 => Below W.heap.size W W1) 132 (by kernel_rfl) rfl ?hVx ?hSx ?hS (opsOk_all ?hop) ?hfin
                  case hop =>
                    refine ⟨?_, ?_, ?_, ?_, ?_, ?_, ?_, ?_, ?_, ?_, ?_, ?_, ?_, ?_, ?_, ?_, ?_, ?_, ?_, ?_, ?_, ?_, ?_, ?_, ?_, ?_, ?_, ?_, ?_, ?_, ?_, ?_, ?_, ?_, ?_, ?_, ?_, ?_, trivial⟩
                    all_goals
                      intro A W hsz hS hdep hbase
                      have hlw := HLWW.out.below hS
                      obtain ⟨hzW, hcW, hfW⟩ := bcellB hlw.bl rfl
                      obtain ⟨d0', d1', d2'⟩ := hlw.cells
                      obtain ⟨r0', r1', r2'⟩ := cells3 ((hS.block w4.heap.size (Nat.lt_of_lt_of_le hgr6 HBW.out.size)).trans HRW.out)
                      have hmk := (hS.block gl (Nat.lt_of_lt_of_le hgl6 HBW.out.size)).trans HMKW.out
                      have qm := mask_cell hmk (i := m) htm2
                      rw [HLM.out] at qm
                      have him := idx_mask gl mm m htm2
                      have hsl := slice_low_ints ac nc cc2 k (by have := HCS.out.2; omega)
                      clear hlw hmk
                      have h18 : A.tmps.getD 18 undef = .int .i64 (m : Int) := hbase 18 (by kernel_rfl)
                      have h15 : A.tmps.getD 15 undef = .int .i64 (m : Int) := hbase 15 (by kernel_rfl)
                      have h16 : A.tmps.getD 16 undef = .slice ac nc cc2 := hbase 16 (by kernel_rfl)
                      have h17 : A.tmps.getD 17 undef = .int .i64 (k : Int) := hbase 17 (by kernel_rfl)
                      have h10 : A.tmps.getD 10 undef = .slice (some ⟨gl, 0, none⟩) mm mm := hbase 10 (by kernel_rfl)
                      have h9 : A.tmps.getD 9 undef = .pointer (some ⟨w4.heap.size, 0, none⟩) := hbase 9 (by kernel_rfl)
                      have h8 : A.tmps.getD 8 undef = .pointer (some ⟨w2.heap.size, 0, none⟩) := hbase 8 (by kernel_rfl)
                      clear hbase
                      simp [slotOf, Region.binds, Vs] at hdep
                    · refine opOk_run rfl (.inl ⟨_, W, ?_, rfl, Ext.refl _⟩); clear hsz hS; simp [go_sem, Act.eval, *]
                    · refine opOk_run rfl (.inl ⟨_, W, ?_, rfl, Ext.refl _⟩); clear hsz hS; simp [go_sem, Act.eval, *]
                    · refine opOk_run rfl (.inl ⟨_, W, ?_, rfl, Ext.refl _⟩); clear hsz hS; simp [go_sem, Act.eval, *]
                    · refine opOk_run rfl (.inl ⟨_, W, ?_, rfl, Ext.refl _⟩); clear hsz hS; simp [go_sem, Act.eval, *]
                    · refine opOk_runG (j := 3) (d := 96) (b := true) rfl (by kernel_rfl) (by first | exact hdep | exact hdep.1 | exact hdep.2 | exact hdep.2.1 | exact hdep.2.2 | exact hdep.2.2.1 | exact hdep.2.2.2 | exact hdep.2.2.2.1 | exact hdep.2.2.2.2) rfl (.inl ⟨_, W, ?_, rfl, Ext.refl _⟩); clear hsz hS; simp [go_sem, Act.eval, *]
                    · refine opOk_runG (j := 3) (d := 96) (b := true) rfl (by kernel_rfl) (by first | exact hdep | exact hdep.1 | exact hdep.2 | exact hdep.2.1 | exact hdep.2.2 | exact hdep.2.2.1 | exact hdep.2.2.2 | exact hdep.2.2.2.1 | exact hdep.2.2.2.2) rfl (.inl ⟨_, W, ?_, rfl, Ext.refl _⟩); clear hsz hS; simp [go_sem, Act.eval, *]
                    · refine opOk_runG (j := 3) (d := 96) (b := true) rfl (by kernel_rfl) (by first | exact hdep | exact hdep.1 | exact hdep.2 | exact hdep.2.1 | exact hdep.2.2 | exact hdep.2.2.1 | exact hdep.2.2.2 | exact hdep.2.2.2.1 | exact hdep.2.2.2.2) rfl (.inl ⟨_, W, ?_, rfl, Ext.refl _⟩); clear hsz hS; simp [go_sem, Act.eval, *]
                    · refine opOk_runG (j := 3) (d := 96) (b := true) rfl (by kernel_rfl) (by first | exact hdep | exact hdep.1 | exact hdep.2 | exact hdep.2.1 | exact hdep.2.2 | exact hdep.2.2.1 | exact hdep.2.2.2 | exact hdep.2.2.2.1 | exact hdep.2.2.2.2) rfl (.inl ⟨_, W, ?_, rfl, Ext.refl _⟩); clear hsz hS; simp [go_sem, Act.eval, *]
                    · refine opOk_runG (j := 3) (d := 96) (b := true) rfl (by kernel_rfl) (by first | exact hdep | exact hdep.1 | exact hdep.2 | exact hdep.2.1 | exact hdep.2.2 | exact hdep.2.2.1 | exact hdep.2.2.2 | exact hdep.2.2.2.1 | exact hdep.2.2.2.2) rfl (.inr ⟨27, #[.agg #[.int .i64 S.modes, .int .u8 S.acc, .slice b S.rules.length c], .slice ac k cc2], W, by (clear hsz hS; simp [go_sem, Act.eval, *]), ?_⟩)
                      refine (silent_any S b c ac k cc2 (ints (CC.take k)) W (by rw [ints_len, List.length_take]; have := HCS.out.2.1; omega) (HLWW.out.below hS).rul (by omega) (by rw [ints_take]; exact slS_take (HCS.out.1.later (HBW.out.trans (hS.mono HBW.out.size)) (Nat.le_refl _)) k) (by rw [ints_len, List.length_take]; omega) HIN.out).mono ?_
                      rintro e w' ⟨he, hb⟩
                      rw [HSIL.out] at he
                      exact ⟨_, he, rfl, hb⟩
                    · refine opOk_run rfl (.inl ⟨_, W, ?_, rfl, Ext.refl _⟩); clear hsz hS; simp [go_sem, Act.eval, *]
                    · refine opOk_run rfl (.inl ⟨_, W, ?_, rfl, Ext.refl _⟩); clear hsz hS; simp [go_sem, Act.eval, *]
                    · exact opOk_skip (j := 10) (d := 103) (b := false) rfl (by kernel_rfl) (by first | exact hdep | exact hdep.1 | exact hdep.2 | exact hdep.2.1 | exact hdep.2.2 | exact hdep.2.2.1 | exact hdep.2.2.2 | exact hdep.2.2.2.1 | exact hdep.2.2.2.2) rfl rfl
                    · exact opOk_skip (j := 10) (d := 103) (b := false) rfl (by kernel_rfl) (by first | exact hdep | exact hdep.1 | exact hdep.2 | exact hdep.2.1 | exact hdep.2.2 | exact hdep.2.2.1 | exact hdep.2.2.2 | exact hdep.2.2.2.1 | exact hdep.2.2.2.2) rfl rfl
                    · exact opOk_skip (j := 10) (d := 103) (b := false) rfl (by kernel_rfl) (by first | exact hdep | exact hdep.1 | exact hdep.2 | exact hdep.2.1 | exact hdep.2.2 | exact hdep.2.2.1 | exact hdep.2.2.2 | exact hdep.2.2.2.1 | exact hdep.2.2.2.2) rfl rfl
                    · exact opOk_skip (j := 10) (d := 103) (b := false) rfl (by kernel_rfl) (by first | exact hdep | exact hdep.1 | exact hdep.2 | exact hdep.2.1 | exact hdep.2.2 | exact hdep.2.2.1 | exact hdep.2.2.2 | exact hdep.2.2.2.1 | exact hdep.2.2.2.2) rfl rfl
                    · refine opOk_run rfl (.inl ⟨_, W, ?_, rfl, Ext.refl _⟩); clear hsz hS; simp [go_sem, Act.eval, *]
                    · refine opOk_run rfl (.inl ⟨_, W, ?_, rfl, Ext.refl _⟩); clear hsz hS; simp [go_sem, Act.eval, *]
                    · exact opOk_skip (j := 16) (d := 109) (b := false) rfl (by kernel_rfl) (by first | exact hdep | exact hdep.1 | exact hdep.2 | exact hdep.2.1 | exact hdep.2.2 | exact hdep.2.2.1 | exact hdep.2.2.2 | exact hdep.2.2.2.1 | exact hdep.2.2.2.2) rfl rfl
                    · exact opOk_skip (j := 16) (d := 109) (b := false) rfl (by kernel_rfl) (by first | exact hdep | exact hdep.1 | exact hdep.2 | exact hdep.2.1 | exact hdep.2.2 | exact hdep.2.2.1 | exact hdep.2.2.2 | exact hdep.2.2.2.1 | exact hdep.2.2.2.2) rfl rfl
                    · exact opOk_skip (j := 16) (d := 109) (b := false) rfl (by kernel_rfl) (by first | exact hdep | exact hdep.1 | exact hdep.2 | exact hdep.2.1 | exact hdep.2.2 | exact hdep.2.2.1 | exact hdep.2.2.2 | exact hdep.2.2.2.1 | exact hdep.2.2.2.2) rfl rfl
                    · exact opOk_skip (j := 16) (d := 109) (b := false) rfl (by kernel_rfl) (by first | exact hdep | exact hdep.1 | exact hdep.2 | exact hdep.2.1 | exact hdep.2.2 | exact hdep.2.2.1 | exact hdep.2.2.2 | exact hdep.2.2.2.1 | exact hdep.2.2.2.2) rfl rfl
                    · exact opOk_skip (j := 16) (d := 109) (b := false) rfl (by kernel_rfl) (by first | exact hdep | exact hdep.1 | exact hdep.2 | exact hdep.2.1 | exact hdep.2.2 | exact hdep.2.2.1 | exact hdep.2.2.2 | exact hdep.2.2.2.1 | exact hdep.2.2.2.2) rfl rfl
                    · refine opOk_run rfl (.inl ⟨_, W, ?_, rfl, Ext.refl _⟩); clear hsz hS; simp [go_sem, Act.eval, *]
                    · refine opOk_run rfl (.inl ⟨_, W, ?_, rfl, Ext.refl _⟩); clear hsz hS; simp [go_sem, Act.eval, *]
                    · exact opOk_skip (j := 23) (d := 116) (b := false) rfl (by kernel_rfl) (by first | exact hdep | exact hdep.1 | exact hdep.2 | exact hdep.2.1 | exact hdep.2.2 | exact hdep.2.2.1 | exact hdep.2.2.2 | exact hdep.2.2.2.1 | exact hdep.2.2.2.2) rfl rfl
                    · exact opOk_skip (j := 23) (d := 116) (b := false) rfl (by kernel_rfl) (by first | exact hdep | exact hdep.1 | exact hdep.2 | exact hdep.2.1 | exact hdep.2.2 | exact hdep.2.2.1 | exact hdep.2.2.2 | exact hdep.2.2.2.1 | exact hdep.2.2.2.2) rfl rfl
                    · exact opOk_skip (j := 23) (d := 116) (b := false) rfl (by kernel_rfl) (by first | exact hdep | exact hdep.1 | exact hdep.2 | exact hdep.2.1 | exact hdep.2.2 | exact hdep.2.2.1 | exact hdep.2.2.2 | exact hdep.2.2.2.1 | exact hdep.2.2.2.2) rfl rfl
                    · exact opOk_skip (j := 23) (d := 116) (b := false) rfl (by kernel_rfl) (by first | exact hdep | exact hdep.1 | exact hdep.2 | exact hdep.2.1 | exact hdep.2.2 | exact hdep.2.2.1 | exact hdep.2.2.2 | exact hdep.2.2.2.1 | exact hdep.2.2.2.2) rfl rfl
                    · exact opOk_skip (j := 23) (d := 116) (b := false) rfl (by kernel_rfl) (by first | exact hdep | exact hdep.1 | exact hdep.2 | exact hdep.2.1 | exact hdep.2.2 | exact hdep.2.2.1 | exact hdep.2.2.2 | exact hdep.2.2.2.1 | exact hdep.2.2.2.2) rfl rfl
                    · exact opOk_skip_undef (j := 28) (d := 121) rfl (by kernel_rfl) (by first | exact hdep | exact hdep.1 | exact hdep.2 | exact hdep.2.1 | exact hdep.2.2 | exact hdep.2.2.1 | exact hdep.2.2.2 | exact hdep.2.2.2.1 | exact hdep.2.2.2.2) rfl
                    · exact opOk_skip_undef (j := 28) (d := 121) rfl (by kernel_rfl) (by first | exact hdep | exact hdep.1 | exact hdep.2 | exact hdep.2.1 | exact hdep.2.2 | exact hdep.2.2.1 | exact hdep.2.2.2 | exact hdep.2.2.2.1 | exact hdep.2.2.2.2) rfl
                    · exact opOk_skip_undef (j := 28) (d := 121) rfl (by kernel_rfl) (by first | exact hdep | exact hdep.1 | exact hdep.2 | exact hdep.2.1 | exact hdep.2.2 | exact hdep.2.2.1 | exact hdep.2.2.2 | exact hdep.2.2.2.1 | exact hdep.2.2.2.2) rfl
                    · exact opOk_skip_undef (j := 28) (d := 121) rfl (by kernel_rfl) (by first | exact hdep | exact hdep.1 | exact hdep.2 | exact hdep.2.1 | exact hdep.2.2 | exact hdep.2.2.1 | exact hdep.2.2.2 | exact hdep.2.2.2.1 | exact hdep.2.2.2.2) rfl
                    · exact opOk_skip_undef (j := 28) (d := 121) rfl (by kernel_rfl) (by first | exact hdep | exact hdep.1 | exact hdep.2 | exact hdep.2.1 | exact hdep.2.2 | exact hdep.2.2.1 | exact hdep.2.2.2 | exact hdep.2.2.2.1 | exact hdep.2.2.2.2) rfl
                    · exact opOk_skip_undef (j := 28) (d := 121) rfl (by kernel_rfl) (by first | exact hdep | exact hdep.1 | exact hdep.2 | exact hdep.2.1 | exact hdep.2.2 | exact hdep.2.2.1 | exact hdep.2.2.2 | exact hdep.2.2.2.1 | exact hdep.2.2.2.2) rfl
                    · exact opOk_skip_undef (j := 28) (d := 121) rfl (by kernel_rfl) (by first | exact hdep | exact hdep.1 | exact hdep.2 | exact hdep.2.1 | exact hdep.2.2 | exact hdep.2.2.1 | exact hdep.2.2.2 | exact hdep.2.2.2.1 | exact hdep.2.2.2.2) rfl
                    · exact opOk_skip (j := 23) (d := 116) (b := false) rfl (by kernel_rfl) (by first | exact hdep | exact hdep.1 | exact hdep.2 | exact hdep.2.1 | exact hdep.2.2 | exact hdep.2.2.1 | exact hdep.2.2.2 | exact hdep.2.2.2.1 | exact hdep.2.2.2.2) rfl rfl
                    · refine opOk_run rfl (.inl ⟨_, W, ?_, rfl, Ext.refl _⟩); clear hsz hS; simp [go_sem, Act.eval, *]
                  case hVx => exact vs_stays (by simp only [List.mem_cons, List.not_mem_nil, or_false, forall_eq_or_imp, forall_eq]; exact ⟨stays_const _, stays_const _, stays_const _, stays_const _, stays_const _, stays_const _, stays_const _, stays_const _, stays_const _, stays_const _, stays_const _, stays_const _, stays_const _, stays_const _, stays_const _, stays_const _, stays_const _, stays_const _, stays_const _, stays_const _, stays_const _, stays_const _, stays_const _, stays_const _, stays_const _, stays_const _, stays_const _, stays_const _, stays_const _, stays_const _, stays_const _, stays_const _, stays_const _, stays_const _, stays_const _, stays_const _, stays_const _, stays_const _⟩)
                  case hSx => exact fun W W' h hx => h.trans (Below.mono hx h.size)
                  case hS => exact Below.refl _ _
                  case hfin =>
                    intro A W hsz hdf hS hv hbase
                    obtain ⟨x, hx, hA⟩ := act_puts [93, 94, 95, 96, 97, 98, 99, 100, 101, 102, 103, 104, 105, 106, 107, 108, 109, 110, 111, 112, 113, 114, 115, 116, 117, 118, 119, 120, 121, 122, 123, 124, 125, 126, 127, 128, 129, 130] (by kernel_rfl) hsz hdf hbase
                    have e130 : x 130 = .bool false := (hx 130).trans (hv 37 (by decide))
                    rw [hA]
                    simp only [List.foldl]
                    rw [e130]
                    clear e130
                    simp only [Act.put, List.setIfInBounds_toArray, List.set_cons_succ, List.set_cons_zero]
                    clear hA hx hv hbase hsz hdf
                    have HBW1 := Lib.hid (HBW.out.trans (hS.mono HBW.out.size))
                    clear hS
                    go_wp2_with fail
                    go_roundw
                    case rel => exact ⟨k + 1, by omega, by omega, by go_num, HBW1.out⟩
                    case measure => simp [intOf]; omega

                | true =>
                  cases lm with
                  | false =>
                    go_wp2_with fail
                    refine wp_region_rv (by kernel_rfl) (Vs [fun v _ => v = .int .i64 (m : Int), fun v _ => v = .int .i64 (m : Int), fun v _ => v = .bool true, fun v _ => v = .bool true, fun v _ => v = .agg #[.int .i64 S.modes, .int .u8 S.acc, .slice b S.rules.length c], fun v _ => v = .slice ac nc cc2, fun v _ => v = .int .i64 (k : Int), fun v _ => v = .slice ac k cc2, fun v _ => v = .bool true, fun v _ => v = .bool true, fun v _ => v = .bool true, fun v _ => v = .slice (some ⟨gl, 0, none⟩) mm mm, fun v _ => v = .int .i64 (m : Int), fun v _ => v = .pointer (some ⟨gl, m, none⟩), fun v _ => v = .bool false, fun v _ => v = .bool false, fun v _ => v = .bool false, fun v _ => v = undef, fun v _ => v = undef, fun v _ => v = undef, fun v _ => v = undef, fun v _ => v = undef, fun v _ => v = .bool false, fun v _ => v = .bool false, fun v _ => v = undef, fun v _ => v = undef, fun v _ => v = undef, fun v _ => v = undef, fun v _ => v = undef, fun v _ => v = undef, fun v _ => v = undef, fun v _ => v = undef, fun v _ => v = undef, fun v _ => v = undef, fun v _ => v = undef, fun v _ => v = undef, fun v _ => v = undef, fun v _ => v = .bool false]) (fun W1 => Below W.heap.size W W1) 132 (by kernel_rfl) rfl ?hVx ?hSx ?hS (opsOk_all ?hop) ?hfin
                    case hop =>
                      refine ⟨?_, ?_, ?_, ?_, ?_, ?_, ?_, ?_, ?_, ?_, ?_, ?_, ?_, ?_, ?_, ?_, ?_, ?_, ?_, ?_, ?_, ?_, ?_, ?_, ?_, ?_, ?_, ?_, ?_, ?_, ?_, ?_, ?_, ?_, ?_, ?_, ?_, ?_, trivial⟩
                      all_goals
                        intro A W hsz hS hdep hbase
                        have hlw := HLWW.out.below hS
                        obtain ⟨hzW, hcW, hfW⟩ := bcellB hlw.bl rfl
                        obtain ⟨d0', d1', d2'⟩ := hlw.cells
                        obtain ⟨r0', r1', r2'⟩ := cells3 ((hS.block w4.heap.size (Nat.lt_of_lt_of_le hgr6 HBW.out.size)).trans HRW.out)
                        have hmk := (hS.block gl (Nat.lt_of_lt_of_le hgl6 HBW.out.size)).trans HMKW.out
                        have qm := mask_cell hmk (i := m) htm2
                        rw [HLM.out] at qm
                        have him := idx_mask gl mm m htm2
                        have hsl := slice_low_ints ac nc cc2 k (by have := HCS.out.2; omega)
                        clear hlw hmk
                        have h18 : A.tmps.getD 18 undef = .int .i64 (m : Int) := hbase 18 (by kernel_rfl)
                        have h15 : A.tmps.getD 15 undef = .int .i64 (m : Int) := hbase 15 (by kernel_rfl)
                        have h16 : A.tmps.getD 16 undef = .slice ac nc cc2 := hbase 16 (by kernel_rfl)
                        have h17 : A.tmps.getD 17 undef = .int .i64 (k : Int) := hbase 17 (by kernel_rfl)
                        have h10 : A.tmps.getD 10 undef = .slice (some ⟨gl, 0, none⟩) mm mm := hbase 10 (by kernel_rfl)
                        have h9 : A.tmps.getD 9 undef = .pointer (some ⟨w4.heap.size, 0, none⟩) := hbase 9 (by kernel_rfl)
                        have h8 : A.tmps.getD 8 undef = .pointer (some ⟨w2.heap.size, 0, none⟩) := hbase 8 (by kernel_rfl)
                        clear hbase
                        simp [slotOf, Region.binds, Vs] at hdep
                      · refine opOk_run rfl (.inl ⟨_, W, ?_, rfl, Ext.refl _⟩); clear hsz hS; simp [go_sem, Act.eval, *]
                      · refine opOk_run rfl (.inl ⟨_, W, ?_, rfl, Ext.refl _⟩); clear hsz hS; simp [go_sem, Act.eval, *]
                      · refine opOk_run rfl (.inl ⟨_, W, ?_, rfl, Ext.refl _⟩); clear hsz hS; simp [go_sem, Act.eval, *]
                      · refine opOk_run rfl (.inl ⟨_, W, ?_, rfl, Ext.refl _⟩); clear hsz hS; simp [go_sem, Act.eval, *]
                      · refine opOk_runG (j := 3) (d := 96) (b := true) rfl (by kernel_rfl) (by first | exact hdep | exact hdep.1 | exact hdep.2 | exact hdep.2.1 | exact hdep.2.2 | exact hdep.2.2.1 | exact hdep.2.2.2 | exact hdep.2.2.2.1 | exact hdep.2.2.2.2) rfl (.inl ⟨_, W, ?_, rfl, Ext.refl _⟩); clear hsz hS; simp [go_sem, Act.eval, *]
                      · refine opOk_runG (j := 3) (d := 96) (b := true) rfl (by kernel_rfl) (by first | exact hdep | exact hdep.1 | exact hdep.2 | exact hdep.2.1 | exact hdep.2.2 | exact hdep.2.2.1 | exact hdep.2.2.2 | exact hdep.2.2.2.1 | exact hdep.2.2.2.2) rfl (.inl ⟨_, W, ?_, rfl, Ext.refl _⟩); clear hsz hS; simp [go_sem, Act.eval, *]
                      · refine opOk_runG (j := 3) (d := 96) (b := true) rfl (by kernel_rfl) (by first | exact hdep | exact hdep.1 | exact hdep.2 | exact hdep.2.1 | exact hdep.2.2 | exact hdep.2.2.1 | exact hdep.2.2.2 | exact hdep.2.2.2.1 | exact hdep.2.2.2.2) rfl (.inl ⟨_, W, ?_, rfl, Ext.refl _⟩); clear hsz hS; simp [go_sem, Act.eval, *]
                      · refine opOk_runG (j := 3) (d := 96) (b := true) rfl (by kernel_rfl) (by first | exact hdep | exact hdep.1 | exact hdep.2 | exact hdep.2.1 | exact hdep.2.2 | exact hdep.2.2.1 | exact hdep.2.2.2 | exact hdep.2.2.2.1 | exact hdep.2.2.2.2) rfl (.inl ⟨_, W, ?_, rfl, Ext.refl _⟩); clear hsz hS; simp [go_sem, Act.eval, *]
                      · refine opOk_runG (j := 3) (d := 96) (b := true) rfl (by kernel_rfl) (by first | exact hdep | exact hdep.1 | exact hdep.2 | exact hdep.2.1 | exact hdep.2.2 | exact hdep.2.2.1 | exact hdep.2.2.2 | exact hdep.2.2.2.1 | exact hdep.2.2.2.2) rfl (.inr ⟨27, #[.agg #[.int .i64 S.modes, .int .u8 S.acc, .slice b S.rules.length c], .slice ac k cc2], W, by (clear hsz hS; simp [go_sem, Act.eval, *]), ?_⟩)
                        refine (silent_any S b c ac k cc2 (ints (CC.take k)) W (by rw [ints_len, List.length_take]; have := HCS.out.2.1; omega) (HLWW.out.below hS).rul (by omega) (by rw [ints_take]; exact slS_take (HCS.out.1.later (HBW.out.trans (hS.mono HBW.out.size)) (Nat.le_refl _)) k) (by rw [ints_len, List.length_take]; omega) HIN.out).mono ?_
                        rintro e w' ⟨he, hb⟩
                        rw [HSIL.out] at he
                        exact ⟨_, he, rfl, hb⟩
                      · refine opOk_run rfl (.inl ⟨_, W, ?_, rfl, Ext.refl _⟩); clear hsz hS; simp [go_sem, Act.eval, *]
                      · refine opOk_run rfl (.inl ⟨_, W, ?_, rfl, Ext.refl _⟩); clear hsz hS; simp [go_sem, Act.eval, *]
                      · refine opOk_runG (j := 10) (d := 103) (b := true) rfl (by kernel_rfl) (by first | exact hdep | exact hdep.1 | exact hdep.2 | exact hdep.2.1 | exact hdep.2.2 | exact hdep.2.2.1 | exact hdep.2.2.2 | exact hdep.2.2.2.1 | exact hdep.2.2.2.2) rfl (.inl ⟨_, W, ?_, rfl, Ext.refl _⟩); clear hsz hS; simp [go_sem, Act.eval, *]
                      · refine opOk_runG (j := 10) (d := 103) (b := true) rfl (by kernel_rfl) (by first | exact hdep | exact hdep.1 | exact hdep.2 | exact hdep.2.1 | exact hdep.2.2 | exact hdep.2.2.1 | exact hdep.2.2.2 | exact hdep.2.2.2.1 | exact hdep.2.2.2.2) rfl (.inl ⟨_, W, ?_, rfl, Ext.refl _⟩); clear hsz hS; simp [go_sem, Act.eval, *]
                      · refine opOk_runG (j := 10) (d := 103) (b := true) rfl (by kernel_rfl) (by first | exact hdep | exact hdep.1 | exact hdep.2 | exact hdep.2.1 | exact hdep.2.2 | exact hdep.2.2.1 | exact hdep.2.2.2 | exact hdep.2.2.2.1 | exact hdep.2.2.2.2) rfl (.inl ⟨_, W, ?_, rfl, Ext.refl _⟩); clear hsz hS; simp [go_sem, Act.eval, *]
                      · refine opOk_runG (j := 10) (d := 103) (b := true) rfl (by kernel_rfl) (by first | exact hdep | exact hdep.1 | exact hdep.2 | exact hdep.2.1 | exact hdep.2.2 | exact hdep.2.2.1 | exact hdep.2.2.2 | exact hdep.2.2.2.1 | exact hdep.2.2.2.2) rfl (.inl ⟨_, W, ?_, rfl, Ext.refl _⟩); clear hsz hS; simp [go_sem, Act.eval, *]
                      · refine opOk_run rfl (.inl ⟨_, W, ?_, rfl, Ext.refl _⟩); clear hsz hS; simp [go_sem, Act.eval, *]
                      · refine opOk_run rfl (.inl ⟨_, W, ?_, rfl, Ext.refl _⟩); clear hsz hS; simp [go_sem, Act.eval, *]
                      · exact opOk_skip (j := 16) (d := 109) (b := false) rfl (by kernel_rfl) (by first | exact hdep | exact hdep.1 | exact hdep.2 | exact hdep.2.1 | exact hdep.2.2 | exact hdep.2.2.1 | exact hdep.2.2.2 | exact hdep.2.2.2.1 | exact hdep.2.2.2.2) rfl rfl
                      · exact opOk_skip (j := 16) (d := 109) (b := false) rfl (by kernel_rfl) (by first | exact hdep | exact hdep.1 | exact hdep.2 | exact hdep.2.1 | exact hdep.2.2 | exact hdep.2.2.1 | exact hdep.2.2.2 | exact hdep.2.2.2.1 | exact hdep.2.2.2.2) rfl rfl
                      · exact opOk_skip (j := 16) (d := 109) (b := false) rfl (by kernel_rfl) (by first | exact hdep | exact hdep.1 | exact hdep.2 | exact hdep.2.1 | exact hdep.2.2 | exact hdep.2.2.1 | exact hdep.2.2.2 | exact hdep.2.2.2.1 | exact hdep.2.2.2.2) rfl rfl
                      · exact opOk_skip (j := 16) (d := 109) (b := false) rfl (by kernel_rfl) (by first | exact hdep | exact hdep.1 | exact hdep.2 | exact hdep.2.1 | exact hdep.2.2 | exact hdep.2.2.1 | exact hdep.2.2.2 | exact hdep.2.2.2.1 | exact hdep.2.2.2.2) rfl rfl
                      · exact opOk_skip (j := 16) (d := 109) (b := false) rfl (by kernel_rfl) (by first | exact hdep | exact hdep.1 | exact hdep.2 | exact hdep.2.1 | exact hdep.2.2 | exact hdep.2.2.1 | exact hdep.2.2.2 | exact hdep.2.2.2.1 | exact hdep.2.2.2.2) rfl rfl
                      · refine opOk_run rfl (.inl ⟨_, W, ?_, rfl, Ext.refl _⟩); clear hsz hS; simp [go_sem, Act.eval, *]
                      · refine opOk_run rfl (.inl ⟨_, W, ?_, rfl, Ext.refl _⟩); clear hsz hS; simp [go_sem, Act.eval, *]
                      · exact opOk_skip (j := 23) (d := 116) (b := false) rfl (by kernel_rfl) (by first | exact hdep | exact hdep.1 | exact hdep.2 | exact hdep.2.1 | exact hdep.2.2 | exact hdep.2.2.1 | exact hdep.2.2.2 | exact hdep.2.2.2.1 | exact hdep.2.2.2.2) rfl rfl
                      · exact opOk_skip (j := 23) (d := 116) (b := false) rfl (by kernel_rfl) (by first | exact hdep | exact hdep.1 | exact hdep.2 | exact hdep.2.1 | exact hdep.2.2 | exact hdep.2.2.1 | exact hdep.2.2.2 | exact hdep.2.2.2.1 | exact hdep.2.2.2.2) rfl rfl
                      · exact opOk_skip (j := 23) (d := 116) (b := false) rfl (by kernel_rfl) (by first | exact hdep | exact hdep.1 | exact hdep.2 | exact hdep.2.1 | exact hdep.2.2 | exact hdep.2.2.1 | exact hdep.2.2.2 | exact hdep.2.2.2.1 | exact hdep.2.2.2.2) rfl rfl
                      · exact opOk_skip (j := 23) (d := 116) (b := false) rfl (by kernel_rfl) (by first | exact hdep | exact hdep.1 | exact hdep.2 | exact hdep.2.1 | exact hdep.2.2 | exact hdep.2.2.1 | exact hdep.2.2.2 | exact hdep.2.2.2.1 | exact hdep.2.2.2.2) rfl rfl
                      · exact opOk_skip (j := 23) (d := 116) (b := false) rfl (by kernel_rfl) (by first | exact hdep | exact hdep.1 | exact hdep.2 | exact hdep.2.1 | exact hdep.2.2 | exact hdep.2.2.1 | exact hdep.2.2.2 | exact hdep.2.2.2.1 | exact hdep.2.2.2.2) rfl rfl
                      · exact opOk_skip_undef (j := 28) (d := 121) rfl (by kernel_rfl) (by first | exact hdep | exact hdep.1 | exact hdep.2 | exact hdep.2.1 | exact hdep.2.2 | exact hdep.2.2.1 | exact hdep.2.2.2 | exact hdep.2.2.2.1 | exact hdep.2.2.2.2) rfl
                      · exact opOk_skip_undef (j := 28) (d := 121) rfl (by kernel_rfl) (by first | exact hdep | exact hdep.1 | exact hdep.2 | exact hdep.2.1 | exact hdep.2.2 | exact hdep.2.2.1 | exact hdep.2.2.2 | exact hdep.2.2.2.1 | exact hdep.2.2.2.2) rfl
                      · exact opOk_skip_undef (j := 28) (d := 121) rfl (by kernel_rfl) (by first | exact hdep | exact hdep.1 | exact hdep.2 | exact hdep.2.1 | exact hdep.2.2 | exact hdep.2.2.1 | exact hdep.2.2.2 | exact hdep.2.2.2.1 | exact hdep.2.2.2.2) rfl
                      · exact opOk_skip_undef (j := 28) (d := 121) rfl (by kernel_rfl) (by first | exact hdep | exact hdep.1 | exact hdep.2 | exact hdep.2.1 | exact hdep.2.2 | exact hdep.2.2.1 | exact hdep.2.2.2 | exact hdep.2.2.2.1 | exact hdep.2.2.2.2) rfl
                      · exact opOk_skip_undef (j := 28) (d := 121) rfl (by kernel_rfl) (by first | exact hdep | exact hdep.1 | exact hdep.2 | exact hdep.2.1 | exact hdep.2.2 | exact hdep.2.2.1 | exact hdep.2.2.2 | exact hdep.2.2.2.1 | exact hdep.2.2.2.2) rfl
                      · exact opOk_skip_undef (j := 28) (d := 121) rfl (by kernel_rfl) (by first | exact hdep | exact hdep.1 | exact hdep.2 | exact hdep.2.1 | exact hdep.2.2 | exact hdep.2.2.1 | exact hdep.2.2.2 | exact hdep.2.2.2.1 | exact hdep.2.2.2.2) rfl
                      · exact opOk_skip_undef (j := 28) (d := 121) rfl (by kernel_rfl) (by first | exact hdep | exact hdep.1 | exact hdep.2 | exact hdep.2.1 | exact hdep.2.2 | exact hdep.2.2.1 | exact hdep.2.2.2 | exact hdep.2.2.2.1 | exact hdep.2.2.2.2) rfl
                      · exact opOk_skip (j := 23) (d := 116) (b := false) rfl (by kernel_rfl) (by first | exact hdep | exact hdep.1 | exact hdep.2 | exact hdep.2.1 | exact hdep.2.2 | exact hdep.2.2.1 | exact hdep.2.2.2 | exact hdep.2.2.2.1 | exact hdep.2.2.2.2) rfl rfl
                      · refine opOk_run rfl (.inl ⟨_, W, ?_, rfl, Ext.refl _⟩); clear hsz hS; simp [go_sem, Act.eval, *]
                    case hVx => exact vs_stays (by simp only [List.mem_cons, List.not_mem_nil, or_false, forall_eq_or_imp, forall_eq]; exact ⟨stays_const _, stays_const _, stays_const _, stays_const _, stays_const _, stays_const _, stays_const _, stays_const _, stays_const _, stays_const _, stays_const _, stays_const _, stays_const _, stays_const _, stays_const _, stays_const _, stays_const _, stays_const _, stays_const _, stays_const _, stays_const _, stays_const _, stays_const _, stays_const _, stays_const _, stays_const _, stays_const _, stays_const _, stays_const _, stays_const _, stays_const _, stays_const _, stays_const _, stays_const _, stays_const _, stays_const _, stays_const _, stays_const _⟩)
                    case hSx => exact fun W W' h hx => h.trans (Below.mono hx h.size)
                    case hS => exact Below.refl _ _
                    case hfin =>
                      intro A W hsz hdf hS hv hbase
                      obtain ⟨x, hx, hA⟩ := act_puts [93, 94, 95, 96, 97, 98, 99, 100, 101, 102, 103, 104, 105, 106, 107, 108, 109, 110, 111, 112, 113, 114, 115, 116, 117, 118, 119, 120, 121, 122, 123, 124, 125, 126, 127, 128, 129, 130] (by kernel_rfl) hsz hdf hbase
                      have e130 : x 130 = .bool false := (hx 130).trans (hv 37 (by decide))
                      rw [hA]
                      simp only [List.foldl]
                      rw [e130]
                      clear e130
                      simp only [Act.put, List.setIfInBounds_toArray, List.set_cons_succ, List.set_cons_zero]
                      clear hA hx hv hbase hsz hdf
                      have HBW1 := Lib.hid (HBW.out.trans (hS.mono HBW.out.size))
                      clear hS
                      go_wp2_with fail
                      go_roundw
                      case rel => exact ⟨k + 1, by omega, by omega, by go_num, HBW1.out⟩
                      case measure => simp [intOf]; omega

                  | true =>
                    cases rb with
                    | false =>
                      go_wp2_with fail
                      refine wp_region_rv (by kernel_rfl) (Vs [fun v _ => v = .int .i64 (m : Int), fun v _ => v = .int .i64 (m : Int), fun v _ => v = .bool true, fun v _ => v = .bool true, fun v _ => v = .agg #[.int .i64 S.modes, .int .u8 S.acc, .slice b S.rules.length c], fun v _ => v = .slice ac nc cc2, fun v _ => v = .int .i64 (k : Int), fun v _ => v = .slice ac k cc2, fun v _ => v = .bool true, fun v _ => v = .bool true, fun v _ => v = .bool true, fun v _ => v = .slice (some ⟨gl, 0, none⟩) mm mm, fun v _ => v = .int .i64 (m : Int), fun v _ => v = .pointer (some ⟨gl, m, none⟩), fun v _ => v = .bool true, fun v _ => v = .bool true, fun v _ => v = .bool true, fun v _ => v = .agg #[.int .i64 S.modes, .int .u8 S.acc, .slice b S.rules.length c], fun v W => MaskAt W 0 v mm (reachS S), fun v _ => v = .int .i64 (m : Int), fun v W => ∃ g, v = .pointer (some ⟨g, m, none⟩) ∧ W.cell? ⟨g, m, none⟩ = some (.bool false), fun v _ => v = .bool false, fun v _ => v = .bool false, fun v _ => v = .bool false, fun v _ => v = undef, fun v _ => v = undef, fun v _ => v = undef, fun v _ => v = undef, fun v _ => v = undef, fun v _ => v = undef, fun v _ => v = undef, fun v _ => v = undef, fun v _ => v = undef, fun v _ => v = undef, fun v _ => v = undef, fun v _ => v = undef, fun v _ => v = undef, fun v _ => v = .bool false]) (fun W1 => Below W.heap.size W W1) 132 (by kernel_rfl) rfl ?hVx ?hSx ?hS (opsOk_all ?hop) ?hfin
                      case hop =>
                        refine ⟨?_, ?_, ?_, ?_, ?_, ?_, ?_, ?_, ?_, ?_, ?_, ?_, ?_, ?_, ?_, ?_, ?_, ?_, ?_, ?_, ?_, ?_, ?_, ?_, ?_, ?_, ?_, ?_, ?_, ?_, ?_, ?_, ?_, ?_, ?_, ?_, ?_, ?_, trivial⟩
                        all_goals
                          intro A W hsz hS hdep hbase
                          have hlw := HLWW.out.below hS
                          obtain ⟨hzW, hcW, hfW⟩ := bcellB hlw.bl rfl
                          obtain ⟨d0', d1', d2'⟩ := hlw.cells
                          obtain ⟨r0', r1', r2'⟩ := cells3 ((hS.block w4.heap.size (Nat.lt_of_lt_of_le hgr6 HBW.out.size)).trans HRW.out)
                          have hmk := (hS.block gl (Nat.lt_of_lt_of_le hgl6 HBW.out.size)).trans HMKW.out
                          have qm := mask_cell hmk (i := m) htm2
                          rw [HLM.out] at qm
                          have him := idx_mask gl mm m htm2
                          have hsl := slice_low_ints ac nc cc2 k (by have := HCS.out.2; omega)
                          clear hlw hmk
                          have h18 : A.tmps.getD 18 undef = .int .i64 (m : Int) := hbase 18 (by kernel_rfl)
                          have h15 : A.tmps.getD 15 undef = .int .i64 (m : Int) := hbase 15 (by kernel_rfl)
                          have h16 : A.tmps.getD 16 undef = .slice ac nc cc2 := hbase 16 (by kernel_rfl)
                          have h17 : A.tmps.getD 17 undef = .int .i64 (k : Int) := hbase 17 (by kernel_rfl)
                          have h10 : A.tmps.getD 10 undef = .slice (some ⟨gl, 0, none⟩) mm mm := hbase 10 (by kernel_rfl)
                          have h9 : A.tmps.getD 9 undef = .pointer (some ⟨w4.heap.size, 0, none⟩) := hbase 9 (by kernel_rfl)
                          have h8 : A.tmps.getD 8 undef = .pointer (some ⟨w2.heap.size, 0, none⟩) := hbase 8 (by kernel_rfl)
                          clear hbase
                          simp [slotOf, Region.binds, Vs] at hdep
                        · refine opOk_run rfl (.inl ⟨_, W, ?_, rfl, Ext.refl _⟩); clear hsz hS; simp [go_sem, Act.eval, *]
                        · refine opOk_run rfl (.inl ⟨_, W, ?_, rfl, Ext.refl _⟩); clear hsz hS; simp [go_sem, Act.eval, *]
                        · refine opOk_run rfl (.inl ⟨_, W, ?_, rfl, Ext.refl _⟩); clear hsz hS; simp [go_sem, Act.eval, *]
                        · refine opOk_run rfl (.inl ⟨_, W, ?_, rfl, Ext.refl _⟩); clear hsz hS; simp [go_sem, Act.eval, *]
                        · refine opOk_runG (j := 3) (d := 96) (b := true) rfl (by kernel_rfl) (by first | exact hdep | exact hdep.1 | exact hdep.2 | exact hdep.2.1 | exact hdep.2.2 | exact hdep.2.2.1 | exact hdep.2.2.2 | exact hdep.2.2.2.1 | exact hdep.2.2.2.2) rfl (.inl ⟨_, W, ?_, rfl, Ext.refl _⟩); clear hsz hS; simp [go_sem, Act.eval, *]
                        · refine opOk_runG (j := 3) (d := 96) (b := true) rfl (by kernel_rfl) (by first | exact hdep | exact hdep.1 | exact hdep.2 | exact hdep.2.1 | exact hdep.2.2 | exact hdep.2.2.1 | exact hdep.2.2.2 | exact hdep.2.2.2.1 | exact hdep.2.2.2.2) rfl (.inl ⟨_, W, ?_, rfl, Ext.refl _⟩); clear hsz hS; simp [go_sem, Act.eval, *]
                        · refine opOk_runG (j := 3) (d := 96) (b := true) rfl (by kernel_rfl) (by first | exact hdep | exact hdep.1 | exact hdep.2 | exact hdep.2.1 | exact hdep.2.2 | exact hdep.2.2.1 | exact hdep.2.2.2 | exact hdep.2.2.2.1 | exact hdep.2.2.2.2) rfl (.inl ⟨_, W, ?_, rfl, Ext.refl _⟩); clear hsz hS; simp [go_sem, Act.eval, *]
                        · refine opOk_runG (j := 3) (d := 96) (b := true) rfl (by kernel_rfl) (by first | exact hdep | exact hdep.1 | exact hdep.2 | exact hdep.2.1 | exact hdep.2.2 | exact hdep.2.2.1 | exact hdep.2.2.2 | exact hdep.2.2.2.1 | exact hdep.2.2.2.2) rfl (.inl ⟨_, W, ?_, rfl, Ext.refl _⟩); clear hsz hS; simp [go_sem, Act.eval, *]
                        · refine opOk_runG (j := 3) (d := 96) (b := true) rfl (by kernel_rfl) (by first | exact hdep | exact hdep.1 | exact hdep.2 | exact hdep.2.1 | exact hdep.2.2 | exact hdep.2.2.1 | exact hdep.2.2.2 | exact hdep.2.2.2.1 | exact hdep.2.2.2.2) rfl (.inr ⟨27, #[.agg #[.int .i64 S.modes, .int .u8 S.acc, .slice b S.rules.length c], .slice ac k cc2], W, by (clear hsz hS; simp [go_sem, Act.eval, *]), ?_⟩)
                          refine (silent_any S b c ac k cc2 (ints (CC.take k)) W (by rw [ints_len, List.length_take]; have := HCS.out.2.1; omega) (HLWW.out.below hS).rul (by omega) (by rw [ints_take]; exact slS_take (HCS.out.1.later (HBW.out.trans (hS.mono HBW.out.size)) (Nat.le_refl _)) k) (by rw [ints_len, List.length_take]; omega) HIN.out).mono ?_
                          rintro e w' ⟨he, hb⟩
                          rw [HSIL.out] at he
                          exact ⟨_, he, rfl, hb⟩
                        · refine opOk_run rfl (.inl ⟨_, W, ?_, rfl, Ext.refl _⟩); clear hsz hS; simp [go_sem, Act.eval, *]
                        · refine opOk_run rfl (.inl ⟨_, W, ?_, rfl, Ext.refl _⟩); clear hsz hS; simp [go_sem, Act.eval, *]
                        · refine opOk_runG (j := 10) (d := 103) (b := true) rfl (by kernel_rfl) (by first | exact hdep | exact hdep.1 | exact hdep.2 | exact hdep.2.1 | exact hdep.2.2 | exact hdep.2.2.1 | exact hdep.2.2.2 | exact hdep.2.2.2.1 | exact hdep.2.2.2.2) rfl (.inl ⟨_, W, ?_, rfl, Ext.refl _⟩); clear hsz hS; simp [go_sem, Act.eval, *]
                        · refine opOk_runG (j := 10) (d := 103) (b := true) rfl (by kernel_rfl) (by first | exact hdep | exact hdep.1 | exact hdep.2 | exact hdep.2.1 | exact hdep.2.2 | exact hdep.2.2.1 | exact hdep.2.2.2 | exact hdep.2.2.2.1 | exact hdep.2.2.2.2) rfl (.inl ⟨_, W, ?_, rfl, Ext.refl _⟩); clear hsz hS; simp [go_sem, Act.eval, *]
                        · refine opOk_runG (j := 10) (d := 103) (b := true) rfl (by kernel_rfl) (by first | exact hdep | exact hdep.1 | exact hdep.2 | exact hdep.2.1 | exact hdep.2.2 | exact hdep.2.2.1 | exact hdep.2.2.2 | exact hdep.2.2.2.1 | exact hdep.2.2.2.2) rfl (.inl ⟨_, W, ?_, rfl, Ext.refl _⟩); clear hsz hS; simp [go_sem, Act.eval, *]
                        · refine opOk_runG (j := 10) (d := 103) (b := true) rfl (by kernel_rfl) (by first | exact hdep | exact hdep.1 | exact hdep.2 | exact hdep.2.1 | exact hdep.2.2 | exact hdep.2.2.1 | exact hdep.2.2.2 | exact hdep.2.2.2.1 | exact hdep.2.2.2.2) rfl (.inl ⟨_, W, ?_, rfl, Ext.refl _⟩); clear hsz hS; simp [go_sem, Act.eval, *]
                        · refine opOk_run rfl (.inl ⟨_, W, ?_, rfl, Ext.refl _⟩); clear hsz hS; simp [go_sem, Act.eval, *]
                        · refine opOk_run rfl (.inl ⟨_, W, ?_, rfl, Ext.refl _⟩); clear hsz hS; simp [go_sem, Act.eval, *]
                        · refine opOk_runG (j := 16) (d := 109) (b := true) rfl (by kernel_rfl) (by first | exact hdep | exact hdep.1 | exact hdep.2 | exact hdep.2.1 | exact hdep.2.2 | exact hdep.2.2.1 | exact hdep.2.2.2 | exact hdep.2.2.2.1 | exact hdep.2.2.2.2) rfl (.inl ⟨_, W, ?_, rfl, Ext.refl _⟩); clear hsz hS; simp [go_sem, Act.eval, *]
                        · refine opOk_runG (j := 16) (d := 109) (b := true) rfl (by kernel_rfl) (by first | exact hdep | exact hdep.1 | exact hdep.2 | exact hdep.2.1 | exact hdep.2.2 | exact hdep.2.2.1 | exact hdep.2.2.2 | exact hdep.2.2.2.1 | exact hdep.2.2.2.2) rfl (.inr ⟨28, #[.agg #[.int .i64 S.modes, .int .u8 S.acc, .slice b S.rules.length c], .int .i64 ((0 : Nat) : Int)], W, by (clear hsz hS; simp [go_sem, Act.eval, *]), ?_⟩)
                          refine (rreached_any S b c 0 W (HLWW.out.below hS).rul HFit.out HFit.out.pos).mono ?_
                          rintro e w1 ⟨v, rfl, ⟨g2, hv, hg2, hmask⟩, hb⟩
                          exact ⟨v, rfl, ⟨g2, by rw [HMM.out] at hv; exact hv, Nat.zero_le _, by rw [HMM.out] at hmask; exact hmask⟩, hb⟩
                        · refine opOk_runG (j := 16) (d := 109) (b := true) rfl (by kernel_rfl) (by first | exact hdep | exact hdep.1 | exact hdep.2 | exact hdep.2.1 | exact hdep.2.2 | exact hdep.2.2.1 | exact hdep.2.2.2 | exact hdep.2.2.2.1 | exact hdep.2.2.2.2) rfl (.inl ⟨_, W, ?_, rfl, Ext.refl _⟩); clear hsz hS; simp [go_sem, Act.eval, *]
                        · obtain ⟨⟨g, hv, hg, hrow⟩, hrest⟩ := id hdep
                          refine opOk_runG (j := 16) (d := 109) (b := true) rfl (by kernel_rfl) (by first | exact hdep | exact hdep.1 | exact hdep.2 | exact hdep.2.1 | exact hdep.2.2 | exact hdep.2.2.1 | exact hdep.2.2.2 | exact hdep.2.2.2.1 | exact hdep.2.2.2.2) rfl (.inl ⟨.pointer (some ⟨g, m, none⟩), W, ?_, ⟨g, rfl, by rw [mask_cell hrow htm2, HRB.out]⟩, Ext.refl _⟩)
                          clear hsz hS; simp [go_sem, Act.eval, *]
                        · obtain ⟨⟨g, hv, hq⟩, hrest⟩ := id hdep
                          refine opOk_runG (j := 16) (d := 109) (b := true) rfl (by kernel_rfl) (by first | exact hdep | exact hdep.1 | exact hdep.2 | exact hdep.2.1 | exact hdep.2.2 | exact hdep.2.2.1 | exact hdep.2.2.2 | exact hdep.2.2.2.1 | exact hdep.2.2.2.2) rfl (.inl ⟨.bool false, W, ?_, rfl, Ext.refl _⟩)
                          clear hsz hS hdep; simp [go_sem, Act.eval, *]
                        · refine opOk_run rfl (.inl ⟨_, W, ?_, rfl, Ext.refl _⟩); clear hsz hS; simp [go_sem, Act.eval, *]
                        · refine opOk_run rfl (.inl ⟨_, W, ?_, rfl, Ext.refl _⟩); clear hsz hS; simp [go_sem, Act.eval, *]
                        · exact opOk_skip (j := 23) (d := 116) (b := false) rfl (by kernel_rfl) (by first | exact hdep | exact hdep.1 | exact hdep.2 | exact hdep.2.1 | exact hdep.2.2 | exact hdep.2.2.1 | exact hdep.2.2.2 | exact hdep.2.2.2.1 | exact hdep.2.2.2.2) rfl rfl
                        · exact opOk_skip (j := 23) (d := 116) (b := false) rfl (by kernel_rfl) (by first | exact hdep | exact hdep.1 | exact hdep.2 | exact hdep.2.1 | exact hdep.2.2 | exact hdep.2.2.1 | exact hdep.2.2.2 | exact hdep.2.2.2.1 | exact hdep.2.2.2.2) rfl rfl
                        · exact opOk_skip (j := 23) (d := 116) (b := false) rfl (by kernel_rfl) (by first | exact hdep | exact hdep.1 | exact hdep.2 | exact hdep.2.1 | exact hdep.2.2 | exact hdep.2.2.1 | exact hdep.2.2.2 | exact hdep.2.2.2.1 | exact hdep.2.2.2.2) rfl rfl
                        · exact opOk_skip (j := 23) (d := 116) (b := false) rfl (by kernel_rfl) (by first | exact hdep | exact hdep.1 | exact hdep.2 | exact hdep.2.1 | exact hdep.2.2 | exact hdep.2.2.1 | exact hdep.2.2.2 | exact hdep.2.2.2.1 | exact hdep.2.2.2.2) rfl rfl
                        · exact opOk_skip (j := 23) (d := 116) (b := false) rfl (by kernel_rfl) (by first | exact hdep | exact hdep.1 | exact hdep.2 | exact hdep.2.1 | exact hdep.2.2 | exact hdep.2.2.1 | exact hdep.2.2.2 | exact hdep.2.2.2.1 | exact hdep.2.2.2.2) rfl rfl
                        · exact opOk_skip_undef (j := 28) (d := 121) rfl (by kernel_rfl) (by first | exact hdep | exact hdep.1 | exact hdep.2 | exact hdep.2.1 | exact hdep.2.2 | exact hdep.2.2.1 | exact hdep.2.2.2 | exact hdep.2.2.2.1 | exact hdep.2.2.2.2) rfl
                        · exact opOk_skip_undef (j := 28) (d := 121) rfl (by kernel_rfl) (by first | exact hdep | exact hdep.1 | exact hdep.2 | exact hdep.2.1 | exact hdep.2.2 | exact hdep.2.2.1 | exact hdep.2.2.2 | exact hdep.2.2.2.1 | exact hdep.2.2.2.2) rfl
                        · exact opOk_skip_undef (j := 28) (d := 121) rfl (by kernel_rfl) (by first | exact hdep | exact hdep.1 | exact hdep.2 | exact hdep.2.1 | exact hdep.2.2 | exact hdep.2.2.1 | exact hdep.2.2.2 | exact hdep.2.2.2.1 | exact hdep.2.2.2.2) rfl
                        · exact opOk_skip_undef (j := 28) (d := 121) rfl (by kernel_rfl) (by first | exact hdep | exact hdep.1 | exact hdep.2 | exact hdep.2.1 | exact hdep.2.2 | exact hdep.2.2.1 | exact hdep.2.2.2 | exact hdep.2.2.2.1 | exact hdep.2.2.2.2) rfl
                        · exact opOk_skip_undef (j := 28) (d := 121) rfl (by kernel_rfl) (by first | exact hdep | exact hdep.1 | exact hdep.2 | exact hdep.2.1 | exact hdep.2.2 | exact hdep.2.2.1 | exact hdep.2.2.2 | exact hdep.2.2.2.1 | exact hdep.2.2.2.2) rfl
                        · exact opOk_skip_undef (j := 28) (d := 121) rfl (by kernel_rfl) (by first | exact hdep | exact hdep.1 | exact hdep.2 | exact hdep.2.1 | exact hdep.2.2 | exact hdep.2.2.1 | exact hdep.2.2.2 | exact hdep.2.2.2.1 | exact hdep.2.2.2.2) rfl
                        · exact opOk_skip_undef (j := 28) (d := 121) rfl (by kernel_rfl) (by first | exact hdep | exact hdep.1 | exact hdep.2 | exact hdep.2.1 | exact hdep.2.2 | exact hdep.2.2.1 | exact hdep.2.2.2 | exact hdep.2.2.2.1 | exact hdep.2.2.2.2) rfl
                        · exact opOk_skip (j := 23) (d := 116) (b := false) rfl (by kernel_rfl) (by first | exact hdep | exact hdep.1 | exact hdep.2 | exact hdep.2.1 | exact hdep.2.2 | exact hdep.2.2.1 | exact hdep.2.2.2 | exact hdep.2.2.2.1 | exact hdep.2.2.2.2) rfl rfl
                        · refine opOk_run rfl (.inl ⟨_, W, ?_, rfl, Ext.refl _⟩); clear hsz hS; simp [go_sem, Act.eval, *]
                      case hVx => exact vs_stays (by simp only [List.mem_cons, List.not_mem_nil, or_false, forall_eq_or_imp, forall_eq]; exact ⟨stays_const _, stays_const _, stays_const _, stays_const _, stays_const _, stays_const _, stays_const _, stays_const _, stays_const _, stays_const _, stays_const _, stays_const _, stays_const _, stays_const _, stays_const _, stays_const _, stays_const _, stays_const _, stays_mask _ _ _, stays_const _, stays_bit _ _, stays_const _, stays_const _, stays_const _, stays_const _, stays_const _, stays_const _, stays_const _, stays_const _, stays_const _, stays_const _, stays_const _, stays_const _, stays_const _, stays_const _, stays_const _, stays_const _, stays_const _⟩)
                      case hSx => exact fun W W' h hx => h.trans (Below.mono hx h.size)
                      case hS => exact Below.refl _ _
                      case hfin =>
                        intro A W hsz hdf hS hv hbase
                        obtain ⟨x, hx, hA⟩ := act_puts [93, 94, 95, 96, 97, 98, 99, 100, 101, 102, 103, 104, 105, 106, 107, 108, 109, 110, 111, 112, 113, 114, 115, 116, 117, 118, 119, 120, 121, 122, 123, 124, 125, 126, 127, 128, 129, 130] (by kernel_rfl) hsz hdf hbase
                        have e130 : x 130 = .bool false := (hx 130).trans (hv 37 (by decide))
                        rw [hA]
                        simp only [List.foldl]
                        rw [e130]
                        clear e130
                        simp only [Act.put, List.setIfInBounds_toArray, List.set_cons_succ, List.set_cons_zero]
                        clear hA hx hv hbase hsz hdf
                        have HBW1 := Lib.hid (HBW.out.trans (hS.mono HBW.out.size))
                        clear hS
                        go_wp2_with fail
                        go_roundw
                        case rel => exact ⟨k + 1, by omega, by omega, by go_num, HBW1.out⟩
                        case measure => simp [intOf]; omega

                    | true =>
                      have hfs := endl_first HFit.out (by rw [HMM.out]; exact htm2) HRB.out HLM.out HCNE.out (leads_silent HLD.out (silent_mem HSIL.out))
                      have hne0 : ¬ (ne = 0) := fun e => hfs.1 (List.eq_nil_of_length_eq_zero (by have := HEN4.out.2; rw [ints_len] at this; omega))
                      have hneI : ((ne : Int) == 0) = false := by simp [hne0]
                      have HFS := Lib.hid hfs.2
                      clear hfs hne0
                      go_wp2_with fail
                      refine wp_region_rv (by kernel_rfl) (Vs [fun v _ => v = .int .i64 (m : Int), fun v _ => v = .int .i64 (m : Int), fun v _ => v = .bool true, fun v _ => v = .bool true, fun v _ => v = .agg #[.int .i64 S.modes, .int .u8 S.acc, .slice b S.rules.length c], fun v _ => v = .slice ac nc cc2, fun v _ => v = .int .i64 (k : Int), fun v _ => v = .slice ac k cc2, fun v _ => v = .bool true, fun v _ => v = .bool true, fun v _ => v = .bool true, fun v _ => v = .slice (some ⟨gl, 0, none⟩) mm mm, fun v _ => v = .int .i64 (m : Int), fun v _ => v = .pointer (some ⟨gl, m, none⟩), fun v _ => v = .bool true, fun v _ => v = .bool true, fun v _ => v = .bool true, fun v _ => v = .agg #[.int .i64 S.modes, .int .u8 S.acc, .slice b S.rules.length c], fun v W => MaskAt W 0 v mm (reachS S), fun v _ => v = .int .i64 (m : Int), fun v W => ∃ g, v = .pointer (some ⟨g, m, none⟩) ∧ W.cell? ⟨g, m, none⟩ = some (.bool true), fun v _ => v = .bool true, fun v _ => v = .bool true, fun v _ => v = .bool true, fun v _ => v = .pointer (some ⟨w4.heap.size, 2, none⟩), fun v _ => v = .slice ae ne ce, fun v _ => v = .int .i64 (ne : Int), fun v _ => v = .bool false, fun v _ => v = .bool false, fun v _ => v = .pointer (some ⟨w4.heap.size, 2, none⟩), fun v _ => v = .slice ae ne ce, fun v _ => v = .slice ac nc cc2, fun v _ => v = .int .i64 (k : Int), fun v _ => v = .slice ac k cc2, fun v _ => v = .bool true, fun v _ => v = .bool false, fun v _ => v = .bool false, fun v _ => v = .bool false]) (fun W1 => Below W.heap.size W W1) 132 (by kernel_rfl) rfl ?hVx ?hSx ?hS (opsOk_all ?hop) ?hfin
                      case hop =>
                        refine ⟨?_, ?_, ?_, ?_, ?_, ?_, ?_, ?_, ?_, ?_, ?_, ?_, ?_, ?_, ?_, ?_, ?_, ?_, ?_, ?_, ?_, ?_, ?_, ?_, ?_, ?_, ?_, ?_, ?_, ?_, ?_, ?_, ?_, ?_, ?_, ?_, ?_, ?_, trivial⟩
                        all_goals
                          intro A W hsz hS hdep hbase
                          have hlw := HLWW.out.below hS
                          obtain ⟨hzW, hcW, hfW⟩ := bcellB hlw.bl rfl
                          obtain ⟨d0', d1', d2'⟩ := hlw.cells
                          obtain ⟨r0', r1', r2'⟩ := cells3 ((hS.block w4.heap.size (Nat.lt_of_lt_of_le hgr6 HBW.out.size)).trans HRW.out)
                          have hmk := (hS.block gl (Nat.lt_of_lt_of_le hgl6 HBW.out.size)).trans HMKW.out
                          have qm := mask_cell hmk (i := m) htm2
                          rw [HLM.out] at qm
                          have him := idx_mask gl mm m htm2
                          have hsl := slice_low_ints ac nc cc2 k (by have := HCS.out.2; omega)
                          clear hlw hmk
                          have h18 : A.tmps.getD 18 undef = .int .i64 (m : Int) := hbase 18 (by kernel_rfl)
                          have h15 : A.tmps.getD 15 undef = .int .i64 (m : Int) := hbase 15 (by kernel_rfl)
                          have h16 : A.tmps.getD 16 undef = .slice ac nc cc2 := hbase 16 (by kernel_rfl)
                          have h17 : A.tmps.getD 17 undef = .int .i64 (k : Int) := hbase 17 (by kernel_rfl)
                          have h10 : A.tmps.getD 10 undef = .slice (some ⟨gl, 0, none⟩) mm mm := hbase 10 (by kernel_rfl)
                          have h9 : A.tmps.getD 9 undef = .pointer (some ⟨w4.heap.size, 0, none⟩) := hbase 9 (by kernel_rfl)
                          have h8 : A.tmps.getD 8 undef = .pointer (some ⟨w2.heap.size, 0, none⟩) := hbase 8 (by kernel_rfl)
                          clear hbase
                          simp [slotOf, Region.binds, Vs] at hdep
                        · refine opOk_run rfl (.inl ⟨_, W, ?_, rfl, Ext.refl _⟩); clear hsz hS; simp [go_sem, Act.eval, *]
                        · refine opOk_run rfl (.inl ⟨_, W, ?_, rfl, Ext.refl _⟩); clear hsz hS; simp [go_sem, Act.eval, *]
                        · refine opOk_run rfl (.inl ⟨_, W, ?_, rfl, Ext.refl _⟩); clear hsz hS; simp [go_sem, Act.eval, *]
                        · refine opOk_run rfl (.inl ⟨_, W, ?_, rfl, Ext.refl _⟩); clear hsz hS; simp [go_sem, Act.eval, *]
                        · refine opOk_runG (j := 3) (d := 96) (b := true) rfl (by kernel_rfl) (by first | exact hdep | exact hdep.1 | exact hdep.2 | exact hdep.2.1 | exact hdep.2.2 | exact hdep.2.2.1 | exact hdep.2.2.2 | exact hdep.2.2.2.1 | exact hdep.2.2.2.2) rfl (.inl ⟨_, W, ?_, rfl, Ext.refl _⟩); clear hsz hS; simp [go_sem, Act.eval, *]
                        · refine opOk_runG (j := 3) (d := 96) (b := true) rfl (by kernel_rfl) (by first | exact hdep | exact hdep.1 | exact hdep.2 | exact hdep.2.1 | exact hdep.2.2 | exact hdep.2.2.1 | exact hdep.2.2.2 | exact hdep.2.2.2.1 | exact hdep.2.2.2.2) rfl (.inl ⟨_, W, ?_, rfl, Ext.refl _⟩); clear hsz hS; simp [go_sem, Act.eval, *]
                        · refine opOk_runG (j := 3) (d := 96) (b := true) rfl (by kernel_rfl) (by first | exact hdep | exact hdep.1 | exact hdep.2 | exact hdep.2.1 | exact hdep.2.2 | exact hdep.2.2.1 | exact hdep.2.2.2 | exact hdep.2.2.2.1 | exact hdep.2.2.2.2) rfl (.inl ⟨_, W, ?_, rfl, Ext.refl _⟩); clear hsz hS; simp [go_sem, Act.eval, *]
                        · refine opOk_runG (j := 3) (d := 96) (b := true) rfl (by kernel_rfl) (by first | exact hdep | exact hdep.1 | exact hdep.2 | exact hdep.2.1 | exact hdep.2.2 | exact hdep.2.2.1 | exact hdep.2.2.2 | exact hdep.2.2.2.1 | exact hdep.2.2.2.2) rfl (.inl ⟨_, W, ?_, rfl, Ext.refl _⟩); clear hsz hS; simp [go_sem, Act.eval, *]
                        · refine opOk_runG (j := 3) (d := 96) (b := true) rfl (by kernel_rfl) (by first | exact hdep | exact hdep.1 | exact hdep.2 | exact hdep.2.1 | exact hdep.2.2 | exact hdep.2.2.1 | exact hdep.2.2.2 | exact hdep.2.2.2.1 | exact hdep.2.2.2.2) rfl (.inr ⟨27, #[.agg #[.int .i64 S.modes, .int .u8 S.acc, .slice b S.rules.length c], .slice ac k cc2], W, by (clear hsz hS; simp [go_sem, Act.eval, *]), ?_⟩)
                          refine (silent_any S b c ac k cc2 (ints (CC.take k)) W (by rw [ints_len, List.length_take]; have := HCS.out.2.1; omega) (HLWW.out.below hS).rul (by omega) (by rw [ints_take]; exact slS_take (HCS.out.1.later (HBW.out.trans (hS.mono HBW.out.size)) (Nat.le_refl _)) k) (by rw [ints_len, List.length_take]; omega) HIN.out).mono ?_
                          rintro e w' ⟨he, hb⟩
                          rw [HSIL.out] at he
                          exact ⟨_, he, rfl, hb⟩
                        · refine opOk_run rfl (.inl ⟨_, W, ?_, rfl, Ext.refl _⟩); clear hsz hS; simp [go_sem, Act.eval, *]
                        · refine opOk_run rfl (.inl ⟨_, W, ?_, rfl, Ext.refl _⟩); clear hsz hS; simp [go_sem, Act.eval, *]
                        · refine opOk_runG (j := 10) (d := 103) (b := true) rfl (by kernel_rfl) (by first | exact hdep | exact hdep.1 | exact hdep.2 | exact hdep.2.1 | exact hdep.2.2 | exact hdep.2.2.1 | exact hdep.2.2.2 | exact hdep.2.2.2.1 | exact hdep.2.2.2.2) rfl (.inl ⟨_, W, ?_, rfl, Ext.refl _⟩); clear hsz hS; simp [go_sem, Act.eval, *]
                        · refine opOk_runG (j := 10) (d := 103) (b := true) rfl (by kernel_rfl) (by first | exact hdep | exact hdep.1 | exact hdep.2 | exact hdep.2.1 | exact hdep.2.2 | exact hdep.2.2.1 | exact hdep.2.2.2 | exact hdep.2.2.2.1 | exact hdep.2.2.2.2) rfl (.inl ⟨_, W, ?_, rfl, Ext.refl _⟩); clear hsz hS; simp [go_sem, Act.eval, *]
                        · refine opOk_runG (j := 10) (d := 103) (b := true) rfl (by kernel_rfl) (by first | exact hdep | exact hdep.1 | exact hdep.2 | exact hdep.2.1 | exact hdep.2.2 | exact hdep.2.2.1 | exact hdep.2.2.2 | exact hdep.2.2.2.1 | exact hdep.2.2.2.2) rfl (.inl ⟨_, W, ?_, rfl, Ext.refl _⟩); clear hsz hS; simp [go_sem, Act.eval, *]
                        · refine opOk_runG (j := 10) (d := 103) (b := true) rfl (by kernel_rfl) (by first | exact hdep | exact hdep.1 | exact hdep.2 | exact hdep.2.1 | exact hdep.2.2 | exact hdep.2.2.1 | exact hdep.2.2.2 | exact hdep.2.2.2.1 | exact hdep.2.2.2.2) rfl (.inl ⟨_, W, ?_, rfl, Ext.refl _⟩); clear hsz hS; simp [go_sem, Act.eval, *]
                        · refine opOk_run rfl (.inl ⟨_, W, ?_, rfl, Ext.refl _⟩); clear hsz hS; simp [go_sem, Act.eval, *]
                        · refine opOk_run rfl (.inl ⟨_, W, ?_, rfl, Ext.refl _⟩); clear hsz hS; simp [go_sem, Act.eval, *]
                        · refine opOk_runG (j := 16) (d := 109) (b := true) rfl (by kernel_rfl) (by first | exact hdep | exact hdep.1 | exact hdep.2 | exact hdep.2.1 | exact hdep.2.2 | exact hdep.2.2.1 | exact hdep.2.2.2 | exact hdep.2.2.2.1 | exact hdep.2.2.2.2) rfl (.inl ⟨_, W, ?_, rfl, Ext.refl _⟩); clear hsz hS; simp [go_sem, Act.eval, *]
                        · refine opOk_runG (j := 16) (d := 109) (b := true) rfl (by kernel_rfl) (by first | exact hdep | exact hdep.1 | exact hdep.2 | exact hdep.2.1 | exact hdep.2.2 | exact hdep.2.2.1 | exact hdep.2.2.2 | exact hdep.2.2.2.1 | exact hdep.2.2.2.2) rfl (.inr ⟨28, #[.agg #[.int .i64 S.modes, .int .u8 S.acc, .slice b S.rules.length c], .int .i64 ((0 : Nat) : Int)], W, by (clear hsz hS; simp [go_sem, Act.eval, *]), ?_⟩)
                          refine (rreached_any S b c 0 W (HLWW.out.below hS).rul HFit.out HFit.out.pos).mono ?_
                          rintro e w1 ⟨v, rfl, ⟨g2, hv, hg2, hmask⟩, hb⟩
                          exact ⟨v, rfl, ⟨g2, by rw [HMM.out] at hv; exact hv, Nat.zero_le _, by rw [HMM.out] at hmask; exact hmask⟩, hb⟩
                        · refine opOk_runG (j := 16) (d := 109) (b := true) rfl (by kernel_rfl) (by first | exact hdep | exact hdep.1 | exact hdep.2 | exact hdep.2.1 | exact hdep.2.2 | exact hdep.2.2.1 | exact hdep.2.2.2 | exact hdep.2.2.2.1 | exact hdep.2.2.2.2) rfl (.inl ⟨_, W, ?_, rfl, Ext.refl _⟩); clear hsz hS; simp [go_sem, Act.eval, *]
                        · obtain ⟨⟨g, hv, hg, hrow⟩, hrest⟩ := id hdep
                          refine opOk_runG (j := 16) (d := 109) (b := true) rfl (by kernel_rfl) (by first | exact hdep | exact hdep.1 | exact hdep.2 | exact hdep.2.1 | exact hdep.2.2 | exact hdep.2.2.1 | exact hdep.2.2.2 | exact hdep.2.2.2.1 | exact hdep.2.2.2.2) rfl (.inl ⟨.pointer (some ⟨g, m, none⟩), W, ?_, ⟨g, rfl, by rw [mask_cell hrow htm2, HRB.out]⟩, Ext.refl _⟩)
                          clear hsz hS; simp [go_sem, Act.eval, *]
                        · obtain ⟨⟨g, hv, hq⟩, hrest⟩ := id hdep
                          refine opOk_runG (j := 16) (d := 109) (b := true) rfl (by kernel_rfl) (by first | exact hdep | exact hdep.1 | exact hdep.2 | exact hdep.2.1 | exact hdep.2.2 | exact hdep.2.2.1 | exact hdep.2.2.2 | exact hdep.2.2.2.1 | exact hdep.2.2.2.2) rfl (.inl ⟨.bool true, W, ?_, rfl, Ext.refl _⟩)
                          clear hsz hS hdep; simp [go_sem, Act.eval, *]
                        · refine opOk_run rfl (.inl ⟨_, W, ?_, rfl, Ext.refl _⟩); clear hsz hS; simp [go_sem, Act.eval, *]
                        · refine opOk_run rfl (.inl ⟨_, W, ?_, rfl, Ext.refl _⟩); clear hsz hS; simp [go_sem, Act.eval, *]
                        · refine opOk_runG (j := 23) (d := 116) (b := true) rfl (by kernel_rfl) (by first | exact hdep | exact hdep.1 | exact hdep.2 | exact hdep.2.1 | exact hdep.2.2 | exact hdep.2.2.1 | exact hdep.2.2.2 | exact hdep.2.2.2.1 | exact hdep.2.2.2.2) rfl (.inl ⟨_, W, ?_, rfl, Ext.refl _⟩); clear hsz hS; simp [go_sem, Act.eval, *]
                        · refine opOk_runG (j := 23) (d := 116) (b := true) rfl (by kernel_rfl) (by first | exact hdep | exact hdep.1 | exact hdep.2 | exact hdep.2.1 | exact hdep.2.2 | exact hdep.2.2.1 | exact hdep.2.2.2 | exact hdep.2.2.2.1 | exact hdep.2.2.2.2) rfl (.inl ⟨_, W, ?_, rfl, Ext.refl _⟩); clear hsz hS; simp [go_sem, Act.eval, *]
                        · refine opOk_runG (j := 23) (d := 116) (b := true) rfl (by kernel_rfl) (by first | exact hdep | exact hdep.1 | exact hdep.2 | exact hdep.2.1 | exact hdep.2.2 | exact hdep.2.2.1 | exact hdep.2.2.2 | exact hdep.2.2.2.1 | exact hdep.2.2.2.2) rfl (.inl ⟨_, W, ?_, rfl, Ext.refl _⟩); clear hsz hS; simp [go_sem, Act.eval, *]
                        · refine opOk_runG (j := 23) (d := 116) (b := true) rfl (by kernel_rfl) (by first | exact hdep | exact hdep.1 | exact hdep.2 | exact hdep.2.1 | exact hdep.2.2 | exact hdep.2.2.1 | exact hdep.2.2.2 | exact hdep.2.2.2.1 | exact hdep.2.2.2.2) rfl (.inl ⟨_, W, ?_, rfl, Ext.refl _⟩); clear hsz hS; simp [go_sem, Act.eval, *]
                        · refine opOk_runG (j := 23) (d := 116) (b := true) rfl (by kernel_rfl) (by first | exact hdep | exact hdep.1 | exact hdep.2 | exact hdep.2.1 | exact hdep.2.2 | exact hdep.2.2.1 | exact hdep.2.2.2 | exact hdep.2.2.2.1 | exact hdep.2.2.2.2) rfl (.inl ⟨_, W, ?_, rfl, Ext.refl _⟩); clear hsz hS; simp [go_sem, Act.eval, *]
                        · refine opOk_runG (j := 28) (d := 121) (b := false) rfl (by kernel_rfl) (by first | exact hdep | exact hdep.1 | exact hdep.2 | exact hdep.2.1 | exact hdep.2.2 | exact hdep.2.2.1 | exact hdep.2.2.2 | exact hdep.2.2.2.1 | exact hdep.2.2.2.2) rfl (.inl ⟨_, W, ?_, rfl, Ext.refl _⟩); clear hsz hS; simp [go_sem, Act.eval, *]
                        · refine opOk_runG (j := 28) (d := 121) (b := false) rfl (by kernel_rfl) (by first | exact hdep | exact hdep.1 | exact hdep.2 | exact hdep.2.1 | exact hdep.2.2 | exact hdep.2.2.1 | exact hdep.2.2.2 | exact hdep.2.2.2.1 | exact hdep.2.2.2.2) rfl (.inl ⟨_, W, ?_, rfl, Ext.refl _⟩); clear hsz hS; simp [go_sem, Act.eval, *]
                        · refine opOk_runG (j := 28) (d := 121) (b := false) rfl (by kernel_rfl) (by first | exact hdep | exact hdep.1 | exact hdep.2 | exact hdep.2.1 | exact hdep.2.2 | exact hdep.2.2.1 | exact hdep.2.2.2 | exact hdep.2.2.2.1 | exact hdep.2.2.2.2) rfl (.inl ⟨_, W, ?_, rfl, Ext.refl _⟩); clear hsz hS; simp [go_sem, Act.eval, *]
                        · refine opOk_runG (j := 28) (d := 121) (b := false) rfl (by kernel_rfl) (by first | exact hdep | exact hdep.1 | exact hdep.2 | exact hdep.2.1 | exact hdep.2.2 | exact hdep.2.2.1 | exact hdep.2.2.2 | exact hdep.2.2.2.1 | exact hdep.2.2.2.2) rfl (.inl ⟨_, W, ?_, rfl, Ext.refl _⟩); clear hsz hS; simp [go_sem, Act.eval, *]
                        · refine opOk_runG (j := 28) (d := 121) (b := false) rfl (by kernel_rfl) (by first | exact hdep | exact hdep.1 | exact hdep.2 | exact hdep.2.1 | exact hdep.2.2 | exact hdep.2.2.1 | exact hdep.2.2.2 | exact hdep.2.2.2.1 | exact hdep.2.2.2.2) rfl (.inl ⟨_, W, ?_, rfl, Ext.refl _⟩); clear hsz hS; simp [go_sem, Act.eval, *]
                        · refine opOk_runG (j := 28) (d := 121) (b := false) rfl (by kernel_rfl) (by first | exact hdep | exact hdep.1 | exact hdep.2 | exact hdep.2.1 | exact hdep.2.2 | exact hdep.2.2.1 | exact hdep.2.2.2 | exact hdep.2.2.2.1 | exact hdep.2.2.2.2) rfl (.inr ⟨26, #[.slice ae ne ce, .slice ac k cc2], W, by (clear hsz hS; simp [go_sem, Act.eval, *]), ?_⟩)
                          refine (lfirst_any ae ac ne k ce cc2 (ints (endF S)) (ints (CC.take k)) W HEN4.out.2 (by rw [ints_len, List.length_take]; have := HCS.out.2.1; omega) (HEN4.out.1.later (HXW.out.trans (hS.mono HXW.out.size)) (Nat.le_refl _)) (by rw [ints_take]; exact slS_take (HCS.out.1.later (HBW.out.trans (hS.mono HBW.out.size)) (Nat.le_refl _)) k) (by have := HEN4.out.2; omega) (by rw [ints_len, List.length_take]; omega)).mono ?_
                          rintro e w' ⟨he, hb⟩
                          rw [HFS.out] at he
                          exact ⟨_, he, rfl, hb⟩
                        · refine opOk_runG (j := 28) (d := 121) (b := false) rfl (by kernel_rfl) (by first | exact hdep | exact hdep.1 | exact hdep.2 | exact hdep.2.1 | exact hdep.2.2 | exact hdep.2.2.1 | exact hdep.2.2.2 | exact hdep.2.2.2.1 | exact hdep.2.2.2.2) rfl (.inl ⟨_, W, ?_, rfl, Ext.refl _⟩); clear hsz hS; simp [go_sem, Act.eval, *]
                        · refine opOk_runG (j := 23) (d := 116) (b := true) rfl (by kernel_rfl) (by first | exact hdep | exact hdep.1 | exact hdep.2 | exact hdep.2.1 | exact hdep.2.2 | exact hdep.2.2.1 | exact hdep.2.2.2 | exact hdep.2.2.2.1 | exact hdep.2.2.2.2) rfl (.inl ⟨_, W, ?_, rfl, Ext.refl _⟩); clear hsz hS; simp [go_sem, Act.eval, *]
                        · refine opOk_run rfl (.inl ⟨_, W, ?_, rfl, Ext.refl _⟩); clear hsz hS; simp [go_sem, Act.eval, *]
                      case hVx => exact vs_stays (by simp only [List.mem_cons, List.not_mem_nil, or_false, forall_eq_or_imp, forall_eq]; exact ⟨stays_const _, stays_const _, stays_const _, stays_const _, stays_const _, stays_const _, stays_const _, stays_const _, stays_const _, stays_const _, stays_const _, stays_const _, stays_const _, stays_const _, stays_const _, stays_const _, stays_const _, stays_const _, stays_mask _ _ _, stays_const _, stays_bit _ _, stays_const _, stays_const _, stays_const _, stays_const _, stays_const _, stays_const _, stays_const _, stays_const _, stays_const _, stays_const _, stays_const _, stays_const _, stays_const _, stays_const _, stays_const _, stays_const _, stays_const _⟩)
                      case hSx => exact fun W W' h hx => h.trans (Below.mono hx h.size)
                      case hS => exact Below.refl _ _
                      case hfin =>
                        intro A W hsz hdf hS hv hbase
                        obtain ⟨x, hx, hA⟩ := act_puts [93, 94, 95, 96, 97, 98, 99, 100, 101, 102, 103, 104, 105, 106, 107, 108, 109, 110, 111, 112, 113, 114, 115, 116, 117, 118, 119, 120, 121, 122, 123, 124, 125, 126, 127, 128, 129, 130] (by kernel_rfl) hsz hdf hbase
                        have e130 : x 130 = .bool false := (hx 130).trans (hv 37 (by decide))
                        rw [hA]
                        simp only [List.foldl]
                        rw [e130]
                        clear e130
                        simp only [Act.put, List.setIfInBounds_toArray, List.set_cons_succ, List.set_cons_zero]
                        clear hA hx hv hbase hsz hdf
                        have HBW1 := Lib.hid (HBW.out.trans (hS.mono HBW.out.size))
                        clear hS
                        go_wp2_with fail
                        go_roundw
                        case rel => exact ⟨k + 1, by omega, by omega, by go_num, HBW1.out⟩
                        case measure => simp [intOf]; omega

              · have hti : ¬ ((t : Int) = (m : Int)) := by omega
                have hne1 : ((t : Int) == (m : Int)) = false := by simpa using hti
                go_wp2_with fail
                refine wp_region_rv (by kernel_rfl) (Vs [fun v _ => v = .int .i64 (t : Int), fun v _ => v = .int .i64 (m : Int), fun v _ => v = .bool false, fun v _ => v = .bool false, fun v _ => v = undef, fun v _ => v = undef, fun v _ => v = undef, fun v _ => v = undef, fun v _ => v = undef, fun v _ => v = .bool false, fun v _ => v = .bool false, fun v _ => v = undef, fun v _ => v = undef, fun v _ => v = undef, fun v _ => v = undef, fun v _ => v = .bool false, fun v _ => v = .bool false, fun v _ => v = undef, fun v _ => v = undef, fun v _ => v = undef, fun v _ => v = undef, fun v _ => v = undef, fun v _ => v = .bool false, fun v _ => v = .bool false, fun v _ => v = undef, fun v _ => v = undef, fun v _ => v = undef, fun v _ => v = undef, fun v _ => v = undef, fun v _ => v = undef, fun v _ => v = undef, fun v _ => v = undef, fun v _ => v = undef, fun v _ => v = undef, fun v _ => v = undef, fun v _ => v = undef, fun v _ => v = undef, fun v _ => v = .bool false]) (fun W1 => Below W.heap.size W W1) 132 (by kernel_rfl) rfl ?hVx ?hSx ?hS (opsOk_all ?hop) ?hfin
                case hop =>
                  refine ⟨?_, ?_, ?_, ?_, ?_, ?_, ?_, ?_, ?_, ?_, ?_, ?_, ?_, ?_, ?_, ?_, ?_, ?_, ?_, ?_, ?_, ?_, ?_, ?_, ?_, ?_, ?_, ?_, ?_, ?_, ?_, ?_, ?_, ?_, ?_, ?_, ?_, ?_, trivial⟩
                  all_goals
                    intro A W hsz hS hdep hbase
                    have hlw := HLWW.out.below hS
                    obtain ⟨hzW, hcW, hfW⟩ := bcellB hlw.bl rfl
                    obtain ⟨d0', d1', d2'⟩ := hlw.cells
                    obtain ⟨r0', r1', r2'⟩ := cells3 ((hS.block w4.heap.size (Nat.lt_of_lt_of_le hgr6 HBW.out.size)).trans HRW.out)
                    have hmk := (hS.block gl (Nat.lt_of_lt_of_le hgl6 HBW.out.size)).trans HMKW.out
                    have qm := mask_cell hmk (i := m) htm2
                    rw [HLM.out] at qm
                    have him := idx_mask gl mm m htm2
                    have hsl := slice_low_ints ac nc cc2 k (by have := HCS.out.2; omega)
                    clear hlw hmk
                    have h18 : A.tmps.getD 18 undef = .int .i64 (t : Int) := hbase 18 (by kernel_rfl)
                    have h15 : A.tmps.getD 15 undef = .int .i64 (m : Int) := hbase 15 (by kernel_rfl)
                    have h16 : A.tmps.getD 16 undef = .slice ac nc cc2 := hbase 16 (by kernel_rfl)
                    have h17 : A.tmps.getD 17 undef = .int .i64 (k : Int) := hbase 17 (by kernel_rfl)
                    have h10 : A.tmps.getD 10 undef = .slice (some ⟨gl, 0, none⟩) mm mm := hbase 10 (by kernel_rfl)
                    have h9 : A.tmps.getD 9 undef = .pointer (some ⟨w4.heap.size, 0, none⟩) := hbase 9 (by kernel_rfl)
                    have h8 : A.tmps.getD 8 undef = .pointer (some ⟨w2.heap.size, 0, none⟩) := hbase 8 (by kernel_rfl)
                    clear hbase
                    simp [slotOf, Region.binds, Vs] at hdep
                  · refine opOk_run rfl (.inl ⟨_, W, ?_, rfl, Ext.refl _⟩); clear hsz hS; simp [go_sem, Act.eval, htm, hti, *]
                  · refine opOk_run rfl (.inl ⟨_, W, ?_, rfl, Ext.refl _⟩); clear hsz hS; simp [go_sem, Act.eval, htm, hti, *]
                  · refine opOk_run rfl (.inl ⟨_, W, ?_, rfl, Ext.refl _⟩); clear hsz hS; simp [go_sem, Act.eval, htm, hti, *]
                  · refine opOk_run rfl (.inl ⟨_, W, ?_, rfl, Ext.refl _⟩); clear hsz hS; simp [go_sem, Act.eval, htm, hti, *]
                  · exact opOk_skip (j := 3) (d := 96) (b := false) rfl (by kernel_rfl) (by first | exact hdep | exact hdep.1 | exact hdep.2 | exact hdep.2.1 | exact hdep.2.2 | exact hdep.2.2.1 | exact hdep.2.2.2 | exact hdep.2.2.2.1 | exact hdep.2.2.2.2) rfl rfl
                  · exact opOk_skip (j := 3) (d := 96) (b := false) rfl (by kernel_rfl) (by first | exact hdep | exact hdep.1 | exact hdep.2 | exact hdep.2.1 | exact hdep.2.2 | exact hdep.2.2.1 | exact hdep.2.2.2 | exact hdep.2.2.2.1 | exact hdep.2.2.2.2) rfl rfl
                  · exact opOk_skip (j := 3) (d := 96) (b := false) rfl (by kernel_rfl) (by first | exact hdep | exact hdep.1 | exact hdep.2 | exact hdep.2.1 | exact hdep.2.2 | exact hdep.2.2.1 | exact hdep.2.2.2 | exact hdep.2.2.2.1 | exact hdep.2.2.2.2) rfl rfl
                  · exact opOk_skip (j := 3) (d := 96) (b := false) rfl (by kernel_rfl) (by first | exact hdep | exact hdep.1 | exact hdep.2 | exact hdep.2.1 | exact hdep.2.2 | exact hdep.2.2.1 | exact hdep.2.2.2 | exact hdep.2.2.2.1 | exact hdep.2.2.2.2) rfl rfl
                  · exact opOk_skip (j := 3) (d := 96) (b := false) rfl (by kernel_rfl) (by first | exact hdep | exact hdep.1 | exact hdep.2 | exact hdep.2.1 | exact hdep.2.2 | exact hdep.2.2.1 | exact hdep.2.2.2 | exact hdep.2.2.2.1 | exact hdep.2.2.2.2) rfl rfl
                  · refine opOk_run rfl (.inl ⟨_, W, ?_, rfl, Ext.refl _⟩); clear hsz hS; simp [go_sem, Act.eval, htm, hti, *]
                  · refine opOk_run rfl (.inl ⟨_, W, ?_, rfl, Ext.refl _⟩); clear hsz hS; simp [go_sem, Act.eval, htm, hti, *]
                  · exact opOk_skip (j := 10) (d := 103) (b := false) rfl (by kernel_rfl) (by first | exact hdep | exact hdep.1 | exact hdep.2 | exact hdep.2.1 | exact hdep.2.2 | exact hdep.2.2.1 | exact hdep.2.2.2 | exact hdep.2.2.2.1 | exact hdep.2.2.2.2) rfl rfl
                  · exact opOk_skip (j := 10) (d := 103) (b := false) rfl (by kernel_rfl) (by first | exact hdep | exact hdep.1 | exact hdep.2 | exact hdep.2.1 | exact hdep.2.2 | exact hdep.2.2.1 | exact hdep.2.2.2 | exact hdep.2.2.2.1 | exact hdep.2.2.2.2) rfl rfl
                  · exact opOk_skip (j := 10) (d := 103) (b := false) rfl (by kernel_rfl) (by first | exact hdep | exact hdep.1 | exact hdep.2 | exact hdep.2.1 | exact hdep.2.2 | exact hdep.2.2.1 | exact hdep.2.2.2 | exact hdep.2.2.2.1 | exact hdep.2.2.2.2) rfl rfl
                  · exact opOk_skip (j := 10) (d := 103) (b := false) rfl (by kernel_rfl) (by first | exact hdep | exact hdep.1 | exact hdep.2 | exact hdep.2.1 | exact hdep.2.2 | exact hdep.2.2.1 | exact hdep.2.2.2 | exact hdep.2.2.2.1 | exact hdep.2.2.2.2) rfl rfl
                  · refine opOk_run rfl (.inl ⟨_, W, ?_, rfl, Ext.refl _⟩); clear hsz hS; simp [go_sem, Act.eval, htm, hti, *]
                  · refine opOk_run rfl (.inl ⟨_, W, ?_, rfl, Ext.refl _⟩); clear hsz hS; simp [go_sem, Act.eval, htm, hti, *]
                  · exact opOk_skip (j := 16) (d := 109) (b := false) rfl (by kernel_rfl) (by first | exact hdep | exact hdep.1 | exact hdep.2 | exact hdep.2.1 | exact hdep.2.2 | exact hdep.2.2.1 | exact hdep.2.2.2 | exact hdep.2.2.2.1 | exact hdep.2.2.2.2) rfl rfl
                  · exact opOk_skip (j := 16) (d := 109) (b := false) rfl (by kernel_rfl) (by first | exact hdep | exact hdep.1 | exact hdep.2 | exact hdep.2.1 | exact hdep.2.2 | exact hdep.2.2.1 | exact hdep.2.2.2 | exact hdep.2.2.2.1 | exact hdep.2.2.2.2) rfl rfl
                  · exact opOk_skip (j := 16) (d := 109) (b := false) rfl (by kernel_rfl) (by first | exact hdep | exact hdep.1 | exact hdep.2 | exact hdep.2.1 | exact hdep.2.2 | exact hdep.2.2.1 | exact hdep.2.2.2 | exact hdep.2.2.2.1 | exact hdep.2.2.2.2) rfl rfl
                  · exact opOk_skip (j := 16) (d := 109) (b := false) rfl (by kernel_rfl) (by first | exact hdep | exact hdep.1 | exact hdep.2 | exact hdep.2.1 | exact hdep.2.2 | exact hdep.2.2.1 | exact hdep.2.2.2 | exact hdep.2.2.2.1 | exact hdep.2.2.2.2) rfl rfl
                  · exact opOk_skip (j := 16) (d := 109) (b := false) rfl (by kernel_rfl) (by first | exact hdep | exact hdep.1 | exact hdep.2 | exact hdep.2.1 | exact hdep.2.2 | exact hdep.2.2.1 | exact hdep.2.2.2 | exact hdep.2.2.2.1 | exact hdep.2.2.2.2) rfl rfl
                  · refine opOk_run rfl (.inl ⟨_, W, ?_, rfl, Ext.refl _⟩); clear hsz hS; simp [go_sem, Act.eval, htm, hti, *]
                  · refine opOk_run rfl (.inl ⟨_, W, ?_, rfl, Ext.refl _⟩); clear hsz hS; simp [go_sem, Act.eval, htm, hti, *]
                  · exact opOk_skip (j := 23) (d := 116) (b := false) rfl (by kernel_rfl) (by first | exact hdep | exact hdep.1 | exact hdep.2 | exact hdep.2.1 | exact hdep.2.2 | exact hdep.2.2.1 | exact hdep.2.2.2 | exact hdep.2.2.2.1 | exact hdep.2.2.2.2) rfl rfl
                  · exact opOk_skip (j := 23) (d := 116) (b := false) rfl (by kernel_rfl) (by first | exact hdep | exact hdep.1 | exact hdep.2 | exact hdep.2.1 | exact hdep.2.2 | exact hdep.2.2.1 | exact hdep.2.2.2 | exact hdep.2.2.2.1 | exact hdep.2.2.2.2) rfl rfl
                  · exact opOk_skip (j := 23) (d := 116) (b := false) rfl (by kernel_rfl) (by first | exact hdep | exact hdep.1 | exact hdep.2 | exact hdep.2.1 | exact hdep.2.2 | exact hdep.2.2.1 | exact hdep.2.2.2 | exact hdep.2.2.2.1 | exact hdep.2.2.2.2) rfl rfl
                  · exact opOk_skip (j := 23) (d := 116) (b := false) rfl (by kernel_rfl) (by first | exact hdep | exact hdep.1 | exact hdep.2 | exact hdep.2.1 | exact hdep.2.2 | exact hdep.2.2.1 | exact hdep.2.2.2 | exact hdep.2.2.2.1 | exact hdep.2.2.2.2) rfl rfl
                  · exact opOk_skip (j := 23) (d := 116) (b := false) rfl (by kernel_rfl) (by first | exact hdep | exact hdep.1 | exact hdep.2 | exact hdep.2.1 | exact hdep.2.2 | exact hdep.2.2.1 | exact hdep.2.2.2 | exact hdep.2.2.2.1 | exact hdep.2.2.2.2) rfl rfl
                  · exact opOk_skip_undef (j := 28) (d := 121) rfl (by kernel_rfl) (by first | exact hdep | exact hdep.1 | exact hdep.2 | exact hdep.2.1 | exact hdep.2.2 | exact hdep.2.2.1 | exact hdep.2.2.2 | exact hdep.2.2.2.1 | exact hdep.2.2.2.2) rfl
                  · exact opOk_skip_undef (j := 28) (d := 121) rfl (by kernel_rfl) (by first | exact hdep | exact hdep.1 | exact hdep.2 | exact hdep.2.1 | exact hdep.2.2 | exact hdep.2.2.1 | exact hdep.2.2.2 | exact hdep.2.2.2.1 | exact hdep.2.2.2.2) rfl
                  · exact opOk_skip_undef (j := 28) (d := 121) rfl (by kernel_rfl) (by first | exact hdep | exact hdep.1 | exact hdep.2 | exact hdep.2.1 | exact hdep.2.2 | exact hdep.2.2.1 | exact hdep.2.2.2 | exact hdep.2.2.2.1 | exact hdep.2.2.2.2) rfl
                  · exact opOk_skip_undef (j := 28) (d := 121) rfl (by kernel_rfl) (by first | exact hdep | exact hdep.1 | exact hdep.2 | exact hdep.2.1 | exact hdep.2.2 | exact hdep.2.2.1 | exact hdep.2.2.2 | exact hdep.2.2.2.1 | exact hdep.2.2.2.2) rfl
                  · exact opOk_skip_undef (j := 28) (d := 121) rfl (by kernel_rfl) (by first | exact hdep | exact hdep.1 | exact hdep.2 | exact hdep.2.1 | exact hdep.2.2 | exact hdep.2.2.1 | exact hdep.2.2.2 | exact hdep.2.2.2.1 | exact hdep.2.2.2.2) rfl
                  · exact opOk_skip_undef (j := 28) (d := 121) rfl (by kernel_rfl) (by first | exact hdep | exact hdep.1 | exact hdep.2 | exact hdep.2.1 | exact hdep.2.2 | exact hdep.2.2.1 | exact hdep.2.2.2 | exact hdep.2.2.2.1 | exact hdep.2.2.2.2) rfl
                  · exact opOk_skip_undef (j := 28) (d := 121) rfl (by kernel_rfl) (by first | exact hdep | exact hdep.1 | exact hdep.2 | exact hdep.2.1 | exact hdep.2.2 | exact hdep.2.2.1 | exact hdep.2.2.2 | exact hdep.2.2.2.1 | exact hdep.2.2.2.2) rfl
                  · exact opOk_skip (j := 23) (d := 116) (b := false) rfl (by kernel_rfl) (by first | exact hdep | exact hdep.1 | exact hdep.2 | exact hdep.2.1 | exact hdep.2.2 | exact hdep.2.2.1 | exact hdep.2.2.2 | exact hdep.2.2.2.1 | exact hdep.2.2.2.2) rfl rfl
                  · refine opOk_run rfl (.inl ⟨_, W, ?_, rfl, Ext.refl _⟩); clear hsz hS; simp [go_sem, Act.eval, htm, hti, *]
                case hVx => exact vs_stays (by simp only [List.mem_cons, List.not_mem_nil, or_false, forall_eq_or_imp, forall_eq]; exact ⟨stays_const _, stays_const _, stays_const _, stays_const _, stays_const _, stays_const _, stays_const _, stays_const _, stays_const _, stays_const _, stays_const _, stays_const _, stays_const _, stays_const _, stays_const _, stays_const _, stays_const _, stays_const _, stays_const _, stays_const _, stays_const _, stays_const _, stays_const _, stays_const _, stays_const _, stays_const _, stays_const _, stays_const _, stays_const _, stays_const _, stays_const _, stays_const _, stays_const _, stays_const _, stays_const _, stays_const _, stays_const _, stays_const _⟩)
                case hSx => exact fun W W' h hx => h.trans (Below.mono hx h.size)
                case hS => exact Below.refl _ _
                case hfin =>
                  intro A W hsz hdf hS hv hbase
                  obtain ⟨x, hx, hA⟩ := act_puts [93, 94, 95, 96, 97, 98, 99, 100, 101, 102, 103, 104, 105, 106, 107, 108, 109, 110, 111, 112, 113, 114, 115, 116, 117, 118, 119, 120, 121, 122, 123, 124, 125, 126, 127, 128, 129, 130] (by kernel_rfl) hsz hdf hbase
                  have e130 : x 130 = .bool false := (hx 130).trans (hv 37 (by decide))
                  rw [hA]
                  simp only [List.foldl]
                  rw [e130]
                  clear e130
                  simp only [Act.put, List.setIfInBounds_toArray, List.set_cons_succ, List.set_cons_zero]
                  clear hA hx hv hbase hsz hdf
                  have HBW1 := Lib.hid (HBW.out.trans (hS.mono HBW.out.size))
                  clear hS
                  go_wp2_with fail
                  go_roundw
                  case rel => exact ⟨k + 1, by omega, by omega, by go_num, HBW1.out⟩
                  case measure => simp [intOf]; omega
          · go_wp2_with fail
            go_ret
            exact ⟨rfl, hB⟩
theorem flawChains_view (x : RawA) (y : BytA) (f : Int) (w : World) (hx : RawOk w x) (hy : BytOk w y) (h0 : 0 ≤ f) (h1 : f ≤ 255) :
    Calls Try.prog 6 #[x.val, y.val, .int .u8 f] w fun e w' => e = .returned (.bool true) ∧ Below w.heap.size w w' :=
  flawChains_any x.M x.A x.a x.len x.cap x.Z y.a y.len y.cap y.Z f w hx.m0 hx.m1 hx.a0 hx.a1 hx.rows hy.by' hy.le h0 h1
end Go.Proofs.Ytogjcfcfgnbmkaa
