/- The walk of FlawSound: true. -/
import Derived.Test.YtogjcfcfgnbmkaaLawB
import Derived.Test.YtogjcfcfgnbmkaaViews
import Derived.Test.YtogjcfcfgnbmkaaPlainC
namespace Go.Proofs.Ytogjcfcfgnbmkaa
open Go.RowKit
set_option linter.unusedVariables false
set_option linter.unusedSimpArgs false

def trimTo (S : Sch) (k : Nat) : List Rl := (S.rules.take k).filter fun r => !deadB (reachS S) (liveS S) r
theorem trimTo_yes {S : Sch} {k : Nat} (hk : k < S.rules.length) (h : deadB (reachS S) (liveS S) S.rules[k] = false) : trimTo S (k + 1) = trimTo S k ++ [S.rules[k]] := by
  rw [trimTo, List.take_succ_eq_append_getElem hk, List.filter_append]
  simp [trimTo, h]
theorem trimTo_no {S : Sch} {k : Nat} (hk : k < S.rules.length) (h : deadB (reachS S) (liveS S) S.rules[k] = true) : trimTo S (k + 1) = trimTo S k := by
  rw [trimTo, List.take_succ_eq_append_getElem hk, List.filter_append]
  simp [trimTo, h]
theorem trimTo_len (S : Sch) (k : Nat) : (trimTo S k).length ≤ S.rules.length := by
  have h1 := List.length_filter_le (fun r => !deadB (reachS S) (liveS S) r) (S.rules.take k)
  have h2 : (S.rules.take k).length ≤ S.rules.length := List.length_take_le' _ _
  unfold trimTo; omega
theorem trimTo_all (S : Sch) : trimTo S S.rules.length = trimR S := by rw [trimTo, List.take_length]; rfl
set_option maxHeartbeats 6400000 in
set_option maxRecDepth 100000 in
theorem flawSound_any (M A : Int) (a : Option Addr) (len cap : Nat) (Z : Nat → Nat → Int) (w : World) (hM0 : 0 ≤ M) (hM1 : M ≤ 255) (hA0 : 0 ≤ A) (hA1 : A ≤ 255) (hZ : IsRows .u8 3 w a len Z) :
    Calls Try.prog 7 #[.agg #[.int .u8 M, .int .u8 A, .slice a len cap]] w fun e w' => e = .returned (.bool true) ∧ Below w.heap.size w w' := by
  have HZ := Lib.hid hZ; clear hZ
  go_enter Try.func7, Try.ntmps7
  go_wp2_with fail
  refine (sanity_any _).mono ?_
  rintro e w1 ⟨rfl, hb⟩
  obtain ⟨hz, hc, hf⟩ := bcell hb (by first | (simp only [World.size_alloc]; rfl) | rfl)
  have hB := below_call (B := w.heap.size) (w := w) (by go_grown) hb (Nat.le_refl _)
  have HAL1 : Hid (Below (w.heap.size + 1) (w.alloc (.cells #[.int .u8 M, .int .u8 A, .slice a len cap] 24)) w1) := hb.mono (by simp only [World.size_alloc]; omega)
  clear hb
  go_wp2_with fail
  refine (made_any M A a len cap _ hM0 hM1 hA0 hA1 Z (isRows_later HZ.out hB (Nat.le_refl _))).mono ?_
  rintro e w2 ⟨S, b, c, rfl, hv, hm1, hm5, ha0, ha1, hl12, -, hown, hb⟩
  have HFit := Lib.hid (fit_of hv (by omega) ha1)
  have HV := Lib.hid hv
  have HF : Hid (findF S = ⟨deadF S S.rules.length, stuckF S, endF S⟩) := by show _ = _; rw [findF, if_pos hv]
  have hB2 := hB.trans (hb.mono hB.size)
  have HLW0 := Lib.hid (lw_new (M0 := (w.alloc (.cells #[.int .u8 M, .int .u8 A, .slice a len cap] 24))) (hown.mono hB.size) (HAL1.out.trans (hb.mono hz)) (Nat.le_trans hz hb.size))
  have hl63 : S.rules.length ≤ 9223372036854775807 := by omega
  clear hc hf hv hown hb hB
  obtain ⟨hz2, hc, hf⟩ := bcellB HLW0.out.bl rfl
  have hz3 : w.heap.size + 1 ≤ w2.heap.size := HLW0.out.gm
  go_wp2_with fail
  refine (find_any S b c _ HLW0.out.rul (by omega) ha1 hl63 HLW0.out.cap (fun _ => HFit.out)).mono ?_
  rintro e w4 ⟨v1, v2, v3, rfl, hc1, hc2, hc3, hb⟩
  rw [HF.out] at hc1 hc3
  obtain ⟨ad, nd, cd, rfl⟩ := hc1.form
  obtain ⟨as', ns, cs, rfl⟩ := hc2.form
  obtain ⟨ae, ne, ce, rfl⟩ := hc3.form
  have HLW4 := Lib.hid (HLW0.out.below hb)
  have hB4 := hB2.trans (((Below.refl _ w2).alloc hB2.size _).trans (hb.mono (by simp only [World.size_alloc]; have := hB2.size; omega)))
  have HDE4 : Hid (SlS w4 ad (ints (deadF S S.rules.length)) ∧ nd = (ints (deadF S S.rules.length)).length) := ⟨hc1.sls.1, hc1.sls.2.trans (ints_len _).symm⟩
  have HNE : Hid (ne = (endF S).length) := hc3.sls.2
  have hgz4 : w2.heap.size < w4.heap.size := HLW4.out.gs
  clear hc hf hb hc1 hc2 hc3 hz2
  obtain ⟨wl, hwl⟩ : ∃ wl, wl = (w4.alloc (.cells #[.slice ad nd cd, .slice as' ns cs, .slice ae ne ce] 40)).alloc (.cells #[.int .i64 S.modes, .int .u8 S.acc, .slice none 0 0] 33) := ⟨_, rfl⟩
  have hbl : Below w4.heap.size w4 wl := by rw [hwl]; exact ((Below.refl _ _).alloc (Nat.le_refl _) _).alloc (by simp) _
  have HLWl := Lib.hid (HLW4.out.below hbl)
  have HREPl : Hid (wl.heap[w4.heap.size]? = some (.cells #[.slice ad nd cd, .slice as' ns cs, .slice ae ne ce] 40 (0, 0))) := by
    show _ = _
    rw [hwl, Below.heap_alloc _ _ _ (by simp only [World.size_alloc]; omega)]; exact heap_alloc_new _ _
  have HTS0 : Hid (TS wl (w4.heap.size + 1) S.modes S.acc (.slice none 0 0) [] wl) := by
    refine ⟨⟨Below.refl _ _, ?_, by rw [hwl]; simp only [World.size_alloc]; omega⟩, ⟨rfl, .inl ⟨rfl, rfl⟩⟩⟩
    rw [hwl]
    have := heap_alloc_new (w4.alloc (.cells #[.slice ad nd cd, .slice as' ns cs, .slice ae ne ce] 40)) (.cells #[.int .i64 S.modes, .int .u8 S.acc, .slice none 0 0] 33)
    simpa only [World.size_alloc] using this
  have hBl := hB4.trans (hbl.mono hB4.size)
  have HBL4 := Lib.hid hbl
  have HWL := Lib.hid hwl
  clear hbl hwl
  obtain ⟨hzz, hc, hf⟩ := bcellB HLW4.out.bl rfl
  obtain ⟨d0, d1, d2⟩ := HLW4.out.cells
  go_upto_region 5 with fail
  rw [← HWL.out]
  clear hc hf d0 d1 d2 hzz
  go_wp2_with fail
  go_loopw [7] (fun i wr => ∃ (k : Nat) (T : List Rl) (bt : Option Addr) (nt ct : Nat), k ≤ S.rules.length ∧ i = .int .i64 k ∧ T = trimTo S k ∧ nt = T.length ∧ TS wl (w4.heap.size + 1) S.modes S.acc (.slice bt nt ct) T wr) (fun i _ => S.rules.length - (intOf i).toNat)
  case atStart => exact ⟨0, [], none, 0, 0, by omega, rfl, rfl, rfl, HTS0.out⟩
  case round =>
    obtain ⟨k, T, bt, nt, ct, hk, rfl, hT, hnt, hts⟩ := hrel
    have HT := Lib.hid hT; have HNT := Lib.hid hnt; have HTS := Lib.hid hts
    have HLW := Lib.hid (HLWl.out.belowC hts.bl (by omega))
    have hB := hBl.trans (hts.bl.mono (by have := hB4.size; omega))
    have HD4 := Lib.hid (HBL4.out.trans (hts.bl.mono (by omega)))
    have HREP := Lib.hid ((hts.bl.block w4.heap.size (by omega)).trans HREPl.out)
    have hgs := hts.gs
    have hT64 : Hid (T.length ≤ 12) := by show _ ≤ _; rw [hT]; have := trimTo_len S k; omega
    clear hT hnt hts
    obtain ⟨hzz, hc, hf⟩ := bcellB HLW.out.bl rfl
    obtain ⟨d0, d1, d2⟩ := HLW.out.cells
    obtain ⟨r0, r1, r2⟩ := cells3 HREP.out
    obtain ⟨s0, s1, s2⟩ := HTS.out.cells
    by_cases hkr : k < S.rules.length
    · obtain ⟨db, hdb⟩ : ∃ db, deadB (reachS S) (liveS S) S.rules[k] = db := ⟨_, rfl⟩
      have HDB := Lib.hid hdb
      have HDH : Hid (hasB (ints (deadF S S.rules.length)) (k : Int) = db) := by have := has_dead hkr; rw [hdb] at this; exact this
      clear hdb
      cases db with
      | true =>
        go_wp2_with (first
          | (go_at_call 23; refine (lhas_any ad nd cd (ints (deadF S S.rules.length)) (k : Int) _ HDE4.out.2 (HDE4.out.1.later HD4.out (Nat.le_refl _)) (by rw [ints_len]; have := deadF_len S S.rules.length; omega)).mono ?_; rintro e w' ⟨he, rfl⟩; rw [HDH.out] at he; subst he)
          | fail)
        go_roundw
        case rel => exact ⟨k + 1, T, bt, nt, ct, by omega, by go_num, by rw [trimTo_no hkr HDB.out]; exact HT.out, HNT.out, HTS.out⟩
        case measure => simp [intOf]; omega
      | false =>
        obtain ⟨br, orr, hra, hrb, q0, q1, q2, q3, q4⟩ := HLW.out.rul.at hkr
        have hidx := idx_rules b br orr S.rules.length c k hra hkr
        obtain ⟨rl, hrl⟩ : ∃ rl, rl = S.rules[k] := ⟨_, rfl⟩
        have HRL := Lib.hid hrl
        have hbrg : br < w2.heap.size := HLW.out.ol br (by rw [hra]; rfl)
        rw [← hrl] at q0 q1 q2 q3 q4
        have HRA := Lib.hid hra
        have HRD := Lib.hid (RulAt.mk q0 q1 q2 q3 q4)
        clear hra hrl
        go_upto_region 9 with (first
          | (go_at_call 23; refine (lhas_any ad nd cd (ints (deadF S S.rules.length)) (k : Int) _ HDE4.out.2 (HDE4.out.1.later HD4.out (Nat.le_refl _)) (by rw [ints_len]; have := deadF_len S S.rules.length; omega)).mono ?_; rintro e w' ⟨he, rfl⟩; rw [HDH.out] at he; subst he)
          | fail)
        refine wp_region_mid (by kernel_rfl) (Vs [fun v _ => v = .pointer (some ⟨w4.heap.size + 1, 2, none⟩), fun v _ => v = .slice bt nt ct, fun v _ => v = .pointer (some ⟨w2.heap.size, 2, none⟩), fun v _ => v = .slice b S.rules.length c, fun v _ => v = .int .i64 (k : Int), fun v _ => v = .pointer (some ⟨br, orr + k * 5, none⟩), fun v _ => v = .agg #[.int .i64 rl.frm, .int .i64 rl.dst, .string rl.inp, .string rl.out, .int .i64 rl.cost], RowOne (Value.slice bt nt ct) rl, fun v W => OwnR W (w4.heap.size + 1 + 1) v (T ++ [rl]), fun v _ => v = .pointer (some ⟨w4.heap.size + 1, 2, none⟩)]) (fun bo W => TS0 wr (w4.heap.size + 1) S.modes S.acc (.slice bt nt ct) W ∧ (bo = false → OwnR W (w4.heap.size + 1 + 1) (.slice bt nt ct) T) ∧ ∀ g, (Value.slice bt nt ct).ownBlock = some g → g < W.heap.size) (fun W W' => W.grownBy W' (Value.slice bt nt ct).ownBlock) 85 8 10 (by kernel_rfl) rfl (by omega) ?hVx ?hVm ?hSx ?hS ?hop ?hlast
        case hVx => exact vs_stays (by simp only [List.mem_cons, List.not_mem_nil, or_false, forall_eq_or_imp, forall_eq]; exact ⟨stays_const _, stays_const _, stays_const _, stays_const _, stays_const _, stays_const _, stays_const _, rowOne_stays _ _, ownR_stays _ _, stays_const _⟩)
        case hVm => exact staysL_all ⟨fun _ => fun _ _ _ h _ => h, fun _ => fun _ _ _ h _ => h, fun _ => fun _ _ _ h _ => h, fun _ => fun _ _ _ h _ => h, fun _ => fun _ _ _ h _ => h, fun _ => fun _ _ _ h _ => h, fun _ => fun _ _ _ h _ => h, fun _ => rowOne_grown _ _, fun h => absurd rfl h, fun _ => fun _ _ _ h _ => h, trivial⟩
        case hSx => exact fun bo W W' h hx => ⟨h.1.below hx, fun e => (h.2.1 e).below hx (h.2.1 e).lt, fun g hg => Nat.lt_of_lt_of_le (h.2.2 g hg) hx.size⟩
        case hS => exact ⟨HTS.out.toTS0.here, fun _ => HTS.out.own, HTS.out.own.lt⟩
        case hop =>
          refine ⟨?_, ?_, ?_, ?_, ?_, ?_, ?_, ?_, ?_, ?_, ?_, trivial⟩
          all_goals first | rw [if_neg (by decide), if_neg (by decide)] | rw [if_neg (by decide), if_pos (by decide)] | rw [if_pos (by decide)]
          · intro A W bo hsz hS hdep hbase
            have hts := hS.1
            have hlw := HLW.out.belowC hts.bl (by omega)
            obtain ⟨d0', d1', d2'⟩ := hlw.cells
            obtain ⟨s0', s1', s2'⟩ := hts.cells
            obtain ⟨q0', q1', q2', q3', q4'⟩ := HRD.out.later hts.bl (by omega)
            clear hts hlw
            have h6 : A.tmps.getD 6 undef = .pointer (some ⟨w4.heap.size + 1, 0, none⟩) := hbase 6 (by kernel_rfl)
            have h4 : A.tmps.getD 4 undef = .pointer (some ⟨w2.heap.size, 0, none⟩) := hbase 4 (by kernel_rfl)
            have h7 : A.tmps.getD 7 undef = .int .i64 (k : Int) := hbase 7 (by kernel_rfl)
            clear hbase
            simp [slotOf, Region.binds, Vs] at hdep
            refine opOk_run rfl (.inl ⟨_, W, ?_, rfl, Ext.refl _⟩); clear hsz hS; simp [go_sem, Act.eval, *]
          · intro A W bo hsz hS hdep hbase
            have hts := hS.1
            have hlw := HLW.out.belowC hts.bl (by omega)
            obtain ⟨d0', d1', d2'⟩ := hlw.cells
            obtain ⟨s0', s1', s2'⟩ := hts.cells
            obtain ⟨q0', q1', q2', q3', q4'⟩ := HRD.out.later hts.bl (by omega)
            clear hts hlw
            have h6 : A.tmps.getD 6 undef = .pointer (some ⟨w4.heap.size + 1, 0, none⟩) := hbase 6 (by kernel_rfl)
            have h4 : A.tmps.getD 4 undef = .pointer (some ⟨w2.heap.size, 0, none⟩) := hbase 4 (by kernel_rfl)
            have h7 : A.tmps.getD 7 undef = .int .i64 (k : Int) := hbase 7 (by kernel_rfl)
            clear hbase
            simp [slotOf, Region.binds, Vs] at hdep
            refine opOk_run rfl (.inl ⟨_, W, ?_, rfl, Ext.refl _⟩); clear hsz hS; simp [go_sem, Act.eval, *]
          · intro A W bo hsz hS hdep hbase
            have hts := hS.1
            have hlw := HLW.out.belowC hts.bl (by omega)
            obtain ⟨d0', d1', d2'⟩ := hlw.cells
            obtain ⟨s0', s1', s2'⟩ := hts.cells
            obtain ⟨q0', q1', q2', q3', q4'⟩ := HRD.out.later hts.bl (by omega)
            clear hts hlw
            have h6 : A.tmps.getD 6 undef = .pointer (some ⟨w4.heap.size + 1, 0, none⟩) := hbase 6 (by kernel_rfl)
            have h4 : A.tmps.getD 4 undef = .pointer (some ⟨w2.heap.size, 0, none⟩) := hbase 4 (by kernel_rfl)
            have h7 : A.tmps.getD 7 undef = .int .i64 (k : Int) := hbase 7 (by kernel_rfl)
            clear hbase
            simp [slotOf, Region.binds, Vs] at hdep
            refine opOk_run rfl (.inl ⟨_, W, ?_, rfl, Ext.refl _⟩); clear hsz hS; simp [go_sem, Act.eval, *]
          · intro A W bo hsz hS hdep hbase
            have hts := hS.1
            have hlw := HLW.out.belowC hts.bl (by omega)
            obtain ⟨d0', d1', d2'⟩ := hlw.cells
            obtain ⟨s0', s1', s2'⟩ := hts.cells
            obtain ⟨q0', q1', q2', q3', q4'⟩ := HRD.out.later hts.bl (by omega)
            clear hts hlw
            have h6 : A.tmps.getD 6 undef = .pointer (some ⟨w4.heap.size + 1, 0, none⟩) := hbase 6 (by kernel_rfl)
            have h4 : A.tmps.getD 4 undef = .pointer (some ⟨w2.heap.size, 0, none⟩) := hbase 4 (by kernel_rfl)
            have h7 : A.tmps.getD 7 undef = .int .i64 (k : Int) := hbase 7 (by kernel_rfl)
            clear hbase
            simp [slotOf, Region.binds, Vs] at hdep
            refine opOk_run rfl (.inl ⟨_, W, ?_, rfl, Ext.refl _⟩); clear hsz hS; simp [go_sem, Act.eval, *]
          · intro A W bo hsz hS hdep hbase
            have hts := hS.1
            have hlw := HLW.out.belowC hts.bl (by omega)
            obtain ⟨d0', d1', d2'⟩ := hlw.cells
            obtain ⟨s0', s1', s2'⟩ := hts.cells
            obtain ⟨q0', q1', q2', q3', q4'⟩ := HRD.out.later hts.bl (by omega)
            clear hts hlw
            have h6 : A.tmps.getD 6 undef = .pointer (some ⟨w4.heap.size + 1, 0, none⟩) := hbase 6 (by kernel_rfl)
            have h4 : A.tmps.getD 4 undef = .pointer (some ⟨w2.heap.size, 0, none⟩) := hbase 4 (by kernel_rfl)
            have h7 : A.tmps.getD 7 undef = .int .i64 (k : Int) := hbase 7 (by kernel_rfl)
            clear hbase
            simp [slotOf, Region.binds, Vs] at hdep
            refine opOk_run rfl (.inl ⟨_, W, ?_, rfl, Ext.refl _⟩); clear hsz hS; simp [go_sem, Act.eval, *]
          · intro A W bo hsz hS hdep hbase
            have hts := hS.1
            have hlw := HLW.out.belowC hts.bl (by omega)
            obtain ⟨d0', d1', d2'⟩ := hlw.cells
            obtain ⟨s0', s1', s2'⟩ := hts.cells
            obtain ⟨q0', q1', q2', q3', q4'⟩ := HRD.out.later hts.bl (by omega)
            clear hts hlw
            have h6 : A.tmps.getD 6 undef = .pointer (some ⟨w4.heap.size + 1, 0, none⟩) := hbase 6 (by kernel_rfl)
            have h4 : A.tmps.getD 4 undef = .pointer (some ⟨w2.heap.size, 0, none⟩) := hbase 4 (by kernel_rfl)
            have h7 : A.tmps.getD 7 undef = .int .i64 (k : Int) := hbase 7 (by kernel_rfl)
            clear hbase
            simp [slotOf, Region.binds, Vs] at hdep
            refine opOk_run rfl (.inl ⟨_, W, ?_, rfl, Ext.refl _⟩); clear hsz hS; simp [go_sem, Act.eval, *]
          · intro A W bo hsz hS hdep hbase
            have hts := hS.1
            have hlw := HLW.out.belowC hts.bl (by omega)
            obtain ⟨d0', d1', d2'⟩ := hlw.cells
            obtain ⟨s0', s1', s2'⟩ := hts.cells
            obtain ⟨q0', q1', q2', q3', q4'⟩ := HRD.out.later hts.bl (by omega)
            clear hts hlw
            have h6 : A.tmps.getD 6 undef = .pointer (some ⟨w4.heap.size + 1, 0, none⟩) := hbase 6 (by kernel_rfl)
            have h4 : A.tmps.getD 4 undef = .pointer (some ⟨w2.heap.size, 0, none⟩) := hbase 4 (by kernel_rfl)
            have h7 : A.tmps.getD 7 undef = .int .i64 (k : Int) := hbase 7 (by kernel_rfl)
            clear hbase
            simp [slotOf, Region.binds, Vs] at hdep
            refine opOk_run rfl (.inl ⟨_, W, ?_, rfl, Ext.refl _⟩); clear hsz hS; simp [go_sem, Act.eval, *]
          · intro A W bo hsz hS hdep hbase
            have hts := hS.1
            have hlw := HLW.out.belowC hts.bl (by omega)
            obtain ⟨d0', d1', d2'⟩ := hlw.cells
            obtain ⟨s0', s1', s2'⟩ := hts.cells
            obtain ⟨q0', q1', q2', q3', q4'⟩ := HRD.out.later hts.bl (by omega)
            clear hts hlw
            have h6 : A.tmps.getD 6 undef = .pointer (some ⟨w4.heap.size + 1, 0, none⟩) := hbase 6 (by kernel_rfl)
            have h4 : A.tmps.getD 4 undef = .pointer (some ⟨w2.heap.size, 0, none⟩) := hbase 4 (by kernel_rfl)
            have h7 : A.tmps.getD 7 undef = .int .i64 (k : Int) := hbase 7 (by kernel_rfl)
            clear hbase
            simp [slotOf, Region.binds, Vs] at hdep
            have hne := hS.2.2
            refine opOk_run rfl (.inl ⟨.slice (some ⟨W.heap.size, 0, none⟩) 1 1, W.alloc (.cells #[.int .i64 rl.frm, .int .i64 rl.dst, .string rl.inp, .string rl.out, .int .i64 rl.cost] 29), ?_, ⟨W.heap.size, rfl, heap_alloc_new _ _, fun e => absurd (hne _ e) (Nat.lt_irrefl _)⟩, (Below.refl _ _).alloc (Nat.le_refl _) _⟩)
            clear hsz hS hne; simp [go_sem, Act.eval, *]
          · intro A W hsz hS hdep hbase
            have hown := hS.2.1 rfl
            have hs1 : A.tmps.getD 33 undef = Value.slice bt nt ct := hdep ⟨1, .data⟩ (by simp) rfl
            have hs2 : RowOne (Value.slice bt nt ct) rl (A.tmps.getD 39 undef) W := hdep ⟨7, .data⟩ (by simp) rfl
            refine ⟨rfl, (opres_rule rfl (eval_tmp hs1) hown rfl (by rw [eval_tmp rfl]; exact hs2) (by have := hT64.out; omega) hS.1.gs).mono fun v w' h => ⟨h.1, h.2, hS.1.grown h.2 hown.ge, fun e => (by cases e), fun g hg => Nat.lt_of_lt_of_le (hown.lt g hg) h.2.size⟩⟩
          · intro A W bo hsz hS hdep hbase
            have hts := hS.1
            have hlw := HLW.out.belowC hts.bl (by omega)
            obtain ⟨d0', d1', d2'⟩ := hlw.cells
            obtain ⟨s0', s1', s2'⟩ := hts.cells
            obtain ⟨q0', q1', q2', q3', q4'⟩ := HRD.out.later hts.bl (by omega)
            clear hts hlw
            have h6 : A.tmps.getD 6 undef = .pointer (some ⟨w4.heap.size + 1, 0, none⟩) := hbase 6 (by kernel_rfl)
            have h4 : A.tmps.getD 4 undef = .pointer (some ⟨w2.heap.size, 0, none⟩) := hbase 4 (by kernel_rfl)
            have h7 : A.tmps.getD 7 undef = .int .i64 (k : Int) := hbase 7 (by kernel_rfl)
            clear hbase
            simp [slotOf, Region.binds, Vs] at hdep
            refine opOk_run rfl (.inl ⟨_, W, ?_, rfl, Ext.refl _⟩); clear hsz hS; simp [go_sem, Act.eval, *]
          · trivial
        case hlast =>
          intro A1 W hsz hdf hS hv hbase
          have hst : A1.tmps.getD 41 undef = .pointer (some ⟨w4.heap.size + 1, 2, none⟩) := hv 9 (by decide)
          have hown : OwnR W (w4.heap.size + 1 + 1) (A1.tmps.getD 40 undef) (T ++ [rl]) := hv 8 (by decide)
          obtain ⟨R', hR'⟩ : ∃ R', R' = T ++ [rl] := ⟨_, rfl⟩
          rw [← hR'] at hown
          obtain ⟨b', c', hap, hrs, hcp⟩ := hown.rules
          rw [hap] at hown
          obtain ⟨e0, e1, e2⟩ := hS.1.cells
          refine wpOp_store rfl rfl rfl rfl (eval_tmp hst) (eval_tmp hap) (hS.1.free 2) e2 (by kernel_rfl) ?_
          have HTS' := Lib.hid (hS.1.put hown)
          obtain ⟨x, hx, hA⟩ := act_puts [32, 33, 34, 35, 36, 37, 38, 39, 40, 41] (by kernel_rfl) hsz hdf hbase
          obtain ⟨wz, hwz⟩ : ∃ wz, wz = W.setCell ⟨w4.heap.size + 1, 2, none⟩ (.slice b' R'.length c') := ⟨_, rfl⟩
          rw [← hwz] at HTS' ⊢
          rw [hA]
          simp only [List.foldl]
          simp only [Act.put, List.setIfInBounds_toArray, List.set_cons_succ, List.set_cons_zero]
          have HR' := Lib.hid hR'
          clear hA hx hv hbase hsz hdf hwz e0 e1 e2 hap hown hrs hcp hst hR'
          have HT2 : Hid (R' = trimTo S (k + 1)) := by show _ = _; rw [HR'.out, trimTo_yes hkr HDB.out, ← HT.out, ← HRL.out]
          go_wp2_with fail
          go_roundw
          case rel => exact ⟨k + 1, R', b', R'.length, c', by omega, by go_num, HT2.out, rfl, HTS'.out.rebase HTS.out.bl⟩
          case measure => simp [intOf]; omega
    · obtain rfl : k = S.rules.length := by omega
      have HTT : Hid (T = trimR S) := by show _ = _; rw [HT.out, trimTo_all]
      have hST : (⟨S.modes, S.acc, T⟩ : Sch) = trimS S := by show (⟨S.modes, S.acc, T⟩ : Sch) = ⟨S.modes, S.acc, trimR S⟩; rw [HTT.out]
      have HFT : Hid (findF ⟨S.modes, S.acc, T⟩ = ⟨[], [], endF (trimS S)⟩) := by
        show _ = _
        rw [hST, findF, if_pos (trim_valid HV.out), trim_dead HFit.out, trim_stuck HFit.out]
      have HVT : Hid (Fit ⟨S.modes, S.acc, T⟩) := by show Fit _; rw [hST]; exact trim_fit HFit.out
      have HSD : Hid (soundF ⟨S.modes, S.acc, T⟩ = 0 ↔ (liveS S).testBit 0 = true ∧ endF S = []) := by show _ ↔ _; rw [hST]; exact trim_sound HV.out HFit.out
      have hn := HNT.out
      subst hn
      have hT12 := hT64.out
      have hct := HTS.out.own.ruls.2.2
      have HTR := Lib.hid HTS.out.own.ruls.1
      have hTl : T.length ≤ 9223372036854775807 := by omega
      clear hST
      go_wp2_with fail
      refine (find_any ⟨S.modes, S.acc, T⟩ bt ct _ HTR.out (show 0 ≤ S.acc by omega) ha1 hTl hct (fun _ => HVT.out)).mono ?_
      rintro e w6 ⟨v1, v2, v3, rfl, hc1, hc2, hc3, hb⟩
      rw [HFT.out] at hc1 hc2 hc3
      obtain ⟨a1, n1, c1, rfl⟩ := hc1.form
      obtain ⟨a2, n2, c2, rfl⟩ := hc2.form
      obtain ⟨a3, n3, c3, rfl⟩ := hc3.form
      obtain rfl : n1 = 0 := hc1.sls.2
      obtain rfl : n2 = 0 := hc2.sls.2
      have hn3 : n3 = (endF (trimS S)).length := hc3.sls.2
      have hn30 : n3 = 0 ↔ ne = 0 := by
        have h9 := trim_endl HFit.out
        have h8 : ne = (endF S).length := HNE.out
        rw [hn3, h8, List.length_eq_zero_iff, List.length_eq_zero_iff]; exact h9
      have HN30 := Lib.hid hn30
      have HLW6 := Lib.hid (HLW.out.below hb)
      have HTS6 := Lib.hid (HTS.out.below hb)
      have HREP6 := Lib.hid ((hb.block w4.heap.size (by omega)).trans HREP.out)
      have hB6 := hB.trans (hb.mono hB.size)
      have hgs6 : w4.heap.size + 1 < w6.heap.size := HTS6.out.gs
      clear hc hf d0 d1 d2 hzz r0 r1 r2 s0 s1 s2 hb hc1 hc2 hc3 hn3 hn30 hB
      obtain ⟨hzz, hc, hf⟩ := bcellB HLW6.out.bl rfl
      obtain ⟨d0, d1, d2⟩ := HLW6.out.cells
      obtain ⟨r0, r1, r2⟩ := cells3 HREP6.out
      obtain ⟨s0, s1, s2⟩ := HTS6.out.cells
      obtain ⟨b0, hb0⟩ : ∃ b0, (liveS S).testBit 0 = b0 := ⟨_, rfl⟩
      have HB0 := Lib.hid hb0
      obtain ⟨mm, hmm⟩ : ∃ mm, S.modes.toNat = mm := ⟨_, rfl⟩
      have HMM := Lib.hid hmm
      have hmm0 : 0 < mm := by omega
      have hne8 : ne ≤ 100 := by have h8 : ne = (endF S).length := HNE.out; have := endF_len HFit.out; omega
      clear hb0 hmm
      go_wp2_with fail
      refine (rlive_any S b c _ (HLW6.out.rul.later (show Below w6.heap.size w6 _ by go_grown) (Nat.le_refl _)) HFit.out).mono ?_
      rintro e w7 ⟨v, rfl, ⟨gl, hv, hg3, hmask⟩, hb⟩
      rw [HMM.out] at hmask hv
      subst hv
      have q0 := mask_cell hmask (i := 0) hmm0
      rw [HB0.out] at q0
      have hbx : Below w6.heap.size w6 w7 := ((Below.refl _ w6).alloc (Nat.le_refl _) _).trans (hb.mono (by simp only [World.size_alloc]; omega))
      have HLW7 := Lib.hid (HLW6.out.below hbx)
      have HTS7 := Lib.hid (HTS6.out.below hbx)
      have HREP7 := Lib.hid ((hbx.block w4.heap.size (by omega)).trans HREP6.out)
      have HRE7 : Hid (w7.heap[w6.heap.size]? = some (.cells #[.slice a1 0 c1, .slice a2 0 c2, .slice a3 n3 c3] 40 (0, 0))) := (hb.block w6.heap.size (by simp only [World.size_alloc]; omega)).trans (heap_alloc_new w6 _)
      have hB7 := hB6.trans (hbx.mono hB6.size)
      clear hc hf d0 d1 d2 hzz r0 r1 r2 s0 s1 s2 hb hbx hmask
      obtain ⟨hzz, hc, hf⟩ := bcellB HLW7.out.bl rfl
      obtain ⟨d0, d1, d2⟩ := HLW7.out.cells
      obtain ⟨r0, r1, r2⟩ := cells3 HREP7.out
      obtain ⟨s0, s1, s2⟩ := HTS7.out.cells
      obtain ⟨t0, t1, t2⟩ := cells3 HRE7.out
      have hn3I : ((n3 : Int) == 0) = ((ne : Int) == 0) := by
        have h9 := HN30.out
        rw [Bool.eq_iff_iff, beq_iff_eq, beq_iff_eq]; omega
      obtain ⟨e0, he0⟩ : ∃ e0, ((ne : Int) == 0) = e0 := ⟨_, rfl⟩
      rw [he0] at hn3I
      have HSDB : Hid ((soundF ⟨S.modes, S.acc, T⟩ == 0) = (b0 && e0)) := by
        show _ = _
        have h1 := HSD.out
        rw [HB0.out] at h1
        have h8 : ne = (endF S).length := HNE.out
        rw [Bool.eq_iff_iff, beq_iff_eq, h1, Bool.and_eq_true, ← he0, beq_iff_eq, h8]
        rw [← List.length_eq_zero_iff]
        exact ⟨fun h => ⟨h.1, by omega⟩, fun h => ⟨h.1, by omega⟩⟩
      cases b0 <;> cases e0
      all_goals
        go_wp2_with (first
          | (go_at_call 16; refine (sound_any ⟨S.modes, S.acc, T⟩ bt ct _ HTS7.out.own.ruls.1 (show 0 ≤ S.acc by omega) ha1 hTl hct (fun _ => HVT.out)).mono ?_; rintro e w8 ⟨rfl, hb⟩; have hsd := HSDB.out; simp only [Bool.and_false, Bool.and_true, Bool.false_and] at hsd; have HLW8 := Lib.hid (HLW7.out.below hb); have HREP8 := Lib.hid ((hb.block w4.heap.size (by have := HTS7.out.gs; omega)).trans HREP7.out); have HRE8 := Lib.hid ((hb.block w6.heap.size (Array.getElem?_eq_some_iff.1 HRE7.out).1).trans HRE7.out); have hB8 := hB7.trans (hb.mono hB7.size); clear hc hf d0 d1 d2 hzz r0 r1 r2 s0 s1 s2 t0 t1 t2 hb; obtain ⟨hzz, hc, hf⟩ := bcellB HLW8.out.bl rfl; obtain ⟨d0, d1, d2⟩ := HLW8.out.cells; obtain ⟨r0, r1, r2⟩ := cells3 HREP8.out; obtain ⟨t0, t1, t2⟩ := cells3 HRE8.out)
          | fail)
        go_ret
        exact ⟨rfl, hB8⟩
theorem flawSound_view (x : RawA) (w : World) (hx : RawOk w x) :
    Calls Try.prog 7 #[x.val] w fun e w' => e = .returned (.bool true) ∧ Below w.heap.size w w' :=
  flawSound_any x.M x.A x.a x.len x.cap x.Z w hx.m0 hx.m1 hx.a0 hx.a1 hx.rows
end Go.Proofs.Ytogjcfcfgnbmkaa
