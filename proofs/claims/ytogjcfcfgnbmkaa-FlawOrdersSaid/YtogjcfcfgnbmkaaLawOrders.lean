/- The walk of FlawOrders: true. -/
import Derived.Test.YtogjcfcfgnbmkaaLawB
import Derived.Test.YtogjcfcfgnbmkaaViews
import Derived.Test.YtogjcfcfgnbmkaaPlainD
namespace Go.Proofs.Ytogjcfcfgnbmkaa
open Go.RowKit
set_option linter.unusedVariables false
set_option linter.unusedSimpArgs false

/-- the last j rules, backwards -/
def revTo (S : Sch) (j : Nat) : List Rl := S.rules.reverse.take j
theorem revTo_succ {S : Sch} {j : Nat} (hj : j < S.rules.length) (h : S.rules.length - 1 - j < S.rules.length) : revTo S (j + 1) = revTo S j ++ [S.rules[S.rules.length - 1 - j]] := by
  have h2 : j < S.rules.reverse.length := by rw [List.length_reverse]; exact hj
  rw [revTo, List.take_succ_eq_append_getElem h2, List.getElem_reverse]; rfl
theorem revTo_len {S : Sch} {j : Nat} (hj : j ≤ S.rules.length) : (revTo S j).length = j := by simp [revTo]; omega
theorem revTo_all (S : Sch) : revTo S S.rules.length = (revS S).rules := by
  rw [revTo, List.take_of_length_le (by simp)]; rfl
set_option maxHeartbeats 6400000 in
set_option maxRecDepth 100000 in
theorem flawOrders_any (M A : Int) (a : Option Addr) (len cap : Nat) (Z : Nat → Nat → Int) (w : World) (hM0 : 0 ≤ M) (hM1 : M ≤ 255) (hA0 : 0 ≤ A) (hA1 : A ≤ 255) (hZ : IsRows .u8 3 w a len Z) :
    Calls Try.prog 9 #[.agg #[.int .u8 M, .int .u8 A, .slice a len cap]] w fun e w' => e = .returned (.bool true) ∧ Below w.heap.size w w' := by
  have HZ := Lib.hid hZ; clear hZ
  go_enter Try.func9, Try.ntmps9
  go_wp2_with fail
  refine (sanity_any _).mono ?_
  rintro e w1 ⟨rfl, hb⟩
  obtain ⟨hz, hc, hf⟩ := bcell hb (by first | (simp only [World.size_alloc]; rfl) | rfl)
  have hB := below_call (B := w.heap.size) (w := w) (by go_grown) hb (Nat.le_refl _)
  have HAL1 : Hid (Below (w.heap.size + 1) (w.alloc (.cells #[.int .u8 M, .int .u8 A, .slice a len cap] 24)) w1) := hb.mono (by simp only [World.size_alloc]; omega)
  clear hb
  go_wp2_with fail
  refine (made_any M A a len cap _ hM0 hM1 hA0 hA1 Z (isRows_later HZ.out hB (Nat.le_refl _))).mono ?_
  rintro e w2 ⟨S, b, c, rfl, hv, hm1, hm5, ha0, ha1, hl12, -, hown, hb⟩
  have HFit := Lib.hid (fit_of hv (by omega) ha1)
  have HV := Lib.hid hv
  have HF : Hid (findF S = ⟨deadF S S.rules.length, stuckF S, endF S⟩) := by show _ = _; rw [findF, if_pos hv]
  have hB2 := hB.trans (hb.mono hB.size)
  have HLW0 := Lib.hid (lw_new (M0 := (w.alloc (.cells #[.int .u8 M, .int .u8 A, .slice a len cap] 24))) (hown.mono hB.size) (HAL1.out.trans (hb.mono hz)) (Nat.le_trans hz hb.size))
  have hl63 : S.rules.length ≤ 9223372036854775807 := by omega
  clear hc hf hv hown hb hB
  obtain ⟨hz2, hc, hf⟩ := bcellB HLW0.out.bl rfl
  have hz3 : w.heap.size + 1 ≤ w2.heap.size := HLW0.out.gm
  obtain ⟨d0, d1, d2⟩ := HLW0.out.cells
  obtain ⟨wl, hwl⟩ : ∃ wl, wl = (w2.alloc (.cells #[.int .i64 S.modes, .int .u8 S.acc, .slice b S.rules.length c] 33)).alloc (.cells #[.int .i64 S.modes, .int .u8 S.acc, .slice none 0 0] 33) := ⟨_, rfl⟩
  have hbl0 : Below w2.heap.size w2 wl := by rw [hwl]; exact ((Below.refl _ _).alloc (Nat.le_refl _) _).alloc (by simp) _
  have hbl : Below (w2.heap.size + 1) (w2.alloc (.cells #[.int .i64 S.modes, .int .u8 S.acc, .slice b S.rules.length c] 33)) wl := by rw [hwl]; exact (Below.refl _ _).alloc (by simp) _
  have HLWl := Lib.hid (HLW0.out.belowC hbl (by omega))
  have HTS0 : Hid (TS wl (w2.heap.size + 1) S.modes S.acc (.slice none 0 0) [] wl) := by
    refine ⟨⟨Below.refl _ _, ?_, by rw [hwl]; simp only [World.size_alloc]; omega⟩, ⟨rfl, .inl ⟨rfl, rfl⟩⟩⟩
    rw [hwl]
    have := heap_alloc_new (w2.alloc (.cells #[.int .i64 S.modes, .int .u8 S.acc, .slice b S.rules.length c] 33)) (.cells #[.int .i64 S.modes, .int .u8 S.acc, .slice none 0 0] 33)
    simpa only [World.size_alloc] using this
  have hBl := hB2.trans (hbl0.mono hB2.size)
  have hw2s := hB2.size
  have HWL := Lib.hid hwl
  clear hbl hbl0 hwl
  go_upto_region 5 with fail
  rw [← HWL.out]
  clear hc hf d0 d1 d2 hz2
  have hn1 : (S.rules.length : Int) ≤ 12 := by omega
  go_wp2_with fail
  go_loopw [7] (fun i wr => ∃ (j : Nat) (T : List Rl) (bt : Option Addr) (nt ct : Nat), j ≤ S.rules.length ∧ i = .int .i64 ((S.rules.length : Int) - 1 - j) ∧ T = revTo S j ∧ nt = T.length ∧ TS wl (w2.heap.size + 1) S.modes S.acc (.slice bt nt ct) T wr) (fun i _ => (intOf i + 1).toNat)
  case atStart => exact ⟨0, [], none, 0, 0, by omega, by simp, rfl, rfl, HTS0.out⟩
  case round =>
    obtain ⟨j, T, bt, nt, ct, hj, rfl, hT, hnt, hts⟩ := hrel
    have HT := Lib.hid hT; have HNT := Lib.hid hnt; have HTS := Lib.hid hts
    have HLW := Lib.hid (HLWl.out.belowC hts.bl (by omega))
    have hB := hBl.trans (hts.bl.mono (by omega))
    have hgs := hts.gs
    have hT64 : Hid (T.length ≤ 12) := by show _ ≤ _; rw [hT, revTo_len hj]; omega
    clear hT hnt hts
    obtain ⟨hzz, hc, hf⟩ := bcellB HLW.out.bl rfl
    obtain ⟨d0, d1, d2⟩ := HLW.out.cells
    obtain ⟨s0, s1, s2⟩ := HTS.out.cells
    by_cases hjl : j < S.rules.length
    · obtain ⟨k, hk⟩ : ∃ k : Nat, (k : Int) = (S.rules.length : Int) - 1 - j := ⟨S.rules.length - 1 - j, by omega⟩
      rw [← hk]
      have hkr : k < S.rules.length := by omega
      have HK := Lib.hid hk
      clear hk
      obtain ⟨br, orr, hra, hrb, q0, q1, q2, q3, q4⟩ := HLW.out.rul.at hkr
      have hidx := idx_rules b br orr S.rules.length c k hra hkr
      obtain ⟨rl, hrl⟩ : ∃ rl, rl = S.rules[k] := ⟨_, rfl⟩
      have HRL := Lib.hid hrl
      have hbrg : br < w2.heap.size := HLW.out.ol br (by rw [hra]; rfl)
      rw [← hrl] at q0 q1 q2 q3 q4
      have HRA := Lib.hid hra
      have HRD := Lib.hid (RulAt.mk q0 q1 q2 q3 q4)
      clear hra hrl
      go_upto_region 8 with fail
      refine wp_region_mid (by kernel_rfl) (Vs [fun v _ => v = .pointer (some ⟨w2.heap.size + 1, 2, none⟩), fun v _ => v = .slice bt nt ct, fun v _ => v = .pointer (some ⟨w2.heap.size, 2, none⟩), fun v _ => v = .slice b S.rules.length c, fun v _ => v = .int .i64 (k : Int), fun v _ => v = .pointer (some ⟨br, orr + k * 5, none⟩), fun v _ => v = .agg #[.int .i64 rl.frm, .int .i64 rl.dst, .string rl.inp, .string rl.out, .int .i64 rl.cost], RowOne (Value.slice bt nt ct) rl, fun v W => OwnR W (w2.heap.size + 1 + 1) v (T ++ [rl]), fun v _ => v = .pointer (some ⟨w2.heap.size + 1, 2, none⟩)]) (fun bo W => TS0 wr (w2.heap.size + 1) S.modes S.acc (.slice bt nt ct) W ∧ (bo = false → OwnR W (w2.heap.size + 1 + 1) (.slice bt nt ct) T) ∧ ∀ g, (Value.slice bt nt ct).ownBlock = some g → g < W.heap.size) (fun W W' => W.grownBy W' (Value.slice bt nt ct).ownBlock) 101 8 10 (by kernel_rfl) rfl (by omega) ?hVx ?hVm ?hSx ?hS ?hop ?hlast
      case hVx => exact vs_stays (by simp only [List.mem_cons, List.not_mem_nil, or_false, forall_eq_or_imp, forall_eq]; exact ⟨stays_const _, stays_const _, stays_const _, stays_const _, stays_const _, stays_const _, stays_const _, rowOne_stays _ _, ownR_stays _ _, stays_const _⟩)
      case hVm => exact staysL_all ⟨fun _ => fun _ _ _ h _ => h, fun _ => fun _ _ _ h _ => h, fun _ => fun _ _ _ h _ => h, fun _ => fun _ _ _ h _ => h, fun _ => fun _ _ _ h _ => h, fun _ => fun _ _ _ h _ => h, fun _ => fun _ _ _ h _ => h, fun _ => rowOne_grown _ _, fun h => absurd rfl h, fun _ => fun _ _ _ h _ => h, trivial⟩
      case hSx => exact fun bo W W' h hx => ⟨h.1.below hx, fun e => (h.2.1 e).below hx (h.2.1 e).lt, fun g hg => Nat.lt_of_lt_of_le (h.2.2 g hg) hx.size⟩
      case hS => exact ⟨HTS.out.toTS0.here, fun _ => HTS.out.own, HTS.out.own.lt⟩
      case hop =>
        refine ⟨?_, ?_, ?_, ?_, ?_, ?_, ?_, ?_, ?_, ?_, ?_, trivial⟩
        all_goals first | rw [if_neg (by decide), if_neg (by decide)] | rw [if_neg (by decide), if_pos (by decide)] | rw [if_pos (by decide)]
        · intro A W bo hsz hS hdep hbase
          have hts := hS.1
          have hlw := HLW.out.belowC hts.bl (by omega)
          obtain ⟨d0', d1', d2'⟩ := hlw.cells
          obtain ⟨s0', s1', s2'⟩ := hts.cells
          obtain ⟨q0', q1', q2', q3', q4'⟩ := HRD.out.later hts.bl (by omega)
          clear hts hlw
          have h6 : A.tmps.getD 6 undef = .pointer (some ⟨w2.heap.size + 1, 0, none⟩) := hbase 6 (by kernel_rfl)
          have h4 : A.tmps.getD 4 undef = .pointer (some ⟨w2.heap.size, 0, none⟩) := hbase 4 (by kernel_rfl)
          have h7 : A.tmps.getD 7 undef = .int .i64 (k : Int) := hbase 7 (by kernel_rfl)
          clear hbase
          simp [slotOf, Region.binds, Vs] at hdep
          refine opOk_run rfl (.inl ⟨_, W, ?_, rfl, Ext.refl _⟩); clear hsz hS; simp [go_sem, Act.eval, *]
        · intro A W bo hsz hS hdep hbase
          have hts := hS.1
          have hlw := HLW.out.belowC hts.bl (by omega)
          obtain ⟨d0', d1', d2'⟩ := hlw.cells
          obtain ⟨s0', s1', s2'⟩ := hts.cells
          obtain ⟨q0', q1', q2', q3', q4'⟩ := HRD.out.later hts.bl (by omega)
          clear hts hlw
          have h6 : A.tmps.getD 6 undef = .pointer (some ⟨w2.heap.size + 1, 0, none⟩) := hbase 6 (by kernel_rfl)
          have h4 : A.tmps.getD 4 undef = .pointer (some ⟨w2.heap.size, 0, none⟩) := hbase 4 (by kernel_rfl)
          have h7 : A.tmps.getD 7 undef = .int .i64 (k : Int) := hbase 7 (by kernel_rfl)
          clear hbase
          simp [slotOf, Region.binds, Vs] at hdep
          refine opOk_run rfl (.inl ⟨_, W, ?_, rfl, Ext.refl _⟩); clear hsz hS; simp [go_sem, Act.eval, *]
        · intro A W bo hsz hS hdep hbase
          have hts := hS.1
          have hlw := HLW.out.belowC hts.bl (by omega)
          obtain ⟨d0', d1', d2'⟩ := hlw.cells
          obtain ⟨s0', s1', s2'⟩ := hts.cells
          obtain ⟨q0', q1', q2', q3', q4'⟩ := HRD.out.later hts.bl (by omega)
          clear hts hlw
          have h6 : A.tmps.getD 6 undef = .pointer (some ⟨w2.heap.size + 1, 0, none⟩) := hbase 6 (by kernel_rfl)
          have h4 : A.tmps.getD 4 undef = .pointer (some ⟨w2.heap.size, 0, none⟩) := hbase 4 (by kernel_rfl)
          have h7 : A.tmps.getD 7 undef = .int .i64 (k : Int) := hbase 7 (by kernel_rfl)
          clear hbase
          simp [slotOf, Region.binds, Vs] at hdep
          refine opOk_run rfl (.inl ⟨_, W, ?_, rfl, Ext.refl _⟩); clear hsz hS; simp [go_sem, Act.eval, *]
        · intro A W bo hsz hS hdep hbase
          have hts := hS.1
          have hlw := HLW.out.belowC hts.bl (by omega)
          obtain ⟨d0', d1', d2'⟩ := hlw.cells
          obtain ⟨s0', s1', s2'⟩ := hts.cells
          obtain ⟨q0', q1', q2', q3', q4'⟩ := HRD.out.later hts.bl (by omega)
          clear hts hlw
          have h6 : A.tmps.getD 6 undef = .pointer (some ⟨w2.heap.size + 1, 0, none⟩) := hbase 6 (by kernel_rfl)
          have h4 : A.tmps.getD 4 undef = .pointer (some ⟨w2.heap.size, 0, none⟩) := hbase 4 (by kernel_rfl)
          have h7 : A.tmps.getD 7 undef = .int .i64 (k : Int) := hbase 7 (by kernel_rfl)
          clear hbase
          simp [slotOf, Region.binds, Vs] at hdep
          refine opOk_run rfl (.inl ⟨_, W, ?_, rfl, Ext.refl _⟩); clear hsz hS; simp [go_sem, Act.eval, *]
        · intro A W bo hsz hS hdep hbase
          have hts := hS.1
          have hlw := HLW.out.belowC hts.bl (by omega)
          obtain ⟨d0', d1', d2'⟩ := hlw.cells
          obtain ⟨s0', s1', s2'⟩ := hts.cells
          obtain ⟨q0', q1', q2', q3', q4'⟩ := HRD.out.later hts.bl (by omega)
          clear hts hlw
          have h6 : A.tmps.getD 6 undef = .pointer (some ⟨w2.heap.size + 1, 0, none⟩) := hbase 6 (by kernel_rfl)
          have h4 : A.tmps.getD 4 undef = .pointer (some ⟨w2.heap.size, 0, none⟩) := hbase 4 (by kernel_rfl)
          have h7 : A.tmps.getD 7 undef = .int .i64 (k : Int) := hbase 7 (by kernel_rfl)
          clear hbase
          simp [slotOf, Region.binds, Vs] at hdep
          refine opOk_run rfl (.inl ⟨_, W, ?_, rfl, Ext.refl _⟩); clear hsz hS; simp [go_sem, Act.eval, *]
        · intro A W bo hsz hS hdep hbase
          have hts := hS.1
          have hlw := HLW.out.belowC hts.bl (by omega)
          obtain ⟨d0', d1', d2'⟩ := hlw.cells
          obtain ⟨s0', s1', s2'⟩ := hts.cells
          obtain ⟨q0', q1', q2', q3', q4'⟩ := HRD.out.later hts.bl (by omega)
          clear hts hlw
          have h6 : A.tmps.getD 6 undef = .pointer (some ⟨w2.heap.size + 1, 0, none⟩) := hbase 6 (by kernel_rfl)
          have h4 : A.tmps.getD 4 undef = .pointer (some ⟨w2.heap.size, 0, none⟩) := hbase 4 (by kernel_rfl)
          have h7 : A.tmps.getD 7 undef = .int .i64 (k : Int) := hbase 7 (by kernel_rfl)
          clear hbase
          simp [slotOf, Region.binds, Vs] at hdep
          refine opOk_run rfl (.inl ⟨_, W, ?_, rfl, Ext.refl _⟩); clear hsz hS; simp [go_sem, Act.eval, *]
        · intro A W bo hsz hS hdep hbase
          have hts := hS.1
          have hlw := HLW.out.belowC hts.bl (by omega)
          obtain ⟨d0', d1', d2'⟩ := hlw.cells
          obtain ⟨s0', s1', s2'⟩ := hts.cells
          obtain ⟨q0', q1', q2', q3', q4'⟩ := HRD.out.later hts.bl (by omega)
          clear hts hlw
          have h6 : A.tmps.getD 6 undef = .pointer (some ⟨w2.heap.size + 1, 0, none⟩) := hbase 6 (by kernel_rfl)
          have h4 : A.tmps.getD 4 undef = .pointer (some ⟨w2.heap.size, 0, none⟩) := hbase 4 (by kernel_rfl)
          have h7 : A.tmps.getD 7 undef = .int .i64 (k : Int) := hbase 7 (by kernel_rfl)
          clear hbase
          simp [slotOf, Region.binds, Vs] at hdep
          refine opOk_run rfl (.inl ⟨_, W, ?_, rfl, Ext.refl _⟩); clear hsz hS; simp [go_sem, Act.eval, *]
        · intro A W bo hsz hS hdep hbase
          have hts := hS.1
          have hlw := HLW.out.belowC hts.bl (by omega)
          obtain ⟨d0', d1', d2'⟩ := hlw.cells
          obtain ⟨s0', s1', s2'⟩ := hts.cells
          obtain ⟨q0', q1', q2', q3', q4'⟩ := HRD.out.later hts.bl (by omega)
          clear hts hlw
          have h6 : A.tmps.getD 6 undef = .pointer (some ⟨w2.heap.size + 1, 0, none⟩) := hbase 6 (by kernel_rfl)
          have h4 : A.tmps.getD 4 undef = .pointer (some ⟨w2.heap.size, 0, none⟩) := hbase 4 (by kernel_rfl)
          have h7 : A.tmps.getD 7 undef = .int .i64 (k : Int) := hbase 7 (by kernel_rfl)
          clear hbase
          simp [slotOf, Region.binds, Vs] at hdep
          have hne := hS.2.2
          refine opOk_run rfl (.inl ⟨.slice (some ⟨W.heap.size, 0, none⟩) 1 1, W.alloc (.cells #[.int .i64 rl.frm, .int .i64 rl.dst, .string rl.inp, .string rl.out, .int .i64 rl.cost] 29), ?_, ⟨W.heap.size, rfl, heap_alloc_new _ _, fun e => absurd (hne _ e) (Nat.lt_irrefl _)⟩, (Below.refl _ _).alloc (Nat.le_refl _) _⟩)
          clear hsz hS hne; simp [go_sem, Act.eval, *]
        · intro A W hsz hS hdep hbase
          have hown := hS.2.1 rfl
          have hs1 : A.tmps.getD 29 undef = Value.slice bt nt ct := hdep ⟨1, .data⟩ (by simp) rfl
          have hs2 : RowOne (Value.slice bt nt ct) rl (A.tmps.getD 35 undef) W := hdep ⟨7, .data⟩ (by simp) rfl
          refine ⟨rfl, (opres_rule rfl (eval_tmp hs1) hown rfl (by rw [eval_tmp rfl]; exact hs2) (by have := hT64.out; omega) hS.1.gs).mono fun v w' h => ⟨h.1, h.2, hS.1.grown h.2 hown.ge, fun e => (by cases e), fun g hg => Nat.lt_of_lt_of_le (hown.lt g hg) h.2.size⟩⟩
        · intro A W bo hsz hS hdep hbase
          have hts := hS.1
          have hlw := HLW.out.belowC hts.bl (by omega)
          obtain ⟨d0', d1', d2'⟩ := hlw.cells
          obtain ⟨s0', s1', s2'⟩ := hts.cells
          obtain ⟨q0', q1', q2', q3', q4'⟩ := HRD.out.later hts.bl (by omega)
          clear hts hlw
          have h6 : A.tmps.getD 6 undef = .pointer (some ⟨w2.heap.size + 1, 0, none⟩) := hbase 6 (by kernel_rfl)
          have h4 : A.tmps.getD 4 undef = .pointer (some ⟨w2.heap.size, 0, none⟩) := hbase 4 (by kernel_rfl)
          have h7 : A.tmps.getD 7 undef = .int .i64 (k : Int) := hbase 7 (by kernel_rfl)
          clear hbase
          simp [slotOf, Region.binds, Vs] at hdep
          refine opOk_run rfl (.inl ⟨_, W, ?_, rfl, Ext.refl _⟩); clear hsz hS; simp [go_sem, Act.eval, *]
        · trivial
      case hlast =>
        intro A1 W hsz hdf hS hv hbase
        have hst : A1.tmps.getD 37 undef = .pointer (some ⟨w2.heap.size + 1, 2, none⟩) := hv 9 (by decide)
        have hown : OwnR W (w2.heap.size + 1 + 1) (A1.tmps.getD 36 undef) (T ++ [rl]) := hv 8 (by decide)
        obtain ⟨R', hR'⟩ : ∃ R', R' = T ++ [rl] := ⟨_, rfl⟩
        rw [← hR'] at hown
        obtain ⟨b', c', hap, hrs, hcp⟩ := hown.rules
        rw [hap] at hown
        obtain ⟨e0, e1, e2⟩ := hS.1.cells
        refine wpOp_store rfl rfl rfl rfl (eval_tmp hst) (eval_tmp hap) (hS.1.free 2) e2 (by kernel_rfl) ?_
        have HTS' := Lib.hid (hS.1.put hown)
        obtain ⟨x, hx, hA⟩ := act_puts [28, 29, 30, 31, 32, 33, 34, 35, 36, 37] (by kernel_rfl) hsz hdf hbase
        obtain ⟨wz, hwz⟩ : ∃ wz, wz = W.setCell ⟨w2.heap.size + 1, 2, none⟩ (.slice b' R'.length c') := ⟨_, rfl⟩
        rw [← hwz] at HTS' ⊢
        rw [hA]
        simp only [List.foldl]
        simp only [Act.put, List.setIfInBounds_toArray, List.set_cons_succ, List.set_cons_zero]
        have HR' := Lib.hid hR'
        clear hA hx hv hbase hsz hdf hwz e0 e1 e2 hap hown hrs hcp hst hR'
        have HT2 : Hid (R' = revTo S (j + 1)) := by
          show _ = _
          have e : S.rules.length - 1 - j = k := by have := HK.out; omega
          rw [HR'.out, revTo_succ hjl (by omega), ← HT.out, HRL.out]
          congr 2
          simp only [e]
        have hk64 : (k : Int) ≤ 12 := by omega
        have HKN : Hid ((k : Int) - 1 = (S.rules.length : Int) - 1 - ((j + 1 : Nat) : Int)) := by have := HK.out; show _ = _; omega
        go_wp2_with fail
        go_roundw
        case rel => exact ⟨j + 1, R', b', R'.length, c', by omega, by rw [← HKN.out], HT2.out, rfl, HTS'.out.rebase HTS.out.bl⟩
        case measure => have := HK.out; simp [intOf] <;> omega
    · obtain rfl : j = S.rules.length := by omega
      have hST : (⟨S.modes, S.acc, T⟩ : Sch) = revS S := by show (⟨S.modes, S.acc, T⟩ : Sch) = ⟨S.modes, S.acc, S.rules.reverse⟩; rw [HT.out, revTo_all]; rfl
      have hTlen : T.length = S.rules.length := by rw [HT.out, revTo_len (Nat.le_refl _)]
      have HFT : Hid (findF ⟨S.modes, S.acc, T⟩ = ⟨deadF (revS S) (revS S).rules.length, stuckF (revS S), endF (revS S)⟩) := by
        show _ = _
        rw [hST, findF, if_pos (rev_valid HV.out)]
      have HVT : Hid (Fit ⟨S.modes, S.acc, T⟩) := by show Fit _; rw [hST]; exact rev_fit HFit.out
      have HSD : Hid (soundF ⟨S.modes, S.acc, T⟩ = soundF S) := by show _ = _; rw [hST]; exact rev_sound HV.out HFit.out
      have hn := HNT.out
      subst hn
      have hct := HTS.out.own.ruls.2.2
      have HTR := Lib.hid HTS.out.own.ruls.1
      have hTl : T.length ≤ 9223372036854775807 := by omega
      have HTL := Lib.hid hTlen
      clear hST hTlen
      go_wp2_with fail
      refine (find_any S b c _ HLW.out.rul (by omega) ha1 hl63 HLW.out.cap (fun _ => HFit.out)).mono ?_
      rintro e w5 ⟨v1, v2, v3, rfl, hc1, hc2, hc3, hb⟩
      rw [HF.out] at hc1 hc2 hc3
      obtain ⟨a1, nd, c1, rfl⟩ := hc1.form
      obtain ⟨a2, ns, c2, rfl⟩ := hc2.form
      obtain ⟨a3, ne, c3, rfl⟩ := hc3.form
      have HND : Hid (nd = (deadF S S.rules.length).length) := hc1.sls.2
      have HNS : Hid (ns = (stuckF S).length) := hc2.sls.2
      have HNE : Hid (ne = (endF S).length) := hc3.sls.2
      have HSA : Hid (SlS w5 a1 (ints (deadF S S.rules.length))) := hc1.sls.1
      have HLW5 := Lib.hid (HLW.out.below hb)
      have HTS5 := Lib.hid (HTS.out.below hb)
      have hB5 := hB.trans (hb.mono hB.size)
      clear hc hf d0 d1 d2 hzz s0 s1 s2 hb hc1 hc2 hc3 hB
      obtain ⟨hzz, hc, hf⟩ := bcellB HLW5.out.bl rfl
      obtain ⟨d0, d1, d2⟩ := HLW5.out.cells
      obtain ⟨s0, s1, s2⟩ := HTS5.out.cells
      have hgs5 : w2.heap.size + 1 < w5.heap.size := HTS5.out.gs
      go_wp2_with fail
      refine (find_any ⟨S.modes, S.acc, T⟩ bt ct _ (HTS5.out.own.ruls.1.later (show Below w5.heap.size w5 _ by go_grown) (Nat.le_refl _)) (show 0 ≤ S.acc by omega) ha1 hTl hct (fun _ => HVT.out)).mono ?_
      rintro e w6 ⟨v1, v2, v3, rfl, hc1, hc2, hc3, hb⟩
      rw [HFT.out] at hc1 hc2 hc3
      obtain ⟨a4, nd2, c4, rfl⟩ := hc1.form
      obtain ⟨a5, ns2, c5, rfl⟩ := hc2.form
      obtain ⟨a6, ne2, c6, rfl⟩ := hc3.form
      have hx1 : nd2 = nd := by have h1 : nd2 = (deadF (revS S) (revS S).rules.length).length := hc1.sls.2; have h2 := HND.out; have := rev_dead_len HFit.out; omega
      have hx2 : ns2 = ns := by have h1 : ns2 = (stuckF (revS S)).length := hc2.sls.2; have h2 := HNS.out; have := rev_stuck HFit.out; omega
      have hx3 : ne2 = ne := by have h1 : ne2 = (endF (revS S)).length := hc3.sls.2; have h2 := HNE.out; have := rev_endl HFit.out; omega
      subst hx1 hx2 hx3
      have HSB : Hid (SlS w6 a4 (ints (deadF (revS S) (revS S).rules.length))) := hc1.sls.1
      have hbx : Below w5.heap.size w5 w6 := ((Below.refl _ w5).alloc (Nat.le_refl _) _).trans (hb.mono (by simp only [World.size_alloc]; omega))
      have HSA6 := Lib.hid (HSA.out.later hbx (Nat.le_refl _))
      obtain ⟨w7, hw7⟩ : ∃ w7, w7 = w6.alloc (.cells #[.slice a4 nd2 c4, .slice a5 ns2 c5, .slice a6 ne2 c6] 40) := ⟨_, rfl⟩
      have hb67 : Below w6.heap.size w6 w7 := by rw [hw7]; exact (Below.refl _ _).alloc (Nat.le_refl _) _
      have HRB : Hid (w7.heap[w6.heap.size]? = some (.cells #[.slice a4 nd2 c4, .slice a5 ns2 c5, .slice a6 ne2 c6] 40 (0, 0))) := by show _ = _; rw [hw7]; exact heap_alloc_new _ _
      have hw56 : w5.heap.size < w6.heap.size := by have := hb.size; simp only [World.size_alloc] at this; omega
      have HRA : Hid (w7.heap[w5.heap.size]? = some (.cells #[.slice a1 nd2 c1, .slice a2 ns2 c2, .slice a3 ne2 c3] 40 (0, 0))) := (hb67.block w5.heap.size hw56).trans ((hb.block w5.heap.size (by simp only [World.size_alloc]; omega)).trans (heap_alloc_new w5 _))
      have HSA7 := Lib.hid (HSA6.out.later hb67 (Nat.le_refl _))
      have HSB7 := Lib.hid (HSB.out.later hb67 (Nat.le_refl _))
      have hbx7 := hbx.trans (hb67.mono hbx.size)
      have HB57 := Lib.hid hbx7
      have HLW7 := Lib.hid (HLW5.out.below hbx7)
      have HTS7 := Lib.hid (HTS5.out.below hbx7)
      have hB7 := hB5.trans (hbx7.mono hB5.size)
      have HW7 := Lib.hid hw7
      have hw67 : w6.heap.size < w7.heap.size := (Array.getElem?_eq_some_iff.1 HRB.out).1
      have hnd12 : nd2 ≤ 12 := by have h2 := HND.out; have := deadF_len S S.rules.length; omega
      clear hc hf d0 d1 d2 hzz s0 s1 s2 hb hbx hb67 hw7 hc1 hc2 hc3 hbx7
      obtain ⟨hzz6, hc, hf⟩ := bcellB (show Below w6.heap.size w6 w6 from Below.refl _ _) rfl
      clear hzz6 hc hf
      obtain ⟨sd, hsd⟩ : ∃ sd, soundF S = sd := ⟨_, rfl⟩
      have HS1 := Lib.hid hsd
      have HS2 : Hid (soundF ⟨S.modes, S.acc, T⟩ = sd) := by show _ = _; rw [HSD.out, hsd]
      clear hsd
      go_upto_region 11 with fail
      rw [← HW7.out]
      refine wp_region_rv (by kernel_rfl) (Vs [fun v _ => v = .agg #[.int .i64 S.modes, .int .u8 S.acc, .slice b S.rules.length c], fun v _ => v = .int .i64 sd, fun v _ => v = .agg #[.int .i64 S.modes, .int .u8 S.acc, .slice bt T.length ct], fun v _ => v = .int .i64 sd, fun v _ => v = .bool false, fun v _ => v = .bool false, fun v _ => v = .pointer (some ⟨w5.heap.size, 0, none⟩), fun v _ => v = .slice a1 nd2 c1, fun v _ => v = .int .i64 (nd2 : Int), fun v _ => v = .pointer (some ⟨w6.heap.size, 0, none⟩), fun v _ => v = .slice a4 nd2 c4, fun v _ => v = .int .i64 (nd2 : Int), fun v _ => v = .bool false, fun v _ => v = .bool false, fun v _ => v = .bool false, fun v _ => v = .pointer (some ⟨w5.heap.size, 1, none⟩), fun v _ => v = .slice a2 ns2 c2, fun v _ => v = .int .i64 (ns2 : Int), fun v _ => v = .pointer (some ⟨w6.heap.size, 1, none⟩), fun v _ => v = .slice a5 ns2 c5, fun v _ => v = .int .i64 (ns2 : Int), fun v _ => v = .bool false, fun v _ => v = .bool false, fun v _ => v = .bool false, fun v _ => v = .pointer (some ⟨w5.heap.size, 2, none⟩), fun v _ => v = .slice a3 ne2 c3, fun v _ => v = .int .i64 (ne2 : Int), fun v _ => v = .pointer (some ⟨w6.heap.size, 2, none⟩), fun v _ => v = .slice a6 ne2 c6, fun v _ => v = .int .i64 (ne2 : Int), fun v _ => v = .bool false, fun v _ => v = .bool false]) (fun W => Below w7.heap.size w7 W) 101 (by kernel_rfl) rfl ?hVx ?hSx ?hS (opsOk_all ?hop) ?hfin
      case hop =>
        refine ⟨?_, ?_, ?_, ?_, ?_, ?_, ?_, ?_, ?_, ?_, ?_, ?_, ?_, ?_, ?_, ?_, ?_, ?_, ?_, ?_, ?_, ?_, ?_, ?_, ?_, ?_, ?_, ?_, ?_, ?_, ?_, ?_, trivial⟩
        all_goals
          intro A W hsz hS hdep hbase
          have hlw := HLW7.out.below hS
          obtain ⟨d0', d1', d2'⟩ := hlw.cells
          have hts := HTS7.out.below hS
          obtain ⟨s0', s1', s2'⟩ := hts.cells
          obtain ⟨r0', r1', r2'⟩ := cells3 ((hS.block w5.heap.size (by omega)).trans HRA.out)
          obtain ⟨t0', t1', t2'⟩ := cells3 ((hS.block w6.heap.size (by omega)).trans HRB.out)
          clear hlw hts
          have h4 : A.tmps.getD 4 undef = .pointer (some ⟨w2.heap.size, 0, none⟩) := hbase 4 (by kernel_rfl)
          have h6 : A.tmps.getD 6 undef = .pointer (some ⟨w2.heap.size + 1, 0, none⟩) := hbase 6 (by kernel_rfl)
          have h8 : A.tmps.getD 8 undef = .pointer (some ⟨w5.heap.size, 0, none⟩) := hbase 8 (by kernel_rfl)
          have h9 : A.tmps.getD 9 undef = .pointer (some ⟨w6.heap.size, 0, none⟩) := hbase 9 (by kernel_rfl)
          clear hbase
          simp [slotOf, Region.binds, Vs] at hdep
        · refine opOk_run rfl (.inl ⟨_, W, ?_, rfl, Ext.refl _⟩); clear hsz hS; simp [go_sem, Act.eval, *]
        · refine opOk_run rfl (.inr ⟨16, #[.agg #[.int .i64 S.modes, .int .u8 S.acc, .slice b S.rules.length c]], W, by (clear hsz hS; simp [go_sem, Act.eval, *]), ?_⟩)
          refine (sound_any S b c W (HLW7.out.below hS).rul (by omega) ha1 hl63 HLW7.out.cap (fun _ => HFit.out)).mono ?_
          rintro e w' ⟨he, hb⟩
          rw [HS1.out] at he
          exact ⟨_, he, rfl, hb⟩
        · refine opOk_run rfl (.inl ⟨_, W, ?_, rfl, Ext.refl _⟩); clear hsz hS; simp [go_sem, Act.eval, *]
        · refine opOk_run rfl (.inr ⟨16, #[.agg #[.int .i64 S.modes, .int .u8 S.acc, .slice bt T.length ct]], W, by (clear hsz hS; simp [go_sem, Act.eval, *]), ?_⟩)
          refine (sound_any ⟨S.modes, S.acc, T⟩ bt ct W (HTS7.out.below hS).own.ruls.1 (show 0 ≤ S.acc by omega) ha1 hTl hct (fun _ => HVT.out)).mono ?_
          rintro e w' ⟨he, hb⟩
          rw [HS2.out] at he
          exact ⟨_, he, rfl, hb⟩
        · refine opOk_run rfl (.inl ⟨_, W, ?_, rfl, Ext.refl _⟩); clear hsz hS; simp [go_sem, Act.eval, *]
        · refine opOk_run rfl (.inl ⟨_, W, ?_, rfl, Ext.refl _⟩); clear hsz hS; simp [go_sem, Act.eval, *]
        · refine opOk_runG (j := 5) (d := 47) (b := false) rfl (by kernel_rfl) (by first | exact hdep | exact hdep.1 | exact hdep.2 | exact hdep.2.1 | exact hdep.2.2 | exact hdep.2.2.1 | exact hdep.2.2.2 | exact hdep.2.2.2.1 | exact hdep.2.2.2.2) rfl (.inl ⟨_, W, ?_, rfl, Ext.refl _⟩); clear hsz hS; simp [go_sem, Act.eval, *]
        · refine opOk_runG (j := 5) (d := 47) (b := false) rfl (by kernel_rfl) (by first | exact hdep | exact hdep.1 | exact hdep.2 | exact hdep.2.1 | exact hdep.2.2 | exact hdep.2.2.1 | exact hdep.2.2.2 | exact hdep.2.2.2.1 | exact hdep.2.2.2.2) rfl (.inl ⟨_, W, ?_, rfl, Ext.refl _⟩); clear hsz hS; simp [go_sem, Act.eval, *]
        · refine opOk_runG (j := 5) (d := 47) (b := false) rfl (by kernel_rfl) (by first | exact hdep | exact hdep.1 | exact hdep.2 | exact hdep.2.1 | exact hdep.2.2 | exact hdep.2.2.1 | exact hdep.2.2.2 | exact hdep.2.2.2.1 | exact hdep.2.2.2.2) rfl (.inl ⟨_, W, ?_, rfl, Ext.refl _⟩); clear hsz hS; simp [go_sem, Act.eval, *]
        · refine opOk_runG (j := 5) (d := 47) (b := false) rfl (by kernel_rfl) (by first | exact hdep | exact hdep.1 | exact hdep.2 | exact hdep.2.1 | exact hdep.2.2 | exact hdep.2.2.1 | exact hdep.2.2.2 | exact hdep.2.2.2.1 | exact hdep.2.2.2.2) rfl (.inl ⟨_, W, ?_, rfl, Ext.refl _⟩); clear hsz hS; simp [go_sem, Act.eval, *]
        · refine opOk_runG (j := 5) (d := 47) (b := false) rfl (by kernel_rfl) (by first | exact hdep | exact hdep.1 | exact hdep.2 | exact hdep.2.1 | exact hdep.2.2 | exact hdep.2.2.1 | exact hdep.2.2.2 | exact hdep.2.2.2.1 | exact hdep.2.2.2.2) rfl (.inl ⟨_, W, ?_, rfl, Ext.refl _⟩); clear hsz hS; simp [go_sem, Act.eval, *]
        · refine opOk_runG (j := 5) (d := 47) (b := false) rfl (by kernel_rfl) (by first | exact hdep | exact hdep.1 | exact hdep.2 | exact hdep.2.1 | exact hdep.2.2 | exact hdep.2.2.1 | exact hdep.2.2.2 | exact hdep.2.2.2.1 | exact hdep.2.2.2.2) rfl (.inl ⟨_, W, ?_, rfl, Ext.refl _⟩); clear hsz hS; simp [go_sem, Act.eval, *]
        · refine opOk_runG (j := 5) (d := 47) (b := false) rfl (by kernel_rfl) (by first | exact hdep | exact hdep.1 | exact hdep.2 | exact hdep.2.1 | exact hdep.2.2 | exact hdep.2.2.1 | exact hdep.2.2.2 | exact hdep.2.2.2.1 | exact hdep.2.2.2.2) rfl (.inl ⟨_, W, ?_, rfl, Ext.refl _⟩); clear hsz hS; simp [go_sem, Act.eval, *]
        · refine opOk_run rfl (.inl ⟨_, W, ?_, rfl, Ext.refl _⟩); clear hsz hS; simp [go_sem, Act.eval, *]
        · refine opOk_run rfl (.inl ⟨_, W, ?_, rfl, Ext.refl _⟩); clear hsz hS; simp [go_sem, Act.eval, *]
        · refine opOk_runG (j := 14) (d := 56) (b := false) rfl (by kernel_rfl) (by first | exact hdep | exact hdep.1 | exact hdep.2 | exact hdep.2.1 | exact hdep.2.2 | exact hdep.2.2.1 | exact hdep.2.2.2 | exact hdep.2.2.2.1 | exact hdep.2.2.2.2) rfl (.inl ⟨_, W, ?_, rfl, Ext.refl _⟩); clear hsz hS; simp [go_sem, Act.eval, *]
        · refine opOk_runG (j := 14) (d := 56) (b := false) rfl (by kernel_rfl) (by first | exact hdep | exact hdep.1 | exact hdep.2 | exact hdep.2.1 | exact hdep.2.2 | exact hdep.2.2.1 | exact hdep.2.2.2 | exact hdep.2.2.2.1 | exact hdep.2.2.2.2) rfl (.inl ⟨_, W, ?_, rfl, Ext.refl _⟩); clear hsz hS; simp [go_sem, Act.eval, *]
        · refine opOk_runG (j := 14) (d := 56) (b := false) rfl (by kernel_rfl) (by first | exact hdep | exact hdep.1 | exact hdep.2 | exact hdep.2.1 | exact hdep.2.2 | exact hdep.2.2.1 | exact hdep.2.2.2 | exact hdep.2.2.2.1 | exact hdep.2.2.2.2) rfl (.inl ⟨_, W, ?_, rfl, Ext.refl _⟩); clear hsz hS; simp [go_sem, Act.eval, *]
        · refine opOk_runG (j := 14) (d := 56) (b := false) rfl (by kernel_rfl) (by first | exact hdep | exact hdep.1 | exact hdep.2 | exact hdep.2.1 | exact hdep.2.2 | exact hdep.2.2.1 | exact hdep.2.2.2 | exact hdep.2.2.2.1 | exact hdep.2.2.2.2) rfl (.inl ⟨_, W, ?_, rfl, Ext.refl _⟩); clear hsz hS; simp [go_sem, Act.eval, *]
        · refine opOk_runG (j := 14) (d := 56) (b := false) rfl (by kernel_rfl) (by first | exact hdep | exact hdep.1 | exact hdep.2 | exact hdep.2.1 | exact hdep.2.2 | exact hdep.2.2.1 | exact hdep.2.2.2 | exact hdep.2.2.2.1 | exact hdep.2.2.2.2) rfl (.inl ⟨_, W, ?_, rfl, Ext.refl _⟩); clear hsz hS; simp [go_sem, Act.eval, *]
        · refine opOk_runG (j := 14) (d := 56) (b := false) rfl (by kernel_rfl) (by first | exact hdep | exact hdep.1 | exact hdep.2 | exact hdep.2.1 | exact hdep.2.2 | exact hdep.2.2.1 | exact hdep.2.2.2 | exact hdep.2.2.2.1 | exact hdep.2.2.2.2) rfl (.inl ⟨_, W, ?_, rfl, Ext.refl _⟩); clear hsz hS; simp [go_sem, Act.eval, *]
        · refine opOk_runG (j := 14) (d := 56) (b := false) rfl (by kernel_rfl) (by first | exact hdep | exact hdep.1 | exact hdep.2 | exact hdep.2.1 | exact hdep.2.2 | exact hdep.2.2.1 | exact hdep.2.2.2 | exact hdep.2.2.2.1 | exact hdep.2.2.2.2) rfl (.inl ⟨_, W, ?_, rfl, Ext.refl _⟩); clear hsz hS; simp [go_sem, Act.eval, *]
        · refine opOk_run rfl (.inl ⟨_, W, ?_, rfl, Ext.refl _⟩); clear hsz hS; simp [go_sem, Act.eval, *]
        · refine opOk_run rfl (.inl ⟨_, W, ?_, rfl, Ext.refl _⟩); clear hsz hS; simp [go_sem, Act.eval, *]
        · refine opOk_runG (j := 23) (d := 65) (b := false) rfl (by kernel_rfl) (by first | exact hdep | exact hdep.1 | exact hdep.2 | exact hdep.2.1 | exact hdep.2.2 | exact hdep.2.2.1 | exact hdep.2.2.2 | exact hdep.2.2.2.1 | exact hdep.2.2.2.2) rfl (.inl ⟨_, W, ?_, rfl, Ext.refl _⟩); clear hsz hS; simp [go_sem, Act.eval, *]
        · refine opOk_runG (j := 23) (d := 65) (b := false) rfl (by kernel_rfl) (by first | exact hdep | exact hdep.1 | exact hdep.2 | exact hdep.2.1 | exact hdep.2.2 | exact hdep.2.2.1 | exact hdep.2.2.2 | exact hdep.2.2.2.1 | exact hdep.2.2.2.2) rfl (.inl ⟨_, W, ?_, rfl, Ext.refl _⟩); clear hsz hS; simp [go_sem, Act.eval, *]
        · refine opOk_runG (j := 23) (d := 65) (b := false) rfl (by kernel_rfl) (by first | exact hdep | exact hdep.1 | exact hdep.2 | exact hdep.2.1 | exact hdep.2.2 | exact hdep.2.2.1 | exact hdep.2.2.2 | exact hdep.2.2.2.1 | exact hdep.2.2.2.2) rfl (.inl ⟨_, W, ?_, rfl, Ext.refl _⟩); clear hsz hS; simp [go_sem, Act.eval, *]
        · refine opOk_runG (j := 23) (d := 65) (b := false) rfl (by kernel_rfl) (by first | exact hdep | exact hdep.1 | exact hdep.2 | exact hdep.2.1 | exact hdep.2.2 | exact hdep.2.2.1 | exact hdep.2.2.2 | exact hdep.2.2.2.1 | exact hdep.2.2.2.2) rfl (.inl ⟨_, W, ?_, rfl, Ext.refl _⟩); clear hsz hS; simp [go_sem, Act.eval, *]
        · refine opOk_runG (j := 23) (d := 65) (b := false) rfl (by kernel_rfl) (by first | exact hdep | exact hdep.1 | exact hdep.2 | exact hdep.2.1 | exact hdep.2.2 | exact hdep.2.2.1 | exact hdep.2.2.2 | exact hdep.2.2.2.1 | exact hdep.2.2.2.2) rfl (.inl ⟨_, W, ?_, rfl, Ext.refl _⟩); clear hsz hS; simp [go_sem, Act.eval, *]
        · refine opOk_runG (j := 23) (d := 65) (b := false) rfl (by kernel_rfl) (by first | exact hdep | exact hdep.1 | exact hdep.2 | exact hdep.2.1 | exact hdep.2.2 | exact hdep.2.2.1 | exact hdep.2.2.2 | exact hdep.2.2.2.1 | exact hdep.2.2.2.2) rfl (.inl ⟨_, W, ?_, rfl, Ext.refl _⟩); clear hsz hS; simp [go_sem, Act.eval, *]
        · refine opOk_runG (j := 23) (d := 65) (b := false) rfl (by kernel_rfl) (by first | exact hdep | exact hdep.1 | exact hdep.2 | exact hdep.2.1 | exact hdep.2.2 | exact hdep.2.2.1 | exact hdep.2.2.2 | exact hdep.2.2.2.1 | exact hdep.2.2.2.2) rfl (.inl ⟨_, W, ?_, rfl, Ext.refl _⟩); clear hsz hS; simp [go_sem, Act.eval, *]
        · refine opOk_run rfl (.inl ⟨_, W, ?_, rfl, Ext.refl _⟩); clear hsz hS; simp [go_sem, Act.eval, *]
      case hVx => exact vs_stays (by simp only [List.mem_cons, List.not_mem_nil, or_false, forall_eq_or_imp, forall_eq]; exact ⟨stays_const _, stays_const _, stays_const _, stays_const _, stays_const _, stays_const _, stays_const _, stays_const _, stays_const _, stays_const _, stays_const _, stays_const _, stays_const _, stays_const _, stays_const _, stays_const _, stays_const _, stays_const _, stays_const _, stays_const _, stays_const _, stays_const _, stays_const _, stays_const _, stays_const _, stays_const _, stays_const _, stays_const _, stays_const _, stays_const _, stays_const _, stays_const _⟩)
      case hSx => exact fun W W' h hx => h.trans (Below.mono hx h.size)
      case hS => exact Below.refl _ _
      case hfin =>
        intro A W hsz hdf hS hv hbase
        obtain ⟨x, hx, hA⟩ := act_puts [42, 43, 44, 45, 46, 47, 48, 49, 50, 51, 52, 53, 54, 55, 56, 57, 58, 59, 60, 61, 62, 63, 64, 65, 66, 67, 68, 69, 70, 71, 72, 73] (by kernel_rfl) hsz hdf hbase
        have e73 : x 73 = .bool false := (hx 73).trans (hv 31 (by decide))
        rw [hA]
        simp only [List.foldl]
        rw [e73]
        clear e73
        simp only [Act.put, List.setIfInBounds_toArray, List.set_cons_succ, List.set_cons_zero]
        clear hA hx hv hbase hsz hdf
        have hBW := hB7.trans (hS.mono hB7.size)
        have HBW := Lib.hid hS
        clear hS hB7
        go_wp2_with fail
        go_loopw [10] (fun iv wr => ∃ i : Nat, i ≤ nd2 ∧ iv = .int .i64 i ∧ Below w7.heap.size w7 wr) (fun iv _ => nd2 - (intOf iv).toNat)
        case atStart => exact ⟨0, by omega, rfl, HBW.out⟩
        case round =>
          obtain ⟨i, hi, rfl, hbr⟩ := hrel
          have HBR := Lib.hid hbr
          have hB8 := (hB5.trans ((show Below w5.heap.size w5 w7 from HB57.out).mono hB5.size)).trans (hbr.mono (hB5.trans ((show Below w5.heap.size w5 w7 from HB57.out).mono hB5.size)).size)
          have HB8 := Lib.hid hB8
          obtain ⟨r0, r1, r2⟩ := cells3 ((hbr.block w5.heap.size (by omega)).trans HRA.out)
          have HSAr := Lib.hid (HSA7.out.later hbr (Nat.le_refl _))
          have HSBr := Lib.hid (HSB7.out.later hbr (Nat.le_refl _))
          clear hbr hB8
          by_cases hin : i < nd2
          · have hia : i < (deadF S S.rules.length).length := by have := HND.out; omega
            have hkb : (deadF S S.rules.length).length - 1 - i < (deadF (revS S) (revS S).rules.length).length := by rw [rev_dead_len HFit.out]; omega
            obtain ⟨kk, hkk⟩ : ∃ kk, (deadF S S.rules.length).length - 1 - i = kk := ⟨_, rfl⟩
            obtain ⟨yy, hyy⟩ : ∃ yy, (deadF S S.rules.length)[i] = yy := ⟨_, rfl⟩
            have hxx := rev_dead_at HFit.out hia hkb
            obtain ⟨xx, hxe⟩ : ∃ xx, S.rules.length - 1 - (deadF S S.rules.length)[i] = xx := ⟨_, rfl⟩
            have hylt : yy < S.rules.length := by rw [← hyy]; exact deadF_lt _ (List.getElem_mem hia)
            obtain ⟨ba, oa, haa, hba, qa⟩ := HSAr.out.at (k := i) (by rw [ints_len]; exact hia)
            obtain ⟨bb, ob, hab, hbb, qb⟩ := HSBr.out.at (k := kk) (by rw [ints_len, ← hkk]; exact hkb)
            have hga : (ints (deadF S S.rules.length))[i]'(by rw [ints_len]; exact hia) = (yy : Int) := by simp [ints, hyy]
            have hgb : (ints (deadF (revS S) (revS S).rules.length))[kk]'(by rw [ints_len, ← hkk]; exact hkb) = (xx : Int) := by
              simp only [ints, List.getElem_map, ← hxe, ← hxx, hkk]
            rw [hga] at qa
            rw [hgb] at qb
            have hkn : kk < nd2 := by have := HND.out; omega
            have hida := idx_ints a1 ba oa nd2 c1 i haa hin
            have hidb := idx_ints a4 bb ob nd2 c4 kk hab hkn
            have e1 : IntKind.i64.wrap ((nd2 : Int) - 1) = (nd2 : Int) - 1 := IntWalk.i64_in _ (by omega)
            have e2 : IntKind.i64.wrap ((nd2 : Int) - 1 - (i : Int)) = (kk : Int) := by rw [IntWalk.i64_in _ (by omega)]; have := HND.out; omega
            have e3 : IntKind.i64.wrap ((S.rules.length : Int) - 1) = (S.rules.length : Int) - 1 := IntWalk.i64_in _ (by omega)
            have e4 : IntKind.i64.wrap ((S.rules.length : Int) - 1 - (yy : Int)) = (xx : Int) := by rw [IntWalk.i64_in _ (by omega)]; rw [← hxe, hyy]; omega
            have HAA := Lib.hid haa
            have HAB := Lib.hid hab
            clear haa hab hga hgb hkk hyy hxx hxe hia hkb
            go_upto_region 16 with fail
            refine wp_region_rv (by kernel_rfl) (Vs [fun v _ => v = .pointer (some ⟨w6.heap.size, 0, none⟩), fun v _ => v = .slice a4 nd2 c4, fun v _ => v = .pointer (some ⟨w6.heap.size, 0, none⟩), fun v _ => v = .slice a4 nd2 c4, fun v _ => v = .int .i64 (nd2 : Int), fun v _ => v = .int .i64 ((nd2 : Int) - 1), fun v _ => v = .int .i64 (i : Int), fun v _ => v = .int .i64 (kk : Int), fun v _ => v = .pointer (some ⟨bb, ob + kk, none⟩), fun v _ => v = .int .i64 (xx : Int), fun v _ => v = .int .i64 (S.rules.length : Int), fun v _ => v = .int .i64 ((S.rules.length : Int) - 1), fun v _ => v = .pointer (some ⟨w5.heap.size, 0, none⟩), fun v _ => v = .slice a1 nd2 c1, fun v _ => v = .int .i64 (i : Int), fun v _ => v = .pointer (some ⟨ba, oa + i, none⟩), fun v _ => v = .int .i64 (yy : Int), fun v _ => v = .int .i64 (xx : Int), fun v _ => v = .bool false]) (fun W => Below wr.heap.size wr W) 101 (by kernel_rfl) rfl ?hVx ?hSx ?hS (opsOk_all ?hop) ?hfin
            case hop =>
              refine ⟨?_, ?_, ?_, ?_, ?_, ?_, ?_, ?_, ?_, ?_, ?_, ?_, ?_, ?_, ?_, ?_, ?_, ?_, ?_, trivial⟩
              all_goals
                intro A W hsz hS hdep hbase
                have qa' := (hS.cell (p := ⟨ba, oa + i, none⟩) hba).trans qa
                have qb' := (hS.cell (p := ⟨bb, ob + kk, none⟩) hbb).trans qb
                have hb7 := HBR.out.trans (hS.mono HBR.out.size)
                obtain ⟨r0', r1', r2'⟩ := cells3 ((hb7.block w5.heap.size (by omega)).trans HRA.out)
                obtain ⟨t0', t1', t2'⟩ := cells3 ((hb7.block w6.heap.size (by omega)).trans HRB.out)
                clear hb7
                have h9 : A.tmps.getD 9 undef = .pointer (some ⟨w6.heap.size, 0, none⟩) := hbase 9 (by kernel_rfl)
                have h10 : A.tmps.getD 10 undef = .int .i64 (i : Int) := hbase 10 (by kernel_rfl)
                have h5 : A.tmps.getD 5 undef = .int .i64 (S.rules.length : Int) := hbase 5 (by kernel_rfl)
                have h8 : A.tmps.getD 8 undef = .pointer (some ⟨w5.heap.size, 0, none⟩) := hbase 8 (by kernel_rfl)
                clear hbase
                simp [slotOf, Region.binds, Vs] at hdep
              · refine opOk_run rfl (.inl ⟨_, W, ?_, rfl, Ext.refl _⟩); clear hsz hS; simp [go_sem, Act.eval, *]
              · refine opOk_run rfl (.inl ⟨_, W, ?_, rfl, Ext.refl _⟩); clear hsz hS; simp [go_sem, Act.eval, *]
              · refine opOk_run rfl (.inl ⟨_, W, ?_, rfl, Ext.refl _⟩); clear hsz hS; simp [go_sem, Act.eval, *]
              · refine opOk_run rfl (.inl ⟨_, W, ?_, rfl, Ext.refl _⟩); clear hsz hS; simp [go_sem, Act.eval, *]
              · refine opOk_run rfl (.inl ⟨_, W, ?_, rfl, Ext.refl _⟩); clear hsz hS; simp [go_sem, Act.eval, *]
              · refine opOk_run rfl (.inl ⟨_, W, ?_, rfl, Ext.refl _⟩); clear hsz hS; simp [go_sem, Act.eval, *]
              · refine opOk_run rfl (.inl ⟨_, W, ?_, rfl, Ext.refl _⟩); clear hsz hS; simp [go_sem, Act.eval, *]
              · refine opOk_run rfl (.inl ⟨_, W, ?_, rfl, Ext.refl _⟩); clear hsz hS; simp [go_sem, Act.eval, *]
              · refine opOk_run rfl (.inl ⟨_, W, ?_, rfl, Ext.refl _⟩); clear hsz hS; simp [go_sem, Act.eval, *]
              · refine opOk_run rfl (.inl ⟨_, W, ?_, rfl, Ext.refl _⟩); clear hsz hS; simp [go_sem, Act.eval, *]
              · refine opOk_run rfl (.inl ⟨_, W, ?_, rfl, Ext.refl _⟩); clear hsz hS; simp [go_sem, Act.eval, *]
              · refine opOk_run rfl (.inl ⟨_, W, ?_, rfl, Ext.refl _⟩); clear hsz hS; simp [go_sem, Act.eval, *]
              · refine opOk_run rfl (.inl ⟨_, W, ?_, rfl, Ext.refl _⟩); clear hsz hS; simp [go_sem, Act.eval, *]
              · refine opOk_run rfl (.inl ⟨_, W, ?_, rfl, Ext.refl _⟩); clear hsz hS; simp [go_sem, Act.eval, *]
              · refine opOk_run rfl (.inl ⟨_, W, ?_, rfl, Ext.refl _⟩); clear hsz hS; simp [go_sem, Act.eval, *]
              · refine opOk_run rfl (.inl ⟨_, W, ?_, rfl, Ext.refl _⟩); clear hsz hS; simp [go_sem, Act.eval, *]
              · refine opOk_run rfl (.inl ⟨_, W, ?_, rfl, Ext.refl _⟩); clear hsz hS; simp [go_sem, Act.eval, *]
              · refine opOk_run rfl (.inl ⟨_, W, ?_, rfl, Ext.refl _⟩); clear hsz hS; simp [go_sem, Act.eval, *]
              · refine opOk_run rfl (.inl ⟨_, W, ?_, rfl, Ext.refl _⟩); clear hsz hS; simp [go_sem, Act.eval, *]
            case hVx => exact vs_stays (by simp only [List.mem_cons, List.not_mem_nil, or_false, forall_eq_or_imp, forall_eq]; exact ⟨stays_const _, stays_const _, stays_const _, stays_const _, stays_const _, stays_const _, stays_const _, stays_const _, stays_const _, stays_const _, stays_const _, stays_const _, stays_const _, stays_const _, stays_const _, stays_const _, stays_const _, stays_const _, stays_const _⟩)
            case hSx => exact fun W W' h hx => h.trans (Below.mono hx h.size)
            case hS => exact Below.refl _ _
            case hfin =>
              intro A W hsz hdf hS hv hbase
              obtain ⟨x, hx, hA⟩ := act_puts [81, 82, 83, 84, 85, 86, 87, 88, 89, 90, 91, 92, 93, 94, 95, 96, 97, 98, 99] (by kernel_rfl) hsz hdf hbase
              have e99 : x 99 = .bool false := (hx 99).trans (hv 18 (by decide))
              rw [hA]
              simp only [List.foldl]
              rw [e99]
              clear e99
              simp only [Act.put, List.setIfInBounds_toArray, List.set_cons_succ, List.set_cons_zero]
              clear hA hx hv hbase hsz hdf
              have HBW := Lib.hid (HBR.out.trans (hS.mono HBR.out.size))
              clear hS e1 e2 e3 e4 hida hidb
              go_wp2_with fail
              go_roundw
              case rel => exact ⟨i + 1, by omega, by go_num, HBW.out⟩
              case measure => simp [intOf]; omega
          · go_wp2_with fail
            go_ret
            exact ⟨rfl, HB8.out⟩
theorem flawOrders_view (x : RawA) (w : World) (hx : RawOk w x) :
    Calls Try.prog 9 #[x.val] w fun e w' => e = .returned (.bool true) ∧ Below w.heap.size w w' :=
  flawOrders_any x.M x.A x.a x.len x.cap x.Z w hx.m0 hx.m1 hx.a0 hx.a1 hx.rows
end Go.Proofs.Ytogjcfcfgnbmkaa
