/- FlawMatchesReference: the walk. -/
import Derived.Test.YtogjcfcfgnbmkaaLawMS
import Derived.Test.YtogjcfcfgnbmkaaAppE
import Derived.Test.YtogjcfcfgnbmkaaViews2
namespace Go.Proofs.Ytogjcfcfgnbmkaa
open Go.RowKit
set_option linter.unusedVariables false
set_option linter.unusedSimpArgs false

set_option maxHeartbeats 6400000 in
set_option maxRecDepth 100000 in
theorem lawMR_any (M A : Int) (a : Option Addr) (len cap : Nat) (Z : Nat → Nat → Int) (x0 x1 : Int) (a2 : Option Addr) (len2 cap2 : Nat) (Q : Nat → RR) (r : Rl) (w : World) (hM0 : 0 ≤ M) (hM1 : M ≤ 255) (hA0 : 0 ≤ A) (hA1 : A ≤ 255) (hZ : IsRows .u8 3 w a len Z)
    (h00 : 0 ≤ x0) (h01 : x0 ≤ 255) (h10 : 0 ≤ x1) (h11 : x1 ≤ 255) (hQ : RawRows w a2 len2 Q) :
    Calls Try.prog 3 #[.agg #[.int .u8 M, .int .u8 A, .slice a len cap], .agg #[.int .u8 x0, .int .u8 x1, .slice a2 len2 cap2], .agg #[.int .i64 r.frm, .int .i64 r.dst, .string r.inp, .string r.out, .int .i64 r.cost]] w fun e w' => e = .returned (.bool true) ∧ Below w.heap.size w w' := by
  have HQ := Lib.hid hQ; have HZ := Lib.hid hZ; clear hQ hZ
  go_enter Try.func3, Try.ntmps3
  go_wp2_with fail
  refine (sanity_any _).mono ?_
  rintro e w1 ⟨rfl, hb⟩
  have HB1 : Hid (Below (w.heap.size + 3) (((w.alloc (.cells #[.int .u8 M, .int .u8 A, .slice a len cap] 24)).alloc (.cells #[.int .u8 x0, .int .u8 x1, .slice a2 len2 cap2] 27)).alloc (.cells #[.int .i64 r.frm, .int .i64 r.dst, .string r.inp, .string r.out, .int .i64 r.cost] 29)) w1) := hb.mono (by simp only [World.size_alloc]; omega)
  clear hb
  obtain ⟨hz, hc, hf⟩ := bcellB HB1.out rfl
  simp only [World.size_alloc] at hz
  have hBw : Below w.heap.size w w1 := ((((Below.refl _ _).alloc (Nat.le_refl _) _).alloc (by simp only [World.size_alloc]; omega) _).alloc (by simp only [World.size_alloc]; omega) _).trans (HB1.out.mono (by omega))
  by_cases hin : r.inp.size ≤ 20
  · by_cases hout : r.out.size ≤ 20
    · have hi1 : ¬ (20 : Int) < (r.inp.size : Int) := by omega
      have hi2 : ¬ (20 : Int) < (r.out.size : Int) := by omega
      go_wp2_with fail
      refine (made_any M A a len cap _ hM0 hM1 hA0 hA1 Z (isRows_later HZ.out hBw (Nat.le_refl _))).mono ?_
      rintro e w2 ⟨S, b, c, rfl, hv, hm1, hm5, ha0, ha1, hl12, -, hown, hb⟩
      have HFit := Lib.hid (fit_of hv (by omega) ha1)
      have HOW := Lib.hid (hown.mono hz)
      have HB2 := Lib.hid (HB1.out.trans (hb.mono hz))
      have hz2 := Nat.le_trans hz hb.size
      clear hc hf hown hb
      obtain ⟨hzz, hc, hf⟩ := bcellB HB2.out rfl
      obtain ⟨wa, hwa⟩ : ∃ wa, wa = w2.alloc (.cells #[.int .i64 S.modes, .int .u8 S.acc, .slice b S.rules.length c] 33) := ⟨_, rfl⟩
      have HT1 : Hid (TX (((w.alloc (.cells #[.int .u8 M, .int .u8 A, .slice a len cap] 24)).alloc (.cells #[.int .u8 x0, .int .u8 x1, .slice a2 len2 cap2] 27)).alloc (.cells #[.int .i64 r.frm, .int .i64 r.dst, .string r.inp, .string r.out, .int .i64 r.cost] 29)) (w.heap.size + 3) w2.heap.size S.modes S.acc (.slice b S.rules.length c) S.rules wa) := by
        rw [hwa]
        exact ⟨⟨HB2.out.alloc (by omega) _, heap_alloc_new _ _, hz2⟩, HOW.out.below ((Below.refl _ w2).alloc (Nat.le_refl _) _) HOW.out.lt⟩
      have hza : wa.heap.size = w2.heap.size + 1 := by rw [hwa]; simp
      obtain ⟨g1, hg1⟩ : ∃ g1, g1 = w2.heap.size := ⟨_, rfl⟩
      have HLO1 : Hid (∀ q, (Value.slice b S.rules.length c).ownBlock = some q → q < g1) := by
        rw [hg1]; exact HOW.out.lt
      go_upto_region 5 with fail
      rw [← hwa]
      rw [← hg1] at HT1 hza hz2 ⊢
      clear hwa hc hf hzz hg1
      obtain ⟨hzz, hc, hf⟩ := bcellB HT1.out.bl rfl
      have hBa : Below w.heap.size w wa := ((((Below.refl _ _).alloc (Nat.le_refl _) _).alloc (by simp only [World.size_alloc]; omega) _).alloc (by simp only [World.size_alloc]; omega) _).trans (HT1.out.bl.mono (by omega))
      go_wp2_with fail
      refine (made_any M A a len cap _ hM0 hM1 hA0 hA1 Z (isRows_later HZ.out hBa (Nat.le_refl _))).mono ?_
      rintro e w3 ⟨S', b', c', rfl, hv', hm1', hm5', ha0', ha1', hl12', -, hown, hb⟩
      have HLO2 : Hid (∀ q, (Value.slice b' S'.rules.length c').ownBlock = some q → g1 + 1 ≤ q) := by
        rw [← hza]; exact hown.ge
      have HT1b := Lib.hid (HT1.out.below hb)
      have hzb := hb.size
      obtain ⟨wz, hwz⟩ : ∃ wz, wz = w3.alloc (.cells #[.int .i64 S'.modes, .int .u8 S'.acc, .slice b' S'.rules.length c'] 33) := ⟨_, rfl⟩
      have hzz3 : w.heap.size + 3 ≤ w3.heap.size := by omega
      have HT2 : Hid (TX (((w.alloc (.cells #[.int .u8 M, .int .u8 A, .slice a len cap] 24)).alloc (.cells #[.int .u8 x0, .int .u8 x1, .slice a2 len2 cap2] 27)).alloc (.cells #[.int .i64 r.frm, .int .i64 r.dst, .string r.inp, .string r.out, .int .i64 r.cost] 29)) (w.heap.size + 3) w3.heap.size S'.modes S'.acc (.slice b' S'.rules.length c') S'.rules wz) := by
        rw [hwz]
        exact ⟨⟨HT1b.out.bl.alloc hzz3 _, heap_alloc_new _ _, hzz3⟩, (hown.mono (by omega)).below ((Below.refl _ w3).alloc (Nat.le_refl _) _) hown.lt⟩
      have HT1c : Hid (TX (((w.alloc (.cells #[.int .u8 M, .int .u8 A, .slice a len cap] 24)).alloc (.cells #[.int .u8 x0, .int .u8 x1, .slice a2 len2 cap2] 27)).alloc (.cells #[.int .i64 r.frm, .int .i64 r.dst, .string r.inp, .string r.out, .int .i64 r.cost] 29)) (w.heap.size + 3) g1 S.modes S.acc (.slice b S.rules.length c) S.rules wz) := by
        rw [hwz]
        exact HT1b.out.below ((Below.refl _ w3).alloc (Nat.le_refl _) _)
      have hsz : wz.heap.size = w3.heap.size + 1 := by rw [hwz]; simp
      obtain ⟨g2, hg2⟩ : ∃ g2, g2 = w3.heap.size := ⟨_, rfl⟩
      go_upto_region 6 with fail
      rw [← hwz]
      rw [← hg2] at HT2 hsz hzb hzz3 ⊢
      clear hwz hc hf hzz hg2 hown hb
      obtain ⟨hzz, hc, hf⟩ := bcellB HT2.out.bl rfl
      obtain ⟨s0, s1, s2⟩ := HT2.out.toTX0.cells
      have sf := HT2.out.toTX0.free
      have HV' := Lib.hid hv'
      have HSZ := Lib.hid hsz; clear hsz
      go_upto_region 7 with (first
        | (at_builtin; refine wpList_append_rule rfl _ _ rfl (w.heap.size + 3) (.slice b' S'.rules.length c') S'.rules r rfl (HT2.out.own.below ((Below.refl _ wz).alloc (Nat.le_refl _) _) HT2.out.own.lt) wz.heap.size rfl (heap_alloc_new _ _) (by omega) (by have := HSZ.out; simp only [World.size_alloc]; omega) ?_; intro v5 w5 hown5 hgrow5; obtain ⟨R5, hR5⟩ : ∃ R5, R5 = S'.rules ++ [r] := ⟨_, rfl⟩; rw [← hR5] at hown5; obtain ⟨b5, c5, hv5, hrs5, hcp5⟩ := hown5.rules; subst hv5; have HT5 := Lib.hid ((HT2.out.toTX0.below ((Below.refl _ wz).alloc (Nat.le_refl _) (.cells #[.int .i64 r.frm, .int .i64 r.dst, .string r.inp, .string r.out, .int .i64 r.cost] 29))).grown hgrow5 HT2.out.own.ge (HT2.out.own.ne_of HT2.out.rep)); have HB5 : Hid (Below (g1 + 1) wz w5) := ((Below.refl _ wz).alloc (by have := HSZ.out; omega) (.cells #[.int .i64 r.frm, .int .i64 r.dst, .string r.inp, .string r.out, .int .i64 r.cost] 29)).grown hgrow5 (by have := HSZ.out; simp only [World.size_alloc]; omega) HLO2.out; have HO5 := Lib.hid hown5; have HR5 := Lib.hid hR5; have HTX5 := Lib.hid (HT5.out.put hown5); clear hc hf s0 s1 s2 sf hrs5 hcp5 hown5 hgrow5 hR5 hzz; obtain ⟨s0, s1, s2⟩ := HT5.out.cells; have sf := HT5.out.free)
        | fail)
      obtain ⟨wy, hwy⟩ : ∃ wy, wy = w5.setCell ⟨g2, 2, none⟩ (.slice b5 R5.length c5) := ⟨_, rfl⟩
      have HB6 : Hid (Below (g1 + 1) wz wy) := by rw [hwy]; exact HB5.out.setCell (by show g1 + 1 ≤ g2; omega) _
      have HTY2 : Hid (TX (((w.alloc (.cells #[.int .u8 M, .int .u8 A, .slice a len cap] 24)).alloc (.cells #[.int .u8 x0, .int .u8 x1, .slice a2 len2 cap2] 27)).alloc (.cells #[.int .i64 r.frm, .int .i64 r.dst, .string r.inp, .string r.out, .int .i64 r.cost] 29)) (w.heap.size + 3) g2 S'.modes S'.acc (.slice b5 R5.length c5) R5 wy) := by rw [hwy]; exact HTX5.out
      have HTY1 : Hid (TX (((w.alloc (.cells #[.int .u8 M, .int .u8 A, .slice a len cap] 24)).alloc (.cells #[.int .u8 x0, .int .u8 x1, .slice a2 len2 cap2] 27)).alloc (.cells #[.int .i64 r.frm, .int .i64 r.dst, .string r.inp, .string r.out, .int .i64 r.cost] 29)) (w.heap.size + 3) g1 S.modes S.acc (.slice b S.rules.length c) S.rules wy) :=
        ⟨⟨HT1c.out.bl.trans (HB6.out.mono (by omega)), (HB6.out.block g1 (by omega)).trans HT1c.out.rep, HT1c.out.ge⟩, HT1c.out.own.below HB6.out (fun q hq => Nat.lt_succ_of_lt (HLO1.out q hq))⟩
      rw [← hwy]
      clear hwy s0 s1 s2 sf
      obtain ⟨hzz, hc, hf⟩ := bcellB HTY2.out.bl rfl
      obtain ⟨s0, s1, s2⟩ := HTY2.out.toTX0.cells
      obtain ⟨d0, d1, d2⟩ := HTY1.out.toTX0.cells
      have hBy : Below w.heap.size w wy := ((((Below.refl _ _).alloc (Nat.le_refl _) _).alloc (by simp only [World.size_alloc]; omega) _).alloc (by simp only [World.size_alloc]; omega) _).trans (HTY1.out.bl.mono (by omega))
      have HBY := Lib.hid hBy
      have HL5 : Hid (R5.length ≤ 64) := by show _ ≤ _; rw [HR5.out, List.length_append]; simp only [List.length_singleton]; omega
      have HRC : Hid (wy.heap[w.heap.size + 1]? = some (.cells #[.int .u8 x0, .int .u8 x1, .slice a2 len2 cap2] 27 (0, 0))) := by
        show _ = _
        rw [HTY1.out.bl.block (w.heap.size + 1) (by omega), Below.heap_alloc _ _ _ (by simp only [World.size_alloc]; omega)]
        have := heap_alloc_new (w.alloc (.cells #[.int .u8 M, .int .u8 A, .slice a len cap] 24)) (.cells #[.int .u8 x0, .int .u8 x1, .slice a2 len2 cap2] 27)
        simpa only [World.size_alloc] using this
      have hys : w.heap.size + 3 ≤ wy.heap.size := by have := HTY1.out.bl.size; simp only [World.size_alloc] at this; omega
      clear hBy hc hf s0 s1 s2 d0 d1 d2
      go_upto_region 7 with fail
      refine wp_region_rv (by kernel_rfl) (Vs [fun v _ => v = .agg #[.int .i64 S.modes, .int .u8 S.acc, .slice b S.rules.length c], fun v _ => v = .agg #[.int .i64 S'.modes, .int .u8 S'.acc, .slice b5 R5.length c5], fun v _ => v = .agg #[.int .u8 x0, .int .u8 x1, .slice a2 len2 cap2], SchV, Row3, Row3]) (fun W => Below wy.heap.size wy W) 69 (by kernel_rfl) rfl ?hVx ?hSx ?hS (opsOk_all ?hop) ?hfin
      case hop =>
        refine ⟨?_, ?_, ?_, ?_, ?_, ?_, trivial⟩
        all_goals
          intro A W hsz hS hdep hbase
          have hty1 := HTY1.out.below hS
          have hty2 := HTY2.out.below hS
          obtain ⟨s0', s1', s2'⟩ := hty2.toTX0.cells
          obtain ⟨d0', d1', d2'⟩ := hty1.toTX0.cells
          obtain ⟨r0', r1', r2'⟩ := cells3 ((hS.block (w.heap.size + 1) (by omega)).trans HRC.out)
          have HOK1 : Hid (SchOk W S b c) := ⟨by omega, ha1, by omega, hty1.own.ruls.2.2, hty1.own.ruls.1⟩
          have HOK2 : Hid (SchOk W ⟨S'.modes, S'.acc, R5⟩ b5 c5) := ⟨(by omega : 0 ≤ S'.acc), ha1', HL5.out, hty2.own.ruls.2.2, hty2.own.ruls.1⟩
          clear hty1 hty2
          have h8 : A.tmps.getD 8 undef = .pointer (some ⟨g1, 0, none⟩) := hbase 8 (by kernel_rfl)
          have h9 : A.tmps.getD 9 undef = .pointer (some ⟨g2, 0, none⟩) := hbase 9 (by kernel_rfl)
          have h4 : A.tmps.getD 4 undef = .pointer (some ⟨w.heap.size + 1, 0, none⟩) := hbase 4 (by kernel_rfl)
          clear hbase
          simp [slotOf, Region.binds, Vs] at hdep
        · refine opOk_run rfl (.inl ⟨_, W, ?_, rfl, Ext.refl _⟩); clear hsz hS; simp [go_sem, Act.eval, *]
        · refine opOk_run rfl (.inl ⟨_, W, ?_, rfl, Ext.refl _⟩); clear hsz hS; simp [go_sem, Act.eval, *]
        · refine opOk_run rfl (.inl ⟨_, W, ?_, rfl, Ext.refl _⟩); clear hsz hS; simp [go_sem, Act.eval, *]
        · refine opOk_run rfl (.inr ⟨12, #[.agg #[.int .u8 x0, .int .u8 x1, .slice a2 len2 cap2]], W, by (clear hsz hS; simp [go_sem, Act.eval, *]), ?_⟩)
          refine (made2_any x0 x1 a2 len2 cap2 Q W h00 h01 h10 h11 (HQ.out.later (HBY.out.trans (hS.mono HBY.out.size)) (Nat.le_refl _))).mono ?_
          rintro e w' ⟨S3, b3, c3, rfl, -, -, ha, hl, hr, hcp, hb⟩
          exact ⟨_, rfl, ⟨S3, b3, c3, rfl, by omega, by omega, by omega, hcp, hr⟩, hb⟩
        · obtain ⟨S3, b3, c3, hv3, hok3⟩ : SchV (A.tmps[37]?.getD undef) W := (by first | exact hdep | exact hdep.1 | exact hdep.2 | exact hdep.2.1 | exact hdep.2.2 | exact hdep.2.2.1 | exact hdep.2.2.2 | exact hdep.2.2.2.1 | exact hdep.2.2.2.2)
          refine opOk_run rfl (.inl ⟨_, W.alloc (.cells #[.int .i64 S.modes, .int .u8 S.acc, .slice b S.rules.length c, .int .i64 S'.modes, .int .u8 S'.acc, .slice b5 R5.length c5, .int .i64 S3.modes, .int .u8 S3.acc, .slice b3 S3.rules.length c3] 33), ?_, row3_new HOK1.out HOK2.out hok3, (Below.refl _ _).alloc (Nat.le_refl _) _⟩)
          clear hsz hS hok3; simp [go_sem, Act.eval, *]
        · have h10 : Row3 (A.tmps[38]?.getD undef) W := (by first | exact hdep | exact hdep.1 | exact hdep.2 | exact hdep.2.1 | exact hdep.2.2 | exact hdep.2.2.1 | exact hdep.2.2.2 | exact hdep.2.2.2.1 | exact hdep.2.2.2.2)
          refine opOk_run rfl (.inl ⟨_, W, ?_, h10, Ext.refl _⟩)
          clear hsz hS h10; simp [go_sem, Act.eval, *]
      case hVx => exact vs_stays (by simp only [List.mem_cons, List.not_mem_nil, or_false, forall_eq_or_imp, forall_eq]; exact ⟨stays_const _, stays_const _, stays_const _, schV_stays, row3_stays, row3_stays⟩)
      case hSx => exact fun W W' h hx => h.trans (Below.mono hx h.size)
      case hS => exact Below.refl _ _
      case hfin =>
        intro A W hsz hdf hS hv hbase
        obtain ⟨x, hx, hA⟩ := act_puts [34, 35, 36, 37, 38, 10] (by kernel_rfl) hsz hdf hbase
        have hr10 : Row3 (x 10) W := by rw [hx 10]; exact hv 5 (by decide)
        obtain ⟨g, e10, hgw, hrow⟩ := hr10
        rw [hA]
        simp only [List.foldl]
        rw [e10]
        clear e10
        simp only [Act.put, List.setIfInBounds_toArray, List.set_cons_succ, List.set_cons_zero]
        clear hA hx hv hbase hsz hdf
        have HROW := Lib.hid hrow; clear hrow
        have HBW := Lib.hid (HBY.out.trans (hS.mono HBY.out.size))
        clear hS
        go_wp2_with fail
        go_loopw [11] (fun i wr => ∃ k : Nat, k ≤ 3 ∧ i = .int .i64 (k : Int) ∧ Below W.heap.size W wr) (fun i _ => 3 - (intOf i).toNat)
        case atStart => exact ⟨0, by omega, rfl, Below.refl _ _⟩
        case round =>
          obtain ⟨k, hk, rfl, hbq⟩ := hrel
          have HBQ := Lib.hid hbq
          by_cases hk3 : k < 3
          · have hgr : g < wr.heap.size := Nat.lt_of_lt_of_le hgw hbq.size
            obtain ⟨S9, b9, c9, q0, q1, q2, hok9⟩ := (HROW.out k hk3).later hbq (Nat.le_refl _) hgw
            have Q0 := Lib.hid q0; have Q1 := Lib.hid q1; have Q2 := Lib.hid q2; have HOK9 := Lib.hid hok9
            have hidx := idx_schemes g k hk3
            clear q0 q1 q2 hok9 hbq
            go_upto_region 11 with fail
            refine wp_region_rv (by kernel_rfl) (Vs [fun v _ => v = .slice (some ⟨g, 0, none⟩) 3 3, fun v _ => v = .int .i64 (k : Int), fun v _ => v = .pointer (some ⟨g, k * 3, none⟩), fun v _ => v = .agg #[.int .i64 S9.modes, .int .u8 S9.acc, .slice b9 S9.rules.length c9], RepV (findF S9), fun v _ => v = .slice (some ⟨g, 0, none⟩) 3 3, fun v _ => v = .int .i64 (k : Int), fun v _ => v = .pointer (some ⟨g, k * 3, none⟩), fun v _ => v = .agg #[.int .i64 S9.modes, .int .u8 S9.acc, .slice b9 S9.rules.length c9], RepV (findF S9), fun v _ => v = .bool true, fun v _ => v = .bool false, fun v _ => v = .bool false, fun v _ => v = .slice (some ⟨g, 0, none⟩) 3 3, fun v _ => v = .int .i64 (k : Int), fun v _ => v = .pointer (some ⟨g, k * 3, none⟩), fun v _ => v = .agg #[.int .i64 S9.modes, .int .u8 S9.acc, .slice b9 S9.rules.length c9], fun v _ => v = .int .i64 (soundF S9), fun v _ => v = .slice (some ⟨g, 0, none⟩) 3 3, fun v _ => v = .int .i64 (k : Int), fun v _ => v = .pointer (some ⟨g, k * 3, none⟩), fun v _ => v = .agg #[.int .i64 S9.modes, .int .u8 S9.acc, .slice b9 S9.rules.length c9], fun v _ => v = .int .i64 (soundF S9), fun v _ => v = .bool false, fun v _ => v = .bool false]) (fun W => Below wr.heap.size wr W) 69 (by kernel_rfl) rfl ?hVx ?hSx ?hS (opsOk_all ?hop) ?hfin
            case hop =>
              refine ⟨?_, ?_, ?_, ?_, ?_, ?_, ?_, ?_, ?_, ?_, ?_, ?_, ?_, ?_, ?_, ?_, ?_, ?_, ?_, ?_, ?_, ?_, ?_, ?_, ?_, trivial⟩
              all_goals
                intro A W hsz hS hdep hbase
                have hok := HOK9.out.later hS (Nat.le_refl _)
                have q0' := (hS.cell (p := ⟨g, k * 3, none⟩) hgr).trans Q0.out
                have q1' := (hS.cell (p := ⟨g, k * 3 + 1, none⟩) hgr).trans Q1.out
                have q2' := (hS.cell (p := ⟨g, k * 3 + 2, none⟩) hgr).trans Q2.out
                have HOKW := Lib.hid hok
                clear hok
                have h10 : A.tmps.getD 10 undef = .slice (some ⟨g, 0, none⟩) 3 3 := hbase 10 (by kernel_rfl)
                have h11 : A.tmps.getD 11 undef = .int .i64 (k : Int) := hbase 11 (by kernel_rfl)
                clear hbase
                simp [slotOf, Region.binds, Vs] at hdep
              · refine opOk_run rfl (.inl ⟨_, W, ?_, rfl, Ext.refl _⟩); clear hsz hS; simp [go_sem, Act.eval, *]
              · refine opOk_run rfl (.inl ⟨_, W, ?_, rfl, Ext.refl _⟩); clear hsz hS; simp [go_sem, Act.eval, *]
              · refine opOk_run rfl (.inl ⟨_, W, ?_, rfl, Ext.refl _⟩); clear hsz hS; simp [go_sem, Act.eval, *]
              · refine opOk_run rfl (.inl ⟨_, W, ?_, rfl, Ext.refl _⟩); clear hsz hS; simp [go_sem, Act.eval, *]
              · refine opOk_run rfl (.inr ⟨14, #[.agg #[.int .i64 S9.modes, .int .u8 S9.acc, .slice b9 S9.rules.length c9]], W, by (clear hsz hS; simp [go_sem, Act.eval, *]), ?_⟩)
                refine (find_any S9 b9 c9 W HOKW.out.rul HOKW.out.a0 HOKW.out.a1 (by have := HOKW.out.len; omega) HOKW.out.cap (fun h => fit_of h HOKW.out.a0 HOKW.out.a1)).mono ?_
                rintro e w' ⟨v1, v2, v3, rfl, h1, h2, h3, hb⟩
                exact ⟨_, rfl, repV_of h1 h2 h3, hb⟩
              · refine opOk_run rfl (.inl ⟨_, W, ?_, rfl, Ext.refl _⟩); clear hsz hS; simp [go_sem, Act.eval, *]
              · refine opOk_run rfl (.inl ⟨_, W, ?_, rfl, Ext.refl _⟩); clear hsz hS; simp [go_sem, Act.eval, *]
              · refine opOk_run rfl (.inl ⟨_, W, ?_, rfl, Ext.refl _⟩); clear hsz hS; simp [go_sem, Act.eval, *]
              · refine opOk_run rfl (.inl ⟨_, W, ?_, rfl, Ext.refl _⟩); clear hsz hS; simp [go_sem, Act.eval, *]
              · refine opOk_run rfl (.inr ⟨15, #[.agg #[.int .i64 S9.modes, .int .u8 S9.acc, .slice b9 S9.rules.length c9]], W, by (clear hsz hS; simp [go_sem, Act.eval, *]), ?_⟩)
                refine (rfind_any S9 b9 c9 W HOKW.out.rul HOKW.out.a0 HOKW.out.a1 (by have := HOKW.out.len; omega) (fun h => fit_of h HOKW.out.a0 HOKW.out.a1)).mono ?_
                rintro e w' ⟨v1, v2, v3, rfl, h1, h2, h3, hb⟩
                rw [rfind_eq (fun h => fit_of h HOKW.out.a0 HOKW.out.a1)] at h1 h2 h3
                exact ⟨_, rfl, repV_of h1 h2 h3, hb⟩
              · obtain ⟨d, t, e, k1, k2, k3, hv1, hr1⟩ : RepV (findF S9) (A.tmps[47]?.getD undef) W := (by first | exact hdep | exact hdep.1 | exact hdep.2 | exact hdep.2.1 | exact hdep.2.2 | exact hdep.2.2.1 | exact hdep.2.2.2 | exact hdep.2.2.2.1 | exact hdep.2.2.2.2)
                obtain ⟨d', t', e', k1', k2', k3', hv2, hr2⟩ : RepV (findF S9) (A.tmps[52]?.getD undef) W := (by first | exact hdep | exact hdep.1 | exact hdep.2 | exact hdep.2.1 | exact hdep.2.2 | exact hdep.2.2.1 | exact hdep.2.2.2 | exact hdep.2.2.2.1 | exact hdep.2.2.2.2)
                obtain ⟨l1, l2, l3⟩ := findF_len HOKW.out.len (fun h => fit_of h HOKW.out.a0 HOKW.out.a1)
                refine opOk_run rfl (.inr ⟨13, #[.agg #[.slice d (findF S9).dead.length k1, .slice t (findF S9).stuck.length k2, .slice e (findF S9).endl.length k3], .agg #[.slice d' (findF S9).dead.length k1', .slice t' (findF S9).stuck.length k2', .slice e' (findF S9).endl.length k3']], W, by (clear hsz hS hr1 hr2; simp [go_sem, Act.eval, *]), ?_⟩)
                refine (same_any d t e d' t' e' _ _ _ _ _ _ k1 k2 k3 k1' k2' k3' _ _ _ _ _ _ W hr1 hr2 (ints_len _).symm (ints_len _).symm (ints_len _).symm (ints_len _).symm (ints_len _).symm (ints_len _).symm (by rw [ints_len]; omega) (by rw [ints_len]; omega) (by rw [ints_len]; omega) (by rw [ints_len]; omega) (by rw [ints_len]; omega) (by rw [ints_len]; omega)).mono ?_
                rintro e w' ⟨he, hb⟩
                have he2 : e = .returned (.bool true) := by rw [he]; simp
                exact ⟨_, he2, rfl, hb⟩
              · refine opOk_run rfl (.inl ⟨_, W, ?_, rfl, Ext.refl _⟩); clear hsz hS; simp [go_sem, Act.eval, *]
              · refine opOk_run rfl (.inl ⟨_, W, ?_, rfl, Ext.refl _⟩); clear hsz hS; simp [go_sem, Act.eval, *]
              · refine opOk_runG (j := 12) (d := 55) (b := false) rfl (by kernel_rfl) (by first | exact hdep | exact hdep.1 | exact hdep.2 | exact hdep.2.1 | exact hdep.2.2 | exact hdep.2.2.1 | exact hdep.2.2.2 | exact hdep.2.2.2.1 | exact hdep.2.2.2.2) rfl (.inl ⟨_, W, ?_, rfl, Ext.refl _⟩); clear hsz hS; simp [go_sem, Act.eval, *]
              · refine opOk_runG (j := 12) (d := 55) (b := false) rfl (by kernel_rfl) (by first | exact hdep | exact hdep.1 | exact hdep.2 | exact hdep.2.1 | exact hdep.2.2 | exact hdep.2.2.1 | exact hdep.2.2.2 | exact hdep.2.2.2.1 | exact hdep.2.2.2.2) rfl (.inl ⟨_, W, ?_, rfl, Ext.refl _⟩); clear hsz hS; simp [go_sem, Act.eval, *]
              · refine opOk_runG (j := 12) (d := 55) (b := false) rfl (by kernel_rfl) (by first | exact hdep | exact hdep.1 | exact hdep.2 | exact hdep.2.1 | exact hdep.2.2 | exact hdep.2.2.1 | exact hdep.2.2.2 | exact hdep.2.2.2.1 | exact hdep.2.2.2.2) rfl (.inl ⟨_, W, ?_, rfl, Ext.refl _⟩); clear hsz hS; simp [go_sem, Act.eval, *]
              · refine opOk_runG (j := 12) (d := 55) (b := false) rfl (by kernel_rfl) (by first | exact hdep | exact hdep.1 | exact hdep.2 | exact hdep.2.1 | exact hdep.2.2 | exact hdep.2.2.1 | exact hdep.2.2.2 | exact hdep.2.2.2.1 | exact hdep.2.2.2.2) rfl (.inl ⟨_, W, ?_, rfl, Ext.refl _⟩); clear hsz hS; simp [go_sem, Act.eval, *]
              · refine opOk_runG (j := 12) (d := 55) (b := false) rfl (by kernel_rfl) (by first | exact hdep | exact hdep.1 | exact hdep.2 | exact hdep.2.1 | exact hdep.2.2 | exact hdep.2.2.1 | exact hdep.2.2.2 | exact hdep.2.2.2.1 | exact hdep.2.2.2.2) rfl (.inr ⟨16, #[.agg #[.int .i64 S9.modes, .int .u8 S9.acc, .slice b9 S9.rules.length c9]], W, by (clear hsz hS; simp [go_sem, Act.eval, *]), ?_⟩)
                refine (sound_any S9 b9 c9 W HOKW.out.rul HOKW.out.a0 HOKW.out.a1 (by have := HOKW.out.len; omega) HOKW.out.cap (fun h => fit_of h HOKW.out.a0 HOKW.out.a1)).mono ?_
                rintro e w' ⟨he, hb⟩
                exact ⟨_, he, rfl, hb⟩
              · refine opOk_runG (j := 12) (d := 55) (b := false) rfl (by kernel_rfl) (by first | exact hdep | exact hdep.1 | exact hdep.2 | exact hdep.2.1 | exact hdep.2.2 | exact hdep.2.2.1 | exact hdep.2.2.2 | exact hdep.2.2.2.1 | exact hdep.2.2.2.2) rfl (.inl ⟨_, W, ?_, rfl, Ext.refl _⟩); clear hsz hS; simp [go_sem, Act.eval, *]
              · refine opOk_runG (j := 12) (d := 55) (b := false) rfl (by kernel_rfl) (by first | exact hdep | exact hdep.1 | exact hdep.2 | exact hdep.2.1 | exact hdep.2.2 | exact hdep.2.2.1 | exact hdep.2.2.2 | exact hdep.2.2.2.1 | exact hdep.2.2.2.2) rfl (.inl ⟨_, W, ?_, rfl, Ext.refl _⟩); clear hsz hS; simp [go_sem, Act.eval, *]
              · refine opOk_runG (j := 12) (d := 55) (b := false) rfl (by kernel_rfl) (by first | exact hdep | exact hdep.1 | exact hdep.2 | exact hdep.2.1 | exact hdep.2.2 | exact hdep.2.2.1 | exact hdep.2.2.2 | exact hdep.2.2.2.1 | exact hdep.2.2.2.2) rfl (.inl ⟨_, W, ?_, rfl, Ext.refl _⟩); clear hsz hS; simp [go_sem, Act.eval, *]
              · refine opOk_runG (j := 12) (d := 55) (b := false) rfl (by kernel_rfl) (by first | exact hdep | exact hdep.1 | exact hdep.2 | exact hdep.2.1 | exact hdep.2.2 | exact hdep.2.2.1 | exact hdep.2.2.2 | exact hdep.2.2.2.1 | exact hdep.2.2.2.2) rfl (.inl ⟨_, W, ?_, rfl, Ext.refl _⟩); clear hsz hS; simp [go_sem, Act.eval, *]
              · refine opOk_runG (j := 12) (d := 55) (b := false) rfl (by kernel_rfl) (by first | exact hdep | exact hdep.1 | exact hdep.2 | exact hdep.2.1 | exact hdep.2.2 | exact hdep.2.2.1 | exact hdep.2.2.2 | exact hdep.2.2.2.1 | exact hdep.2.2.2.2) rfl (.inr ⟨17, #[.agg #[.int .i64 S9.modes, .int .u8 S9.acc, .slice b9 S9.rules.length c9]], W, by (clear hsz hS; simp [go_sem, Act.eval, *]), ?_⟩)
                refine (rsound_any S9 b9 c9 W HOKW.out.rul HOKW.out.a0 HOKW.out.a1 (by have := HOKW.out.len; omega) (fun h => fit_of h HOKW.out.a0 HOKW.out.a1)).mono ?_
                rintro e w' ⟨he, hb⟩
                rw [rsound_eq (fun h => fit_of h HOKW.out.a0 HOKW.out.a1)] at he
                exact ⟨_, he, rfl, hb⟩
              · refine opOk_runG (j := 12) (d := 55) (b := false) rfl (by kernel_rfl) (by first | exact hdep | exact hdep.1 | exact hdep.2 | exact hdep.2.1 | exact hdep.2.2 | exact hdep.2.2.1 | exact hdep.2.2.2 | exact hdep.2.2.2.1 | exact hdep.2.2.2.2) rfl (.inl ⟨_, W, ?_, rfl, Ext.refl _⟩); clear hsz hS; simp [go_sem, Act.eval, *]
              · refine opOk_run rfl (.inl ⟨_, W, ?_, rfl, Ext.refl _⟩); clear hsz hS; simp [go_sem, Act.eval, *]
            case hVx => exact vs_stays (by simp only [List.mem_cons, List.not_mem_nil, or_false, forall_eq_or_imp, forall_eq]; exact ⟨stays_const _, stays_const _, stays_const _, stays_const _, repV_stays _, stays_const _, stays_const _, stays_const _, stays_const _, repV_stays _, stays_const _, stays_const _, stays_const _, stays_const _, stays_const _, stays_const _, stays_const _, stays_const _, stays_const _, stays_const _, stays_const _, stays_const _, stays_const _, stays_const _, stays_const _⟩)
            case hSx => exact fun W W' h hx => h.trans (Below.mono hx h.size)
            case hS => exact Below.refl _ _
            case hfin =>
              intro A W hsz hdf hS hv hbase
              obtain ⟨x, hx, hA⟩ := act_puts [43, 44, 45, 46, 47, 48, 49, 50, 51, 52, 53, 54, 55, 56, 57, 58, 59, 60, 61, 62, 63, 64, 65, 66, 67] (by kernel_rfl) hsz hdf hbase
              have e67 : x 67 = .bool false := (hx 67).trans (hv 24 (by decide))
              rw [hA]
              simp only [List.foldl]
              rw [e67]
              clear e67
              simp only [Act.put, List.setIfInBounds_toArray, List.set_cons_succ, List.set_cons_zero]
              clear hA hx hv hbase hsz hdf
              have HBX := Lib.hid (HBQ.out.trans (hS.mono HBQ.out.size))
              clear hS
              go_wp2_with fail
              go_roundw
              case rel => exact ⟨k + 1, by omega, by go_num, HBX.out⟩
              case measure => simp [intOf]; omega
          · obtain rfl : k = 3 := by omega
            clear hbq
            go_wp2_with fail
            go_ret
            exact ⟨rfl, HBW.out.trans (HBQ.out.mono HBW.out.size)⟩
    · have hi2 : (20 : Int) < (r.out.size : Int) := by omega
      go_wp2_with fail
      go_ret
      exact ⟨rfl, hBw⟩
  · have hi1 : (20 : Int) < (r.inp.size : Int) := by omega
    go_wp2_with fail
    go_ret
    exact ⟨rfl, hBw⟩
theorem flawMatchesReference_view (x : RawA) (y : Raw2A) (r : Rl) (w : World) (hx : RawOk w x) (hy : Raw2Ok w y) (_ : True) :
    Calls Try.prog 3 #[x.val, y.val, rlVal r] w fun e w' => e = .returned (.bool true) ∧ Below w.heap.size w w' :=
  lawMR_any x.M x.A x.a x.len x.cap x.Z y.M y.A y.a y.len y.cap y.Q r w hx.m0 hx.m1 hx.a0 hx.a1 hx.rows hy.m0 hy.m1 hy.a0 hy.a1 hy.rows
end Go.Proofs.Ytogjcfcfgnbmkaa
