/- Contracts of reference 04: Chain, Silent, Dead. -/
import Derived.Test.YtogjcfcfgnbmkaaRefB
import Derived.Test.YtogjcfcfgnbmkaaRegion
namespace Go.Proofs.Ytogjcfcfgnbmkaa
open Go.RowKit
set_option linter.unusedVariables false
set_option linter.unusedSimpArgs false

set_option maxHeartbeats 1600000 in
theorem chain_any (S : Sch) (a : Option Addr) (cap : Nat) (m : Int) (b : Option Addr) (n cc : Nat) (C : List Int) (w : World) (hn : n = C.length) (hR : RulS w a S.rules) (hl : S.rules.length ≤ 64) (hC : SlS w b C) (hCl : C.length ≤ 100000) :
    Calls Try.prog 21 #[.agg #[.int .i64 S.modes, .int .u8 S.acc, .slice a S.rules.length cap], .int .i64 m, .slice b n cc] w fun e w' => e = .returned (optV (followF (fun _ => true) S.rules m C)) ∧ Below w.heap.size w w' := by
  subst hn
  have HR := Lib.hid hR; have HC := Lib.hid hC; clear hR hC
  go_enter Try.func21, Try.ntmps21
  go_wp2
  go_loopw [1, 8] (fun mv i wr => ∃ (k : Nat) (t : Int), k ≤ C.length ∧ i = .int .i64 k ∧ mv = .int .i64 t ∧ followF (fun _ => true) S.rules t (C.drop k) = followF (fun _ => true) S.rules m C ∧ Below (w.heap.size + 1) (w.alloc (.cells #[.int .i64 S.modes, .int .u8 S.acc, .slice a S.rules.length cap] 33)) wr) (fun _ i _ => C.length - (intOf i).toNat)
  case atStart => exact ⟨0, m, by omega, rfl, rfl, rfl, Below.refl _ _⟩
  case round =>
    obtain ⟨k, t, hk, rfl, rfl, hfo, hal⟩ := hrel
    have HF := Lib.hid hfo; clear hfo
    have hB : Below w.heap.size w wr := ((Below.refl _ _).alloc (Nat.le_refl _) _).trans (hal.mono (by omega))
    obtain ⟨hz, hc, hf⟩ := bcellB hal rfl
    simp only [World.size_alloc] at hz
    by_cases hlt : k < C.length
    · obtain ⟨b', o', ha', hb', q'⟩ := (HC.out.later hB (Nat.le_refl _)).at hlt
      have hidx' := idx_ints b b' o' C.length cc k ha' hlt
      have HA' := Lib.hid ha'; clear ha'
      by_cases h1 : C[k] < 0
      · have HN := Lib.hid (follow_bad1 (use := fun _ => true) (R := S.rules) (m := t) hlt (by omega))
        have HN2 : Hid (followF (fun _ => true) S.rules m C = none) := HF.out.symm.trans HN.out
        go_wp2
        go_quiet (fail)
        go_wp2
        go_ret2
        exact ⟨by rw [HN2.out]; rfl, hB.trans (below_drewN _ _)⟩
      have hd1 : decide (C[k] < 0) = false := by simp; omega
      by_cases h2 : (S.rules.length : Int) ≤ C[k]
      · have HN := Lib.hid (follow_bad1 (use := fun _ => true) (R := S.rules) (m := t) hlt (by omega))
        have HN2 : Hid (followF (fun _ => true) S.rules m C = none) := HF.out.symm.trans HN.out
        go_wp2
        go_quiet (fail)
        go_wp2
        go_ret2
        exact ⟨by rw [HN2.out]; rfl, hB.trans (below_drewN _ _)⟩
      obtain ⟨n, hn⟩ := Int.eq_ofNat_of_zero_le (show 0 ≤ C[k] by omega)
      have hnl : n < S.rules.length := by omega
      obtain ⟨b2, o2, ha2, hb2, q0, q1, q2, q3, q4⟩ := (HR.out.later hB (Nat.le_refl _)).at hnl
      have hidx := idx_rules a b2 o2 S.rules.length cap n ha2 hnl
      have HA := Lib.hid ha2; clear ha2
      have hok : Hid (0 ≤ C[k] ∧ C[k].toNat < S.rules.length) := ⟨by omega, by omega⟩
      have hnn : Hid (C[k].toNat = n) := by show _ = _; omega
      rw [hn] at q' h1 h2 hd1
      have hd2 : decide ((S.rules.length : Int) ≤ (n : Int)) = false := by simp; omega
      have hd3 : decide (S.rules.length ≤ n) = false := by simp; omega
      have HCN := Lib.hid hn; clear hn
      have hgr : Hid (S.rules[C[k].toNat]'hok.out.2 = S.rules[n]) := by show _ = _; congr 1
      by_cases h3 : S.rules[n].frm = t
      · have h3b : (S.rules[n].frm != t) = false := by simp [h3]
        have H3 := Lib.hid h3; clear h3
        have HN2 : Hid (followF (fun _ => true) S.rules S.rules[n].dst (C.drop (k + 1)) = followF (fun _ => true) S.rules m C) := by
          show _ = _
          have := follow_good (use := fun _ => true) (m := t) hlt hok.out (by rw [hgr.out]; exact ⟨H3.out, rfl⟩)
          rw [hgr.out, HF.out] at this; exact this.symm
        go_wp2
        go_quiet (fail)
        go_wp2
        go_quiet (fail)
        go_wp2
        go_roundw
        case rel => exact ⟨k + 1, _, by omega, by go_num, rfl, HN2.out, hal.trans (below_drewN _ _)⟩
        case measure => first | (simp [intOf]; done) | (simp [intOf]; omega)
      · have h3b : (S.rules[n].frm != t) = true := by simp [h3]
        have HN2 : Hid (followF (fun _ => true) S.rules m C = none) := by
          show _ = _
          have := follow_bad2 (use := fun _ => true) (m := t) hlt hok.out (by rw [hgr.out]; intro h; exact h3 h.1)
          rw [HF.out] at this; exact this
        clear h3
        go_wp2
        go_quiet (fail)
        go_wp2
        go_ret2
        exact ⟨by rw [HN2.out]; rfl, hB.trans (below_drewN _ _)⟩
    · obtain rfl : k = C.length := by omega
      have HN2 : Hid (followF (fun _ => true) S.rules m C = some t) := by
        show _ = _
        have := HF.out
        rw [List.drop_length, followF] at this; exact this.symm
      go_wp2
      go_ret2
      exact ⟨by rw [HN2.out]; rfl, hB⟩

-- Silent, for lists of indices of rules
set_option maxHeartbeats 1600000 in
theorem silent_any (S : Sch) (a : Option Addr) (cap : Nat) (b : Option Addr) (n cc : Nat) (C : List Int) (w : World) (hn : n = C.length) (hR : RulS w a S.rules) (hl : S.rules.length ≤ 64) (hC : SlS w b C) (hCl : C.length ≤ 100000) (hin : ∀ k (h : k < C.length), 0 ≤ C[k] ∧ C[k].toNat < S.rules.length) :
    Calls Try.prog 27 #[.agg #[.int .i64 S.modes, .int .u8 S.acc, .slice a S.rules.length cap], .slice b n cc] w fun e w' => e = .returned (.bool (C.all fun i => emptyR (S.rules.getD i.toNat ⟨0, 0, ⟨#[]⟩, ⟨#[]⟩, 0⟩))) ∧ Below w.heap.size w w' := by
  subst hn
  have HR := Lib.hid hR; have HC := Lib.hid hC; clear hR hC
  go_enter Try.func27, Try.ntmps27
  go_wp2
  go_loopw [5] (fun i wr => ∃ (k : Nat), k ≤ C.length ∧ i = .int .i64 k ∧ ((C.take k).all fun i => emptyR (S.rules.getD i.toNat ⟨0, 0, ⟨#[]⟩, ⟨#[]⟩, 0⟩)) = true ∧ Below (w.heap.size + 1) (w.alloc (.cells #[.int .i64 S.modes, .int .u8 S.acc, .slice a S.rules.length cap] 33)) wr) (fun i _ => C.length - (intOf i).toNat)
  case atStart => exact ⟨0, by omega, rfl, rfl, Below.refl _ _⟩
  case round =>
    obtain ⟨k, hk, rfl, hfo, hal⟩ := hrel
    have HF := Lib.hid hfo; clear hfo
    have hB : Below w.heap.size w wr := ((Below.refl _ _).alloc (Nat.le_refl _) _).trans (hal.mono (by omega))
    obtain ⟨hz, hc, hf⟩ := bcellB hal rfl
    simp only [World.size_alloc] at hz
    by_cases hlt : k < C.length
    · obtain ⟨b', o', ha', hb', q'⟩ := (HC.out.later hB (Nat.le_refl _)).at hlt
      have hidx' := idx_ints b b' o' C.length cc k ha' hlt
      have HA' := Lib.hid ha'; clear ha'
      obtain ⟨p1, p2⟩ := hin k hlt
      obtain ⟨n, hn⟩ := Int.eq_ofNat_of_zero_le p1
      have hnl : n < S.rules.length := by omega
      obtain ⟨b2, o2, ha2, hb2, q0, q1, q2, q3, q4⟩ := (HR.out.later hB (Nat.le_refl _)).at hnl
      have hidx := idx_rules a b2 o2 S.rules.length cap n ha2 hnl
      have HA := Lib.hid ha2; clear ha2
      have hgr : Hid (emptyR (S.rules.getD C[k].toNat ⟨0, 0, ⟨#[]⟩, ⟨#[]⟩, 0⟩) = emptyR S.rules[n]) := by
        show _ = _
        rw [hn, Int.toNat_natCast, List.getD_eq_getElem?_getD, List.getElem?_eq_getElem hnl]; rfl
      have HT : Hid (((C.take (k + 1)).all fun i => emptyR (S.rules.getD i.toNat ⟨0, 0, ⟨#[]⟩, ⟨#[]⟩, 0⟩)) = emptyR S.rules[n]) := by
        show _ = _
        rw [List.take_succ_eq_append_getElem hlt, List.all_append, HF.out, Bool.true_and, List.all_cons, List.all_nil, Bool.and_true, hgr.out]
      rw [hn] at q'
      clear hn p1 p2
      by_cases he : emptyR S.rules[n] = true
      · have hs1 : S.rules[n].inp.toList = [] := by
          have h0 : S.rules[n].inp.size = 0 := of_decide_eq_true he
          rw [ByteArray.toList_eq]
          exact List.eq_nil_of_length_eq_zero (by rw [Array.length_toList]; exact h0)
        have hs2 : (!S.rules[n].inp.toList.isEmpty) = false := by rw [hs1]; rfl
        have HE := Lib.hid he
        clear he
        go_wp2
        go_quiet (fail)
        go_wp2
        go_roundw
        case rel => exact ⟨k + 1, by omega, by go_num, by rw [HT.out]; exact HE.out, hal.trans (below_drewN _ _)⟩
        case measure => first | (simp [intOf]; done) | (simp [intOf]; omega)
      · have he' : emptyR S.rules[n] = false := by simpa using he
        have hs1 : S.rules[n].inp.toList ≠ [] := by
          intro h0
          apply he
          apply decide_eq_true
          have := congrArg List.length h0
          rw [ByteArray.toList_eq, Array.length_toList] at this; exact this
        have hs2 : (!S.rules[n].inp.toList.isEmpty) = true := by
          rcases hq : S.rules[n].inp.toList with _ | ⟨x, l⟩
          · exact absurd hq hs1
          · rfl
        have HN : Hid ((C.all fun i => emptyR (S.rules.getD i.toNat ⟨0, 0, ⟨#[]⟩, ⟨#[]⟩, 0⟩)) = false) := by
          show _ = _
          rw [List.all_eq_false]
          exact ⟨C[k], List.getElem_mem hlt, by rw [hgr.out, he']; simp⟩
        clear he he'
        go_wp2
        go_quiet (fail)
        go_wp2
        go_ret
        exact ⟨ret_bool HN.out.symm, hB.trans (below_drewN _ _)⟩
    · obtain rfl : k = C.length := by omega
      have HN : Hid ((C.all fun i => emptyR (S.rules.getD i.toNat ⟨0, 0, ⟨#[]⟩, ⟨#[]⟩, 0⟩)) = true) := by
        have := HF.out
        rw [List.take_length] at this; exact this
      go_wp2
      go_ret
      exact ⟨ret_bool HN.out.symm, hB⟩

theorem stays_mask (B n L : Nat) : Stays (fun v W => MaskAt W B v n L) := fun v w w' h hx => by
  obtain ⟨g, hv, hg, hr⟩ := h
  exact ⟨g, hv, hg, (Below.block hx g (Array.getElem?_eq_some_iff.1 hr).1).trans hr⟩
theorem stays_bit (k : Nat) (c : Value) : Stays (fun v W => ∃ g, v = .pointer (some ⟨g, k, none⟩) ∧ W.cell? ⟨g, k, none⟩ = some c) := fun v w w' h hx => by
  obtain ⟨g, hv, hr⟩ := h
  exact ⟨g, hv, (Below.cell (p := ⟨g, k, none⟩) hx (World.block_lt_of_cell? w _ hr)).trans hr⟩
set_option maxHeartbeats 1600000 in
theorem rdead_any (S : Sch) (a : Option Addr) (cap : Nat) (i : Nat) (w : World) (hR : RulS w a S.rules) (hS : Fit S) (hi : i < S.rules.length) :
    Calls Try.prog 24 #[.agg #[.int .i64 S.modes, .int .u8 S.acc, .slice a S.rules.length cap], .int .i64 (i : Int)] w fun e w' => e = .returned (.bool (deadB (reachS S) (liveS S) S.rules[i])) ∧ Below w.heap.size w w' := by
  have HR := Lib.hid hR; have HS := Lib.hid hS
  obtain ⟨m0, m1, h0, h1, hlen, hat⟩ := hS
  obtain ⟨f0, f1, t0, t1⟩ := hat i hi
  clear hat
  obtain ⟨mm, hmm⟩ := Int.eq_ofNat_of_zero_le (show 0 ≤ S.modes by omega)
  have HM : Hid (S.modes.toNat = mm) := by show _ = _; omega
  have f2 : S.rules[i].frm < (mm : Int) := by omega
  have t2 : S.rules[i].dst < (mm : Int) := by omega
  clear hmm
  obtain ⟨b, o, ha, hb, q0, q1, q2, q3, q4⟩ := hR.at hi
  have hidx := idx_rules a b o S.rules.length cap i ha hi
  have HA := Lib.hid ha; clear ha hR q2 q3 q4
  obtain ⟨o1, ho1⟩ : ∃ o, (reachS S).testBit S.rules[i].frm.toNat = o := ⟨_, rfl⟩
  obtain ⟨o2, ho2⟩ : ∃ o, (liveS S).testBit S.rules[i].dst.toNat = o := ⟨_, rfl⟩
  have HE : Hid (deadB (reachS S) (liveS S) S.rules[i] = (!o1 || !o2)) := by show _ = _; rw [deadB, ho1, ho2]
  have HO1 := Lib.hid ho1; have HO2 := Lib.hid ho2; clear ho1 ho2
  have hd0 : (0 : Int) ≤ (i : Int) := by omega
  have hiI : (i : Int) < (S.rules.length : Int) := by omega
  have hsl : Hid (RulS (w.alloc (.cells #[.int .i64 S.modes, .int .u8 S.acc, .slice a S.rules.length cap] 33)) a S.rules) := HR.out.later ((Below.refl _ _).alloc (Nat.le_refl _) _) (Nat.le_refl _)
  cases o1 with
  | false =>
    go_enter Try.func24, Try.ntmps24
    go_wp2
    refine wp_region_rv (by kernel_rfl) (Vs [fun v _ => v = .agg #[.int .i64 S.modes, .int .u8 S.acc, .slice a S.rules.length cap], fun v W => MaskAt W w.heap.size v mm (reachS S), fun v _ => v = .pointer (some ⟨w.heap.size, 2, none⟩), fun v _ => v = .slice a S.rules.length cap, fun v _ => v = .int .i64 (i : Int), fun v _ => v = .pointer (some ⟨b, o + i * 5, none⟩), fun v _ => v = .pointer (some ⟨b, o + i * 5, none⟩), fun v _ => v = .int .i64 S.rules[i].frm, fun v W => ∃ g, v = .pointer (some ⟨g, S.rules[i].frm.toNat, none⟩) ∧ W.cell? ⟨g, S.rules[i].frm.toNat, none⟩ = some (.bool false), fun v _ => v = .bool false, fun v _ => v = .bool true, fun v _ => v = .bool true,
      fun v _ => v = undef, fun v _ => v = undef, fun v _ => v = undef, fun v _ => v = undef, fun v _ => v = undef, fun v _ => v = undef, fun v _ => v = undef, fun v _ => v = undef, fun v _ => v = undef, fun v _ => v = undef, fun v _ => v = undef, fun v _ => v = .bool true, fun v _ => v = .bool true]) (fun W => Below (w.heap.size + 1) (w.alloc (.cells #[.int .i64 S.modes, .int .u8 S.acc, .slice a S.rules.length cap] 33)) W) 29 (by kernel_rfl) rfl ?hVx ?hSx ?hS (opsOk_all ?hop) ?hfin
    case hop =>
      refine ⟨?_, ?_, ?_, ?_, ?_, ?_, ?_, ?_, ?_, ?_, ?_, ?_, ?_, ?_, ?_, ?_, ?_, ?_, ?_, ?_, ?_, ?_, ?_, ?_, ?_, trivial⟩
      all_goals
        intro A W hsz hS hdep hbase
        obtain ⟨hz, hc, hf⟩ := bcellB hS rfl
        simp only [World.size_alloc] at hz
        have h1 : A.tmps.getD 1 undef = .int .i64 (i : Int) := hbase 1 (by kernel_rfl)
        have h2 : A.tmps.getD 2 undef = .pointer (some ⟨w.heap.size, 0, none⟩) := hbase 2 (by kernel_rfl)
        clear hbase
        simp [slotOf, Region.binds, Vs] at hdep
        first
          | exact opOk_skip (j := 11) (d := 16) (b := true) rfl (by kernel_rfl) (by first | exact hdep | exact hdep.2 | exact hdep.2.2 | exact hdep.2.2.2) rfl rfl
          | (refine opOk_run rfl (.inl ⟨_, W, ?_, rfl, Ext.refl _⟩); clear hsz; simp [go_sem, Act.eval, *]; done)
          | skip
      · refine opOk_run rfl (.inr ⟨28, #[.agg #[.int .i64 S.modes, .int .u8 S.acc, .slice a S.rules.length cap], .int .i64 ((0 : Nat) : Int)], W, by (clear hsz; simp [go_sem, Act.eval, *]), ?_⟩)
        refine (rreached_any S a cap 0 _ (hsl.out.later hS (by simp)) HS.out (by have := HM.out; omega)).mono ?_
        rintro e w1 ⟨v, rfl, ⟨g2, hv, hg2, hmask⟩, hb⟩
        exact ⟨v, rfl, ⟨g2, by rw [HM.out] at hv; exact hv, by omega, by rw [HM.out] at hmask; exact hmask⟩, hb⟩
      · obtain ⟨⟨g, hv, hg, hrow⟩, hfrm⟩ := hdep
        refine opOk_run rfl (.inl ⟨.pointer (some ⟨g, S.rules[i].frm.toNat, none⟩), W, ?_, ⟨g, rfl, by rw [mask_cell hrow (by omega), HO1.out]⟩, Ext.refl _⟩)
        clear hsz; simp [go_sem, Act.eval, *]
      · obtain ⟨g, hv, hq⟩ := hdep
        refine opOk_run rfl (.inl ⟨.bool false, W, ?_, rfl, Ext.refl _⟩)
        clear hsz; simp [go_sem, Act.eval, *]
    case hVx => exact vs_stays (by simp only [List.mem_cons, List.not_mem_nil, or_false, forall_eq_or_imp, forall_eq]; exact ⟨stays_const _, stays_mask _ _ _, stays_const _, stays_const _, stays_const _, stays_const _, stays_const _, stays_const _, stays_bit _ _, stays_const _, stays_const _, stays_const _, stays_const _, stays_const _, stays_const _, stays_const _, stays_const _, stays_const _, stays_const _, stays_const _, stays_const _, stays_const _, stays_const _, stays_const _, stays_const _⟩)
    case hSx => exact fun W W' h hx => h.trans (Below.mono hx (by have := h.size; simp only [World.size_alloc] at this; omega))
    case hS => go_grown
    case hfin =>
      intro A W hsz hdf hS hv hbase
      have e4 : A.tmps.getD 4 undef = .bool true := hv 24 (by decide)
      have hA := act_form (n := 29) hsz hdf
      generalize hx : (fun i => A.tmps.getD i undef) = x at hA
      have e4' : x 4 = .bool true := by rw [← hx]; exact e4
      rw [hA]
      clear hA hx e4 hv hbase hsz hdf
      simp only [List.range, List.range.loop, List.map]
      rw [e4']
      have hB : Below w.heap.size w W := ((Below.refl _ _).alloc (Nat.le_refl _) _).trans (hS.mono (by omega))
      go_wp2
      go_ret
      exact ⟨ret_bool HE.out.symm, hB⟩
  | true =>
    go_enter Try.func24, Try.ntmps24
    go_wp2
    refine wp_region_rv (by kernel_rfl) (Vs [fun v _ => v = .agg #[.int .i64 S.modes, .int .u8 S.acc, .slice a S.rules.length cap], fun v W => MaskAt W w.heap.size v mm (reachS S), fun v _ => v = .pointer (some ⟨w.heap.size, 2, none⟩), fun v _ => v = .slice a S.rules.length cap, fun v _ => v = .int .i64 (i : Int), fun v _ => v = .pointer (some ⟨b, o + i * 5, none⟩), fun v _ => v = .pointer (some ⟨b, o + i * 5, none⟩), fun v _ => v = .int .i64 S.rules[i].frm, fun v W => ∃ g, v = .pointer (some ⟨g, S.rules[i].frm.toNat, none⟩) ∧ W.cell? ⟨g, S.rules[i].frm.toNat, none⟩ = some (.bool true), fun v _ => v = .bool true, fun v _ => v = .bool false, fun v _ => v = .bool false,
      fun v _ => v = .agg #[.int .i64 S.modes, .int .u8 S.acc, .slice a S.rules.length cap], fun v W => MaskAt W w.heap.size v mm (liveS S), fun v _ => v = .pointer (some ⟨w.heap.size, 2, none⟩), fun v _ => v = .slice a S.rules.length cap, fun v _ => v = .int .i64 (i : Int), fun v _ => v = .pointer (some ⟨b, o + i * 5, none⟩), fun v _ => v = .pointer (some ⟨b, o + i * 5 + 1, none⟩), fun v _ => v = .int .i64 S.rules[i].dst, fun v W => ∃ g, v = .pointer (some ⟨g, S.rules[i].dst.toNat, none⟩) ∧ W.cell? ⟨g, S.rules[i].dst.toNat, none⟩ = some (.bool o2), fun v _ => v = .bool o2, fun v _ => v = .bool (!o2), fun v _ => v = .bool (!o2), fun v _ => v = .bool (!o2)]) (fun W => Below (w.heap.size + 1) (w.alloc (.cells #[.int .i64 S.modes, .int .u8 S.acc, .slice a S.rules.length cap] 33)) W) 29 (by kernel_rfl) rfl ?hVx ?hSx ?hS (opsOk_all ?hop) ?hfin
    case hop =>
      refine ⟨?_, ?_, ?_, ?_, ?_, ?_, ?_, ?_, ?_, ?_, ?_, ?_, ?_, ?_, ?_, ?_, ?_, ?_, ?_, ?_, ?_, ?_, ?_, ?_, ?_, trivial⟩
      all_goals
        intro A W hsz hS hdep hbase
        obtain ⟨hz, hc, hf⟩ := bcellB hS rfl
        simp only [World.size_alloc] at hz
        have h1 : A.tmps.getD 1 undef = .int .i64 (i : Int) := hbase 1 (by kernel_rfl)
        have h2 : A.tmps.getD 2 undef = .pointer (some ⟨w.heap.size, 0, none⟩) := hbase 2 (by kernel_rfl)
        clear hbase
        simp [slotOf, Region.binds, Vs] at hdep
        first
          | (refine opOk_run rfl (.inl ⟨_, W, ?_, rfl, Ext.refl _⟩); clear hsz; simp [go_sem, Act.eval, *]; done)
          | (refine opOk_runG (j := 11) (d := 16) (b := false) rfl (by kernel_rfl) (by first | exact hdep | exact hdep.2 | exact hdep.2.2 | exact hdep.2.2.2) rfl (.inl ⟨_, W, ?_, rfl, Ext.refl _⟩); clear hsz; simp [go_sem, Act.eval, *]; done)
          | skip
      · refine opOk_run rfl (.inr ⟨28, #[.agg #[.int .i64 S.modes, .int .u8 S.acc, .slice a S.rules.length cap], .int .i64 ((0 : Nat) : Int)], W, by (clear hsz; simp [go_sem, Act.eval, *]), ?_⟩)
        refine (rreached_any S a cap 0 _ (hsl.out.later hS (by simp)) HS.out (by have := HM.out; omega)).mono ?_
        rintro e w1 ⟨v, rfl, ⟨g2, hv, hg2, hmask⟩, hb⟩
        exact ⟨v, rfl, ⟨g2, by rw [HM.out] at hv; exact hv, by omega, by rw [HM.out] at hmask; exact hmask⟩, hb⟩
      · obtain ⟨⟨g, hv, hg, hrow⟩, hfrm⟩ := hdep
        refine opOk_run rfl (.inl ⟨.pointer (some ⟨g, S.rules[i].frm.toNat, none⟩), W, ?_, ⟨g, rfl, by rw [mask_cell hrow (by omega), HO1.out]⟩, Ext.refl _⟩)
        clear hsz; simp [go_sem, Act.eval, *]
      · obtain ⟨g, hv, hq⟩ := hdep
        refine opOk_run rfl (.inl ⟨.bool true, W, ?_, rfl, Ext.refl _⟩)
        clear hsz; simp [go_sem, Act.eval, *]
      · refine opOk_runG (j := 11) (d := 16) (b := false) rfl (by kernel_rfl) hdep.2 rfl (.inr ⟨25, #[.agg #[.int .i64 S.modes, .int .u8 S.acc, .slice a S.rules.length cap]], W, by (clear hsz; simp [go_sem, Act.eval, *]), ?_⟩)
        refine (rlive_any S a cap _ (hsl.out.later hS (by simp)) HS.out).mono ?_
        rintro e w1 ⟨v, rfl, ⟨g2, hv, hg2, hmask⟩, hb⟩
        exact ⟨v, rfl, ⟨g2, by rw [HM.out] at hv; exact hv, by omega, by rw [HM.out] at hmask; exact hmask⟩, hb⟩
      · obtain ⟨⟨g, hv, hg, hrow⟩, hfrm, hgd⟩ := hdep
        refine opOk_runG (j := 11) (d := 16) (b := false) rfl (by kernel_rfl) hgd rfl (.inl ⟨.pointer (some ⟨g, S.rules[i].dst.toNat, none⟩), W, ?_, ⟨g, rfl, by rw [mask_cell hrow (by omega), HO2.out]⟩, Ext.refl _⟩)
        clear hsz; simp [go_sem, Act.eval, *]
      · obtain ⟨⟨g, hv, hq⟩, hgd⟩ := hdep
        refine opOk_runG (j := 11) (d := 16) (b := false) rfl (by kernel_rfl) hgd rfl (.inl ⟨.bool o2, W, ?_, rfl, Ext.refl _⟩)
        clear hsz; simp [go_sem, Act.eval, *]
    case hVx => exact vs_stays (by simp only [List.mem_cons, List.not_mem_nil, or_false, forall_eq_or_imp, forall_eq]; exact ⟨stays_const _, stays_mask _ _ _, stays_const _, stays_const _, stays_const _, stays_const _, stays_const _, stays_const _, stays_bit _ _, stays_const _, stays_const _, stays_const _, stays_const _, stays_mask _ _ _, stays_const _, stays_const _, stays_const _, stays_const _, stays_const _, stays_const _, stays_bit _ _, stays_const _, stays_const _, stays_const _, stays_const _⟩)
    case hSx => exact fun W W' h hx => h.trans (Below.mono hx (by have := h.size; simp only [World.size_alloc] at this; omega))
    case hS => go_grown
    case hfin =>
      intro A W hsz hdf hS hv hbase
      have e4 : A.tmps.getD 4 undef = .bool (!o2) := hv 24 (by decide)
      have hA := act_form (n := 29) hsz hdf
      generalize hx : (fun i => A.tmps.getD i undef) = x at hA
      have e4' : x 4 = .bool (!o2) := by rw [← hx]; exact e4
      rw [hA]
      clear hA hx e4 hv hbase hsz hdf
      simp only [List.range, List.range.loop, List.map]
      rw [e4']
      have hB : Below w.heap.size w W := ((Below.refl _ _).alloc (Nat.le_refl _) _).trans (hS.mono (by omega))
      go_wp2
      go_ret
      exact ⟨ret_bool HE.out.symm, hB⟩
end Go.Proofs.Ytogjcfcfgnbmkaa
