/- flaw.first: the breadth-first search with a channel as its queue. -/
import Derived.Test.YtogjcfcfgnbmkaaFirstP
namespace Go.Proofs.Ytogjcfcfgnbmkaa
open Go.RowKit Go.Conc
set_option linter.unusedVariables false
set_option linter.unusedSimpArgs false

set_option maxHeartbeats 3200000 in
set_option maxRecDepth 100000 in
theorem first_any (fid : Nat) (use : Rl → Bool) (huse : ∀ (r : Rl) (w : World), Calls Try.prog fid #[.agg #[.int .i64 r.frm, .int .i64 r.dst, .string r.inp, .string r.out, .int .i64 r.cost]] w fun e w' => e = .returned (.bool (use r)) ∧ Below w.heap.size w w')
    (hcf : ∀ (args : Array Value) (w : World), (callFunc fid args).run Try.prog w = .ok (.enter fid args) w)
    (S : Sch) (a : Option Addr) (cap start goal : Nat) (w : World) (hR : RulS w a S.rules) (hS : Fit S) (hs : start < 8) (hgoal : goal < 256) :
    Calls Try.prog 55 #[.agg #[.int .i64 S.modes, .int .u8 S.acc, .slice a S.rules.length cap], .int .i64 (start : Int), .int .u8 (goal : Int), .func (.func fid) #[] #[]] w fun e w' => ∃ v, e = .returned v ∧ ChN w' w.heap.size v (bfs use goal S.rules start) ∧ Below w.heap.size w w' := by
  have HU := Lib.hid huse; have HR := Lib.hid hR; have HS := Lib.hid hS; clear huse hR hS
  obtain ⟨i0, hi, hz0, hz1, hz2⟩ := info_parts info_int
  have hmc : ∀ W : World, (Instr.makeChan 95 (.int .i64 8)).run Try.prog W = .ok (.chan (some W.heap.size)) (W.alloc (.chan 8 #[] false 0 0 false)) := fun W => by
    have := run_makeChan (P := Try.prog) (w := W) Try.underlying95 hi .i64 8 (by omega) (by rw [hz2]; omega)
    simpa using this
  have hms : ∀ W : World, (Instr.makeSlice 96 (.int .i64 8) (.int .i64 8)).run Try.prog W = .ok (.slice (some ⟨W.heap.size, 0, none⟩) 8 8) (W.alloc (.cells (Array.replicate 8 (.slice none 0 0)) 38)) := fun W => by
    have := run_make_row' (P := Try.prog) 96 38 (.slice none 0 0) 24 Try.underlying96 info_ints rfl .i64 .i64 8 (by omega) (by omega) W
    rw [show madeCells #[Value.slice none 0 0] 8 = Array.replicate 8 (.slice none 0 0) from Array.ext (by simp [madeCells]) (fun i h1 h2 => by simp [madeCells, Nat.mod_one])] at this
    exact this
  obtain ⟨P, hP⟩ : ∃ P : Nat, P = 2 ^ start := ⟨_, rfl⟩
  have h1 : Hid (∀ W : World, Calls Try.prog 56 #[.int .i64 (start : Int)] W fun e w' => e = .returned (.int .u8 (P : Int)) ∧ W = w') := fun W => by
    have := one_any (start : Int) W (by omega) (by omega)
    rw [hP]; exact this
  have HP := Lib.hid hP; clear hP
  refine calls_of_wpK Try.func55 rfl ?_
  simp only [Try.ntmps55, List.size_toArray, List.length_cons, List.length_nil, Nat.reduceAdd, Nat.reduceSub, Array.replicate_succ,
     Array.replicate_zero, List.push_toArray, List.append_toArray, List.nil_append, List.cons_append]
  refine wpK_first (fun K hK => ?_)
  go_wp2
  refine wpK_first (fun K hK => ?_)
  go_wp2
  clear hmc
  refine wpK_first (fun K hK => ?_)
  go_wp2
  clear hms
  refine wpK_first (fun K hK => ?_)
  go_wp2_with (go_at_call 56; refine (h1.out _).mono ?_; rintro e w' ⟨rfl, rfl⟩)
  refine wpK_seq (wpK_region ?_)
  show wpS _ _ [0, 1, 2] _ _ _
  refine wpS_value rfl rfl rfl (wpS_value rfl rfl rfl ?_)
  refine wpS_send (c := w.heap.size + 1) (cap := 8) (buf := #[]) (s := 0) (r := 0) (tm := false) (v := .int .i64 (start : Int)) (z' := .tuple #[]) rfl rfl rfl (chan_start _ _ _) (by decide) (wpS_nil ?_)
  refine wpK_seq (wpK_block ?_)
  refine wpK_loopG (InvO w fid use S a cap start goal) 8 ?_ ?_
  · refine invO_of ⟨[start], fun _ => [], P⟩ rfl rfl rfl ?_ ?_ ?_ ?_
    · show 8 = 1 + unseen P; rw [HP.out, unseen_one hs]
    · rw [HP.out]; exact bst_start w _ start hs
    · rw [HP.out]; rfl
    · exact below_start w _ _ _ _ _ _
  · rintro n A wr ⟨s, x, hn, rfl, hst, hout, hal⟩
    obtain ⟨sn, rc, hch⟩ := hst.chan
    have hlen := run_len_chan (P := Try.prog) 95 3 Try.underlying95 hch
    have hqs : ((s.q.map fun (t : Nat) => Value.int .i64 (t : Int)).toArray).size = s.q.length := by simp
    rw [hqs] at hlen
    have HCH := Lib.hid hch; have HST := Lib.hid hst; have HO := Lib.hid hout; have HN := Lib.hid hn; have HAL := Lib.hid hal
    have hB : Below w.heap.size w wr := ((Below.refl _ _).alloc (Nat.le_refl _) _).trans (hal.mono (by omega))
    have HB := Lib.hid hB
    clear hch hst hout hn hal hB hqs
    refine wpK_seq ?_
    refine wpK_first (fun K hK => ?_)
    rcases hq : s.q with _ | ⟨m, q⟩
    · rw [hq] at hlen
      go_wp2
      refine wpK_condF rfl (wpK_exit ?_)
      simp only [Exit.then, Exit.inBlock, if_true]
      refine wpK_of ?_
      have HE : Hid (bfs use goal S.rules start = []) := HO.out.symm.trans (outer_nil hq)
      go_wp2
      go_ret
      exact ⟨_, rfl, ⟨by rw [HE.out]; exact Ch.nil _ _, fun _ => rfl⟩, HB.out⟩
    · rw [hq] at hlen
      have hq1 : (((m :: q).length : Nat) : Int) > 0 := by simp
      go_wp2
      refine wpK_condT rfl (wpK_skip ?_)
      refine wpK_block ?_
      refine wpK_seq (wpK_region ?_)
      show wpS _ _ [0, 1, 2] _ _ _
      refine wpS_value rfl rfl rfl ?_
      have hbf : ((s.q.map fun (t : Nat) => Value.int .i64 (t : Int)).toArray).getD 0 undef = .int .i64 (m : Int) := by rw [hq]; rfl
      have hbf2 : ((s.q.map fun (t : Nat) => Value.int .i64 (t : Int)).toArray).extract 1 ((s.q.map fun (t : Nat) => Value.int .i64 (t : Int)).toArray).size = (q.map fun (t : Nat) => Value.int .i64 (t : Int)).toArray := by rw [hq]; exact pop_vals m q
      refine wpS_recv (c := w.heap.size + 1) (z := .int .i64 0) rfl rfl (by simp [go_sem, rcase]) HCH.out (by rw [hq]; simp) ?_
      rw [hbf, hbf2]
      refine wpS_value rfl rfl rfl (wpS_nil ?_)
      simp only [Exit.then]
      refine wpK_m (by rfl) (by rfl) (by rfl) (fun y => ?_)
      have hlt : w.heap.size + 1 < wr.heap.size := (Array.getElem?_eq_some_iff.1 HCH.out).1
      have hst1 := bst_pop (sn := sn) (rc := rc) HST.out hq hlt ⟨_, _, _, HCH.out⟩
      have hal1 := below_setChan HAL.out (c := w.heap.size + 1) (Nat.le_refl _) 8 ((q.map fun (t : Nat) => Value.int .i64 (t : Int)).toArray) false sn (rc + 1) false
      generalize wr.setChan (w.heap.size + 1) 8 ((q.map fun (t : Nat) => Value.int .i64 (t : Int)).toArray) false sn (rc + 1) false = wo at hst1 hal1 ⊢
      have hm8 : m < 8 := HST.out.modes m (by rw [hq]; simp)
      obtain ⟨N, hNN⟩ : ∃ N, N = q.length + unseen s.seen := ⟨_, rfl⟩
      have HNN := Lib.hid hNN
      have HN1 : Hid (n = N + 1) := by have := HN.out; rw [hq] at this; show n = _; simp only [List.length_cons] at this; omega
      have HC : Hid ((match inner use goal m S.rules 0 { s with q := q } with | .inl c => c | .inr s' => outer use goal S.rules N s') = bfs use goal S.rules start) := by
        have := HO.out
        rw [HN1.out, outer, hq] at this
        exact this
      have HQ := Lib.hid hq
      clear hbf hbf2 hlen hq1 hq HCH HST HO HN HAL HB hlt hNN
      obtain ⟨hz, hc, hf⟩ := bcellB hal1 rfl
      have HST1 := Lib.hid hst1; have HAL1 := Lib.hid hal1; clear hst1 hal1
      refine wpK_first (fun K hK => ?_)
      go_wp2
      clear hz hc hf
      refine wpK_block ?_
      refine wpK_loopG (InvI w fid use S a cap start goal m N) S.rules.length ?_ ?_
      · exact invI_of 0 { s with q := q } rfl rfl rfl rfl (Nat.zero_le _) (by simp) HST1.out HC.out HNN.out HAL1.out
      · clear HC HNN HST1 HAL1 HQ
        clear s x y wo wr q
        rintro n' A wr ⟨k, s, x, hk, hn', rfl, hst, hcont, hN, hal⟩
        have hB : Below w.heap.size w wr := ((Below.refl _ _).alloc (Nat.le_refl _) _).trans (hal.mono (by omega))
        have HST := Lib.hid hst; have HC := Lib.hid hcont; have HNN := Lib.hid hN; have HAL := Lib.hid hal; have HB := Lib.hid hB
        clear hst hcont hN hal hB
        refine wpK_first (fun K hK => ?_)
        by_cases hlt : k < S.rules.length
        · go_wp2
          refine wpK_seq (wpK_condT rfl (wpK_skip ?_))
          refine wpK_seq (wpK_block ?_)
          obtain ⟨hz, hc, hf⟩ := bcellB HAL.out rfl
          obtain ⟨b, o, ha, hb, q0, q1, q2, q3, q4⟩ := (HR.out.later HB.out (Nat.le_refl _)).at hlt
          have hidx := idx_rules a b o S.rules.length cap k ha hlt
          have HA := Lib.hid ha; clear ha
          refine wpK_first (fun K hK => ?_)
          go_wp2
          have HD := Lib.hid (inner_at (use := use) (goal := goal) (m := m) s hlt)
          obtain ⟨f0, f1, t0, t1⟩ := HS.out.at0 k hlt
          have m1 := HS.out.m1
          have hw : Value.int .i64 (wrap64 ((k : Int) + 1)) = .int .i64 ((k + 1 : Nat) : Int) := by
            have h64 := HS.out.len
            have h65 : wrap64 ((k : Int) + 1) = ((k + 1 : Nat) : Int) := by unfold wrap64; omega
            rw [h65]
          by_cases hfm : S.rules[k].frm = (m : Int)
          · have HFM := Lib.hid hfm
            have hbne : (S.rules[k].frm != (m : Int)) = false := by simp [hfm]
            have hdec : Hid (decide (S.rules[k].frm.toNat = m) = true) := by show _ = _; simp; omega
            clear hfm
            by_cases hu : use S.rules[k] = true
            · have HUR := Lib.hid hu
              have hshort := HST.out.short m hm8
              obtain ⟨cs, hcb, hcs, hcv⟩ := HST.out.chains
              obtain ⟨v, hv, hch⟩ := hcv m hm8
              have hcell : wr.cell? ⟨w.heap.size + 2, m, none⟩ = some v := by rw [cell_of_row wr _ m cs _ (0, 0) hcb]; exact hv
              have hlt2 : w.heap.size + 2 < wr.heap.size := (Array.getElem?_eq_some_iff.1 hcb).1
              have hmi : (m : Int) < 8 := by omega
              have hm0 : (0 : Int) ≤ m := by omega
              have HCHv := Lib.hid hch; have HCV := Lib.hid hcv; have HCB := Lib.hid hcb
              clear hu hch hcv hcb hv hcs
              refine wpK_seq ?_
              refine wpK_first (fun K hK => ?_)
              go_wp2_with (refine (HU.out S.rules[k] _).mono ?_; rintro e w1 ⟨he, hb⟩; rw [HUR.out] at he; subst he; have hRA : Below (wr.heap.size + 1) (wr.alloc (.cells #[.int .i64 S.rules[k].frm, .int .i64 S.rules[k].dst, .string S.rules[k].inp, .string S.rules[k].out, .int .i64 S.rules[k].cost] 29)) w1 := hb.mono (by simp); obtain ⟨hzA, hcA, hfA⟩ := bcell hb (by first | (simp only [World.size_alloc, World.size_setCell, World.size_drew]; rfl) | rfl); have hBA := below_call (B := wr.heap.size) (w := wr) (by go_grown) hb (Nat.le_refl _); clear hb)
              refine wpK_condF rfl (wpK_skip ?_)
              simp only [Exit.then]
              refine wpK_first (fun K hK => ?_)
              go_wp2_with (first | (go_at_call 62; refine (clone_any v (s.ch m) w.heap.size _ (HCHv.out.below (by go_grown) (fun g hg => HCHv.out.lt g hg)) (by omega)).mono ?_; rintro e w2 ⟨v', rfl, hch2, hb⟩; have hch3 : Ch w2 (wr.heap.size + 1) v' (s.ch m) := hch2.mono hzA; have hRB := hRA.trans (hb.mono hzA); obtain ⟨hzB, hcB, hfB⟩ := bcell hb (by first | (simp only [World.size_alloc, World.size_setCell, World.size_drew]; rfl) | rfl); have hBB := below_call (B := wr.heap.size) (w := wr) (by go_grown) hb (Nat.le_refl _); clear hb hch2) | (at_builtin; refine wpList_append_own _ rfl _ _ 38 rfl (wr.heap.size + 1) 3 i0 (.int .i64 0) 1 8 Try.underlying38 hi hz0 hz1 hz2 rfl (by decide) v' (s.ch m).length (nats (s.ch m)) rfl (World.ownsRow.alloc hch3 _) ⟨w2.heap.size, 0, none⟩ 1 1 [.int .i64 (k : Int)] rfl rfl (cell_one_new _ _ _) (by simp [Value.oneCell']) (by unfold maxLen; omega) (by omega) (by have := hRB.size; simp only [World.size_alloc] at this ⊢; omega) ?_; intro v3 w3 hown3 hgrow _; have hRC : Below (wr.heap.size + 1) (wr.alloc (.cells #[.int .i64 S.rules[k].frm, .int .i64 S.rules[k].dst, .string S.rules[k].inp, .string S.rules[k].out, .int .i64 S.rules[k].cost] 29)) w3 := (hRB.alloc (by have := hRB.size; simp only [World.size_alloc] at this; omega) _).grown hgrow (by have := hRB.size; simp only [World.size_alloc] at this ⊢; omega) (fun g hg => hch3.ge g hg); have hCh := ch_snoc hown3; clear hown3 hgrow) | fail)
              have hBC : Below wr.heap.size wr w3 := ((Below.refl _ wr).alloc (Nat.le_refl _) _).trans (hRC.mono (by omega))
              have hc3 : w3.cell? ⟨wr.heap.size, 1, none⟩ = some (.int .i64 S.rules[k].dst) := (hRC.cell (p := ⟨wr.heap.size, 1, none⟩) (by show wr.heap.size < _; omega)).trans (by rw [cell_of_row _ _ 1 _ _ (0, 0) (heap_alloc_new wr _)]; rfl)
              have HCh := Lib.hid hCh; clear hCh
              clear hcA hfA hcB hfB hBA hBB hRA hRB hch3 hc hf hzB hzA hz
              have hd8 : S.rules[k].dst < 8 := by omega
              refine wpK_seq ?_
              refine wpK_first (fun K hK => ?_)
              by_cases hg : goal.testBit S.rules[k].dst.toNat = true
              · have HG := Lib.hid hg
                have HE : Hid (s.ch m ++ [k] = bfs use goal S.rules start) := by
                  have := HC.out
                  rw [HD.out, hdec.out, HUR.out, Bool.and_true, if_pos rfl, if_pos hg] at this
                  exact this
                clear hg
                go_wp2_with (go_at_call 44; refine (has_any goal _ _ hgoal t0 hd8).mono ?_; rintro e w4 ⟨he, rfl⟩; rw [HG.out] at he; subst he)
                refine wpK_condT rfl ?_
                refine wpK_of ?_
                go_wp2
                go_ret
                exact ⟨_, rfl, ⟨by rw [← HE.out]; exact HCh.out.mono (by have := HB.out.size; omega), fun h => by rw [← HE.out] at h; simp at h⟩, HB.out.trans (hBC.mono HB.out.size)⟩
              · have HG : Hid (goal.testBit S.rules[k].dst.toNat = false) := by show _ = _; simpa using hg
                clear hg
                go_wp2_with (go_at_call 44; refine (has_any goal _ _ hgoal t0 hd8).mono ?_; rintro e w4 ⟨he, rfl⟩; rw [HG.out] at he; subst he)
                refine wpK_condF rfl (wpK_skip ?_)
                simp only [Exit.then]
                refine wpK_first (fun K hK => ?_)
                have hseen := HST.out.seen
                by_cases hsn : s.seen.testBit S.rules[k].dst.toNat = true
                · have HSN := Lib.hid hsn
                  have HC2 : Hid ((match inner use goal m (S.rules.drop (k + 1)) (k + 1) s with | .inl c => c | .inr s'' => outer use goal S.rules N s'') = bfs use goal S.rules start) := by
                    have := HC.out
                    rw [HD.out, hdec.out, HUR.out, Bool.and_true, if_pos rfl, HG.out, if_neg (by simp), if_pos hsn] at this
                    exact this
                  clear hsn
                  go_wp2_with (go_at_call 44; refine (has_any s.seen _ _ hseen t0 hd8).mono ?_; rintro e w4 ⟨he, rfl⟩; rw [HSN.out] at he; subst he)
                  refine wpK_condF rfl (wpK_skip ?_)
                  simp only [Exit.then, Exit.inBlock]
                  refine wpK_of ?_
                  go_wp2
                  exact ⟨S.rules.length - (k + 1), by omega, invI_of (k + 1) s rfl rfl rfl (by show [_, _, Value.int .i64 (wrap64 ((k : Int) + 1))] = _; rw [hw]) (by omega) rfl (bst_below HST.out hBC) HC2.out HNN.out (below_call HAL.out hBC (by simp))⟩
                · have HSN : Hid (s.seen.testBit S.rules[k].dst.toNat = false) := by show _ = _; simpa using hsn
                  obtain ⟨d, hd⟩ := Int.eq_ofNat_of_zero_le t0
                  have HDD : Hid (S.rules[k].dst.toNat = d) := by show _ = _; omega
                  have hd8' : d < 8 := by omega
                  have HSN' : Hid (s.seen.testBit d = false) := by show _ = _; rw [← HDD.out]; exact HSN.out
                  have HDI := Lib.hid hd; clear hd
                  have HC2 : Hid ((match inner use goal m (S.rules.drop (k + 1)) (k + 1) ⟨s.q ++ [d], fun t => if t = d then s.ch m ++ [k] else s.ch t, s.seen ||| 2 ^ d⟩ with | .inl c => c | .inr s'' => outer use goal S.rules N s'') = bfs use goal S.rules start) := by
                    have := HC.out
                    rw [HD.out, hdec.out, HUR.out, Bool.and_true, if_pos rfl, HG.out, if_neg (by simp), HSN.out, if_neg (by simp)] at this
                    simp only [HDD.out] at this
                    exact this
                  clear hsn
                  go_wp2_with (go_at_call 44; refine (has_any s.seen _ _ hseen t0 hd8).mono ?_; rintro e w4 ⟨he, rfl⟩; rw [HSN.out] at he; subst he)
                  refine wpK_condT rfl ?_
                  have hone := one_any S.rules[k].dst
                  refine wpK_first (fun K hK => ?_)
                  obtain ⟨PP, hPP⟩ : ∃ PP : Nat, PP = 2 ^ S.rules[k].dst.toNat := ⟨_, rfl⟩
                  have hPP8 : PP < 256 := by rw [hPP]; exact pow_lt _ (by omega)
                  have hor : bits .or .u8 (s.seen : Int) (PP : Int) = ((s.seen ||| PP : Nat) : Int) := u8_or_nat _ _ hseen hPP8
                  have HPP := Lib.hid hPP; clear hPP
                  go_wp2_with (go_at_call 56; refine (hone _ t0 hd8).mono ?_; rintro e w4 ⟨he, rfl⟩; rw [← HPP.out] at he; subst he)
                  obtain ⟨a3, c3, hv3, -, -⟩ := HCh.out.sl
                  rw [show (s.ch m ++ [k]).length = (s.ch m).length + 1 by simp] at hv3
                  subst hv3
                  have hst3 := bst_below HST.out hBC
                  obtain ⟨sn3, rc3, hch3⟩ := hst3.chan
                  obtain ⟨cs3, hcb3, hcs3, hcv3⟩ := hst3.chains
                  obtain ⟨v0, hv0, -⟩ := hcv3 S.rules[k].dst.toNat (by omega)
                  have hcd : w3.cell? ⟨w.heap.size + 2, S.rules[k].dst.toNat, none⟩ = some v0 := by rw [cell_of_row w3 _ _ cs3 _ (0, 0) hcb3]; exact hv0
                  have hfz : w3.frozen? ⟨w.heap.size + 2, S.rules[k].dst.toNat, none⟩ = false := by simp [World.frozen?, hcb3]
                  have hne : w.heap.size + 2 ≠ wr.heap.size := by omega
                  have hc4 : (w3.setCell ⟨w.heap.size + 2, S.rules[k].dst.toNat, none⟩ (.slice a3 ((s.ch m).length + 1) c3)).cell? ⟨wr.heap.size, 1, none⟩ = some (.int .i64 S.rules[k].dst) := by
                    exact (World.cell?_setCell_other w3 ⟨w.heap.size + 2, S.rules[k].dst.toNat, none⟩ ⟨wr.heap.size, 1, none⟩ _ (by simp only [ne_eq, Addr.mk.injEq]; omega)).trans hc3
                  have hch4 : (w3.setCell ⟨w.heap.size + 2, S.rules[k].dst.toNat, none⟩ (.slice a3 ((s.ch m).length + 1) c3)).heap[w.heap.size + 1]? = some (.chan 8 ((s.q.map fun (t : Nat) => Value.int .i64 (t : Int)).toArray) false sn3 rc3 false) := by
                    rw [Below.heap_setCell _ _ _ _ (by show w.heap.size + 1 ≠ w.heap.size + 2; omega)]; exact hch3
                  have hroom : ((s.q.map fun (t : Nat) => Value.int .i64 (t : Int)).toArray).size < 8 := by
                    have h1 := hst3.room; have h2 := unseen_add hd8' HSN'.out; simp; omega
                  have HBST := Lib.hid (bst_push' (v3 := (.slice a3 ((s.ch m).length + 1) c3)) HDI.out hst3 hd8' hm8 HSN'.out (HCh.out.mono (by have := HB.out.size; omega)) hch3)
                  have HCH4 := Lib.hid hch4; have HROOM := Lib.hid hroom
                  clear hch3 hcb3 hcs3 hcv3 hv0 hst3 hch4 hroom
                  refine wpK_first (fun K hK => ?_)
                  go_wp2
                  refine wpK_region ?_
                  show wpS _ _ [0, 1, 2, 3] _ _ _
                  refine wpS_value rfl rfl rfl (wpS_value rfl rfl rfl (wpS_value rfl rfl (v := .int .i64 S.rules[k].dst) (w' := w3.setCell ⟨w.heap.size + 2, S.rules[k].dst.toNat, none⟩ (.slice a3 ((s.ch m).length + 1) c3)) (by simp [go_sem, hc3, hc4]) ?_))
                  refine wpS_send (c := w.heap.size + 1) (cap := 8) (v := .int .i64 S.rules[k].dst) (z' := .tuple #[]) rfl rfl rfl HCH4.out HROOM.out (wpS_nil ?_)
                  simp only [Exit.then, Exit.inBlock]
                  obtain rfl : PP = 2 ^ d := by rw [← HDD.out]; exact HPP.out
                  refine wpK_of ?_
                  go_wp2
                  exact ⟨S.rules.length - (k + 1), by omega, invI_of (k + 1) ⟨s.q ++ [d], fun t => if t = d then s.ch m ++ [k] else s.ch t, s.seen ||| 2 ^ d⟩ rfl rfl rfl (by show [_, _, Value.int .i64 (wrap64 ((k : Int) + 1))] = _; rw [hw]) (by omega) rfl (by have := HBST.out; rwa [List.push_toArray] at this) HC2.out (by have := unseen_add hd8' HSN'.out; have := HNN.out; simp only [List.length_append, List.length_cons, List.length_nil]; omega) (below_setChan ((below_call HAL.out hBC (by simp)).setCell (by show _ ≤ w.heap.size + 2; omega) _) (Nat.le_refl _) _ _ _ _ _ _)⟩
            · have HUR : Hid (use S.rules[k] = false) := by show _ = _; simpa using hu
              have HC2 : Hid ((match inner use goal m (S.rules.drop (k + 1)) (k + 1) s with | .inl c => c | .inr s'' => outer use goal S.rules N s'') = bfs use goal S.rules start) := by
                have := HC.out
                rw [HD.out, HUR.out, Bool.and_false, if_neg (by simp)] at this
                exact this
              refine wpK_seq ?_
              refine wpK_first (fun K hK => ?_)
              go_wp2_with (refine (HU.out S.rules[k] _).mono ?_; rintro e w1 ⟨he, hb⟩; rw [HUR.out] at he; subst he; obtain ⟨hz, hc, hf⟩ := bcell hb (by first | (simp only [World.size_alloc, World.size_setCell, World.size_drew]; rfl) | rfl); have hB := below_call (B := wr.heap.size) (w := wr) (by go_grown) hb (Nat.le_refl _); clear hb)
              refine wpK_condT (c := .tmp 44) ?_ (wpK_exit ?_)
              · rfl
              simp only [Exit.then, Exit.inBlock, if_true]
              refine wpK_of ?_
              go_wp2
              exact ⟨S.rules.length - (k + 1), by omega, invI_of (k + 1) s rfl rfl rfl (by show [_, _, Value.int .i64 (wrap64 ((k : Int) + 1))] = _; rw [hw]) (by omega) rfl (bst_below HST.out (by go_grown)) HC2.out HNN.out (below_call HAL.out (by go_grown) (by simp))⟩
          · have HC2 : Hid ((match inner use goal m (S.rules.drop (k + 1)) (k + 1) s with | .inl c => c | .inr s'' => outer use goal S.rules N s'') = bfs use goal S.rules start) := by
              have := HC.out
              have hd : decide (S.rules[k].frm.toNat = m) = false := by simp; omega
              rw [HD.out, hd, Bool.false_and, if_neg (by simp)] at this
              exact this
            refine wpK_seq ?_
            refine wpK_first (fun K hK => ?_)
            go_wp2
            refine wpK_condT rfl (wpK_exit ?_)
            simp only [Exit.then, Exit.inBlock, if_true]
            refine wpK_of ?_
            go_wp2
            exact ⟨S.rules.length - (k + 1), by omega, invI_of (k + 1) s rfl rfl rfl (by show [_, _, Value.int .i64 (wrap64 ((k : Int) + 1))] = _; rw [hw]) (by omega) rfl (bst_below HST.out (by go_grown)) HC2.out HNN.out (below_call HAL.out (by go_grown) (by simp))⟩
        · have hke : k = S.rules.length := by omega
          subst hke
          have HE : Hid (outer use goal S.rules N s = bfs use goal S.rules start) := by
            have := HC.out
            rw [List.drop_length, inner] at this
            exact this
          go_wp2
          refine wpK_seq (wpK_condF rfl (wpK_exit ?_))
          simp only [Exit.then, Exit.inBlock, if_true]
          exact ⟨N, by have := HN1.out; omega, invO_of s rfl rfl rfl HNN.out HST.out HE.out HAL.out⟩
end Go.Proofs.Ytogjcfcfgnbmkaa
