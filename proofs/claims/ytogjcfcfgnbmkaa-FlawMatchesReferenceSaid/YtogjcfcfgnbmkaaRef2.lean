/- Contracts of the reference of package scheme: it says the same of a scheme. -/
import Derived.Test.YtogjcfcfgnbmkaaCheck
namespace Go.Proofs.Ytogjcfcfgnbmkaa
open Go.RowKit
set_option linter.unusedVariables false
set_option linter.unusedSimpArgs false

def inB (a b c : Int) : Bool := decide (b ≤ a) && decide (a ≤ c)
theorem inB_yes {a b c : Int} (h : b ≤ a) (h2 : a ≤ c) : inB a b c = true := by simp [inB, h, h2]
theorem inB_no {a b c : Int} (h : ¬ (b ≤ a ∧ a ≤ c)) : inB a b c = false := by
  unfold inB; rw [Bool.and_eq_false_iff]; simp; omega
theorem in_any (a b c : Int) (w : World) : Calls Try.prog 50 #[.int .i64 a, .int .i64 b, .int .i64 c] w fun e w' => e = .returned (.bool (inB a b c)) ∧ w' = w := by
  by_cases h : b ≤ a
  · by_cases h2 : a ≤ c
    · have H := Lib.hid (inB_yes h h2)
      go_enter Try.func50, Try.ntmps50
      go_wp2
      go_ret
      exact ⟨ret_bool (by rw [H.out]; try (simp [h2])), rfl⟩
    · have H := Lib.hid (inB_no (a := a) (b := b) (c := c) (by omega))
      go_enter Try.func50, Try.ntmps50
      go_wp2
      go_ret
      exact ⟨ret_bool (by rw [H.out]; try (simp; omega)), rfl⟩
  · have H := Lib.hid (inB_no (a := a) (b := b) (c := c) (by omega))
    go_enter Try.func50, Try.ntmps50
    go_wp2
    go_ret
    exact ⟨ret_bool (by rw [H.out]; try (simp; omega)), rfl⟩

theorem classF_1 {c : Int} : (classF c == 1) = (decide (97 ≤ c) && decide (c ≤ 122)) := by
  unfold classF
  by_cases h : 97 ≤ c ∧ c ≤ 122
  · simp [h]
  · rw [if_neg h]
    have : (decide (97 ≤ c) && decide (c ≤ 122)) = false := by rw [Bool.and_eq_false_iff]; simp; omega
    rw [this]
    split
    · rfl
    · split <;> rfl
theorem small_any (s : ByteArray) (w : World) (hs : s.size ≤ 9223372036854775807) :
    Calls Try.prog 51 #[.string s] w fun e w' => e = .returned (.bool (smallB s)) ∧ w = w' := by
  go_enter Try.func51, Try.ntmps51
  go_wp2
  go_loop [3] (fun i => ∃ k : Nat, k ≤ s.size ∧ i = .int .i64 k ∧ smallL (s.data.toList.take k) = true) (fun i => s.size - (intOf i).toNat)
  case atStart => exact ⟨0, Nat.zero_le _, rfl, rfl⟩
  case round =>
    obtain ⟨k, hk, rfl, ht⟩ := hrel
    have HT := Lib.hid ht; clear ht
    by_cases hlt : k < s.size
    · have b0 : (0 : Int) ≤ (s[k].toNat : Int) := by omega
      have b1 : (s[k].toNat : Int) ≤ 255 := by have := s[k].toNat_lt; omega
      by_cases hc : (97 : Int) ≤ (s[k].toNat : Int) ∧ (s[k].toNat : Int) ≤ 122
      · have HC : Hid ((classF (s[k].toNat : Int) == 1) = true) := by show _ = true; rw [classF_1]; simp; omega
        obtain ⟨q1, q2⟩ := hc
        go_wp2
        go_round
        case rel => exact ⟨k + 1, by omega, by go_num, all_snoc s k hlt HT.out HC.out⟩
        case measure => simp [intOf]; omega
      · have HC : Hid ((classF (s[k].toNat : Int) == 1) = false) := by show _ = false; rw [classF_1, Bool.and_eq_false_iff]; simp; omega
        by_cases q1 : (97 : Int) ≤ (s[k].toNat : Int)
        · have q2 : (122 : Int) < (s[k].toNat : Int) := by omega
          clear hc
          go_wp2
          go_ret
          exact ⟨ret_bool (all_false s k hlt HC.out).symm, rfl⟩
        · clear hc
          go_wp2
          go_ret
          exact ⟨ret_bool (all_false s k hlt HC.out).symm, rfl⟩
    · have HA := Lib.hid (take_all s k hlt)
      go_wp2
      go_ret
      exact ⟨ret_bool (by rw [smallB, ← HA.out]; exact HT.out.symm), rfl⟩

theorem classF_0 {c : Int} : (classF c == 0) = (!(decide (97 ≤ c) && decide (c ≤ 122)) && (!(decide (65 ≤ c) && decide (c ≤ 90)) && !(decide (48 ≤ c) && decide (c ≤ 57)))) := by
  unfold classF
  by_cases h : 97 ≤ c ∧ c ≤ 122
  · simp [h]
  · by_cases h2 : 65 ≤ c ∧ c ≤ 90
    · rw [if_neg h, if_pos h2]; simp [h2]
    · by_cases h3 : 48 ≤ c ∧ c ≤ 57
      · rw [if_neg h, if_neg h2, if_pos h3]; simp [h3]
      · rw [if_neg h, if_neg h2, if_neg h3]; simp; omega
set_option maxHeartbeats 1600000 in
theorem plain_any (s : ByteArray) (w : World) (hs : s.size ≤ 9223372036854775807) :
    Calls Try.prog 52 #[.string s] w fun e w' => e = .returned (.bool (knownB s)) ∧ w = w' := by
  go_enter Try.func52, Try.ntmps52
  go_wp2
  go_loop [3] (fun i => ∃ k : Nat, k ≤ s.size ∧ i = .int .i64 k ∧ knownL (s.data.toList.take k) = true) (fun i => s.size - (intOf i).toNat)
  case atStart => exact ⟨0, Nat.zero_le _, rfl, rfl⟩
  case round =>
    obtain ⟨k, hk, rfl, ht⟩ := hrel
    have HT := Lib.hid ht; clear ht
    by_cases hlt : k < s.size
    · have b0 : (0 : Int) ≤ (s[k].toNat : Int) := by omega
      have b1 : (s[k].toNat : Int) ≤ 255 := by have := s[k].toNat_lt; omega
      rcases (show ((97 : Int) ≤ (s[k].toNat : Int) ∧ (s[k].toNat : Int) ≤ 122) ∨ ((65 : Int) ≤ (s[k].toNat : Int) ∧ (s[k].toNat : Int) ≤ 90) ∨ ((48 : Int) ≤ (s[k].toNat : Int) ∧ (s[k].toNat : Int) ≤ 57) ∨ ((122 : Int) < (s[k].toNat : Int)) ∨ ((90 : Int) < (s[k].toNat : Int) ∧ (s[k].toNat : Int) < 97) ∨ ((57 : Int) < (s[k].toNat : Int) ∧ (s[k].toNat : Int) < 65) ∨ ((s[k].toNat : Int) < 48) by omega) with h | h | h | h | h | h | h
      all_goals first
        | (have HC : Hid ((!(classF (s[k].toNat : Int) == 0)) = true) := by
             show _ = true
             rw [classF_0]; simp; omega
           go_wp2
           go_round
           case rel => exact ⟨k + 1, by omega, by go_num, all_snoc s k hlt HT.out HC.out⟩
           case measure => simp [intOf]; omega)
        | (have HC : Hid ((!(classF (s[k].toNat : Int) == 0)) = false) := by
             show _ = false
             rw [classF_0]; simp; omega
           go_wp2
           go_ret
           exact ⟨ret_bool (all_false s k hlt HC.out).symm, rfl⟩)
    · have HA := Lib.hid (take_all s k hlt)
      go_wp2
      go_ret
      exact ⟨ret_bool (by rw [knownB, ← HA.out]; exact HT.out.symm), rfl⟩

theorem rightB_in (m : Int) (r : Rl) : rightB m r = (inB r.frm 0 (m - 1) && (inB r.dst 0 (m - 1) && (decide ((r.inp.size : Int) ≤ 4) && (smallB r.inp && (decide ((r.out.size : Int) ≤ 4) && (knownB r.out && inB r.cost 0 1000)))))) := by
  unfold rightB inB
  rw [show decide (r.frm ≤ m - 1) = decide (r.frm < m) from by rw [decide_eq_decide]; omega, show decide (r.dst ≤ m - 1) = decide (r.dst < m) from by rw [decide_eq_decide]; omega]
  simp only [Bool.and_assoc]
theorem eqRl_symm (r q : Rl) : eqRl r q = eqRl q r := by
  unfold eqRl
  rw [show decide (r.frm = q.frm) = decide (q.frm = r.frm) from by rw [decide_eq_decide]; exact eq_comm, show decide (r.dst = q.dst) = decide (q.dst = r.dst) from by rw [decide_eq_decide]; exact eq_comm,
    show decide (r.inp.toList = q.inp.toList) = decide (q.inp.toList = r.inp.toList) from by rw [decide_eq_decide]; exact eq_comm, show decide (r.out.toList = q.out.toList) = decide (q.out.toList = r.out.toList) from by rw [decide_eq_decide]; exact eq_comm,
    show decide (r.cost = q.cost) = decide (q.cost = r.cost) from by rw [decide_eq_decide]; exact eq_comm]

set_option maxHeartbeats 3200000 in
theorem rright_any (S : Sch) (a : Option Addr) (cap i : Nat) (w : World) (hR : RulS w a S.rules) (hl : S.rules.length ≤ 9223372036854775807) (hi : i < S.rules.length) (hm : 1 ≤ S.modes) (hm2 : S.modes ≤ 8) :
    Calls Try.prog 32 #[.agg #[.int .i64 S.modes, .int .u8 S.acc, .slice a S.rules.length cap], .int .i64 (i : Int)] w fun e w' => e = .returned (.bool (goodAt S S.rules[i] (S.rules.take i))) ∧ Below w.heap.size w w' := by
  have HR := Lib.hid hR; clear hR
  obtain ⟨b, o, ha, hbw, p0, p1, p2, p3, p4⟩ := HR.out.at hi
  have hidx0 := idx_rules a b o S.rules.length cap i ha hi
  have HA := Lib.hid ha; clear ha
  generalize hr : S.rules[i] = r at *
  have HRI := Lib.hid hr; clear hr
  go_enter Try.func32, Try.ntmps32
  go_wp2
  go_loopg [6] i (fun g j wr => ∃ k : Nat, k ≤ i ∧ g = i - k ∧ j = .int .i64 k ∧ (S.rules.take k).any (eqRl r) = false ∧ Below (w.heap.size + 2) ((w.alloc (.cells #[.int .i64 S.modes, .int .u8 S.acc, .slice a S.rules.length cap] 33)).alloc (.cells #[.int .i64 r.frm, .int .i64 r.dst, .string r.inp, .string r.out, .int .i64 r.cost] 29)) wr)
  case atStart => exact ⟨0, Nat.zero_le _, rfl, rfl, rfl, Below.refl _ _⟩
  case round =>
    obtain ⟨k, hk, rfl, rfl, hno, hal⟩ := hrel
    have HN := Lib.hid hno; clear hno
    have hB : Below w.heap.size w wr := (((Below.refl _ _).alloc (Nat.le_refl _) _).alloc (by simp) _).trans (hal.mono (by omega))
    obtain ⟨hz, hc, hf⟩ := bcellB hal rfl
    by_cases hlt : k < i
    · have hlt' : k < S.rules.length := by omega
      obtain ⟨b', o', ha', hb', q0, q1, q2, q3, q4⟩ := HR.out.at hlt'
      have hidx := idx_rules a b' o' S.rules.length cap k ha' hlt'
      have HA' := Lib.hid ha'; clear ha' hidx0
      have hcmp := cmp_rules S.rules[k] r
      by_cases hq : eqRl r S.rules[k] = true
      · have hq2 : eqRl S.rules[k] r = true := by rw [eqRl_symm]; exact hq
        have HQ : Hid (goodAt S r (S.rules.take i) = false) := by
          have := any_at (R := S.rules.take i) (p := eqRl r) (k := k) (by rw [List.length_take]; omega) (by rw [List.getElem_take]; exact hq)
          show _ = false
          simp [goodAt, this]
        clear hq
        go_wp2
        go_region
        go_wp2
        go_ret
        exact ⟨ret_bool HQ.out.symm, by go_grown⟩
      · have hq' : eqRl r S.rules[k] = false := by simpa using hq
        have hq2 : eqRl S.rules[k] r = false := by rw [eqRl_symm]; exact hq'
        have HQ := Lib.hid hq'
        clear hq hq'
        go_wp2
        go_region
        go_wp2
        go_roundg (i - (k + 1))
        case rel => exact ⟨k + 1, by omega, rfl, by go_num, any_snoc hlt' HN.out HQ.out, by go_grown⟩
        case measure => omega
    · obtain rfl : k = i := by omega
      clear hlt
      have HG : Hid (goodAt S r (S.rules.take k) = rightB S.modes r) := by show _ = _; simp [goodAt, HN.out]
      have HI := Lib.hid (rightB_in S.modes r)
      go_wp2_with (first
        | (go_at_call 50; refine (in_any _ _ _ _).mono ?_; rintro e w' ⟨rfl, rfl⟩)
        | (go_at_call 51; refine (small_any _ _ (by omega)).mono ?_; rintro e w' ⟨rfl, rfl⟩)
        | (go_at_call 52; refine (plain_any _ _ (by omega)).mono ?_; rintro e w' ⟨rfl, rfl⟩))
      all_goals go_ret
      all_goals exact ⟨ret_bool (by rw [HG.out, HI.out]; first | (simp [*]; done) | (simp [*]; omega)), by go_grown⟩

set_option maxHeartbeats 3200000 in
theorem rcheck_any (S : Sch) (a : Option Addr) (cap : Nat) (w : World) (hR : RulS w a S.rules) (h0 : 0 ≤ S.acc) (h1 : S.acc ≤ 255) (hl : S.rules.length ≤ 9223372036854775807) :
    Calls Try.prog 49 #[.agg #[.int .i64 S.modes, .int .u8 S.acc, .slice a S.rules.length cap]] w (CheckPost S w) := by
  by_cases hm : ¬ (1 ≤ S.modes ∧ S.modes ≤ 8)
  · have H := Lib.hid (errV_bad (S := S) (bad_head (by unfold headB; simp only [Bool.and_eq_false_iff, decide_eq_false_iff_not]; omega)))
    have g1 : inB S.modes 1 8 = false := inB_no hm
    clear hm
    go_enter Try.func49, Try.ntmps49
    go_wp2_with fail
    go_quiet ((go_at_call 50; exact Calls.quiet_of_same (in_any _ _ _ _)))
    go_wp2
    go_ret2
    exact ⟨-1, by rw [H.out]; rfl, ((Below.refl _ _).alloc (Nat.le_refl _) _).trans (below_drewN _ _)⟩
  have hm' : 1 ≤ S.modes ∧ S.modes ≤ 8 := by omega
  clear hm
  obtain ⟨hm, hm2⟩ := hm'
  have g1 : inB S.modes 1 8 = true := inB_yes hm hm2
  obtain ⟨p2, hp2⟩ : ∃ p, (2 : Int) ^ S.modes.toNat = p := ⟨_, rfl⟩
  have hp0 : 0 ≤ p2 ∧ p2 ≤ 256 := by
    rw [← hp2]; exact pow2_bd _ (by omega)
  have hw : wrap64 (2 ^ S.modes.toNat) = p2 := by rw [hp2]; exact IntWalk.wrap64_in _ (by omega)
  have hw2 : IntKind.i64.wrap (2 ^ S.modes.toNat) = p2 := by rw [hp2]; exact IntWalk.i64_in _ (by omega)
  have hs : wrap64 (p2 - 1) = p2 - 1 := IntWalk.wrap64_in _ (by omega)
  have hs2 : IntKind.i64.wrap (p2 - 1) = p2 - 1 := IntWalk.i64_in _ (by omega)
  by_cases hp : ¬ (1 ≤ S.acc ∧ S.acc ≤ p2 - 1)
  · have H := Lib.hid (errV_bad (S := S) (bad_head (by unfold headB; rw [hp2]; simp only [Bool.and_eq_false_iff, decide_eq_false_iff_not]; omega)))
    have g2 : inB S.acc 1 (p2 - 1) = false := inB_no hp
    have HP2 := Lib.hid hp2; clear hp2 hp
    go_enter Try.func49, Try.ntmps49
    go_wp2_with fail
    go_quiet ((go_at_call 50; exact Calls.quiet_of_same (in_any _ _ _ _)))
    go_wp2
    go_ret2
    exact ⟨-1, by rw [H.out]; rfl, ((Below.refl _ _).alloc (Nat.le_refl _) _).trans (below_drewN _ _)⟩
  have hp' : 1 ≤ S.acc ∧ S.acc ≤ p2 - 1 := by omega
  have g2 : inB S.acc 1 (p2 - 1) = true := inB_yes hp'.1 hp'.2
  by_cases hl64 : 64 < S.rules.length
  · have H := Lib.hid (errV_bad (S := S) (bad_head (by unfold headB; rw [hp2]; simp only [Bool.and_eq_false_iff, decide_eq_false_iff_not]; omega)))
    have hd : decide (64 < (S.rules.length : Int)) = true := by simp; omega
    have HP2 := Lib.hid hp2; clear hp2 hp hp'
    go_enter Try.func49, Try.ntmps49
    go_wp2_with fail
    go_quiet ((go_at_call 50; exact Calls.quiet_of_same (in_any _ _ _ _)))
    go_wp2
    go_ret2
    exact ⟨-1, by rw [H.out]; rfl, ((Below.refl _ _).alloc (Nat.le_refl _) _).trans (below_drewN _ _)⟩
  have hd : decide (64 < (S.rules.length : Int)) = false := by simp; omega
  have HH : Hid (headB S = true) := by show _ = true; unfold headB; rw [hp2]; simp only [Bool.and_eq_true, decide_eq_true_eq]; omega
  have HP2 := Lib.hid hp2; clear hp2 hp hp'
  have HR := Lib.hid hR; clear hR
  go_enter Try.func49, Try.ntmps49
  go_wp2_with fail
  go_quiet ((go_at_call 50; exact Calls.quiet_of_same (in_any _ _ _ _)))
  go_wp2
  clear hw hw2 hs hs2 g1 g2
  go_loopg [4] S.rules.length (fun g i wr => ∃ k : Nat, k ≤ S.rules.length ∧ g = S.rules.length - k ∧ i = .int .i64 k ∧ validTo S k ∧ Below (w.heap.size + 1) (w.alloc (.cells #[.int .i64 S.modes, .int .u8 S.acc, .slice a S.rules.length cap] 33)) wr)
  case atStart => exact ⟨0, Nat.zero_le _, rfl, rfl, fun i _ h => by omega, (below_drewN _ _)⟩
  case round =>
    obtain ⟨k, hk, rfl, rfl, hv, hal⟩ := hrel
    have HV := Lib.hid hv; clear hv
    have hB : Below w.heap.size w wr := ((Below.refl _ _).alloc (Nat.le_refl _) _).trans (hal.mono (by omega))
    obtain ⟨hz, hc, hf⟩ := bcellB hal rfl
    by_cases hlt : k < S.rules.length
    · have HRw : Hid (RulS wr a S.rules) := HR.out.later hB (Nat.le_refl _)
      by_cases hg : goodAt S S.rules[k] (S.rules.take k) = true
      · have HB : Hid (validTo S (k + 1)) := validTo_snoc hlt HV.out hg
        go_wp2_with (go_at_call 32; refine (rright_any S a cap k _ HRw.out hl hlt hm hm2).mono ?_; rintro e w1 ⟨rfl, hb⟩; obtain ⟨hz1, hc1, hf1⟩ := bcell hb rfl; have hB := below_call (B := w.heap.size) (w := w) (by go_grown) hb (Nat.le_refl _))
        go_roundg (S.rules.length - (k + 1))
        case rel => exact ⟨k + 1, by omega, rfl, by go_num, HB.out, hal.trans ((by assumption : Below wr.heap.size wr w1).mono (by simp at hz; omega))⟩
        case measure => omega
      · have hg' : goodAt S S.rules[k] (S.rules.take k) = false := by simpa using hg
        have HB : Hid (errV S = 20) := errV_bad (bad_at hlt hg')
        clear hg
        go_wp2_with (go_at_call 32; refine (rright_any S a cap k _ HRw.out hl hlt hm hm2).mono ?_; rintro e w1 ⟨rfl, hb⟩; obtain ⟨hz1, hc1, hf1⟩ := bcell hb rfl; have hB := below_call (B := w.heap.size) (w := w) (by go_grown) hb (Nat.le_refl _))
        go_ret2
        exact ⟨k, by rw [HB.out]; rfl, by go_grown⟩
    · obtain rfl : k = S.rules.length := by omega
      have HB : Hid (errV S = 0) := errV_good ⟨HH.out, HV.out⟩
      go_wp2
      go_ret2
      exact ⟨_, by rw [HB.out]; rfl, hB⟩

theorem rvalid_any (S : Sch) (a : Option Addr) (cap : Nat) (w : World) (hR : RulS w a S.rules) (h0 : 0 ≤ S.acc) (h1 : S.acc ≤ 255) (hl : S.rules.length ≤ 9223372036854775807) :
    Calls Try.prog 29 #[.agg #[.int .i64 S.modes, .int .u8 S.acc, .slice a S.rules.length cap]] w fun e w' => e = .returned (.bool (validB S)) ∧ Below w.heap.size w w' := by
  have HR : Hid (RulS (w.alloc (.cells #[.int .i64 S.modes, .int .u8 S.acc, .slice a S.rules.length cap] 33)) a S.rules) := hR.later ((Below.refl _ _).alloc (Nat.le_refl _) _) (Nat.le_refl _)
  have HE : Hid ((errV S == 0) = validB S) := by show _ = _; unfold errV; cases validB S <;> rfl
  clear hR
  go_enter Try.func29, Try.ntmps29
  go_wp2_with (go_at_call 49; refine (rcheck_any S a cap _ HR.out h0 h1 hl).mono ?_; rintro e w1 ⟨i, rfl, hb⟩; have hB := below_call (B := w.heap.size) (w := w) (by go_grown) hb (Nat.le_refl _); clear hb)
  go_ret
  exact ⟨ret_bool HE.out, hB⟩
end Go.Proofs.Ytogjcfcfgnbmkaa
