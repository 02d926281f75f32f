/- Contract of reference 04: endless. -/
import Derived.Test.YtogjcfcfgnbmkaaRefF
namespace Go.Proofs.Ytogjcfcfgnbmkaa
open Go.RowKit
set_option linter.unusedVariables false
set_option linter.unusedSimpArgs false

def circStep (K : Wk) (best : List Nat) (m : Nat) : List Nat :=
  if K.is m && (best.isEmpty || (decide ((K.ch m).length < best.length) || (decide ((K.ch m).length = best.length) && beforeB (ints (K.ch m)) (ints best)))) then K.ch m else best
def rendN (S : Sch) (m : Nat) (best0 : List Nat) : Nat → List Nat
  | 0 => best0
  | n + 1 => circStep (levelK (useS true) S.rules m (cbit S m) (n + 1)) (rendN S m best0 n) m
def rendM (S : Sch) : Nat → List Nat
  | 0 => []
  | m + 1 => rendN S m (rendM S m) S.modes.toNat
def rendF (S : Sch) : List Nat := rendM S S.modes.toNat
theorem rendN_len {S : Sch} (hf : ∀ r ∈ S.rules, r.frm.toNat < 8) {m : Nat} (hm : m < 8) {b : List Nat} (hb : b.length ≤ 8) : ∀ n, n ≤ 8 → (rendN S m b n).length ≤ 8
  | 0, _ => hb
  | n + 1, h => by
    rw [rendN, circStep]
    split
    · have := level_len (use := useS true) (start := m) (cbit S m) hf (n + 1) m hm; omega
    · exact rendN_len hf hm hb n (by omega)
theorem rendM_len {S : Sch} (hS : Fit S) (hf : ∀ r ∈ S.rules, r.frm.toNat < 8) : ∀ m, m ≤ 8 → (rendM S m).length ≤ 8
  | 0, _ => by simp [rendM]
  | m + 1, h => by
    rw [rendM]
    exact rendN_len hf (by omega) (rendM_len hS hf m (by omega)) _ (by have := hS.m1; omega)

theorem row_zero (w : World) : WkRow (w.alloc (.cells #[.bool false, .bool false, .bool false, .bool false, .bool false, .bool false, .bool false, .bool false, .slice none 0 0, .slice none 0 0, .slice none 0 0, .slice none 0 0, .slice none 0 0, .slice none 0 0, .slice none 0 0, .slice none 0 0] 91)) w.heap.size (fun _ => false) (fun _ => .slice none 0 0) := heap_alloc_new w (.cells #[.bool false, .bool false, .bool false, .bool false, .bool false, .bool false, .bool false, .bool false, .slice none 0 0, .slice none 0 0, .slice none 0 0, .slice none 0 0, .slice none 0 0, .slice none 0 0, .slice none 0 0, .slice none 0 0] 91)
theorem row_start (w : World) {m : Nat} (hm : m < 8) (v : Bool) : WkRow (w.alloc (.cells ([.bool false, .bool false, .bool false, .bool false, .bool false, .bool false, .bool false, .bool false, .slice none 0 0, .slice none 0 0, .slice none 0 0, .slice none 0 0, .slice none 0 0, .slice none 0 0, .slice none 0 0, .slice none 0 0].set m (.bool v)).toArray 91)) w.heap.size (wk0 m v).is (fun _ => .slice none 0 0) := by
  have h := heap_alloc_new w (.cells ([.bool false, .bool false, .bool false, .bool false, .bool false, .bool false, .bool false, .bool false, .slice none 0 0, .slice none 0 0, .slice none 0 0, .slice none 0 0, .slice none 0 0, .slice none 0 0, .slice none 0 0, .slice none 0 0].set m (.bool v)).toArray 91)
  unfold WkRow
  have e : ([Value.bool false, .bool false, .bool false, .bool false, .bool false, .bool false, .bool false, .bool false, .slice none 0 0, .slice none 0 0, .slice none 0 0, .slice none 0 0, .slice none 0 0, .slice none 0 0, .slice none 0 0, .slice none 0 0].set m (.bool v)) = wkL (wk0 m v).is (fun _ => .slice none 0 0) := by
    rcases (show m = 0 ∨ m = 1 ∨ m = 2 ∨ m = 3 ∨ m = 4 ∨ m = 5 ∨ m = 6 ∨ m = 7 by omega) with rfl | rfl | rfl | rfl | rfl | rfl | rfl | rfl <;> rfl
  rw [e] at h ⊢
  exact h
theorem WkRow.set1 {w : World} {g t : Nat} {is : Nat → Bool} {vs : Nat → Value} {v : Bool} (h : WkRow w g is vs) (ht : t < 8) :
    WkRow (w.setCell ⟨g, t, none⟩ (.bool v)) g (fun j => if j = t then v else is j) vs := by
  unfold WkRow at h ⊢
  simp only [World.setCell]
  rw [Array.getElem?_modify, if_pos rfl, h]
  simp only [Option.map_some, Option.isSome_none, Bool.false_eq_true, if_false]
  congr 2
  apply Array.ext'
  simp only [Array.toList_setIfInBounds]
  refine wkL_ext (is' := is) (vs' := vs) (by simp [wkL_len]) (fun i hi => ?_) (fun i hi => ?_)
  · rw [List.getElem?_set]
    by_cases e : t = i
    · subst e; rw [if_pos rfl, wkL_len, if_pos (by omega), if_pos rfl]
    · rw [if_neg e, wkL_is hi, if_neg (fun h => e h.symm)]
  · rw [List.getElem?_set_ne (by omega), wkL_vs hi]
set_option maxHeartbeats 6400000 in
set_option maxRecDepth 100000 in
theorem rendless_any (S : Sch) (a : Option Addr) (cap : Nat) (w : World) (hR : RulS w a S.rules) (hS : Fit S) :
    Calls Try.prog 43 #[.agg #[.int .i64 S.modes, .int .u8 S.acc, .slice a S.rules.length cap]] w fun e w' => ∃ v, e = .returned v ∧ Ch w' w.heap.size v (rendF S) ∧ Below w.heap.size w w' := by
  have HR := Lib.hid hR; have HS := Lib.hid hS; clear hR
  have m0 := hS.m0; have m1 := hS.m1; have hlen := hS.len
  obtain ⟨mm, hmm⟩ := Int.eq_ofNat_of_zero_le (show 0 ≤ S.modes by omega)
  have HM : Hid (S.modes.toNat = mm) := by show _ = _; omega
  have hmm0 : 0 < mm := by omega
  have hmm8 : mm ≤ 8 := by omega
  have HMM := Lib.hid hmm
  have HF8 : Hid (∀ r ∈ S.rules, r.frm.toNat < 8) := fun r hr => by have := hS.small r hr; omega
  clear hmm hS
  go_enter Try.func43, Try.ntmps43
  go_wp2_with (first
    | (go_at_call 28; refine (rreached0_any S a cap _ (HR.out.later (by first | exact hB | go_grown) (Nat.le_refl _)) HS.out (by rw [HM.out]; omega)).mono ?_; rintro e w1 ⟨v, rfl, ⟨g3, hv, hg3, hmask⟩, hb⟩; rw [HM.out] at hv hmask; subst hv; have hB := below_call (B := w.heap.size) (w := w) (by go_grown) hb (Nat.le_refl _); have hal := below_call (B := w.heap.size + 1) (w := w.alloc (.cells #[.int .i64 S.modes, .int .u8 S.acc, .slice a S.rules.length cap] 33)) (by go_grown) hb (by simp); have hz1 := hal.size; have HMask3 := Lib.hid hmask; have hg3l := (Array.getElem?_eq_some_iff.1 hmask).1; obtain ⟨hz, hc, hf⟩ := bcell hb (by first | (simp only [World.size_alloc]; rfl) | rfl); clear hmask hb)
    | (go_at_call 25; refine (rlive_any S a cap _ (HR.out.later (by first | exact hB | go_grown) (Nat.le_refl _)) HS.out).mono ?_; rintro e w2 ⟨v, rfl, ⟨g4, hv, hg4, hmask⟩, hb⟩; rw [HM.out] at hv hmask; subst hv; have HMask3b := Lib.hid ((hb.block g3 hg3l).trans HMask3.out); have hz2 := hb.size; have hal2 := hal.trans (hb.mono (by simp only [World.size_alloc] at hz1; omega)); have HAL2 := Lib.hid hal2; have HMask4 := Lib.hid hmask; have hg4l := (Array.getElem?_eq_some_iff.1 hmask).1; clear hmask hb hal2 hal hB)
    | fail)
  simp only [World.size_alloc] at hz1
  clear hz hc hf
  have hzz : w.heap.size + 1 ≤ w2.heap.size := by omega
  have hg3z : g3 < w2.heap.size := by omega
  have HX0 : Hid (Below w.heap.size w w2) := ((Below.refl _ _).alloc (Nat.le_refl _) _).trans (HAL2.out.mono (by omega))
  go_loopw [5, 6] (fun bv i wr => ∃ (m : Nat) (b : Option Addr) (n c : Nat) (xs : List Nat), m ≤ mm ∧ i = .int .i64 m ∧ bv = .slice b n c ∧ n = xs.length ∧ xs = rendM S m ∧ Ch wr w.heap.size (.slice b n c) xs ∧ Below w2.heap.size w2 wr) (fun _ i _ => mm - (intOf i).toNat)
  case atStart => exact ⟨0, _, _, _, [], by omega, rfl, rfl, rfl, rfl, ch_new0 HX0.out.size, (Below.refl _ _).alloc (Nat.le_refl _) _⟩
  case round =>
    obtain ⟨m, b, n, c, xs, hm, rfl, rfl, hn, hxs, hch, hb2⟩ := hrel
    have HN := Lib.hid hn; have HXS := Lib.hid hxs; have HCH := Lib.hid hch; have HB2 := Lib.hid hb2
    have hal : Below (w.heap.size + 1) (w.alloc (.cells #[.int .i64 S.modes, .int .u8 S.acc, .slice a S.rules.length cap] 33)) wr := HAL2.out.trans (hb2.mono hzz)
    have hB : Below w.heap.size w wr := ((Below.refl _ _).alloc (Nat.le_refl _) _).trans (hal.mono (by omega))
    obtain ⟨hz, hc, hf⟩ := bcellB hal rfl
    simp only [World.size_alloc] at hz
    have hzw := hb2.size
    clear hn hxs hch
    by_cases hlt : m < mm
    · have hlt2 : (m : Int) < S.modes := by have := HMM.out; omega
      have hm8 : (m : Int) < 8 := by omega
      have hmI : (m : Int) < (mm : Int) := by omega
      have q3 : wr.cell? ⟨g3, m, none⟩ = some (.bool ((reachS S).testBit m)) := (hb2.cell (p := ⟨g3, m, none⟩) hg3z).trans (mask_cell HMask3b.out hlt)
      have q4 : wr.cell? ⟨g4, m, none⟩ = some (.bool ((liveS S).testBit m)) := (hb2.cell (p := ⟨g4, m, none⟩) hg4l).trans (mask_cell HMask4.out hlt)
      obtain ⟨rb, hrb⟩ : ∃ rb, (reachS S).testBit m = rb := ⟨_, rfl⟩
      obtain ⟨lb, hlb⟩ : ∃ lb, (liveS S).testBit m = lb := ⟨_, rfl⟩
      obtain ⟨cb, hcb⟩ : ∃ cb, cbit S m = cb := ⟨_, rfl⟩
      have HCB : Hid (cb = (rb && lb)) := by show _ = _; rw [← hcb, cbit, hrb, hlb]
      have HCM := Lib.hid hcb
      rw [hrb] at q3; rw [hlb] at q4
      clear hrb hlb hcb hb2
      have qz := (row_zero wr).is (i := m) (by omega)
      have qf := (row_zero wr).free (i := m)
      have HW0 : Hid (∀ v : Bool, WB w.heap.size wr.heap.size wr (wk0 m v) (fun _ => none) (fun _ => 0) (fun _ => 0) (wr.alloc (.cells ([.bool false, .bool false, .bool false, .bool false, .bool false, .bool false, .bool false, .bool false, .slice none 0 0, .slice none 0 0, .slice none 0 0, .slice none 0 0, .slice none 0 0, .slice none 0 0, .slice none 0 0, .slice none 0 0].set m (.bool v)).toArray 91))) := fun v =>
        ⟨row_start wr (by omega) v, fun t ht => Ch.nil _ _, (Below.refl _ _).alloc (Nat.le_refl _) _⟩
      have HC0 : Hid (∀ W, Below wr.heap.size wr W → Ch W w.heap.size (.slice b n c) xs) := fun W h => HCH.out.below h HCH.out.lt
      go_upto_region 8 with fail
      go_cut [] (fun wx => wx = (wr.alloc (.cells ([.bool false, .bool false, .bool false, .bool false, .bool false, .bool false, .bool false, .bool false, .slice none 0 0, .slice none 0 0, .slice none 0 0, .slice none 0 0, .slice none 0 0, .slice none 0 0, .slice none 0 0, .slice none 0 0].set m (.bool cb)).toArray 91)))
      case first =>
        cases rb with
        | false =>
          obtain rfl : cb = false := HCB.out
          clear HCB
          go_wp2_with fail
          go_meet
          rfl
        | true =>
          obtain rfl : cb = lb := HCB.out
          clear HCB
          go_wp2_with fail
          go_meet
          rfl
      case rest =>
        obtain rfl := hcut
        clear HCB
        obtain ⟨wo, rfl⟩ : ∃ wo : World, wo = wr := ⟨_, rfl⟩
        clear qz qf q3 q4 hc hf hB hal
        go_wp2
        go_loopw [5, 8] (fun bv i wr => ∃ (k : Nat) (b : Option Addr) (n c : Nat) (ys : List Nat) (p : Nat → Option Addr) (m' d : Nat → Nat), k ≤ mm ∧ i = .int .i64 k ∧ bv = .slice b n c ∧ n = ys.length ∧ ys = rendN S m xs k ∧ Ch wr w.heap.size (.slice b n c) ys ∧ WB w.heap.size wo.heap.size wo (levelK (useS true) S.rules m (cbit S m) k) p m' d wr) (fun _ i _ => mm - (intOf i).toNat)
        case atStart => exact ⟨0, b, n, c, xs, _, _, _, by omega, rfl, rfl, HN.out, rfl, HC0.out _ ((Below.refl _ _).alloc (Nat.le_refl _) _), by have := HW0.out; rw [HCM.out]; exact this _⟩
        case round =>
          obtain ⟨k, b, n, c, ys, p, m', d, hk, rfl, rfl, hn, hys, hch, hwb⟩ := hrel
          have HYN := Lib.hid hn; have HYS0 := Lib.hid hys; have HYS := Lib.hid hch; have HWB := Lib.hid hwb
          have hbw : Below w2.heap.size w2 wr := HB2.out.trans (hwb.bl.mono hzw)
          have hal : Below (w.heap.size + 1) (w.alloc (.cells #[.int .i64 S.modes, .int .u8 S.acc, .slice a S.rules.length cap] 33)) wr := HAL2.out.trans (hbw.mono hzz)
          have hB : Below w.heap.size w wr := ((Below.refl _ _).alloc (Nat.le_refl _) _).trans (hal.mono (by omega))
          obtain ⟨hz, hc, hf⟩ := bcellB hal rfl
          simp only [World.size_alloc] at hz
          have hGl := hwb.row.lt
          have hyl : ys.length ≤ 8 := by rw [HYS0.out]; exact rendN_len HF8.out (by omega) (by rw [HXS.out]; exact rendM_len HS.out HF8.out m (by omega)) k (by omega)
          clear hn hys hch
          by_cases hlk : k < mm
          · have hlk2 : (k : Int) < S.modes := by have := HMM.out; omega
            obtain ⟨O, hO⟩ : ∃ O, (levelK (useS true) S.rules m (cbit S m) (k + 1)) = O := ⟨_, rfl⟩
            have HO : Hid (nextK (useS true) S.rules (levelK (useS true) S.rules m (cbit S m) k) = O) := hO
            have HO1 := Lib.hid hO
            obtain ⟨oi, hoi⟩ : ∃ oi, O.is m = oi := ⟨_, rfl⟩
            obtain ⟨bb, hbb⟩ : ∃ bb, beforeB (ints (O.ch m)) (ints ys) = bb := ⟨_, rfl⟩
            have hOl : (O.ch m).length ≤ k + 1 := by rw [← hO]; exact level_len _ HF8.out (k + 1) m (by omega)
            have HST : Hid (rendN S m xs (k + 1) = if oi && (ys.isEmpty || (decide ((O.ch m).length < ys.length) || (decide ((O.ch m).length = ys.length) && bb))) then O.ch m else ys) := by
              show _ = _
              rw [rendN, ← HYS0.out, circStep, hO, hoi, hbb]
            have HBB := Lib.hid hbb
            have hw3 : ∀ (m'' : Nat → Nat) (W : World) (p' : Nat → Option Addr) (d' : Nat → Nat), True := fun _ _ _ _ => trivial
            clear hO hbb hw3
            have q0 := hwb.c0; have q1 := hwb.c1; have q2 := hwb.c2; have q3 := hwb.c3; have q4 := hwb.c4; have q5 := hwb.c5; have q6 := hwb.c6; have q7 := hwb.c7; have q8 := hwb.c8; have q9 := hwb.c9; have q10 := hwb.c10; have q11 := hwb.c11; have q12 := hwb.c12; have q13 := hwb.c13; have q14 := hwb.c14; have q15 := hwb.c15
            clear hwb
            go_upto_region 13 with (first | (go_at_call 58; refine (next_lit S a cap (levelK (useS true) S.rules m (cbit S m) k) p m' d true k _ (HR.out.later (by first | exact hB | go_grown) (Nat.le_refl _)) HS.out (fun t ht => (HWB.out.ok t ht).mono (Nat.zero_le _)) (level_len _ HF8.out k) (by omega)).mono ?_; rintro e w3 ⟨p', m'', d', rfl, hch, hb⟩; rw [HO.out] at hch ⊢; clear q0 q1 q2 q3 q4 q5 q6 q7 q8 q9 q10 q11 q12 q13 q14 q15; have hwb2 := HWB.out.below hb; have q0 := hwb2.c0; have q1 := hwb2.c1; have q2 := hwb2.c2; have q3 := hwb2.c3; have q4 := hwb2.c4; have q5 := hwb2.c5; have q6 := hwb2.c6; have q7 := hwb2.c7; have q8 := hwb2.c8; have q9 := hwb2.c9; have q10 := hwb2.c10; have q11 := hwb2.c11; have q12 := hwb2.c12; have q13 := hwb2.c13; have q14 := hwb2.c14; have q15 := hwb2.c15; have qf := hwb2.free; have hwp := hwb2.put (O := O) (fun t ht => (hch t ht).mono hB.size); have qis := hwp.row.is (i := m) (by omega); have qvs := hwp.row.vs (i := m) (by omega); rw [hoi] at qis; have HWP := Lib.hid hwp; have HYP := Lib.hid (ch_put16 hwb2 (p' := p') (m' := m'') (d' := d') (O := O) (HYS.out.below hb HYS.out.lt)); have hz2 := hb.size; have hB2 := below_call (B := w.heap.size) (w := w) hB hb (Nat.le_refl _); clear hch hwb2 hb hwp; have HLM : Hid (m'' m = (O.ch m).length) := (HWP.out.sl (t := m) (by omega)).2.trans (ints_len _)) | fail)
            cases oi with
            | false =>
              have HN2 : Hid (rendN S m xs (k + 1) = ys) := by rw [HST.out]; rfl
              go_wp2
              go_roundw
              case rel => exact ⟨k + 1, b, n, c, ys, p', m'', d', by omega, by go_num, rfl, HYN.out, HN2.out.symm, HYP.out, by rw [HO1.out]; exact HWP.out⟩
              case measure => simp [intOf]; omega
            | true =>
              by_cases hy0 : ys = []
              · have HN2 : Hid (rendN S m xs (k + 1) = O.ch m) := by show _ = _; rw [HST.out, hy0]; rfl
                have hn0 : n = 0 := by rw [HYN.out, hy0]; rfl
                subst hn0
                clear hy0
                go_wp2
                go_roundw
                case rel => exact ⟨k + 1, p' m, m'' m, d' m, O.ch m, p', m'', d', by omega, by go_num, rfl, (HWP.out.sl (t := m) (by omega)).2.trans (ints_len _), HN2.out.symm, HWP.out.ok m (by omega), by rw [HO1.out]; exact HWP.out⟩
                case measure => simp [intOf]; omega
              · have hnp : 0 < n := by rw [HYN.out]; rcases ys with _ | ⟨y, ys⟩; exact absurd rfl hy0; simp
                have hnz : ((n : Int) == 0) = false := by simp; omega
                have HST2 : Hid (rendN S m xs (k + 1) = if (decide ((O.ch m).length < ys.length) || (decide ((O.ch m).length = ys.length) && bb)) then O.ch m else ys) := by
                  show _ = _; rw [HST.out]; rcases ys with _ | ⟨y, ys⟩; exact absurd rfl hy0; rfl
                clear hy0
                rcases Nat.lt_trichotomy (O.ch m).length ys.length with hcmp | hcmp | hcmp
                · have HN2 : Hid (rendN S m xs (k + 1) = O.ch m) := by show _ = _; rw [HST2.out, decide_eq_true hcmp]; rfl
                  have hL1 := HLM.out; have hL2 := HYN.out; have hlm : m'' m < n := (by omega); have hdd : decide (m'' m < n) = true := (by simp; omega); clear hL1 hL2
                  go_wp2
                  go_roundw
                  case rel => exact ⟨k + 1, p' m, m'' m, d' m, O.ch m, p', m'', d', by omega, by go_num, rfl, (HWP.out.sl (t := m) (by omega)).2.trans (ints_len _), HN2.out.symm, HWP.out.ok m (by omega), by rw [HO1.out]; exact HWP.out⟩
                  case measure => simp [intOf]; omega
                · have HST3 : Hid (rendN S m xs (k + 1) = if bb = true then O.ch m else ys) := by show _ = _; rw [HST2.out, decide_eq_false (by omega), decide_eq_true hcmp]; simp
                  have hcmp2 : (O.ch m).length ≤ ys.length ∧ ys.length ≤ (O.ch m).length := by omega
                  clear hcmp
                  cases bb with
                  | true =>
                    have HN2 : Hid (rendN S m xs (k + 1) = O.ch m) := HST3.out
                    have hL1 := HLM.out; have hL2 := HYN.out; have hlm : ¬ m'' m < n := (by omega); have hdd : decide (m'' m < n) = false := (by simp; omega); have hde : ((m'' m : Int) == (n : Int)) = true := (by simp; omega); clear hL1 hL2
                    go_wp2_with (first | (go_at_call 59; refine (before_any (p' m) b (m'' m) n (d' m) c (ints (O.ch m)) (ints ys) _ (HWP.out.sl (t := m) (by omega)).2 (HYN.out.trans (ints_len _).symm) (HWP.out.sl (t := m) (by omega)).1 HYP.out.sls.1 (by rw [ints_len]; omega) (by rw [ints_len]; omega)).mono ?_; rintro ee w4 ⟨he3, hb⟩; rw [HBB.out] at he3; subst he3; have HWP4 := Lib.hid (HWP.out.below hb); have HYP4 := Lib.hid (HYP.out.below hb HYP.out.lt); obtain ⟨hzB, hcB, hfB⟩ := bcell hb (by first | (simp only [World.size_setCell]; rfl) | rfl); clear hb) | fail)
                    go_roundw
                    case rel => exact ⟨k + 1, p' m, m'' m, d' m, O.ch m, p', m'', d', by omega, by go_num, rfl, (HWP4.out.sl (t := m) (by omega)).2.trans (ints_len _), HN2.out.symm, HWP4.out.ok m (by omega), by rw [HO1.out]; exact HWP4.out⟩
                    case measure => simp [intOf]; omega
                  | false =>
                    have HN2 : Hid (rendN S m xs (k + 1) = ys) := HST3.out
                    have hL1 := HLM.out; have hL2 := HYN.out; have hlm : ¬ m'' m < n := (by omega); have hdd : decide (m'' m < n) = false := (by simp; omega); have hde : ((m'' m : Int) == (n : Int)) = true := (by simp; omega); clear hL1 hL2
                    go_wp2_with (first | (go_at_call 59; refine (before_any (p' m) b (m'' m) n (d' m) c (ints (O.ch m)) (ints ys) _ (HWP.out.sl (t := m) (by omega)).2 (HYN.out.trans (ints_len _).symm) (HWP.out.sl (t := m) (by omega)).1 HYP.out.sls.1 (by rw [ints_len]; omega) (by rw [ints_len]; omega)).mono ?_; rintro ee w4 ⟨he3, hb⟩; rw [HBB.out] at he3; subst he3; have HWP4 := Lib.hid (HWP.out.below hb); have HYP4 := Lib.hid (HYP.out.below hb HYP.out.lt); obtain ⟨hzB, hcB, hfB⟩ := bcell hb (by first | (simp only [World.size_setCell]; rfl) | rfl); clear hb) | fail)
                    go_roundw
                    case rel => exact ⟨k + 1, b, n, c, ys, p', m'', d', by omega, by go_num, rfl, HYN.out, HN2.out.symm, HYP4.out, by rw [HO1.out]; exact HWP4.out⟩
                    case measure => simp [intOf]; omega
                · have HN2 : Hid (rendN S m xs (k + 1) = ys) := by show _ = _; rw [HST2.out, decide_eq_false (by omega), decide_eq_false (by omega)]; rfl
                  have hL1 := HLM.out; have hL2 := HYN.out; have hlm : ¬ m'' m < n := (by omega); have hdd : decide (m'' m < n) = false := (by simp; omega); have hde : ((m'' m : Int) == (n : Int)) = false := (by simp; omega); clear hL1 hL2
                  go_wp2
                  go_roundw
                  case rel => exact ⟨k + 1, b, n, c, ys, p', m'', d', by omega, by go_num, rfl, HYN.out, HN2.out.symm, HYP.out, by rw [HO1.out]; exact HWP.out⟩
                  case measure => simp [intOf]; omega
          · obtain rfl : k = mm := by omega
            have hlk2 : ¬ (k : Int) < S.modes := by have := HMM.out; omega
            have HN2 : Hid (ys = rendM S (m + 1)) := by show _ = _; rw [rendM, ← HXS.out, HM.out]; exact HYS0.out
            clear hwb
            go_wp2
            go_roundw
            case rel => exact ⟨m + 1, b, n, c, ys, by omega, by go_num, rfl, HYN.out, HN2.out, HYS.out, hbw⟩
            case measure => simp [intOf]; omega
    · obtain rfl : m = mm := by omega
      have hlt2 : ¬ (m : Int) < S.modes := by have := HMM.out; omega
      go_wp2
      go_ret
      exact ⟨.slice b n c, rfl, by rw [rendF, HM.out, ← HXS.out]; exact HCH.out, hB⟩
end Go.Proofs.Ytogjcfcfgnbmkaa
