/- Contracts of reference 04: Accepts, Reached. -/
import Derived.Test.YtogjcfcfgnbmkaaFlaw4
import Derived.Test.YtogjcfcfgnbmkaaMask
namespace Go.Proofs.Ytogjcfcfgnbmkaa
open Go.RowKit
set_option linter.unusedVariables false
set_option linter.unusedSimpArgs false

theorem acc_bit (A : Int) (m : Nat) (h0 : 0 ≤ A) (hA : A ≤ 255) : (bits .and .u8 (A / 2 ^ m) 1 == 1) = A.toNat.testBit m := by
  obtain ⟨n, rfl⟩ := Int.eq_ofNat_of_zero_le h0
  have hd : ((n : Int) / 2 ^ m) = ((n / 2 ^ m : Nat) : Int) := by simp
  have hlt : n / 2 ^ m < 256 := Nat.lt_of_le_of_lt (Nat.div_le_self _ _) (by omega)
  have h1 : bits .and .u8 (((n / 2 ^ m : Nat) : Int)) ((1 : Nat) : Int) = ((n / 2 ^ m &&& 1 : Nat) : Int) := u8_and_nat _ _ hlt (by omega)
  rw [hd, show (1 : Int) = ((1 : Nat) : Int) from rfl, h1, Nat.and_one_is_mod, Int.toNat_natCast, Nat.testBit_eq_decide_div_mod_eq, Bool.eq_iff_iff, beq_iff_eq, decide_eq_true_iff]
  omega
theorem accepts_any (S : Sch) (a : Option Addr) (cap : Nat) (m : Int) (w : World) (h0 : 0 ≤ S.acc) (h1 : S.acc ≤ 255) (hm0 : 0 ≤ m) (hm1 : m < 8) :
    Calls Try.prog 22 #[.agg #[.int .i64 S.modes, .int .u8 S.acc, .slice a S.rules.length cap], .int .i64 m] w fun e w' => e = .returned (.bool (S.acc.toNat.testBit m.toNat)) ∧ Below w.heap.size w w' := by
  go_enter Try.func22, Try.ntmps22
  go_wp2
  go_ret
  refine ⟨ret_bool ?_, by go_grown⟩
  exact acc_bit S.acc m.toNat h0 h1

/-- the []bool v is the mask L of n modes, in a block of its own from B on -/
def MaskAt (w : World) (B : Nat) (v : Value) (n L : Nat) : Prop := ∃ g, v = .slice (some ⟨g, 0, none⟩) n n ∧ B ≤ g ∧ w.heap[g]? = some (.cells ((maskL n L).map Value.bool).toArray 4 (0, 0))
theorem info_bool : (Try.prog.info? 4).map (fun i => (i.zero, i.size, i.bytes)) = some (some (.bool false), 1, 1) := by kernel_rfl
theorem mask_new (n : Nat) : madeCells #[Value.bool false] n = ((maskL n 0).map Value.bool).toArray := by
  apply Array.ext
  · simp [madeCells, maskL]
  · intro i h1 h2
    simp [madeCells, maskL, Nat.mod_one]
theorem mask_cell {w : World} {g n L i : Nat} (h : w.heap[g]? = some (.cells ((maskL n L).map Value.bool).toArray 4 (0, 0))) (hi : i < n) : w.cell? ⟨g, i, none⟩ = some (.bool (L.testBit i)) := by
  rw [cell_of_row w g i _ _ (0, 0) h]
  rw [List.getElem?_toArray, List.getElem?_map, maskL_get hi]; rfl
theorem mask_free {w : World} {g n L i : Nat} (h : w.heap[g]? = some (.cells ((maskL n L).map Value.bool).toArray 4 (0, 0))) : w.frozen? ⟨g, i, none⟩ = false := by simp [World.frozen?, h]
theorem mask_set {w : World} {g n L i : Nat} (h : w.heap[g]? = some (.cells ((maskL n L).map Value.bool).toArray 4 (0, 0))) (hi : i < n) :
    (w.setCell ⟨g, i, none⟩ (.bool true)).heap[g]? = some (.cells ((maskL n (L ||| 2 ^ i)).map Value.bool).toArray 4 (0, 0)) := by
  simp only [World.setCell]
  rw [Array.getElem?_modify, if_pos rfl, h, ← maskL_set hi]
  simp [List.map_set]

theorem mask_start (w : World) (o : Obj) {mm m : Nat} (hm : m < mm) : ((w.alloc o).alloc (.cells (((maskL mm 0).map Value.bool).set m (.bool true)).toArray 4)).heap[w.heap.size + 1]? = some (.cells ((maskL mm (2 ^ m)).map Value.bool).toArray 4 (0, 0)) := by
  have h := heap_alloc_new (w.alloc o) (.cells (((maskL mm 0).map Value.bool).set m (.bool true)).toArray 4)
  have e : ((maskL mm 0).map Value.bool).set m (.bool true) = (maskL mm (2 ^ m)).map Value.bool := by
    have := maskL_set (n := mm) (L := 0) hm
    rw [Nat.zero_or] at this
    rw [← this, List.map_set]
  rw [e] at h ⊢
  simpa using h
theorem below_free {B : Nat} {w W w1 : World} (h : Below B w W) (h2 : Below W.heap.size W w1) (hB : B ≤ W.heap.size) : Below B w w1 := h.trans (h2.mono hB)
set_option maxHeartbeats 1600000 in
theorem rreached_any (S : Sch) (a : Option Addr) (cap : Nat) (m : Nat) (w : World) (hR : RulS w a S.rules) (hS : Fit S) (hm : m < S.modes.toNat) :
    Calls Try.prog 28 #[.agg #[.int .i64 S.modes, .int .u8 S.acc, .slice a S.rules.length cap], .int .i64 (m : Int)] w fun e w' => ∃ v, e = .returned v ∧ MaskAt w' w.heap.size v S.modes.toNat (reachFrom S m) ∧ Below w.heap.size w w' := by
  have hms := fun n (h1 : n ≤ 8) => run_make_row' (P := Try.prog) 56 4 (.bool false) 1 Try.underlying56 info_bool rfl .i64 .i64 n (by omega) (by omega)
  have HR := Lib.hid hR; have HS := Lib.hid hS
  obtain ⟨m0, m1, -, -, hlen, -⟩ := hS
  clear hR
  obtain ⟨mm, hmm⟩ := Int.eq_ofNat_of_zero_le (show 0 ≤ S.modes by omega)
  have HM : Hid (S.modes.toNat = mm) := by show _ = _; omega
  have HMM := Lib.hid hmm
  rw [HM.out] at hm
  have hm8 : mm ≤ 8 := by omega
  have hmk : ∀ W, (Instr.makeSlice 56 (.int .i64 S.modes) (.int .i64 S.modes)).run Try.prog W = .ok (.slice (some ⟨W.heap.size, 0, none⟩) mm mm) (W.alloc (.cells ((maskL mm 0).map Value.bool).toArray 4)) := fun W => by
    have := hms mm hm8 W
    rw [hmm, ← mask_new]; exact this
  have hmI : (m : Int) < (mm : Int) := by omega
  clear hms hmm
  go_enter Try.func28, Try.ntmps28
  go_upto_region 2 with fail
  have hg0 : (((w.alloc (.cells #[.int .i64 S.modes, .int .u8 S.acc, .slice a S.rules.length cap] 33)).alloc (.cells ((maskL mm 0).map Value.bool).toArray 4))).heap[w.heap.size + 1]? = some (.cells ((maskL mm 0).map Value.bool).toArray 4 (0, 0)) := by
    have := heap_alloc_new (w.alloc (.cells #[.int .i64 S.modes, .int .u8 S.acc, .slice a S.rules.length cap] 33)) (.cells ((maskL mm 0).map Value.bool).toArray 4)
    simpa using this
  have hq := mask_cell hg0 hm; have hqf := mask_free (i := m) hg0
  have HG1 := Lib.hid (mask_set hg0 hm)
  clear hg0 hmk
  go_wp2
  clear hq hqf
  go_loopw [6] (fun j wr => ∃ k : Nat, k ≤ mm ∧ j = .int .i64 k ∧ wr.heap[w.heap.size + 1]? = some (.cells ((maskL mm (iterN (fun L => S.eds.foldl stepR L) k (2 ^ m))).map Value.bool).toArray 4 (0, 0)) ∧ Below (w.heap.size + 1) (w.alloc (.cells #[.int .i64 S.modes, .int .u8 S.acc, .slice a S.rules.length cap] 33)) wr) (fun j _ => mm - (intOf j).toNat)
  case atStart => exact ⟨0, by omega, rfl, mask_start w _ hm, by go_grown⟩
  case round =>
    obtain ⟨k, hk, rfl, hgk, hal⟩ := hrel
    obtain ⟨wo, rfl⟩ : ∃ wo : World, wo = wr := ⟨_, rfl⟩
    obtain ⟨L, hL⟩ : ∃ L, iterN (fun L => S.eds.foldl stepR L) k (2 ^ m) = L := ⟨_, rfl⟩
    rw [hL] at hgk
    have HL := Lib.hid hL; have HGK := Lib.hid hgk; clear hL hgk
    have hB : Below w.heap.size w wo := ((Below.refl _ _).alloc (Nat.le_refl _) _).trans (hal.mono (by omega))
    obtain ⟨hz, hc, hf⟩ := bcellB hal rfl
    simp only [World.size_alloc] at hz
    have hkm : Hid ((mm : Int) = S.modes) := by show _ = _; have := HMM.out; omega
    by_cases hlt : k < mm
    · have hlt2 : (k : Int) < S.modes := by have := HMM.out; omega
      go_wp2
      go_loopw [7] (fun j wr => ∃ i : Nat, i ≤ S.rules.length ∧ j = .int .i64 i ∧ wr.heap[w.heap.size + 1]? = some (.cells ((maskL mm ((S.eds.take i).foldl stepR L)).map Value.bool).toArray 4 (0, 0)) ∧ Below (w.heap.size + 1) (w.alloc (.cells #[.int .i64 S.modes, .int .u8 S.acc, .slice a S.rules.length cap] 33)) wr) (fun j _ => S.rules.length - (intOf j).toNat)
      case atStart => exact ⟨0, by omega, rfl, HGK.out, hal⟩
      case round =>
        clear hc hf hz hB hal
        obtain ⟨i, hi, rfl, hgi, hal⟩ := hrel
        obtain ⟨Q, hQ⟩ : ∃ Q, (S.eds.take i).foldl stepR L = Q := ⟨_, rfl⟩
        rw [hQ] at hgi
        have HQ := Lib.hid hQ; clear hQ
        have hB : Below w.heap.size w wr := ((Below.refl _ _).alloc (Nat.le_refl _) _).trans (hal.mono (by omega))
        obtain ⟨hz, hc, hf⟩ := bcellB hal rfl
        simp only [World.size_alloc] at hz
        by_cases hli : i < S.rules.length
        · obtain ⟨b, o, ha, hb, q0, q1, q2, q3, q4⟩ := (HR.out.later hB (Nat.le_refl _)).at hli
          have hidx := idx_rules a b o S.rules.length cap i ha hli
          have HAd := Lib.hid ha; clear ha
          obtain ⟨f0, f1, t0, t1⟩ := HS.out.at0 i hli
          have f2 : S.rules[i].frm < (mm : Int) := by have := HMM.out; omega
          have t2 : S.rules[i].dst < (mm : Int) := by have := HMM.out; omega
          have HE : Hid ((S.eds.take (i + 1)).foldl stepR L = stepR Q S.rules[i].ed) := by
            show _ = _
            rw [fold_snoc (by rw [eds_len]; exact hli), eds_at S i hli, HQ.out]
          have hqf := mask_cell hgi (i := S.rules[i].frm.toNat) (by omega)
          have hqt := mask_cell hgi (i := S.rules[i].dst.toNat) (by omega)
          have hqz := mask_free (i := S.rules[i].dst.toNat) hgi
          have HG2 := Lib.hid (mask_set hgi (i := S.rules[i].dst.toNat) (by omega))
          have HG := Lib.hid hgi; clear hgi
          by_cases htb : Q.testBit S.rules[i].frm.toNat = true
          · have HSt : Hid (stepR Q S.rules[i].ed = Q ||| 2 ^ S.rules[i].dst.toNat) := by show _ = _; unfold stepR; rw [if_pos (by exact htb)]; rfl
            rw [htb] at hqf
            clear htb
            go_wp2
            go_roundw
            case rel => exact ⟨i + 1, by omega, by go_num, by rw [HE.out, HSt.out]; exact HG2.out, hal.setCell (by simp) _⟩
            case measure => simp [intOf]; omega
          · have htb' : Q.testBit S.rules[i].frm.toNat = false := by simpa using htb
            have HSt : Hid (stepR Q S.rules[i].ed = Q) := by show _ = _; unfold stepR; rw [if_neg (by exact htb)]
            rw [htb'] at hqf
            clear htb htb'
            go_wp2
            go_roundw
            case rel => exact ⟨i + 1, by omega, by go_num, by rw [HE.out, HSt.out]; exact HG.out, hal⟩
            case measure => simp [intOf]; omega
        · obtain rfl : i = S.rules.length := by omega
          have HF : Hid (S.eds.take S.rules.length = S.eds) := List.take_of_length_le (by rw [eds_len]; exact Nat.le_refl _)
          have HG := Lib.hid hgi; clear hgi
          go_wp2
          go_roundw
          case rel => exact ⟨k + 1, by omega, by go_num, by have := HQ.out; rw [HF.out] at this; show _ = some (Obj.cells ((maskL mm (S.eds.foldl stepR (iterN (fun L => S.eds.foldl stepR L) k (2 ^ m)))).map Value.bool).toArray _ _); rw [HL.out, this]; exact HG.out, hal⟩
          case measure => simp [intOf]; omega
    · obtain rfl : k = mm := by omega
      have hlt2 : ¬ (k : Int) < S.modes := by have := HMM.out; omega
      go_wp2
      go_ret
      exact ⟨.slice (some ⟨w.heap.size + 1, 0, none⟩) k k, rfl, ⟨w.heap.size + 1, by rw [HM.out], by omega, by rw [reachFrom, HM.out, HL.out]; exact HGK.out⟩, hB⟩
/-! ### rows of bools of any kind -/
def maskF (n : Nat) (f : Nat → Bool) : List Bool := (List.range n).map f
theorem maskF_len (n : Nat) (f : Nat → Bool) : (maskF n f).length = n := by simp [maskF]
theorem maskF_get {n i : Nat} {f : Nat → Bool} (h : i < n) : (maskF n f)[i]? = some (f i) := by
  rw [maskF, List.getElem?_map, List.getElem?_range h]; rfl
theorem maskF_set {n t : Nat} {f : Nat → Bool} {b : Bool} : (maskF n f).set t b = maskF n (fun j => if j = t then b else f j) := by
  apply List.ext_getElem?
  intro i
  rw [List.getElem?_set]
  by_cases hi : i < n
  · rw [maskF_get hi, maskF_get hi, maskF_len]
    by_cases e : t = i
    · subst e; simp [hi]
    · rw [if_neg e, if_neg (fun h => e h.symm)]
  · have h1 : (maskF n f)[i]? = none := by rw [List.getElem?_eq_none]; rw [maskF_len]; omega
    have h2 : (maskF n (fun j => if j = t then b else f j))[i]? = none := by rw [List.getElem?_eq_none]; rw [maskF_len]; omega
    rw [h1, h2, maskF_len]
    split
    · rw [if_neg (by omega)]
    · rfl
theorem maskF_congr {n : Nat} {f g : Nat → Bool} (h : ∀ i, i < n → f i = g i) : maskF n f = maskF n g := by
  unfold maskF
  exact List.map_congr_left fun i hi => h i (by simpa using hi)
def BoolRow (w : World) (g n : Nat) (f : Nat → Bool) : Prop := w.heap[g]? = some (.cells ((maskF n f).map Value.bool).toArray 4 (0, 0))
theorem BoolRow.cell {w : World} {g n i : Nat} {f : Nat → Bool} (h : BoolRow w g n f) (hi : i < n) : w.cell? ⟨g, i, none⟩ = some (.bool (f i)) := by
  rw [cell_of_row w g i _ _ (0, 0) h]
  rw [List.getElem?_toArray, List.getElem?_map, maskF_get hi]; rfl
theorem BoolRow.free {w : World} {g n i : Nat} {f : Nat → Bool} (h : BoolRow w g n f) : w.frozen? ⟨g, i, none⟩ = false := by unfold BoolRow at h; simp [World.frozen?, h]
theorem BoolRow.set {w : World} {g n i : Nat} {f : Nat → Bool} {b : Bool} (h : BoolRow w g n f) : BoolRow (w.setCell ⟨g, i, none⟩ (.bool b)) g n (fun j => if j = i then b else f j) := by
  unfold BoolRow at h ⊢
  simp only [World.setCell]
  rw [Array.getElem?_modify, if_pos rfl, h, ← maskF_set]
  simp [List.map_set]
theorem BoolRow.below {w w1 : World} {g n B : Nat} {f : Nat → Bool} (h : BoolRow w g n f) (hb : Below B w w1) (hg : g < B) : BoolRow w1 g n f := (hb.block g hg).trans h
theorem BoolRow.lt {w : World} {g n : Nat} {f : Nat → Bool} (h : BoolRow w g n f) : g < w.heap.size := (Array.getElem?_eq_some_iff.1 h).1

def anyTo (S : Sch) (m k : Nat) : Bool := (List.range k).any (fun k => (reachFrom S m).testBit k && S.acc.toNat.testBit k)
theorem anyTo_succ (S : Sch) (m k : Nat) : anyTo S m (k + 1) = (anyTo S m k || ((reachFrom S m).testBit k && S.acc.toNat.testBit k)) := by
  unfold anyTo; rw [List.range_succ, List.any_append]; simp
/-- Live's row when m modes are done, and k modes looked at for the next one -/
def liveRow (S : Sch) (m k : Nat) (j : Nat) : Bool := if j = m then anyTo S m k else (decide (j < m) && (liveS S).testBit j)
theorem liveRow_zero (S : Sch) (m : Nat) : liveRow S m 0 = fun j => decide (j < m) && (liveS S).testBit j := by
  funext j
  unfold liveRow
  split
  · rename_i h; subst h; simp [anyTo]
  · rfl
theorem liveRow_set (S : Sch) (m k : Nat) : (fun j => if j = m then anyTo S m (k + 1) else liveRow S m k j) = liveRow S m (k + 1) := by
  funext j; unfold liveRow; split <;> rfl
theorem liveRow_next {S : Sch} (hS : Fit S) {m : Nat} (hm : m < S.modes.toNat) : maskF S.modes.toNat (liveRow S m S.modes.toNat) = maskF S.modes.toNat (liveRow S (m + 1) 0) := by
  refine maskF_congr fun i hi => ?_
  rw [liveRow_zero]
  show _ = (decide (i < m + 1) && (liveS S).testBit i)
  unfold liveRow
  split
  · rename_i h; subst h
    rw [decide_eq_true (by omega), Bool.true_and, live_ref hS hm]; rfl
  · rename_i h
    by_cases h2 : i < m
    · rw [decide_eq_true h2, decide_eq_true (by omega)]
    · rw [decide_eq_false h2, decide_eq_false (by omega)]
theorem boolRow_new (w : World) (o : Obj) (n : Nat) : BoolRow ((w.alloc o).alloc (.cells ((maskL n 0).map Value.bool).toArray 4)) (w.heap.size + 1) n (fun _ => false) := by
  unfold BoolRow
  have h := heap_alloc_new (w.alloc o) (.cells ((maskL n 0).map Value.bool).toArray 4)
  have e : maskL n 0 = maskF n (fun _ => false) := by unfold maskL maskF; exact List.map_congr_left fun i _ => by simp
  rw [e] at h ⊢
  simpa using h

set_option maxHeartbeats 1600000 in
theorem rlive_any (S : Sch) (a : Option Addr) (cap : Nat) (w : World) (hR : RulS w a S.rules) (hS : Fit S) :
    Calls Try.prog 25 #[.agg #[.int .i64 S.modes, .int .u8 S.acc, .slice a S.rules.length cap]] w fun e w' => ∃ v, e = .returned v ∧ MaskAt w' w.heap.size v S.modes.toNat (liveS S) ∧ Below w.heap.size w w' := by
  have hms := fun n (h1 : n ≤ 8) => run_make_row' (P := Try.prog) 56 4 (.bool false) 1 Try.underlying56 info_bool rfl .i64 .i64 n (by omega) (by omega)
  have HR := Lib.hid hR; have HS := Lib.hid hS
  obtain ⟨m0, m1, h0, h1, hlen, -⟩ := hS
  clear hR
  obtain ⟨mm, hmm⟩ := Int.eq_ofNat_of_zero_le (show 0 ≤ S.modes by omega)
  have HM : Hid (S.modes.toNat = mm) := by show _ = _; omega
  have HMM := Lib.hid hmm
  have hm8 : mm ≤ 8 := by omega
  have hmk : ∀ W, (Instr.makeSlice 56 (.int .i64 S.modes) (.int .i64 S.modes)).run Try.prog W = .ok (.slice (some ⟨W.heap.size, 0, none⟩) mm mm) (W.alloc (.cells ((maskL mm 0).map Value.bool).toArray 4)) := fun W => by
    have := hms mm hm8 W
    rw [hmm, ← mask_new]; exact this
  clear hms hmm
  go_enter Try.func25, Try.ntmps25
  go_wp2
  have HG0 := Lib.hid (boolRow_new w (.cells #[.int .i64 S.modes, .int .u8 S.acc, .slice a S.rules.length cap] 33) mm)
  clear hmk
  go_loopw [4] (fun j wr => ∃ m : Nat, m ≤ mm ∧ j = .int .i64 m ∧ BoolRow wr (w.heap.size + 1) mm (liveRow S m 0) ∧ Below (w.heap.size + 1) (w.alloc (.cells #[.int .i64 S.modes, .int .u8 S.acc, .slice a S.rules.length cap] 33)) wr) (fun j _ => mm - (intOf j).toNat)
  case atStart => exact ⟨0, by omega, rfl, by rw [liveRow_zero]; have := HG0.out; unfold BoolRow at this ⊢; rw [this]; simp, by go_grown⟩
  case round =>
    obtain ⟨m, hk, rfl, hgm, hal⟩ := hrel
    have HGM := Lib.hid hgm; clear hgm
    have hB : Below w.heap.size w wr := ((Below.refl _ _).alloc (Nat.le_refl _) _).trans (hal.mono (by omega))
    obtain ⟨hz, hc, hf⟩ := bcellB hal rfl
    simp only [World.size_alloc] at hz
    by_cases hlt : m < mm
    · have hlt2 : (m : Int) < S.modes := by have := HMM.out; omega
      go_wp2_with (first | (go_at_call 28; refine (rreached_any S a cap m _ (HR.out.later (by first | exact hB | go_grown) (Nat.le_refl _)) HS.out (by have := HM.out; omega)).mono ?_; rintro e w1 ⟨v, rfl, ⟨g2, hv, hg2, hmask⟩, hb⟩; rw [HM.out] at hv; subst hv; have HMK : Hid (BoolRow w1 g2 mm (reachFrom S m).testBit) := (by (have h := hmask; rw [HM.out] at h; exact h)); have HGM1 := Lib.hid (HGM.out.below hb HGM.out.lt); have hg2' : w.heap.size + 1 < g2 := (by have := HGM.out.lt; omega); have hal1 := hal.trans (hb.mono (by have := hal.size; simp only [World.size_alloc] at this; omega)); clear hmask hal; obtain ⟨hz, hc, hf⟩ := bcell hb (by first | (simp only [World.size_alloc, World.size_setCell, World.size_drew]; rfl) | rfl); have hB := below_call (B := w.heap.size) (w := w) (by go_grown) hb (Nat.le_refl _); clear hb) | fail)
      clear hz hc hf hB
      go_loopw [6] (fun j wr => ∃ k : Nat, k ≤ mm ∧ j = .int .i64 k ∧ BoolRow wr (w.heap.size + 1) mm (liveRow S m k) ∧ BoolRow wr g2 mm (reachFrom S m).testBit ∧ Below (w.heap.size + 1) (w.alloc (.cells #[.int .i64 S.modes, .int .u8 S.acc, .slice a S.rules.length cap] 33)) wr) (fun j _ => mm - (intOf j).toNat)
      case atStart => exact ⟨0, by omega, rfl, HGM1.out, HMK.out, hal1⟩
      case round =>
        clear hal1
        clear HGM HGM1 HMK
        obtain ⟨k, hk, rfl, hgm, hmk, hal⟩ := hrel
        have hB : Below w.heap.size w wr := ((Below.refl _ _).alloc (Nat.le_refl _) _).trans (hal.mono (by omega))
        obtain ⟨hz, hc, hf⟩ := bcellB hal rfl
        simp only [World.size_alloc] at hz
        by_cases hlk : k < mm
        · have hlk2 : (k : Int) < S.modes := by have := HMM.out; omega
          have q1 := hgm.cell hlt
          have q2 := hmk.cell hlk
          have q3 := hgm.free (i := m)
          have HX : Hid (anyTo S m (k + 1) = (liveRow S m k m || ((reachFrom S m).testBit k && S.acc.toNat.testBit k))) := by show _ = _; rw [anyTo_succ, liveRow, if_pos rfl]
          obtain ⟨o1, ho1⟩ : ∃ o, liveRow S m k m = o := ⟨_, rfl⟩
          obtain ⟨o2, ho2⟩ : ∃ o, (reachFrom S m).testBit k = o := ⟨_, rfl⟩
          obtain ⟨o3, ho3⟩ : ∃ o, S.acc.toNat.testBit k = o := ⟨_, rfl⟩
          rw [ho1] at q1
          rw [ho2] at q2
          have HX2 : Hid (anyTo S m (k + 1) = (o1 || (o2 && o3))) := by show _ = _; rw [HX.out, ho1, ho2, ho3]
          have HO3 := Lib.hid ho3
          have HGM := Lib.hid hgm; have HMK := Lib.hid hmk
          have hset : ∀ W, BoolRow W (w.heap.size + 1) mm (liveRow S m k) → BoolRow (W.setCell ⟨w.heap.size + 1, m, none⟩ (.bool (o1 || (o2 && o3)))) (w.heap.size + 1) mm (liveRow S m (k + 1)) := fun W h => by
            have := h.set (i := m) (b := o1 || (o2 && o3))
            rw [← liveRow_set, HX2.out]; exact this
          have hoth : ∀ W b, BoolRow W g2 mm (reachFrom S m).testBit → BoolRow (W.setCell ⟨w.heap.size + 1, m, none⟩ (.bool b)) g2 mm (reachFrom S m).testBit := fun W b h => by
            unfold BoolRow at h ⊢
            rw [Below.heap_setCell _ _ _ _ (by show g2 ≠ w.heap.size + 1; omega)]; exact h
          have HSET := Lib.hid hset; have HOTH := Lib.hid hoth
          have hmI : (m : Int) < (mm : Int) := by omega
          have hkI : (k : Int) < (mm : Int) := by omega
          clear ho1 ho2 ho3 hgm hmk HX hset hoth
          cases o1 with
          | true =>
            go_wp2
            go_roundw
            case rel => exact ⟨k + 1, by omega, by go_num, HSET.out _ HGM.out, HOTH.out _ _ HMK.out, hal.setCell (by simp) _⟩
            case measure => simp [intOf]; omega
          | false =>
            cases o2 with
            | false =>
              go_wp2
              go_roundw
              case rel => exact ⟨k + 1, by omega, by go_num, HSET.out _ HGM.out, HOTH.out _ _ HMK.out, hal.setCell (by simp) _⟩
              case measure => simp [intOf]; omega
            | true =>
              go_wp2_with (first | (go_at_call 22; refine (accepts_any S a cap (k : Int) _ h0 h1 (by omega) (by omega)).mono ?_; rintro e w1 ⟨he, hb⟩; rw [Int.toNat_natCast, HO3.out] at he; subst he; have HGM1 := Lib.hid (HGM.out.below hb HGM.out.lt); have HMK1 := Lib.hid (HMK.out.below hb HMK.out.lt); have q4 := HGM1.out.cell hlt; have q5 := HGM1.out.free (i := m); have hal1 := hal.trans (hb.mono (by have := hal.size; simp only [World.size_alloc] at this; omega)); obtain ⟨hz, hc, hf⟩ := bcell hb (by first | (simp only [World.size_alloc, World.size_setCell, World.size_drew]; rfl) | rfl); have hB := below_call (B := w.heap.size) (w := w) (by go_grown) hb (Nat.le_refl _); clear hb) | fail)
              go_roundw
              case rel => exact ⟨k + 1, by omega, by go_num, HSET.out _ HGM1.out, HOTH.out _ _ HMK1.out, hal1.setCell (by simp) _⟩
              case measure => simp [intOf]; omega
        · obtain rfl : k = mm := by omega
          have hlk2 : ¬ (k : Int) < S.modes := by have := HMM.out; omega
          have HN : Hid (BoolRow wr (w.heap.size + 1) k (liveRow S (m + 1) 0)) := by
            have h := hgm
            unfold BoolRow at h
            show BoolRow _ _ _ _
            unfold BoolRow
            have e := liveRow_next HS.out (m := m) (by have := HM.out; omega)
            rw [HM.out] at e
            rw [h, e]
          clear hgm hmk
          go_wp2
          go_roundw
          case rel => exact ⟨m + 1, by omega, by go_num, HN.out, hal⟩
          case measure => simp [intOf]; omega
    · obtain rfl : m = mm := by omega
      have hlt2 : ¬ (m : Int) < S.modes := by have := HMM.out; omega
      go_wp2
      go_ret
      refine ⟨.slice (some ⟨w.heap.size + 1, 0, none⟩) m m, rfl, ⟨w.heap.size + 1, by rw [HM.out], by omega, ?_⟩, hB⟩
      have h := HGM.out
      unfold BoolRow at h
      rw [h, HM.out, liveRow_zero]
      have : maskF m (fun j => decide (j < m) && (liveS S).testBit j) = maskL m (liveS S) := maskF_congr fun i hi => by rw [decide_eq_true hi, Bool.true_and]
      rw [this]

end Go.Proofs.Ytogjcfcfgnbmkaa
