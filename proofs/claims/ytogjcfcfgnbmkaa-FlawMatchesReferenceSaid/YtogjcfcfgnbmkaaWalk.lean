/- Contract of the law's walk: the chain that numbers choose. -/
import Derived.Test.YtogjcfcfgnbmkaaNext
namespace Go.Proofs.Ytogjcfcfgnbmkaa
open Go.RowKit
set_option linter.unusedVariables false
set_option linter.unusedSimpArgs false

/-- the rules that leave a mode -/
def canF (R : List Rl) (f : Int) : Nat → List Nat
  | 0 => []
  | k + 1 => if h : k < R.length then if R[k].frm = f then canF R f k ++ [k] else canF R f k else canF R f k
theorem canF_len (R : List Rl) (f : Int) : ∀ k, (canF R f k).length ≤ k
  | 0 => Nat.le_refl _
  | k + 1 => by
    have := canF_len R f k
    simp only [canF]
    split
    · split
      · simp; omega
      · omega
    · omega
theorem canF_mem (R : List Rl) (f : Int) : ∀ k x, x ∈ canF R f k → ∃ h : x < R.length, x < k ∧ R[x].frm = f
  | 0, x, h => by simp [canF] at h
  | k + 1, x, h => by
    simp only [canF] at h
    split at h
    · rename_i hk
      split at h
      · rename_i he
        rcases List.mem_append.1 h with h | h
        · obtain ⟨h1, h2, h3⟩ := canF_mem R f k x h; exact ⟨h1, by omega, h3⟩
        · obtain rfl : x = k := by simpa using h
          exact ⟨hk, by omega, he⟩
      · obtain ⟨h1, h2, h3⟩ := canF_mem R f k x h; exact ⟨h1, by omega, h3⟩
    · obtain ⟨h1, h2, h3⟩ := canF_mem R f k x h; exact ⟨h1, by omega, h3⟩
def pickF (c : List Nat) (x : Int) : Nat := c.getD (x.toNat % c.length) 0
def walkF (R : List Rl) : Int → List Int → List Nat
  | _, [] => []
  | f, x :: xs => if canF R f R.length = [] then [] else pickF (canF R f R.length) x :: walkF R (R.getD (pickF (canF R f R.length) x) ⟨0, 0, ⟨#[]⟩, ⟨#[]⟩, 0⟩).dst xs
/-- what a walk is told of a slice of bytes that came in -/
def IsBytes (w : World) (a : Option Addr) (len : Nat) (Z : Nat → Int) : Prop :=
  len = 0 ∨ ∃ b o, a = some ⟨b, o, none⟩ ∧ len ≤ 9223372036854775807 ∧ b < w.heap.size ∧ ∀ i, i < len → w.cell? ⟨b, o + i, none⟩ = some (.int .u8 (Z i)) ∧ 0 ≤ Z i ∧ Z i ≤ 255
theorem IsBytes.later {w w1 : World} {a : Option Addr} {len : Nat} {Z : Nat → Int} {B : Nat} (h : IsBytes w a len Z) (hb : Below B w w1) (hB : w.heap.size ≤ B) : IsBytes w1 a len Z := by
  rcases h with h | ⟨b, o, ha, hl, hlt, hr⟩
  · exact .inl h
  · exact .inr ⟨b, o, ha, hl, Nat.lt_of_lt_of_le hlt hb.size, fun i hi => ⟨(hb.cell (p := ⟨b, _, none⟩) (Nat.lt_of_lt_of_le hlt hB)).trans (hr i hi).1, (hr i hi).2⟩⟩
theorem IsBytes.at {w : World} {a : Option Addr} {len : Nat} {Z : Nat → Int} (h : IsBytes w a len Z) {k : Nat} (hk : k < len) : ∃ b o, a = some ⟨b, o, none⟩ ∧ b < w.heap.size ∧ w.cell? ⟨b, o + k, none⟩ = some (.int .u8 (Z k)) ∧ 0 ≤ Z k ∧ Z k ≤ 255 := by
  rcases h with h | ⟨b, o, ha, hl, hlt, hr⟩
  · omega
  · exact ⟨b, o, ha, hlt, hr k hk⟩
theorem idx_bytes (a : Option Addr) (b o len cap k : Nat) (ha : a = some ⟨b, o, none⟩) (hk : k < len) (w : World) :
    (Instr.indexAt 49 (.slice a len cap) (.int .i64 (k : Int))).run Try.prog w = .ok (.pointer (some ⟨b, o + k, none⟩)) w := by
  subst ha
  have h0 : (0 : Int) ≤ (k : Int) := by omega
  have h1 : (k : Int) < (len : Int) := by omega
  simp [go_sem, h0, h1]
/-- the numbers, at most ten -/
def numsF (Z : Nat → Int) (len : Nat) : List Int := (List.range (min len 10)).map Z
theorem numsF_drop (Z : Nat → Int) (len j : Nat) (h : j < len) (h10 : j < 10) : (numsF Z len).drop j = Z j :: (numsF Z len).drop (j + 1) := by
  have hl : j < (numsF Z len).length := by simp [numsF]; omega
  rw [List.drop_eq_getElem_cons hl]
  simp [numsF]
theorem numsF_end (Z : Nat → Int) (len j : Nat) (h : ¬ (j < len ∧ j < 10)) : (numsF Z len).drop j = [] := by
  apply List.drop_eq_nil_of_le; simp [numsF]; omega
theorem walkF_len (R : List Rl) : ∀ f xs, (walkF R f xs).length ≤ xs.length
  | _, [] => Nat.le_refl _
  | f, x :: xs => by
    rw [walkF]; split
    · simp
    · exact Nat.succ_le_succ (walkF_len R _ xs)
/-- a new empty list -/
theorem ch_new (w : World) (B : Nat) (hB : B ≤ w.heap.size) : Ch (w.alloc (.cells #[] 3)) B (.slice (some ⟨w.heap.size, 0, none⟩) 0 0) [] := World.ownsRow_made w #[] 0 hB (by decide) rfl

set_option maxHeartbeats 3200000 in
set_option maxRecDepth 100000 in
theorem walk_any (S : Sch) (a : Option Addr) (cap : Nat) (f0 : Int) (al : Option Addr) (len cl : Nat) (Z : Nat → Int) (w : World) (hR : RulS w a S.rules) (hl : S.rules.length ≤ 64) (hZ : IsBytes w al len Z) (hlen : len ≤ 9223372036854775807) :
    Calls Try.prog 20 #[.agg #[.int .i64 S.modes, .int .u8 S.acc, .slice a S.rules.length cap], .int .i64 f0, .slice al len cl] w fun e w' => ∃ v, e = .returned v ∧ Ch w' w.heap.size v (walkF S.rules f0 (numsF Z len)) ∧ Below w.heap.size w w' := by
  have HR := Lib.hid hR; have HZ := Lib.hid hZ; clear hR hZ
  obtain ⟨i0, hi, iz0, iz1, iz2⟩ := info_parts info_int
  go_enter Try.func20, Try.ntmps20
  go_wp2
  go_loopw [1, 7, 8] (fun f v i wr => ∃ (j : Nat) (fr : Int) (done : List Nat) (b : Option Addr) (n c : Nat), j ≤ len ∧ j ≤ 10 ∧ i = .int .i64 j ∧ f = .int .i64 fr ∧ v = .slice b n c ∧ n = j ∧ done.length = j ∧ walkF S.rules f0 (numsF Z len) = done ++ walkF S.rules fr ((numsF Z len).drop j) ∧ Ch wr (w.heap.size + 1) (.slice b n c) done ∧ Below (w.heap.size + 1) (w.alloc (.cells #[.int .i64 S.modes, .int .u8 S.acc, .slice a S.rules.length cap] 33)) wr) (fun _ _ i _ => len - (intOf i).toNat)
  case atStart => exact ⟨0, f0, [], some ⟨w.heap.size + 1, 0, none⟩, 0, 0, by omega, by omega, rfl, rfl, rfl, rfl, rfl, by simp, (by have := ch_new (w.alloc (.cells #[.int .i64 S.modes, .int .u8 S.acc, .slice a S.rules.length cap] 33)) (w.heap.size + 1) (by simp); simpa using this), by go_grown⟩
  case round =>
    obtain ⟨j, fr, done, b, n, c, hj, hj10, rfl, rfl, rfl, hn, hd, hw, hch, hal⟩ := hrel
    have HW := Lib.hid hw; have HCH := Lib.hid hch; have HD := Lib.hid hd; have HN := Lib.hid hn
    have hB : Below w.heap.size w wr := ((Below.refl _ _).alloc (Nat.le_refl _) _).trans (hal.mono (by omega))
    obtain ⟨hz, hc, hf⟩ := bcellB hal rfl
    simp only [World.size_alloc] at hz
    have HB := Lib.hid hB; have HAL := Lib.hid hal
    clear hw hch hd hn hB hal
    by_cases hjl : j < len
    · by_cases hj2 : j < 10
      · have hj2I : (j : Int) < 10 := by omega
        have HNX := Lib.hid (numsF_drop Z len j hjl hj2)
        obtain ⟨bz, oz, hza, hzb, hzc, hz0', hz1'⟩ := (HZ.out.later HB.out (Nat.le_refl _)).at hjl
        have hidz := idx_bytes al bz oz len cl j hza hjl
        have HZA := Lib.hid hza; clear hza
        go_wp2_with fail
        obtain ⟨wo, rfl⟩ : ∃ wo : World, wo = wr := ⟨_, rfl⟩
        have HCN := Lib.hid (ch_new wo wo.heap.size (Nat.le_refl _))
        clear hc hf
        go_loopw [9, 10] (fun v i wi => ∃ (k : Nat) (bc : Option Addr) (nc cc : Nat), k ≤ S.rules.length ∧ i = .int .i64 k ∧ v = .slice bc nc cc ∧ nc = (canF S.rules fr k).length ∧ Ch wi wo.heap.size (.slice bc nc cc) (canF S.rules fr k) ∧ Below wo.heap.size wo wi) (fun _ i _ => S.rules.length - (intOf i).toNat)
        case atStart => exact ⟨0, some ⟨wo.heap.size, 0, none⟩, 0, 0, by omega, rfl, rfl, rfl, HCN.out, by go_grown⟩
        case round =>
          obtain ⟨k, bc, nc, cc, hk, rfl, rfl, hnc, hci, hbi⟩ := hrel
          have HNC := Lib.hid hnc; have HCI := Lib.hid hci; have HBI := Lib.hid hbi
          have hB2 := HB.out.trans (hbi.mono HB.out.size)
          have hal2 := HAL.out.trans (hbi.mono hz)
          obtain ⟨hz2, hc, hf⟩ := bcellB hal2 rfl
          simp only [World.size_alloc] at hz2
          have HB2 := Lib.hid hB2; have HAL2 := Lib.hid hal2
          clear hnc hci hbi hB2 hal2
          by_cases hkl : k < S.rules.length
          · obtain ⟨br, orr, hra, hrb, q0, q1, q2, q3, q4⟩ := (HR.out.later HB2.out (Nat.le_refl _)).at hkl
            have hidx := idx_rules a br orr S.rules.length cap k hra hkl
            have HRA := Lib.hid hra; clear hra q1 q2 q3 q4
            by_cases he : S.rules[k].frm = fr
            · have hq : (S.rules[k].frm == fr) = true := by simp [he]
              have HK : Hid (canF S.rules fr (k + 1) = canF S.rules fr k ++ [k]) := by show _ = _; rw [canF, dif_pos hkl, if_pos he]
              have HL1 : Hid ((canF S.rules fr k).length + 1 ≤ 100) := by have := canF_len S.rules fr k; show _ ≤ _; omega
              clear he
              go_wp2_with (first
                | (at_builtin; refine wpList_append_own _ rfl _ _ 38 rfl wo.heap.size 3 i0 (.int .i64 0) 1 8 Try.underlying38 hi iz0 iz1 iz2 rfl (by decide) (.slice bc nc cc) (canF S.rules fr k).length (nats (canF S.rules fr k)) rfl (World.ownsRow.alloc HCI.out _) ⟨wr.heap.size, 0, none⟩ 1 1 [.int .i64 (k : Int)] rfl rfl (cell_one_new _ _ _) (by simp [Value.oneCell']) (by have := HL1.out; unfold maxLen; omega) (by have := HL1.out; omega) (by have := HBI.out.size; simp only [World.size_alloc]; omega) ?_; intro v5 w5 hown5 hgrow5 _; have HC5 := Lib.hid (ch_snoc hown5); obtain ⟨a5, n5, c5, hv5⟩ := HC5.out.form; subst hv5; have HB5 : Hid (Below wo.heap.size wo w5) := (HBI.out.alloc HBI.out.size _).grown hgrow5 (by have := HBI.out.size; simp only [World.size_alloc]; omega) (fun q hq => HCI.out.ge q hq); clear hown5 hgrow5)
                | fail)
              go_roundw
              case rel => exact ⟨k + 1, a5, n5, c5, by omega, by go_num, rfl, by rw [HK.out]; exact HC5.out.sls.2, by rw [HK.out]; exact HC5.out, HB5.out⟩
              case measure => simp [intOf]; omega
            · have hq : (S.rules[k].frm == fr) = false := by simp [he]
              have HK : Hid (canF S.rules fr (k + 1) = canF S.rules fr k) := by show _ = _; rw [canF, dif_pos hkl, if_neg he]
              clear he
              go_wp2_with fail
              go_roundw
              case rel => exact ⟨k + 1, bc, nc, cc, by omega, by go_num, rfl, by rw [HK.out]; exact HNC.out, by rw [HK.out]; exact HCI.out, HBI.out⟩
              case measure => simp [intOf]; omega
          · obtain rfl : k = S.rules.length := by omega
            have hB := HB2.out
            by_cases h0 : nc = 0
            · have hn0 : ((nc : Int) == 0) = true := by simp [h0]
              have HE : Hid (canF S.rules fr S.rules.length = []) := List.eq_nil_of_length_eq_zero (by rw [← HNC.out]; exact h0)
              clear h0
              go_wp2_with fail
              go_ret
              refine ⟨_, rfl, ?_, hB⟩
              rw [HW.out, HNX.out, walkF, if_pos HE.out, List.append_nil]
              exact (HCH.out.below HBI.out HCH.out.lt).mono (by omega)
            · have hn0 : ((nc : Int) == 0) = false := by simp [h0]
              have hnp : 0 < nc := by omega
              have hnpI : (0 : Int) < (nc : Int) := by omega
              obtain ⟨gc, hgc⟩ : ∃ g, bc = some ⟨g, 0, none⟩ := by
                obtain ⟨gc, capc, hvc⟩ := HCI.out.slv (fun e => h0 (by rw [HNC.out, e]; rfl))
                injection hvc with e1 e2 e3
                exact ⟨gc, e1⟩
              subst hgc
              have hnl : nc ≤ 64 := by have := canF_len S.rules fr S.rules.length; rw [← HNC.out] at this; omega
              have hpk : Z j % (nc : Int) < (nc : Int) := Int.emod_lt_of_pos _ hnpI
              have hpk0 : 0 ≤ Z j % (nc : Int) := Int.emod_nonneg _ (by omega)
              have hpc := HCI.out.cell (k := (Z j % (nc : Int)).toNat) (by rw [← HNC.out]; omega)
              have hpt : (Z j % (nc : Int)).toNat < (canF S.rules fr S.rules.length).length := by rw [← HNC.out]; omega
              obtain ⟨kk, hkk⟩ : ∃ kk, (canF S.rules fr S.rules.length)[(Z j % (nc : Int)).toNat] = kk := ⟨_, rfl⟩
              rw [hkk] at hpc
              have hkm := canF_mem S.rules fr S.rules.length kk (by rw [← hkk]; exact List.getElem_mem _)
              obtain ⟨hkr, -, hkf⟩ := hkm
              have HPK : Hid (pickF (canF S.rules fr S.rules.length) (Z j) = kk) := by
                show _ = _
                rw [pickF, ← hkk, List.getD_eq_getElem?_getD, ← HNC.out]
                have : (Z j).toNat % nc = (Z j % (nc : Int)).toNat := by
                  rw [Int.toNat_emod hz0' (by omega)]; rfl
                rw [this, List.getElem?_eq_getElem hpt]; rfl
              have HE : Hid (canF S.rules fr S.rules.length ≠ []) := fun e => h0 (by rw [HNC.out, e]; rfl)
              have HKF := Lib.hid hkf
              have hzc2 := (HBI.out.cell (p := ⟨bz, oz + j, none⟩) hzb).trans hzc
              have hkk64 : (kk : Int) < 64 := by omega
              have hkkI : (kk : Int) < (S.rules.length : Int) := by omega
              have HDN : Hid (done.length + 1 ≤ 100) := by have := HD.out; show _ ≤ _; omega
              have HCH2 := Lib.hid (HCH.out.below HBI.out HCH.out.lt)
              clear h0 hkk hkf hpt
              go_upto_region 14 with (first
                | (at_builtin; refine wpList_append_own _ rfl _ _ 38 rfl (w.heap.size + 1) 3 i0 (.int .i64 0) 1 8 Try.underlying38 hi iz0 iz1 iz2 rfl (by decide) (.slice b n c) done.length (nats done) rfl (World.ownsRow.alloc HCH2.out _) ⟨wr.heap.size, 0, none⟩ 1 1 [.int .i64 (kk : Int)] rfl rfl (cell_one_new _ _ _) (by simp [Value.oneCell']) (by have := HDN.out; unfold maxLen; omega) (by have := HDN.out; omega) (by have := HAL2.out.size; simp only [World.size_alloc] at this ⊢; omega) ?_; intro v5 w5 hown5 hgrow5 _; have HC5 := Lib.hid (ch_snoc hown5); obtain ⟨a5, n5, c5, hv5⟩ := HC5.out.form; subst hv5; have HB5 : Hid (Below (w.heap.size + 1) (w.alloc (.cells #[.int .i64 S.modes, .int .u8 S.acc, .slice a S.rules.length cap] 33)) w5) := (HAL2.out.alloc (by have := HAL2.out.size; simp only [World.size_alloc] at this; omega) _).grown hgrow5 (by have := HAL2.out.size; simp only [World.size_alloc] at this ⊢; omega) (fun q hq => HCH2.out.ge q hq); clear hown5 hgrow5)
                | fail)
              clear hc hf hzc2 hpc
              obtain ⟨hz5, hc, hf⟩ := bcellB HB5.out rfl
              have hB5 : Below w.heap.size w w5 := ((Below.refl _ _).alloc (Nat.le_refl _) _).trans (HB5.out.mono (by omega))
              obtain ⟨br', orr', hra', hrb', q0, q1, q2, q3, q4⟩ := (HR.out.later hB5 (Nat.le_refl _)).at hkr
              have hidx := idx_rules a br' orr' S.rules.length cap kk hra' hkr
              have HRA' := Lib.hid hra'
              clear hra' q0 q2 q3 q4
              go_wp2_with fail
              go_roundw
              case rel =>
                refine ⟨j + 1, S.rules[kk].dst, done ++ [kk], a5, n5, c5, by omega, by omega, by go_num, rfl, rfl, HC5.out.sls.2.trans (by rw [List.length_append, HD.out]; rfl), by rw [List.length_append, HD.out]; rfl, ?_, HC5.out, HB5.out⟩
                rw [HW.out, HNX.out, walkF, if_neg HE.out, HPK.out, List.append_assoc]
                simp [hkr]
              case measure => simp [intOf]; omega
      · obtain rfl : j = 10 := by omega
        have HNE := Lib.hid (numsF_end Z len 10 (by omega))
        have hB := HB.out
        go_wp2_with fail
        go_ret
        refine ⟨_, rfl, ?_, hB⟩
        rw [HW.out, HNE.out, walkF, List.append_nil]
        exact HCH.out.mono (by omega)
    · have HNE := Lib.hid (numsF_end Z len j (by omega))
      have hB := HB.out
      go_wp2_with fail
      go_ret
      refine ⟨_, rfl, ?_, hB⟩
      rw [HW.out, HNE.out, walkF, List.append_nil]
      exact HCH.out.mono (by omega)
end Go.Proofs.Ytogjcfcfgnbmkaa
