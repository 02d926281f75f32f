/- Contracts of package flaw: endless. -/
import Derived.Test.YtogjcfcfgnbmkaaFlaw2
import Derived.Test.YtogjcfcfgnbmkaaBfs
namespace Go.Proofs.Ytogjcfcfgnbmkaa
open Go.RowKit
set_option linter.unusedVariables false
set_option linter.unusedSimpArgs false

def ints (l : List Nat) : List Int := l.map fun (n : Nat) => (n : Int)
def cbit (S : Sch) (m : Nat) : Bool := (reachS S).testBit m && (liveS S).testBit m
def endStep (S : Sch) (least : List Nat) (m : Nat) : List Nat :=
  if cbit S m then
    (if bfs emptyR (2 ^ m) S.rules m = [] then least
     else if least = [] then bfs emptyR (2 ^ m) S.rules m
     else if ordC (ints (bfs emptyR (2 ^ m) S.rules m)) (ints least) < 0 then bfs emptyR (2 ^ m) S.rules m else least)
  else least
def endF (S : Sch) : List Nat := (List.range S.modes.toNat).foldl (endStep S) []
theorem ints_len (l : List Nat) : (ints l).length = l.length := by simp [ints]
theorem Ch.sls {w : World} {B : Nat} {a : Option Addr} {n c : Nat} {xs : List Nat} (h : Ch w B (.slice a n c) xs) : SlS w a (ints xs) ∧ n = xs.length := by
  obtain ⟨a', c', he, -, hs⟩ := h.sl
  cases he
  exact ⟨hs, rfl⟩
theorem compare_at (a a' : Option Addr) (c c' n n' : Nat) (xs ys : List Int) (w : World) (hn : n = xs.length) (hn' : n' = ys.length) (h1 : SlS w a xs) (h2 : SlS w a' ys) (l1 : xs.length ≤ 100000) (l2 : ys.length ≤ 100000) :
    Calls Try.prog 57 #[.slice a n c, .slice a' n' c'] w fun e w' => e = .returned (.int .i64 (ordC xs ys)) ∧ Below w.heap.size w w' := by
  subst hn hn'; exact compare_any a a' c c' xs ys w h1 h2 l1 l2
theorem and_bits {A B : Nat} (hA : A < 256) (hB : B < 256) : bits .and .u8 (A : Int) (B : Int) = ((A &&& B : Nat) : Int) := u8_and_nat _ _ hA hB
theorem and_lt {A B : Nat} (hA : A < 256) : A &&& B < 256 := Nat.lt_of_le_of_lt Nat.and_le_left hA

set_option maxHeartbeats 1600000 in
theorem endless_any (S : Sch) (a : Option Addr) (cap : Nat) (w : World) (hR : RulS w a S.rules) (hS : Fit S) :
    Calls Try.prog 38 #[.agg #[.int .i64 S.modes, .int .u8 S.acc, .slice a S.rules.length cap]] w fun e w' => ∃ v, e = .returned v ∧ ChN w' w.heap.size v (endF S) ∧ Below w.heap.size w w' := by
  obtain ⟨A, hA⟩ : ∃ A, reachS S = A := ⟨_, rfl⟩
  obtain ⟨B, hBm⟩ : ∃ B, liveS S = B := ⟨_, rfl⟩
  have hA8 : A < 256 := by rw [← hA]; exact reachedM_lt hS
  have hB8 : B < 256 := by rw [← hBm]; exact liveM_lt hS
  have hand := and_bits hA8 hB8
  have hL8 : A &&& B < 256 := and_lt hA8
  obtain ⟨L, hL⟩ : ∃ L, A &&& B = L := ⟨_, rfl⟩
  rw [hL] at hand hL8
  have HA := Lib.hid hA; have HBm := Lib.hid hBm; have HL := Lib.hid hL; have HR := Lib.hid hR; have HS := Lib.hid hS; clear hA hBm hL hR
  obtain ⟨m0, m1, -, -, -, -⟩ := hS
  obtain ⟨mm, hmm⟩ := Int.eq_ofNat_of_zero_le (show 0 ≤ S.modes by omega)
  have HMM := Lib.hid hmm
  have hcut : Hid (∀ m, cbit S m = L.testBit m) := fun m => by unfold cbit; rw [HA.out, HBm.out, ← HL.out, Nat.testBit_and]
  have hmm8 : mm ≤ 8 := by omega
  clear hmm
  go_enter Try.func38, Try.ntmps38
  go_wp2
  go_region_held3 (fun w' => w'.cell? ⟨w.heap.size, 0, none⟩ = some (.int .i64 S.modes) ∧ w'.cell? ⟨w.heap.size, 1, none⟩ = some (.int .u8 S.acc) ∧ w'.cell? ⟨w.heap.size, 2, none⟩ = some (.slice a S.rules.length cap)) (first | (simp [go_sem, *]; done) | go_keep) (first | (go_at_call 39; refine (reached_any S a cap _ (HR.out.later (by first | exact hB | go_grown) (Nat.le_refl _)) HS.out).mono ?_; rintro e w1 ⟨he, hb⟩; rw [show reachedM S.eds S.modes.toNat = A from HA.out] at he; subst he; obtain ⟨hz, hc, hf⟩ := bcell hb (by first | (simp only [World.size_alloc, World.size_setCell, World.size_drew]; rfl) | rfl); have hB := below_call (B := w.heap.size) (w := w) (by go_grown) hb (Nat.le_refl _); have hal := below_call (B := w.heap.size + 1) (w := w.alloc (.cells #[.int .i64 S.modes, .int .u8 S.acc, .slice a S.rules.length cap] 33)) (by go_grown) hb (by simp); clear hb) | (go_at_call 40; refine (live_any S a cap _ (HR.out.later (by first | exact hB | go_grown) (Nat.le_refl _)) HS.out).mono ?_; rintro e w1 ⟨he, hb⟩; rw [show liveM S.eds S.modes.toNat S.acc.toNat = B from HBm.out] at he; subst he; obtain ⟨hz, hc, hf⟩ := bcell hb (by first | (simp only [World.size_alloc, World.size_setCell, World.size_drew]; rfl) | rfl); have hB := below_call (B := w.heap.size) (w := w) (by go_grown) hb (Nat.le_refl _); have hal := below_call (B := w.heap.size + 1) (w := w.alloc (.cells #[.int .i64 S.modes, .int .u8 S.acc, .slice a S.rules.length cap] 33)) (by go_grown) hb (by simp); clear hb))
  go_wp2
  clear hand hz hc hf
  go_loopw [4, 14] (fun lv i wr => ∃ (k : Nat) (a1 : Option Addr) (n1 c1 : Nat) (xs : List Nat), k ≤ mm ∧ i = .int .i64 k ∧ lv = .slice a1 n1 c1 ∧ n1 = xs.length ∧ xs = (List.range k).foldl (endStep S) [] ∧ xs.length ≤ 100 ∧ ChN wr w.heap.size (.slice a1 n1 c1) xs ∧ Below (w.heap.size + 1) (w.alloc (.cells #[.int .i64 S.modes, .int .u8 S.acc, .slice a S.rules.length cap] 33)) wr) (fun _ i _ => mm - (intOf i).toNat)
  case atStart => exact ⟨0, none, 0, 0, [], by omega, rfl, rfl, rfl, rfl, by simp, ⟨Ch.nil _ _, fun _ => rfl⟩, hal⟩
  case round =>
    clear hB hal
    obtain ⟨k, a1, n1, c1, xs, hk, rfl, rfl, hn1, hxs, hxl, ⟨hch, hnil⟩, hal⟩ := hrel
    have hB : Below w.heap.size w wr := ((Below.refl _ _).alloc (Nat.le_refl _) _).trans (hal.mono (by omega))
    obtain ⟨hz, hc, hf⟩ := bcellB hal rfl
    simp only [World.size_alloc] at hz
    have HN1 := Lib.hid hn1; have HXS := Lib.hid hxs; have HCH := Lib.hid hch; have HNIL := Lib.hid hnil; clear hn1 hxs hch hnil
    by_cases hlt : k < mm
    · have hs := has_any L (k : Int)
      have hlt2 : (k : Int) < S.modes := by have := HMM.out; omega
      have hsucc : Hid ((List.range (k + 1)).foldl (endStep S) [] = endStep S xs k) := by show _ = _; rw [List.range_succ, List.foldl_append, ← HXS.out]; rfl
      by_cases hb : L.testBit k = true
      · have HBt : Hid (L.testBit k = true) := hb
        have hcb : Hid (cbit S k = true) := (hcut.out k).trans hb
        clear hb
        obtain ⟨c, hcc⟩ : ∃ c, bfs emptyR (2 ^ k) S.rules k = c := ⟨_, rfl⟩
        have HCC := Lib.hid hcc; clear hcc
        have hp8 : 2 ^ k < 256 := pow_lt k (by omega)
        have hcl : Hid (c.length ≤ 100) := by rw [← HCC.out]; have h9 := bfs_len (use := emptyR) (goal := 2 ^ k) (start := k) HS.out.small (by have := HMM.out; omega) (by have := HMM.out; omega); exact Nat.le_trans h9 (by omega)
        have hcl2 := hcl.out
        go_wp2_with (first
          | (go_at_call 44; refine (hs _ hL8 (by omega) (by omega)).mono ?_; rintro e w' ⟨he, rfl⟩; rw [show L.testBit ((k : Int)).toNat = true from HBt.out] at he; subst he; clear hs))
        go_region_held3 (fun w' => w'.cell? ⟨w.heap.size, 0, none⟩ = some (.int .i64 S.modes) ∧ w'.cell? ⟨w.heap.size, 1, none⟩ = some (.int .u8 S.acc) ∧ w'.cell? ⟨w.heap.size, 2, none⟩ = some (.slice a S.rules.length cap)) (first | (simp [go_sem, *]; done) | go_keep) (first | (go_at_call 56; refine (one_any (k : Int) _ (by omega) (by omega)).mono ?_; rintro e w' ⟨rfl, rfl⟩) | (go_at_call 55; refine (first_at 47 emptyR empty_any (fun _ _ => rfl) S a cap k (2 ^ k) _ _ rfl rfl _ (HR.out.later (by first | exact hB | go_grown) (Nat.le_refl _)) HS.out (by omega) hp8).mono ?_; rintro e w1 ⟨v, rfl, hch, hb⟩; rw [HCC.out] at hch; have HCHv := Lib.hid hch; clear hch; have hBo := hB; have hBw := below_call (B := wr.heap.size) (w := wr) (by go_grown) hb (Nat.le_refl _); obtain ⟨hz, hc, hf⟩ := bcell hb (by first | (simp only [World.size_alloc, World.size_setCell, World.size_drew]; rfl) | rfl); have hB := below_call (B := w.heap.size) (w := w) (by go_grown) hb (Nat.le_refl _); have hal := below_call (B := w.heap.size + 1) (w := w.alloc (.cells #[.int .i64 S.modes, .int .u8 S.acc, .slice a S.rules.length cap] 33)) (by go_grown) hb (by simp); clear hb))
        have hq := fun W => run_neq_slice_nil_any (P := Try.prog) W 38 3 a1 n1 c1 0 0 Try.underlying38
        have hq2 := fun W => run_eql_slice_nil (P := Try.prog) W 38 3 a1 n1 c1 Try.underlying38
        by_cases hce : c = []
        · have hv := HCHv.out.2 hce
          subst hv
          have HE : Hid (endStep S xs k = xs) := by show _ = _; rw [endStep, hcb.out, HCC.out, if_pos rfl, if_pos hce]
          have HCH2 : Hid (ChN w1 w.heap.size (.slice a1 n1 c1) xs) := ⟨HCH.out.below hBw (HCH.out.lt), HNIL.out⟩
          have hq0 := fun W => run_neq_slice_nil_any (P := Try.prog) W 38 3 none 0 0 0 0 Try.underlying38
          clear hce hq hq2
          go_wp2
          go_roundw
          case rel => exact ⟨k + 1, a1, n1, c1, xs, by omega, by go_num, rfl, HN1.out, by rw [hsucc.out, HE.out], hxl, HCH2.out, hal⟩
          case measure => simp [intOf]; omega
        · obtain ⟨g, cp, hv⟩ := HCHv.out.1.slv hce
          subst hv
          have hq0 := fun W => run_neq_slice_nil_any (P := Try.prog) W 38 3 (some ⟨g, 0, none⟩) c.length cp 0 0 Try.underlying38
          have HCc : Hid (ChN w1 w.heap.size (.slice (some ⟨g, 0, none⟩) c.length cp) c) := ⟨HCHv.out.1.mono (by have := hBo.size; first | omega | (simp only [World.size_drew]; omega)), HCHv.out.2⟩
          have hcl3 : ∀ f : List Nat → List Nat, f = f := fun _ => rfl
          by_cases hxe : xs = []
          · have hv := HNIL.out hxe
            have HE : Hid (endStep S xs k = c) := by show _ = _; rw [endStep, hcb.out, HCC.out, if_pos rfl, if_neg hce, if_pos hxe]
            obtain ⟨rfl, rfl, rfl⟩ : a1 = none ∧ n1 = 0 ∧ c1 = 0 := by injection hv with e1 e2 e3; exact ⟨e1, e2, e3⟩
            clear hv hxe hce
            go_wp2
            go_roundw
            case rel => exact ⟨k + 1, some ⟨g, 0, none⟩, c.length, cp, c, by omega, by go_num, rfl, rfl, by rw [hsucc.out, HE.out], hcl2, HCc.out, hal⟩
            case measure => simp [intOf]; omega
          · obtain ⟨g1, cp1, hv1⟩ := HCH.out.slv hxe
            obtain ⟨rfl, rfl⟩ : a1 = some ⟨g1, 0, none⟩ ∧ c1 = cp1 := by injection hv1 with e1 e2 e3; exact ⟨e1, e3⟩
            have HCH2 : Hid (ChN w1 w.heap.size (.slice (some ⟨g1, 0, none⟩) n1 c1) xs) := ⟨HCH.out.below hBw (HCH.out.lt), HNIL.out⟩
            have hl1 : (ints c).length ≤ 100000 := by rw [ints_len]; omega
            have hl2 : (ints xs).length ≤ 100000 := by rw [ints_len]; omega
            have HL1 : Hid (c.length = (ints c).length) := (ints_len c).symm
            obtain ⟨hs1, -⟩ := HCc.out.1.sls
            obtain ⟨hs2, hn2⟩ := HCH2.out.1.sls
            have HL2 : Hid (n1 = (ints xs).length) := by show _ = _; rw [ints_len]; exact hn2
            have HS1 := Lib.hid hs1; have HS2 := Lib.hid hs2
            obtain ⟨o, ho⟩ : ∃ o, ordC (ints c) (ints xs) = o := ⟨_, rfl⟩
            have HO := Lib.hid ho
            clear hs1 hs2 hn2 hv1 ho
            by_cases ho : o < 0
            · have HE : Hid (endStep S xs k = c) := by show _ = _; rw [endStep, hcb.out, HCC.out, if_pos rfl, if_neg hce, if_neg hxe, HO.out, if_pos ho]
              clear hxe hce
              go_wp2_with (go_at_call 57; refine (compare_at _ _ _ _ _ _ (ints c) (ints xs) _ HL1.out HL2.out HS1.out HS2.out hl1 hl2).mono ?_; rintro e w2 ⟨he, hb⟩; rw [HO.out] at he; subst he; have HCc2 : Hid (ChN w2 w.heap.size (.slice (some ⟨g, 0, none⟩) c.length cp) c) := ⟨HCc.out.1.below hb HCc.out.1.lt, HCc.out.2⟩; obtain ⟨hz, hc, hf⟩ := bcell hb (by first | (simp only [World.size_alloc, World.size_setCell, World.size_drew]; rfl) | rfl); have hB := below_call (B := w.heap.size) (w := w) (by go_grown) hb (Nat.le_refl _); have hal := below_call (B := w.heap.size + 1) (w := w.alloc (.cells #[.int .i64 S.modes, .int .u8 S.acc, .slice a S.rules.length cap] 33)) (by go_grown) hb (by simp); clear hb)
              go_roundw
              case rel => exact ⟨k + 1, some ⟨g, 0, none⟩, c.length, cp, c, by omega, by go_num, rfl, rfl, by rw [hsucc.out, HE.out], hcl2, HCc2.out, hal⟩
              case measure => simp [intOf]; omega
            · have HE : Hid (endStep S xs k = xs) := by show _ = _; rw [endStep, hcb.out, HCC.out, if_pos rfl, if_neg hce, if_neg hxe, HO.out, if_neg ho]
              clear hxe hce
              go_wp2_with (go_at_call 57; refine (compare_at _ _ _ _ _ _ (ints c) (ints xs) _ HL1.out HL2.out HS1.out HS2.out hl1 hl2).mono ?_; rintro e w2 ⟨he, hb⟩; rw [HO.out] at he; subst he; have HCH3 : Hid (ChN w2 w.heap.size (.slice (some ⟨g1, 0, none⟩) n1 c1) xs) := ⟨HCH2.out.1.below hb HCH2.out.1.lt, HCH2.out.2⟩; obtain ⟨hz, hc, hf⟩ := bcell hb (by first | (simp only [World.size_alloc, World.size_setCell, World.size_drew]; rfl) | rfl); have hB := below_call (B := w.heap.size) (w := w) (by go_grown) hb (Nat.le_refl _); have hal := below_call (B := w.heap.size + 1) (w := w.alloc (.cells #[.int .i64 S.modes, .int .u8 S.acc, .slice a S.rules.length cap] 33)) (by go_grown) hb (by simp); clear hb)
              go_roundw
              case rel => exact ⟨k + 1, some ⟨g1, 0, none⟩, n1, c1, xs, by omega, by go_num, rfl, HN1.out, by rw [hsucc.out, HE.out], hxl, HCH3.out, hal⟩
              case measure => simp [intOf]; omega
      · have hb' : L.testBit k = false := by simpa using hb
        have HBt : Hid (L.testBit k = false) := hb'
        have hcb : Hid (cbit S k = false) := (hcut.out k).trans hb'
        clear hb hb'
        go_wp2_with (first
          | (go_at_call 44; refine (hs _ hL8 (by omega) (by omega)).mono ?_; rintro e w' ⟨he, rfl⟩; rw [show L.testBit ((k : Int)).toNat = false from HBt.out] at he; subst he; clear hs))
        go_roundw
        case rel => exact ⟨k + 1, a1, n1, c1, xs, by omega, by go_num, rfl, HN1.out, by rw [hsucc.out, endStep, hcb.out]; rfl, hxl, ⟨HCH.out, HNIL.out⟩, hal⟩
        case measure => simp [intOf]; omega
    · obtain rfl : k = mm := by omega
      have hlt2 : ¬ (k : Int) < S.modes := by have := HMM.out; omega
      go_wp2
      go_ret
      exact ⟨_, rfl, by have := HXS.out; rw [endF, HMM.out]; show ChN _ _ _ ((List.range k).foldl (endStep S) []); rw [← this]; exact ⟨HCH.out, HNIL.out⟩, hB⟩
end Go.Proofs.Ytogjcfcfgnbmkaa
