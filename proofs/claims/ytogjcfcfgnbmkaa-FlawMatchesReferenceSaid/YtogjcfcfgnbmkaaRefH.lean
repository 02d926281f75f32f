/- Contracts of reference 04: Find. -/
import Derived.Test.YtogjcfcfgnbmkaaRefG
import Derived.Test.YtogjcfcfgnbmkaaRef2
namespace Go.Proofs.Ytogjcfcfgnbmkaa
open Go.RowKit
set_option linter.unusedVariables false
set_option linter.unusedSimpArgs false

open Classical in
noncomputable def rfindF (S : Sch) : Rp := if validB S = true then ⟨deadF S S.rules.length, rstuckF S, rendF S⟩ else ⟨[], [], []⟩

structure LT (w M : World) (g : Nat) (v1 v2 v3 : Value) (x1 x2 x3 : List Nat) (wr : World) : Prop where
  rep : wr.heap[g]? = some (.cells #[v1, v2, v3] 40 (0, 0))
  d1 : Ch wr w.heap.size v1 x1
  d2 : Ch wr w.heap.size v2 x2
  d3 : Ch wr w.heap.size v3 x3
  gm : w.heap.size + 2 ≤ g
  bl : Below (w.heap.size + 2) M wr
section
variable {w M : World} {g B1 : Nat} {v1 v2 v3 v : Value} {x1 x2 x3 x : List Nat} {wr w1 : World}
theorem LS.lt (h : LS w M g B1 v1 v2 v3 x1 x2 x3 wr) : LT w M g v1 v2 v3 x1 x2 x3 wr :=
  ⟨h.rep, h.d1.mono (by have := h.gB; have := h.gm; omega), h.d2, h.d3, h.gm, h.bl⟩
theorem LT.below (h : LT w M g v1 v2 v3 x1 x2 x3 wr) (hb : Below wr.heap.size wr w1) : LT w M g v1 v2 v3 x1 x2 x3 w1 := by
  have hg : g < wr.heap.size := (Array.getElem?_eq_some_iff.1 h.rep).1
  exact ⟨(hb.block g hg).trans h.rep, h.d1.below hb h.d1.lt, h.d2.below hb h.d2.lt, h.d3.below hb h.d3.lt, h.gm, h.bl.trans (hb.mono (by have := h.gm; omega))⟩
theorem LT.set1 (h : LT w M g v1 v2 v3 x1 x2 x3 wr) (hv : Ch wr w.heap.size v x) : LT w M g v1 v v3 x1 x x3 (wr.setCell ⟨g, 1, none⟩ v) :=
  ⟨set_one h.rep rfl, ch_set h.d1 h.rep, ch_set hv h.rep, ch_set h.d3 h.rep, h.gm, h.bl.setCell h.gm _⟩
theorem LT.set2 (h : LT w M g v1 v2 v3 x1 x2 x3 wr) (hv : Ch wr w.heap.size v x) : LT w M g v1 v2 v x1 x2 x (wr.setCell ⟨g, 2, none⟩ v) :=
  ⟨set_one h.rep rfl, ch_set h.d1 h.rep, ch_set h.d2 h.rep, ch_set hv h.rep, h.gm, h.bl.setCell h.gm _⟩
theorem LT.cells (h : LT w M g v1 v2 v3 x1 x2 x3 wr) : wr.cell? ⟨g, 0, none⟩ = some v1 ∧ wr.cell? ⟨g, 1, none⟩ = some v2 ∧ wr.cell? ⟨g, 2, none⟩ = some v3 := cells3 h.rep
theorem LT.gf (h : LT w M g v1 v2 v3 x1 x2 x3 wr) (i : Nat) : wr.frozen? ⟨g, i, none⟩ = false := by simp [World.frozen?, h.rep]
end

set_option maxHeartbeats 3200000 in
theorem rfind_any (S : Sch) (a : Option Addr) (cap : Nat) (w : World) (hR : RulS w a S.rules) (h0 : 0 ≤ S.acc) (h1 : S.acc ≤ 255) (hl : S.rules.length ≤ 9223372036854775807) (hS : validB S = true → Fit S) :
    Calls Try.prog 15 #[.agg #[.int .i64 S.modes, .int .u8 S.acc, .slice a S.rules.length cap]] w fun e w' => ∃ v1 v2 v3, e = .returned (.agg #[v1, v2, v3]) ∧ Ch w' w.heap.size v1 (rfindF S).dead ∧ Ch w' w.heap.size v2 (rfindF S).stuck ∧ Ch w' w.heap.size v3 (rfindF S).endl ∧ Below w.heap.size w w' := by
  have HR := Lib.hid hR; have HS := Lib.hid hS; clear hR hS
  by_cases hv : validB S = true
  · have hFit := HS.out hv
    have HV := Lib.hid hv
    have HF : Hid (rfindF S = ⟨deadF S S.rules.length, rstuckF S, rendF S⟩) := by show _ = _; rw [rfindF, if_pos hv]
    clear hv
    go_enter Try.func15, Try.ntmps15
    have HLS0 : Hid (LS w ((w.alloc (.cells #[.int .i64 S.modes, .int .u8 S.acc, .slice a S.rules.length cap] 33)).alloc (.cells #[.slice none 0 0, .slice none 0 0, .slice none 0 0] 40)) (w.heap.size + 1 + 1) (w.heap.size + 3) (.slice none 0 0) (.slice none 0 0) (.slice none 0 0) [] [] [] (((w.alloc (.cells #[.int .i64 S.modes, .int .u8 S.acc, .slice a S.rules.length cap] 33)).alloc (.cells #[.slice none 0 0, .slice none 0 0, .slice none 0 0] 40)).alloc (.cells #[.slice none 0 0, .slice none 0 0, .slice none 0 0] 40))) :=
      ⟨(by have := heap_alloc_new ((w.alloc (.cells #[.int .i64 S.modes, .int .u8 S.acc, .slice a S.rules.length cap] 33)).alloc (.cells #[.slice none 0 0, .slice none 0 0, .slice none 0 0] 40)) (.cells #[.slice none 0 0, .slice none 0 0, .slice none 0 0] 40); simpa using this), Ch.nil _ _, Ch.nil _ _, Ch.nil _ _, (fun b hb => (by cases hb)), (fun b hb => (by cases hb)), (by omega), (by omega), (by simp only [World.size_alloc]; omega), (by go_grown)⟩
    go_wp2_with (first
      | (go_at_call 29; refine (rvalid_any S a cap _ (HR.out.later (by first | exact hB | go_grown) (Nat.le_refl _)) h0 h1 hl).mono ?_; rintro e w1 ⟨he, hb⟩; rw [HV.out] at he; subst he; have HLS1 := Lib.hid (HLS0.out.below hb); obtain ⟨hz, hc, hf⟩ := bcell hb (by first | (simp only [World.size_alloc, World.size_setCell, World.size_drew]; rfl) | rfl); have hB := below_call (B := w.heap.size) (w := w) (by first | exact hB | go_grown) hb (Nat.le_refl _); clear hb)
      | fail)
    clear hz hc hf
    obtain ⟨i0, hi, hz0, hz1, hz2⟩ := info_parts info_int
    have hlen := hFit.len
    go_loopw [5] (fun i wr => ∃ (k : Nat) (a1 : Option Addr) (n1 c1 : Nat), k ≤ S.rules.length ∧ i = .int .i64 k ∧ LS w ((w.alloc (.cells #[.int .i64 S.modes, .int .u8 S.acc, .slice a S.rules.length cap] 33)).alloc (.cells #[.slice none 0 0, .slice none 0 0, .slice none 0 0] 40)) (w.heap.size + 1 + 1) (w.heap.size + 3) (.slice a1 n1 c1) (.slice none 0 0) (.slice none 0 0) (deadF S k) [] [] wr) (fun i _ => S.rules.length - (intOf i).toNat)
    case atStart => exact ⟨0, none, 0, 0, by omega, rfl, HLS1.out⟩
    case round =>
      clear hB
      obtain ⟨k, a1, n1, c1, hk, rfl, hls⟩ := hrel
      have hal := hls.bl
      have hB : Below w.heap.size w wr := (((Below.refl _ _).alloc (Nat.le_refl _) _).alloc (by simp) _).trans (hal.mono (by omega))
      obtain ⟨hz, hc, hf⟩ := bcellB hal rfl
      simp only [World.size_alloc] at hz
      have HLS := Lib.hid hls; clear hls
      by_cases hlt : k < S.rules.length
      · obtain ⟨dd, hdd⟩ : ∃ dd, deadB (reachS S) (liveS S) S.rules[k] = dd := ⟨_, rfl⟩
        have HDD := Lib.hid hdd
        have HDS : Hid (deadF S (k + 1) = if dd then deadF S k ++ [k] else deadF S k) := by show _ = _; rw [deadF_succ S k hlt, HDD.out]
        clear hdd
        by_cases hd : dd = true
        · subst hd
          have HL1 : Hid ((deadF S k).length + 1 ≤ 100) := by have := deadF_len S k; show _ ≤ _; omega
          go_wp2_with (first
            | (go_at_call 24; refine (rdead_any S a cap k _ (HR.out.later (by first | exact hB | go_grown) (Nat.le_refl _)) hFit hlt).mono ?_; rintro e w3 ⟨he, hb⟩; rw [HDD.out] at he; subst he; have HLS3 := Lib.hid (HLS.out.below hb); have hg0 := HLS3.out.g0; have HLS4 := Lib.hid (HLS3.out.below ((Below.refl _ _).alloc (Nat.le_refl _) (.cells #[.int .i64 (k : Int)] 3))); obtain ⟨hz, hc, hf⟩ := bcell hb (by first | (simp only [World.size_alloc, World.size_setCell, World.size_drew]; rfl) | rfl); have hB := below_call (B := w.heap.size) (w := w) (by first | exact hB | go_grown) hb (Nat.le_refl _); clear hb)
            | (at_builtin; refine wpList_append_own _ rfl _ _ 38 rfl (w.heap.size + 3) 3 i0 (.int .i64 0) 1 8 Try.underlying38 hi hz0 hz1 hz2 rfl (by decide) (.slice a1 n1 c1) (deadF S k).length (nats (deadF S k)) rfl HLS4.out.d1 ⟨w3.heap.size, 0, none⟩ 1 1 [.int .i64 (k : Int)] rfl rfl (cell_one_new _ _ _) (by simp [Value.oneCell']) (by have := HL1.out; unfold maxLen; omega) (by have := HL1.out; omega) (by exact HLS4.out.bB) ?_; intro v5 w5 hown5 hgrow5 _; have HC5 := Lib.hid (ch_snoc hown5); obtain ⟨a5, n5, c5, hv5⟩ := HC5.out.form; subst hv5; have hcl := HLS4.out.cells hgrow5 (fun b hb => HLS4.out.d1.ge b hb); obtain ⟨hcl0, hclf⟩ := hcl; have HLS6 := Lib.hid (HLS4.out.grown hgrow5 (fun b hb => HLS4.out.d1.ge b hb) HC5.out); clear hown5 hgrow5)
            | fail)
          go_roundw
          case rel => exact ⟨k + 1, a5, n5, c5, by omega, by go_num, by rw [HDS.out]; first | exact HLS6.out | (simp only [if_true]; exact HLS6.out)⟩
          case measure => simp [intOf]; omega
        · obtain rfl : dd = false := by simpa using hd
          clear hd
          go_wp2_with (first
            | (go_at_call 24; refine (rdead_any S a cap k _ (HR.out.later (by first | exact hB | go_grown) (Nat.le_refl _)) hFit hlt).mono ?_; rintro e w3 ⟨he, hb⟩; rw [HDD.out] at he; subst he; have HLS3 := Lib.hid (HLS.out.below hb); obtain ⟨hz, hc, hf⟩ := bcell hb (by first | (simp only [World.size_alloc, World.size_setCell, World.size_drew]; rfl) | rfl); have hB := below_call (B := w.heap.size) (w := w) (by first | exact hB | go_grown) hb (Nat.le_refl _); clear hb)
            | fail)
          go_roundw
          case rel => exact ⟨k + 1, a1, n1, c1, by omega, by go_num, by rw [HDS.out]; first | exact HLS3.out | (simp only [if_false]; exact HLS3.out) | (simp; exact HLS3.out)⟩
          case measure => simp [intOf]; omega
      · obtain rfl : k = S.rules.length := by omega
        have HT := Lib.hid HLS.out.lt
        go_wp2_with (first
          | (go_at_call 42; refine (rstuck_any S a cap _ (HR.out.later (by first | exact hB | go_grown) (Nat.le_refl _)) hFit).mono ?_; rintro e w3 ⟨v, rfl, hch, hb⟩; obtain ⟨a2, n2, c2, hv2⟩ := hch.form; subst hv2; have HT3 := Lib.hid (HT.out.below hb); obtain ⟨y0, y1, y2⟩ := HT3.out.cells; have yf := HT3.out.gf; have HT4 := Lib.hid (HT3.out.set1 (hch.mono hB.size)); clear hch; obtain ⟨hz, hc, hf⟩ := bcell hb (by first | (simp only [World.size_alloc, World.size_setCell, World.size_drew]; rfl) | rfl); have hB := below_call (B := w.heap.size) (w := w) (by first | exact hB | go_grown) hb (Nat.le_refl _); clear hb)
          | (go_at_call 43; refine (rendless_any S a cap _ (HR.out.later (by first | exact hB | go_grown) (Nat.le_refl _)) hFit).mono ?_; rintro e w4 ⟨v, rfl, hch, hb⟩; obtain ⟨a3, n3, c3, hv3⟩ := hch.form; subst hv3; have HT5 := Lib.hid (HT4.out.below hb); clear y0 y1 y2 yf; obtain ⟨y0, y1, y2⟩ := HT5.out.cells; have yf := HT5.out.gf; have HT6 := Lib.hid (HT5.out.set2 (hch.mono (by have := hB.size; simp only [World.size_setCell]; omega))); obtain ⟨u0, u1, u2⟩ := HT6.out.cells; clear hch; obtain ⟨hz, hc, hf⟩ := bcell hb (by first | (simp only [World.size_alloc, World.size_setCell, World.size_drew]; rfl) | rfl); have hB := below_call (B := w.heap.size) (w := w) (by first | exact hB | go_grown) hb (Nat.le_refl _); clear hb)
          | fail)
        have hrb : (w4.setCell ⟨w.heap.size + 1 + 1, 2, none⟩ (.slice a3 n3 c3)).heap[w.heap.size + 1]? = some (.cells #[.slice none 0 0, .slice none 0 0, .slice none 0 0] 40 (0, 0)) := by
          refine (HT6.out.bl.block (w.heap.size + 1) (by omega)).trans ?_
          have := heap_alloc_new (w.alloc (.cells #[.int .i64 S.modes, .int .u8 S.acc, .slice a S.rules.length cap] 33)) (.cells #[.slice none 0 0, .slice none 0 0, .slice none 0 0] 40)
          simpa using this
        obtain ⟨r0, r1, r2⟩ := cells3 (set3 (a := .slice a1 n1 c1) (b := .slice a2 n2 c2) (c := .slice a3 n3 c3) hrb)
        refine bodyPost_ret (v := .agg #[.slice a1 n1 c1, .slice a2 n2 c2, .slice a3 n3 c3]) (by simp [results, Try.results15, go_sem, r0, r1, r2]) rfl ⟨_, _, _, rfl, ?_, ?_, ?_, ?_⟩
        · rw [HF.out]; exact ch_set3 HT6.out.d1 hrb
        · rw [HF.out]; exact ch_set3 HT6.out.d2 hrb
        · rw [HF.out]; exact ch_set3 HT6.out.d3 hrb
        · exact (((hB.setCell (by simp; omega) _).setCell (by simp) _).setCell (by simp) _).setCell (by simp) _
  · have hv' : validB S = false := by simpa using hv
    have HV := Lib.hid hv'
    have HF : Hid (rfindF S = ⟨[], [], []⟩) := by show _ = _; rw [rfindF, if_neg hv]
    clear hv hv'
    go_enter Try.func15, Try.ntmps15
    go_wp2_with (first
      | (go_at_call 29; refine (rvalid_any S a cap _ (HR.out.later (by first | exact hB | go_grown) (Nat.le_refl _)) h0 h1 hl).mono ?_; rintro e w1 ⟨he, hb⟩; rw [HV.out] at he; subst he; have hal := hb.mono (show w.heap.size + 2 ≤ _ by simp only [World.size_alloc]; omega); obtain ⟨hz, hc, hf⟩ := bcell hb (by first | (simp only [World.size_alloc, World.size_setCell, World.size_drew]; rfl) | rfl); have hB := below_call (B := w.heap.size) (w := w) (by first | exact hB | go_grown) hb (Nat.le_refl _); clear hb)
      | fail)
    have hrb : w1.heap[w.heap.size + 1]? = some (.cells #[.slice none 0 0, .slice none 0 0, .slice none 0 0] 40 (0, 0)) := by
      refine (hal.block (w.heap.size + 1) (by omega)).trans ?_
      have := heap_alloc_new (w.alloc (.cells #[.int .i64 S.modes, .int .u8 S.acc, .slice a S.rules.length cap] 33)) (.cells #[.slice none 0 0, .slice none 0 0, .slice none 0 0] 40)
      rw [Below.heap_alloc _ _ _ (by simp)]
      simpa using this
    obtain ⟨r0, r1, r2⟩ := cells3 (set3 (a := .slice none 0 0) (b := .slice none 0 0) (c := .slice none 0 0) hrb)
    refine bodyPost_ret (v := .agg #[.slice none 0 0, .slice none 0 0, .slice none 0 0]) (by simp [results, Try.results15, go_sem, r0, r1, r2]) rfl ⟨_, _, _, rfl, ?_, ?_, ?_, ?_⟩
    · rw [HF.out]; exact Ch.nil _ _
    · rw [HF.out]; exact Ch.nil _ _
    · rw [HF.out]; exact Ch.nil _ _
    · exact ((hB.setCell (by simp) _).setCell (by simp) _).setCell (by simp) _
end Go.Proofs.Ytogjcfcfgnbmkaa
