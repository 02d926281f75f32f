/- Contracts of package flaw: Find, Sound. -/
import Derived.Test.YtogjcfcfgnbmkaaFlaw3
namespace Go.Proofs.Ytogjcfcfgnbmkaa
open Go.RowKit
set_option linter.unusedVariables false
set_option linter.unusedSimpArgs false

def deadF (S : Sch) (k : Nat) : List Nat := (List.range k).filter fun i => if h : i < S.rules.length then deadB (reachS S) (liveS S) S.rules[i] else false
theorem Ch.form {w : World} {B : Nat} {v : Value} {xs : List Nat} (h : Ch w B v xs) : ∃ a n c, v = .slice a n c := by
  obtain ⟨a, c, he, -⟩ := h.sl
  exact ⟨a, _, c, he⟩
structure Rp where
  dead : List Nat
  stuck : List Nat
  endl : List Nat
open Classical in
noncomputable def findF (S : Sch) : Rp := if validB S = true then ⟨deadF S S.rules.length, stuckF S, endF S⟩ else ⟨[], [], []⟩


theorem set3 {w : World} {g : Nat} {x0 x1 x2 a b c : Value} {t : TypeId} {f : Nat × Nat} (h : w.heap[g]? = some (.cells #[x0, x1, x2] t f)) :
    (((w.setCell ⟨g, 0, none⟩ a).setCell ⟨g, 1, none⟩ b).setCell ⟨g, 2, none⟩ c).heap[g]? = some (.cells #[a, b, c] t f) := by
  simp only [World.setCell]
  rw [Array.getElem?_modify, if_pos rfl, Array.getElem?_modify, if_pos rfl, Array.getElem?_modify, if_pos rfl, h]
  rfl
theorem ch_set {w : World} {B g i : Nat} {v u : Value} {xs : List Nat} {cs : Array Value} {f : Nat × Nat} (h : Ch w B v xs) (hg : w.heap[g]? = some (.cells cs 40 f)) : Ch (w.setCell ⟨g, i, none⟩ u) B v xs := by
  refine h.same fun b hb => Below.heap_setCell _ _ _ _ fun e => ?_
  obtain ⟨cs', h2⟩ := h.own hb
  simp only at e
  rw [e, hg] at h2
  cases h2
theorem set_shape {w : World} {g i : Nat} {u : Value} {cs : Array Value} {t : TypeId} {f : Nat × Nat} (hg : w.heap[g]? = some (.cells cs t f)) : ∃ cs', (w.setCell ⟨g, i, none⟩ u).heap[g]? = some (.cells cs' t f) := by
  refine ⟨cs.setIfInBounds i u, ?_⟩
  simp only [World.setCell]
  rw [Array.getElem?_modify, if_pos rfl, hg]; rfl
theorem ch_set3 {w : World} {B g : Nat} {v a b c : Value} {xs : List Nat} {cs : Array Value} {f : Nat × Nat} (h : Ch w B v xs) (hg : w.heap[g]? = some (.cells cs 40 f)) : Ch (((w.setCell ⟨g, 0, none⟩ a).setCell ⟨g, 1, none⟩ b).setCell ⟨g, 2, none⟩ c) B v xs := by
  obtain ⟨c1, h1⟩ := set_shape (i := 0) (u := a) hg
  obtain ⟨c2, h2⟩ := set_shape (i := 1) (u := b) h1
  exact ch_set (ch_set (ch_set h hg) h1) h2
/-- the report as it is built: in block g, the chains elsewhere -/
def FindCut (S : Sch) (a : Option Addr) (cap : Nat) (w : World) (s3 : Value) (wx : World) : Prop :=
  ∃ (wz : World) (g : Nat) (a2 a3 : Option Addr) (n2 c2 n3 c3 : Nat), wz = wx ∧ s3 = .pointer (some ⟨g, 0, none⟩) ∧ w.heap.size + 2 ≤ g ∧ wx.heap[g]? = some (.cells #[.slice none 0 0, .slice a2 n2 c2, .slice a3 n3 c3] 40 (0, 0)) ∧
    Ch wx w.heap.size (.slice a2 n2 c2) (stuckF S) ∧ Ch wx w.heap.size (.slice a3 n3 c3) (endF S) ∧ Below (w.heap.size + 2) ((w.alloc (.cells #[.int .i64 S.modes, .int .u8 S.acc, .slice a S.rules.length cap] 33)).alloc (.cells #[.slice none 0 0, .slice none 0 0, .slice none 0 0] 40)) wx


/-- a report that is being built in block g: its dead rules in a row of their own from B1 on, its chains in older blocks -/
structure LS (w M : World) (g B1 : Nat) (v1 v2 v3 : Value) (x1 x2 x3 : List Nat) (wr : World) : Prop where
  rep : wr.heap[g]? = some (.cells #[v1, v2, v3] 40 (0, 0))
  d1 : Ch wr B1 v1 x1
  d2 : Ch wr w.heap.size v2 x2
  d3 : Ch wr w.heap.size v3 x3
  l2 : ∀ b, v2.ownBlock = some b → b < B1
  l3 : ∀ b, v3.ownBlock = some b → b < B1
  gB : g < B1
  gm : w.heap.size + 2 ≤ g
  bB : B1 ≤ wr.heap.size
  bl : Below (w.heap.size + 2) M wr
section
variable {w M : World} {g B1 : Nat} {v1 v2 v3 : Value} {x1 x2 x3 : List Nat} {wr : World}
theorem LS.below {w1 : World} (h : LS w M g B1 v1 v2 v3 x1 x2 x3 wr) (hb : Below wr.heap.size wr w1) : LS w M g B1 v1 v2 v3 x1 x2 x3 w1 :=
  ⟨(hb.block g (by have := h.gB; have := h.bB; omega)).trans h.rep, h.d1.below hb h.d1.lt, h.d2.below hb h.d2.lt, h.d3.below hb h.d3.lt, h.l2, h.l3, h.gB, h.gm, by have := h.bB; have := hb.size; omega,
    h.bl.trans (hb.mono (by have := h.gB; have := h.gm; have := h.bB; omega))⟩
theorem LS.g0 (h : LS w M g B1 v1 v2 v3 x1 x2 x3 wr) : wr.cell? ⟨g, 0, none⟩ = some v1 := by rw [cell_of_row wr g 0 _ _ (0, 0) h.rep]; rfl
theorem LS.g1 (h : LS w M g B1 v1 v2 v3 x1 x2 x3 wr) : wr.cell? ⟨g, 1, none⟩ = some v2 := by rw [cell_of_row wr g 1 _ _ (0, 0) h.rep]; rfl
theorem LS.g2 (h : LS w M g B1 v1 v2 v3 x1 x2 x3 wr) : wr.cell? ⟨g, 2, none⟩ = some v3 := by rw [cell_of_row wr g 2 _ _ (0, 0) h.rep]; rfl
theorem LS.gf (h : LS w M g B1 v1 v2 v3 x1 x2 x3 wr) (i : Nat) : wr.frozen? ⟨g, i, none⟩ = false := by simp [World.frozen?, h.rep]
/-- what an append to the dead rules leaves, ahead of the store -/
theorem LS.grown {w1 : World} {v : Value} {x : List Nat} {row : Option Nat} (h : LS w M g B1 v1 v2 v3 x1 x2 x3 wr) (hg : wr.grownBy w1 row) (hr : ∀ k, row = some k → B1 ≤ k) (hd : Ch w1 B1 v x) :
    LS w M g B1 v v2 v3 x x2 x3 (w1.setCell ⟨g, 0, none⟩ v) := by
  have hb : Below B1 wr w1 := (Below.refl _ wr).grown hg h.bB hr
  have hrep : w1.heap[g]? = some (.cells #[v1, v2, v3] 40 (0, 0)) := (hb.block g h.gB).trans h.rep
  refine ⟨?_, ch_set hd hrep, ch_set (h.d2.below hb h.l2) hrep, ch_set (h.d3.below hb h.l3) hrep, h.l2, h.l3, h.gB, h.gm, by have := h.bB; have := hb.size; rw [World.size_setCell]; omega, (h.bl.trans (hb.mono (by have := h.gB; have := h.gm; omega))).setCell h.gm _⟩
  simp only [World.setCell]
  rw [Array.getElem?_modify, if_pos rfl, hrep]; rfl
theorem LS.cells {w1 : World} {row : Option Nat} (h : LS w M g B1 v1 v2 v3 x1 x2 x3 wr) (hg : wr.grownBy w1 row) (hr : ∀ k, row = some k → B1 ≤ k) : w1.cell? ⟨g, 0, none⟩ = some v1 ∧ w1.frozen? ⟨g, 0, none⟩ = false := by
  have hb : Below B1 wr w1 := (Below.refl _ wr).grown hg h.bB hr
  exact ⟨(hb.cell (p := ⟨g, 0, none⟩) h.gB).trans h.g0, (hb.frozen (p := ⟨g, 0, none⟩) h.gB).trans (h.gf 0)⟩
end
theorem cells3 {w : World} {g : Nat} {a b c : Value} {t : TypeId} {f : Nat × Nat} (h : w.heap[g]? = some (.cells #[a, b, c] t f)) :
    w.cell? ⟨g, 0, none⟩ = some a ∧ w.cell? ⟨g, 1, none⟩ = some b ∧ w.cell? ⟨g, 2, none⟩ = some c := by
  refine ⟨?_, ?_, ?_⟩
  · rw [cell_of_row w g 0 _ _ f h]; rfl
  · rw [cell_of_row w g 1 _ _ f h]; rfl
  · rw [cell_of_row w g 2 _ _ f h]; rfl
theorem deadF_succ (S : Sch) (k : Nat) (h : k < S.rules.length) : deadF S (k + 1) = if deadB (reachS S) (liveS S) S.rules[k] then deadF S k ++ [k] else deadF S k := by
  unfold deadF
  rw [List.range_succ, List.filter_append]
  simp only [List.filter_cons, List.filter_nil, dif_pos h]
  split <;> simp
theorem deadF_len (S : Sch) (k : Nat) : (deadF S k).length ≤ k := by
  have := List.length_filter_le (fun i => if h : i < S.rules.length then deadB (reachS S) (liveS S) S.rules[i] else false) (List.range k)
  simpa [deadF] using this

set_option maxHeartbeats 1600000 in
theorem find_any (S : Sch) (a : Option Addr) (cap : Nat) (w : World) (hR : RulS w a S.rules) (h0 : 0 ≤ S.acc) (h1 : S.acc ≤ 255) (hl : S.rules.length ≤ 9223372036854775807) (hcap : S.rules.length ≤ cap) (hS : validB S = true → Fit S) :
    Calls Try.prog 14 #[.agg #[.int .i64 S.modes, .int .u8 S.acc, .slice a S.rules.length cap]] w fun e w' => ∃ v1 v2 v3, e = .returned (.agg #[v1, v2, v3]) ∧ Ch w' w.heap.size v1 (findF S).dead ∧ Ch w' w.heap.size v2 (findF S).stuck ∧ Ch w' w.heap.size v3 (findF S).endl ∧ Below w.heap.size w w' := by
  have HR := Lib.hid hR; have HS := Lib.hid hS; clear hR hS
  by_cases hv : validB S = true
  · have hFit := HS.out hv
    have HV := Lib.hid hv
    have HF : Hid (findF S = ⟨deadF S S.rules.length, stuckF S, endF S⟩) := by show _ = _; rw [findF, if_pos hv]
    clear hv
    go_enter Try.func14, Try.ntmps14
    go_wp2_with (first
      | (go_at_call 36; refine (valid_any S a cap _ (HR.out.later (by first | exact hB | go_grown) (Nat.le_refl _)) h0 h1 hl hcap).mono ?_; rintro e w1 ⟨he, hb⟩; rw [HV.out] at he; subst he; obtain ⟨hz, hc, hf⟩ := bcell hb (by first | (simp only [World.size_alloc, World.size_setCell, World.size_drew]; rfl) | rfl); have hB := below_call (B := w.heap.size) (w := w) (by go_grown) hb (Nat.le_refl _); have hal := below_call (B := w.heap.size + 2) (w := ((w.alloc (.cells #[.int .i64 S.modes, .int .u8 S.acc, .slice a S.rules.length cap] 33)).alloc (.cells #[.slice none 0 0, .slice none 0 0, .slice none 0 0] 40))) (by go_grown) hb (by simp); clear hb))
    go_upto_region 3 with fail
    go_cut [3] (fun s3 wx => FindCut S a cap w s3 wx)
    case first =>
     go_region_held3 (fun w' => w'.cell? ⟨w.heap.size, 0, none⟩ = some (.int .i64 S.modes) ∧ w'.cell? ⟨w.heap.size, 1, none⟩ = some (.int .u8 S.acc) ∧ w'.cell? ⟨w.heap.size, 2, none⟩ = some (.slice a S.rules.length cap)) (first | (simp [go_sem, *]; done) | go_keep) (first | (go_at_call 37; refine (stuck_any S a cap _ (HR.out.later (by first | exact hB | go_grown) (Nat.le_refl _)) hFit).mono ?_; rintro e w2 ⟨v2, rfl, hch, hb⟩; obtain ⟨a2, n2, c2, hv2⟩ := hch.1.form; subst hv2; have HC2 := Lib.hid hch; have HB2 := Lib.hid hb; have hsz2 := hb.size; clear hch; obtain ⟨hz, hc, hf⟩ := bcell hb (by first | (simp only [World.size_alloc, World.size_setCell, World.size_drew]; rfl) | rfl); have hB := below_call (B := w.heap.size) (w := w) (by go_grown) hb (Nat.le_refl _); have hal := below_call (B := w.heap.size + 2) (w := ((w.alloc (.cells #[.int .i64 S.modes, .int .u8 S.acc, .slice a S.rules.length cap] 33)).alloc (.cells #[.slice none 0 0, .slice none 0 0, .slice none 0 0] 40))) (by go_grown) hb (by simp); clear hb) | (go_at_call 38; refine (endless_any S a cap _ (HR.out.later (by first | exact hB | go_grown) (Nat.le_refl _)) hFit).mono ?_; rintro e w3 ⟨v3, rfl, hch, hb⟩; obtain ⟨a3, n3, c3, hv3⟩ := hch.1.form; subst hv3; have HC3 := Lib.hid hch; have HC2b : Hid (Ch _ _ (.slice a2 n2 c2) (stuckF S)) := HC2.out.1.below (below_call (B := w2.heap.size) (w := w2) (by go_grown) hb (Nat.le_refl _)) HC2.out.1.lt; have HC3c : Hid (Ch w3 w.heap.size (.slice a3 n3 c3) (endF S)) := hch.1.mono (by have := hB.size; first | omega | (simp only [World.size_alloc, World.size_drew]; omega)); have HC2c : Hid (Ch w3 w.heap.size (.slice a2 n2 c2) (stuckF S)) := HC2b.out.mono (by have := hB.size; have := hsz2; first | omega | (simp only [World.size_alloc, World.size_drew] at *; omega)); have HB3 := Lib.hid hb; clear hch; obtain ⟨hz, hc, hf⟩ := bcell hb (by first | (simp only [World.size_alloc, World.size_setCell, World.size_drew]; rfl) | rfl); have hB := below_call (B := w.heap.size) (w := w) (by go_grown) hb (Nat.le_refl _); have hal := below_call (B := w.heap.size + 2) (w := ((w.alloc (.cells #[.int .i64 S.modes, .int .u8 S.acc, .slice a S.rules.length cap] 33)).alloc (.cells #[.slice none 0 0, .slice none 0 0, .slice none 0 0] 40))) (by go_grown) hb (by simp); clear hb))
     all_goals
       go_wp2_with fail
       go_meet
       first
         | ((with_reducible show FindCut S a cap w (.pointer (some ⟨w3.heap.size, 0, none⟩)) _); exact ⟨_, w3.heap.size, a2, a3, n2, c2, n3, c3, rfl, rfl, by have := hal.size; simp only [World.size_alloc] at this; omega, heap_alloc_new _ _, HC2c.out.below ((Below.refl _ _).alloc (Nat.le_refl _) _) HC2c.out.lt, HC3c.out.below ((Below.refl _ _).alloc (Nat.le_refl _) _) HC3c.out.lt, by go_grown⟩)
         | ((with_reducible show FindCut S a cap w (.pointer (some ⟨w2.heap.size, 0, none⟩)) _); have hg := (HB3.out.block w2.heap.size (by simp)).trans (heap_alloc_new _ _); exact ⟨_, w2.heap.size, a2, a3, n2, c2, n3, c3, rfl, rfl, by omega, set3 hg, ch_set3 HC2c.out hg, ch_set3 HC3c.out hg, by go_grown⟩)
         | ((with_reducible show FindCut S a cap w (.pointer (some ⟨w1.heap.size, 0, none⟩)) _); have hg := (HB3.out.block w1.heap.size (by have := HB2.out.size; simp at this; omega)).trans ((HB2.out.block w1.heap.size (by simp)).trans (heap_alloc_new _ _)); exact ⟨_, w1.heap.size, a2, a3, n2, c2, n3, c3, rfl, rfl, by omega, set3 hg, ch_set3 HC2c.out hg, ch_set3 HC3c.out hg, by go_grown⟩)
    case rest =>
     clear hB hal hz hc hf
     obtain ⟨wx, g, a2, a3, n2, c2, n3, c3, rfl, rfl, hg2, hrep, hc2, hc3, hal⟩ := hcut
     have hB : Below w.heap.size w wx := (((Below.refl _ _).alloc (Nat.le_refl _) _).alloc (by simp) _).trans (hal.mono (by omega))
     have hgx : g < wx.heap.size := (Array.getElem?_eq_some_iff.1 hrep).1
     have HLS0 : Hid (LS w ((w.alloc (.cells #[.int .i64 S.modes, .int .u8 S.acc, .slice a S.rules.length cap] 33)).alloc (.cells #[.slice none 0 0, .slice none 0 0, .slice none 0 0] 40)) g wx.heap.size (.slice none 0 0) (.slice a2 n2 c2) (.slice a3 n3 c3) [] (stuckF S) (endF S) wx) := ⟨hrep, Ch.nil _ _, hc2, hc3, hc2.lt, hc3.lt, hgx, hg2, Nat.le_refl _, hal⟩
     obtain ⟨hz, hc, hf⟩ := bcellB hal rfl
     simp only [World.size_alloc] at hz
     clear hrep hc2 hc3
     obtain ⟨A, hA⟩ : ∃ A, reachS S = A := ⟨_, rfl⟩
     obtain ⟨B, hBm⟩ : ∃ B, liveS S = B := ⟨_, rfl⟩
     have hA8 : A < 256 := by rw [← hA]; exact reachedM_lt hFit
     have hB8 : B < 256 := by rw [← hBm]; exact liveM_lt hFit
     have HA := Lib.hid hA; have HBm := Lib.hid hBm; clear hA hBm
     obtain ⟨B1, hB1⟩ : ∃ B1, wx.heap.size = B1 := ⟨_, rfl⟩
     rw [hB1] at HLS0
     clear hB1
     go_wp2_with fail
     go_region_held3 (fun w' => w'.cell? ⟨w.heap.size, 0, none⟩ = some (.int .i64 S.modes) ∧ w'.cell? ⟨w.heap.size, 1, none⟩ = some (.int .u8 S.acc) ∧ w'.cell? ⟨w.heap.size, 2, none⟩ = some (.slice a S.rules.length cap)) (first | (simp [go_sem, *]; done) | go_keep) (first | (go_at_call 39; refine (reached_any S a cap _ (HR.out.later (by first | exact hB | go_grown) (Nat.le_refl _)) hFit).mono ?_; rintro e w1 ⟨he, hb⟩; rw [show reachedM S.eds S.modes.toNat = A from HA.out] at he; subst he; have HLS1 := Lib.hid (HLS0.out.below (below_call (B := wx.heap.size) (w := wx) (by go_grown) hb (Nat.le_refl _))); obtain ⟨hz, hc, hf⟩ := bcell hb (by first | (simp only [World.size_alloc, World.size_setCell, World.size_drew]; rfl) | rfl); have hB := below_call (B := w.heap.size) (w := w) (by go_grown) hb (Nat.le_refl _); have hal := below_call (B := w.heap.size + 2) (w := ((w.alloc (.cells #[.int .i64 S.modes, .int .u8 S.acc, .slice a S.rules.length cap] 33)).alloc (.cells #[.slice none 0 0, .slice none 0 0, .slice none 0 0] 40))) (by go_grown) hb (by simp); clear hb) | (go_at_call 40; refine (live_any S a cap _ (HR.out.later (by first | exact hB | go_grown) (Nat.le_refl _)) hFit).mono ?_; rintro e w2 ⟨he, hb⟩; rw [show liveM S.eds S.modes.toNat S.acc.toNat = B from HBm.out] at he; subst he; have HLS2 := Lib.hid (HLS1.out.below (below_call (B := w1.heap.size) (w := w1) (by go_grown) hb (Nat.le_refl _))); obtain ⟨hz, hc, hf⟩ := bcell hb (by first | (simp only [World.size_alloc, World.size_setCell, World.size_drew]; rfl) | rfl); have hB := below_call (B := w.heap.size) (w := w) (by go_grown) hb (Nat.le_refl _); have hal := below_call (B := w.heap.size + 2) (w := ((w.alloc (.cells #[.int .i64 S.modes, .int .u8 S.acc, .slice a S.rules.length cap] 33)).alloc (.cells #[.slice none 0 0, .slice none 0 0, .slice none 0 0] 40))) (by go_grown) hb (by simp); clear hb))
     go_wp2
     clear hc hf hz hal hB
     obtain ⟨i0, hi, hz0, hz1, hz2⟩ := info_parts info_int
     have hlen := hFit.len
     go_loopw [24] (fun i wr => ∃ (k : Nat) (a1 : Option Addr) (n1 c1 : Nat), k ≤ S.rules.length ∧ i = .int .i64 k ∧ LS w ((w.alloc (.cells #[.int .i64 S.modes, .int .u8 S.acc, .slice a S.rules.length cap] 33)).alloc (.cells #[.slice none 0 0, .slice none 0 0, .slice none 0 0] 40)) g B1 (.slice a1 n1 c1) (.slice a2 n2 c2) (.slice a3 n3 c3) (deadF S k) (stuckF S) (endF S) wr) (fun i _ => S.rules.length - (intOf i).toNat)
     case atStart => exact ⟨0, none, 0, 0, by omega, rfl, HLS2.out⟩
     case round =>
       obtain ⟨k, a1, n1, c1, hk, rfl, hls⟩ := hrel
       have hal := hls.bl
       have hB : Below w.heap.size w wr := (((Below.refl _ _).alloc (Nat.le_refl _) _).alloc (by simp) _).trans (hal.mono (by omega))
       obtain ⟨hz, hc, hf⟩ := bcellB hal rfl
       simp only [World.size_alloc] at hz
       have HLS := Lib.hid hls; clear hls
       by_cases hlt : k < S.rules.length
       · obtain ⟨b, o, ha, hb, q0, q1, q2, q3, q4⟩ := (HR.out.later hB (Nat.le_refl _)).at hlt
         have hidx := idx_rules a b o S.rules.length cap k ha hlt
         have HAd := Lib.hid ha; clear ha
         obtain ⟨f0, f1, t0, t1⟩ := hFit.at0 k hlt
         have hm1 := hFit.m1
         obtain ⟨dd, hdd⟩ : ∃ dd, deadB A B S.rules[k] = dd := ⟨_, rfl⟩
         have HDD := Lib.hid hdd
         have HDS : Hid (deadF S (k + 1) = if dd then deadF S k ++ [k] else deadF S k) := by show _ = _; rw [deadF_succ S k hlt, HA.out, HBm.out, HDD.out]
         clear hdd
         by_cases hd : dd = true
         · subst hd
           have HL1 : Hid ((deadF S k).length + 1 ≤ 100) := by have := deadF_len S k; show _ ≤ _; omega
           go_wp2_with (first
             | (go_at_call 41; refine (dead_any S.rules[k] A B _ hA8 hB8 f0 (by omega) t0 (by omega)).mono ?_; rintro e w3 ⟨he, hb⟩; rw [HDD.out] at he; subst he; have HLS3 := Lib.hid (HLS.out.below (below_call (B := wr.heap.size) (w := wr) (by go_grown) hb (Nat.le_refl _))); have hg0 := HLS3.out.g0; have HLS4 := Lib.hid (HLS3.out.below ((Below.refl _ _).alloc (Nat.le_refl _) (.cells #[.int .i64 (k : Int)] 3))); obtain ⟨hz, hc, hf⟩ := bcell hb (by first | (simp only [World.size_alloc, World.size_setCell, World.size_drew]; rfl) | rfl); have hB := below_call (B := w.heap.size) (w := w) (by go_grown) hb (Nat.le_refl _); have hal := below_call (B := w.heap.size + 2) (w := ((w.alloc (.cells #[.int .i64 S.modes, .int .u8 S.acc, .slice a S.rules.length cap] 33)).alloc (.cells #[.slice none 0 0, .slice none 0 0, .slice none 0 0] 40))) (by go_grown) hb (by simp); clear hb)
             | (at_builtin; refine wpList_append_own _ rfl _ _ 38 rfl B1 3 i0 (.int .i64 0) 1 8 Try.underlying38 hi hz0 hz1 hz2 rfl (by decide) (.slice a1 n1 c1) (deadF S k).length (nats (deadF S k)) rfl HLS4.out.d1 ⟨w3.heap.size, 0, none⟩ 1 1 [.int .i64 (k : Int)] rfl rfl (cell_one_new _ _ _) (by simp [Value.oneCell']) (by have := HL1.out; unfold maxLen; omega) (by have := HL1.out; omega) (by exact HLS4.out.bB) ?_; intro v5 w5 hown5 hgrow5 _; have HC5 := Lib.hid (ch_snoc hown5); obtain ⟨a5, n5, c5, hv5⟩ := HC5.out.form; subst hv5; have hcl := HLS4.out.cells hgrow5 (fun b hb => HLS4.out.d1.ge b hb); obtain ⟨hcl0, hclf⟩ := hcl; have HLS6 := Lib.hid (HLS4.out.grown hgrow5 (fun b hb => HLS4.out.d1.ge b hb) HC5.out); clear hown5 hgrow5)
             | fail)
           go_roundw
           case rel => exact ⟨k + 1, a5, n5, c5, by omega, by go_num, by rw [HDS.out]; first | exact HLS6.out | (simp only [if_true]; exact HLS6.out)⟩
           case measure => simp [intOf]; omega
         · obtain rfl : dd = false := by simpa using hd
           clear hd
           go_wp2_with (first
             | (go_at_call 41; refine (dead_any S.rules[k] A B _ hA8 hB8 f0 (by omega) t0 (by omega)).mono ?_; rintro e w3 ⟨he, hb⟩; rw [HDD.out] at he; subst he; have HLS3 := Lib.hid (HLS.out.below (below_call (B := wr.heap.size) (w := wr) (by go_grown) hb (Nat.le_refl _))); obtain ⟨hz, hc, hf⟩ := bcell hb (by first | (simp only [World.size_alloc, World.size_setCell, World.size_drew]; rfl) | rfl); have hB := below_call (B := w.heap.size) (w := w) (by go_grown) hb (Nat.le_refl _); have hal := below_call (B := w.heap.size + 2) (w := ((w.alloc (.cells #[.int .i64 S.modes, .int .u8 S.acc, .slice a S.rules.length cap] 33)).alloc (.cells #[.slice none 0 0, .slice none 0 0, .slice none 0 0] 40))) (by go_grown) hb (by simp); clear hb)
             | fail)
           go_roundw
           case rel => exact ⟨k + 1, a1, n1, c1, by omega, by go_num, by rw [HDS.out]; first | exact HLS3.out | (simp only [if_false]; exact HLS3.out) | (simp; exact HLS3.out)⟩
           case measure => simp [intOf]; omega
       · obtain rfl : k = S.rules.length := by omega
         have hg0 := HLS.out.g0; have hg1 := HLS.out.g1; have hg2 := HLS.out.g2
         go_wp2
         have hrb : wr.heap[w.heap.size + 1]? = some (.cells #[.slice none 0 0, .slice none 0 0, .slice none 0 0] 40 (0, 0)) := by
           refine (HLS.out.bl.block (w.heap.size + 1) (by omega)).trans ?_
           have := heap_alloc_new (w.alloc (.cells #[.int .i64 S.modes, .int .u8 S.acc, .slice a S.rules.length cap] 33)) (.cells #[.slice none 0 0, .slice none 0 0, .slice none 0 0] 40)
           simpa using this
         obtain ⟨r0, r1, r2⟩ := cells3 (set3 (a := .slice a1 n1 c1) (b := .slice a2 n2 c2) (c := .slice a3 n3 c3) hrb)
         refine bodyPost_ret (v := .agg #[.slice a1 n1 c1, .slice a2 n2 c2, .slice a3 n3 c3]) (by simp [results, Try.results14, go_sem, r0, r1, r2]) rfl ⟨_, _, _, rfl, ?_, ?_, ?_, ?_⟩
         · rw [HF.out]; exact ch_set3 (HLS.out.d1.mono (by have := HLS.out.gm; have := HLS.out.gB; omega)) hrb
         · rw [HF.out]; exact ch_set3 HLS.out.d2 hrb
         · rw [HF.out]; exact ch_set3 HLS.out.d3 hrb
         · exact ((hB.setCell (by simp) _).setCell (by simp) _).setCell (by simp) _
  · have hv' : validB S = false := by simpa using hv
    have HV := Lib.hid hv'
    have HF : Hid (findF S = ⟨[], [], []⟩) := by show _ = _; rw [findF, if_neg hv]
    clear hv hv'
    go_enter Try.func14, Try.ntmps14
    go_wp2_with (first
      | (go_at_call 36; refine (valid_any S a cap _ (HR.out.later (by first | exact hB | go_grown) (Nat.le_refl _)) h0 h1 hl hcap).mono ?_; rintro e w1 ⟨he, hb⟩; rw [HV.out] at he; subst he; obtain ⟨hz, hc, hf⟩ := bcell hb (by first | (simp only [World.size_alloc, World.size_setCell, World.size_drew]; rfl) | rfl); have hB := below_call (B := w.heap.size) (w := w) (by go_grown) hb (Nat.le_refl _); have hal := below_call (B := w.heap.size + 2) (w := ((w.alloc (.cells #[.int .i64 S.modes, .int .u8 S.acc, .slice a S.rules.length cap] 33)).alloc (.cells #[.slice none 0 0, .slice none 0 0, .slice none 0 0] 40))) (by go_grown) hb (by simp); clear hb))
    have hrb : w1.heap[w.heap.size + 1]? = some (.cells #[.slice none 0 0, .slice none 0 0, .slice none 0 0] 40 (0, 0)) := by
      refine (hal.block (w.heap.size + 1) (by omega)).trans ?_
      have := heap_alloc_new (w.alloc (.cells #[.int .i64 S.modes, .int .u8 S.acc, .slice a S.rules.length cap] 33)) (.cells #[.slice none 0 0, .slice none 0 0, .slice none 0 0] 40)
      simpa using this
    obtain ⟨r0, r1, r2⟩ := cells3 (set3 (a := .slice none 0 0) (b := .slice none 0 0) (c := .slice none 0 0) hrb)
    refine bodyPost_ret (v := .agg #[.slice none 0 0, .slice none 0 0, .slice none 0 0]) (by simp [results, Try.results14, go_sem, r0, r1, r2]) rfl ⟨_, _, _, rfl, ?_, ?_, ?_, ?_⟩
    · rw [HF.out]; exact Ch.nil _ _
    · rw [HF.out]; exact Ch.nil _ _
    · rw [HF.out]; exact Ch.nil _ _
    · exact ((hB.setCell (by simp) _).setCell (by simp) _).setCell (by simp) _
end Go.Proofs.Ytogjcfcfgnbmkaa
