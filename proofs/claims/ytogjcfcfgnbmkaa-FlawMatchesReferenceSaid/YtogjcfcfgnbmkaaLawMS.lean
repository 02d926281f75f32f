/- Schemes in a row of three, and reports, as predicates of a region's slots. -/
import Derived.Test.YtogjcfcfgnbmkaaMade3
import Derived.Test.YtogjcfcfgnbmkaaLawB
import Derived.Test.YtogjcfcfgnbmkaaSanity
import Derived.Test.YtogjcfcfgnbmkaaPlainB
namespace Go.Proofs.Ytogjcfcfgnbmkaa
open Go.RowKit
set_option linter.unusedVariables false
set_option linter.unusedSimpArgs false

/-- a scheme whose rules lie in w -/
structure SchOk (w : World) (S : Sch) (b : Option Addr) (c : Nat) : Prop where
  a0 : 0 ≤ S.acc
  a1 : S.acc ≤ 255
  len : S.rules.length ≤ 64
  cap : S.rules.length ≤ c
  rul : RulS w b S.rules
theorem SchOk.later {w w1 : World} {S : Sch} {b : Option Addr} {c B : Nat} (h : SchOk w S b c) (hb : Below B w w1) (hB : w.heap.size ≤ B) : SchOk w1 S b c :=
  ⟨h.a0, h.a1, h.len, h.cap, h.rul.later hb hB⟩
def SchV (v : Value) (w : World) : Prop := ∃ (S : Sch) (b : Option Addr) (c : Nat), v = .agg #[.int .i64 S.modes, .int .u8 S.acc, .slice b S.rules.length c] ∧ SchOk w S b c
theorem schV_stays : Stays SchV := by
  rintro v w w' ⟨S, b, c, rfl, h⟩ hx
  exact ⟨S, b, c, rfl, h.later hx (Nat.le_refl _)⟩
def SchAt (w : World) (g o : Nat) : Prop := ∃ (S : Sch) (b : Option Addr) (c : Nat), w.cell? ⟨g, o, none⟩ = some (.int .i64 S.modes) ∧ w.cell? ⟨g, o + 1, none⟩ = some (.int .u8 S.acc) ∧ w.cell? ⟨g, o + 2, none⟩ = some (.slice b S.rules.length c) ∧ SchOk w S b c
theorem SchAt.later {w w1 : World} {g o B : Nat} (h : SchAt w g o) (hb : Below B w w1) (hB : w.heap.size ≤ B) (hg : g < w.heap.size) : SchAt w1 g o := by
  obtain ⟨S, b, c, h0, h1, h2, h3⟩ := h
  exact ⟨S, b, c, (hb.cell (p := ⟨g, o, none⟩) (by show g < B; omega)).trans h0, (hb.cell (p := ⟨g, o + 1, none⟩) (by show g < B; omega)).trans h1, (hb.cell (p := ⟨g, o + 2, none⟩) (by show g < B; omega)).trans h2, h3.later hb hB⟩
def Row3 (v : Value) (w : World) : Prop := ∃ g, v = .slice (some ⟨g, 0, none⟩) 3 3 ∧ g < w.heap.size ∧ ∀ k, k < 3 → SchAt w g (k * 3)
theorem row3_stays : Stays Row3 := by
  rintro v w w' ⟨g, rfl, hg, h⟩ hx
  exact ⟨g, rfl, Nat.lt_of_lt_of_le hg hx.size, fun k hk => (h k hk).later hx (Nat.le_refl _) hg⟩
theorem row3_new {w : World} {S0 S1 S2 : Sch} {b0 b1 b2 : Option Addr} {c0 c1 c2 : Nat} (h0 : SchOk w S0 b0 c0) (h1 : SchOk w S1 b1 c1) (h2 : SchOk w S2 b2 c2) :
    Row3 (.slice (some ⟨w.heap.size, 0, none⟩) 3 3) (w.alloc (.cells #[.int .i64 S0.modes, .int .u8 S0.acc, .slice b0 S0.rules.length c0, .int .i64 S1.modes, .int .u8 S1.acc, .slice b1 S1.rules.length c1, .int .i64 S2.modes, .int .u8 S2.acc, .slice b2 S2.rules.length c2] 33)) := by
  have hb : Below w.heap.size w (w.alloc (.cells #[.int .i64 S0.modes, .int .u8 S0.acc, .slice b0 S0.rules.length c0, .int .i64 S1.modes, .int .u8 S1.acc, .slice b1 S1.rules.length c1, .int .i64 S2.modes, .int .u8 S2.acc, .slice b2 S2.rules.length c2] 33)) := (Below.refl _ _).alloc (Nat.le_refl _) _
  have hn := heap_alloc_new w (.cells #[.int .i64 S0.modes, .int .u8 S0.acc, .slice b0 S0.rules.length c0, .int .i64 S1.modes, .int .u8 S1.acc, .slice b1 S1.rules.length c1, .int .i64 S2.modes, .int .u8 S2.acc, .slice b2 S2.rules.length c2] 33)
  refine ⟨_, rfl, by simp, fun k hk => ?_⟩
  rcases (show k = 0 ∨ k = 1 ∨ k = 2 by omega) with rfl | rfl | rfl
  · exact ⟨S0, b0, c0, by rw [cell_of_row _ _ _ _ _ _ hn]; rfl, by rw [cell_of_row _ _ _ _ _ _ hn]; rfl, by rw [cell_of_row _ _ _ _ _ _ hn]; rfl, h0.later hb (Nat.le_refl _)⟩
  · exact ⟨S1, b1, c1, by rw [cell_of_row _ _ _ _ _ _ hn]; rfl, by rw [cell_of_row _ _ _ _ _ _ hn]; rfl, by rw [cell_of_row _ _ _ _ _ _ hn]; rfl, h1.later hb (Nat.le_refl _)⟩
  · exact ⟨S2, b2, c2, by rw [cell_of_row _ _ _ _ _ _ hn]; rfl, by rw [cell_of_row _ _ _ _ _ _ hn]; rfl, by rw [cell_of_row _ _ _ _ _ _ hn]; rfl, h2.later hb (Nat.le_refl _)⟩
/-- a report -/
def RepV (R : Rp) (v : Value) (w : World) : Prop := ∃ (d t e : Option Addr) (c1 c2 c3 : Nat), v = .agg #[.slice d R.dead.length c1, .slice t R.stuck.length c2, .slice e R.endl.length c3] ∧ RpS w d t e (ints R.dead) (ints R.stuck) (ints R.endl)
theorem repV_stays (R : Rp) : Stays (RepV R) := by
  rintro v w w' ⟨d, t, e, c1, c2, c3, rfl, h⟩ hx
  exact ⟨d, t, e, c1, c2, c3, rfl, h.later hx (Nat.le_refl _)⟩
theorem repV_of {W : World} {B : Nat} {v1 v2 v3 : Value} {R : Rp} (h1 : Ch W B v1 R.dead) (h2 : Ch W B v2 R.stuck) (h3 : Ch W B v3 R.endl) : RepV R (.agg #[v1, v2, v3]) W := by
  obtain ⟨a1, c1, rfl, -, s1⟩ := h1.sl
  obtain ⟨a2, c2, rfl, -, s2⟩ := h2.sl
  obtain ⟨a3, c3, rfl, -, s3⟩ := h3.sl
  exact ⟨a1, a2, a3, c1, c2, c3, rfl, s1, s2, s3⟩
theorem findF_len {S : Sch} (hl : S.rules.length ≤ 64) (hS : validB S = true → Fit S) : (findF S).dead.length ≤ 64 ∧ (findF S).stuck.length ≤ 64 ∧ (findF S).endl.length ≤ 64 := by
  unfold findF
  by_cases h : validB S = true
  · rw [if_pos h]
    have h1 := deadF_len S S.rules.length
    have h2 := stuckF_len (hS h)
    have h3 := endF_len (hS h)
    exact ⟨by show (deadF S S.rules.length).length ≤ 64; omega, by show (stuckF S).length ≤ 64; omega, by show (endF S).length ≤ 64; omega⟩
  · rw [if_neg h]
    exact ⟨by simp, by simp, by simp⟩
theorem idx_schemes (g k : Nat) (hk : k < 3) (w : World) :
    (Instr.indexAt 36 (.slice (some ⟨g, 0, none⟩) 3 3) (.int .i64 (k : Int))).run Try.prog w = .ok (.pointer (some ⟨g, k * 3, none⟩)) w := by
  have h0 : (0 : Int) ≤ (k : Int) := by omega
  have h1 : (k : Int) < 3 := by omega
  simp [go_sem, h0, h1]
end Go.Proofs.Ytogjcfcfgnbmkaa
