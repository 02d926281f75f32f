/- Reference 04: a Walk that lies in memory, and next over it. -/
import Derived.Test.YtogjcfcfgnbmkaaNext2
import Derived.Test.YtogjcfcfgnbmkaaLevels
namespace Go.Proofs.Ytogjcfcfgnbmkaa
open Go.RowKit
set_option linter.unusedVariables false
set_option linter.unusedSimpArgs false

def sa : Value → Option Addr | .slice a _ _ => a | _ => none
def sn : Value → Nat | .slice _ n _ => n | _ => 0
def sc : Value → Nat | .slice _ _ c => c | _ => 0
theorem sl_form {w : World} {B : Nat} {v : Value} {xs : List Nat} (h : Ch w B v xs) : v = .slice (sa v) (sn v) (sc v) := by
  obtain ⟨a, n, c, rfl⟩ := h.form; rfl

/-- the Walk K in block G, chains from block B on; blocks below G are as in w1 -/
structure WB (B G : Nat) (w1 : World) (K : Wk) (p : Nat → Option Addr) (m d : Nat → Nat) (wr : World) : Prop where
  row : WkRow wr G K.is (fun t => .slice (p t) (m t) (d t))
  ok : ∀ t, t < 8 → Ch wr B (.slice (p t) (m t) (d t)) (K.ch t)
  bl : Below G w1 wr
section
variable {B G : Nat} {w1 wr w2 : World} {K O : Wk} {p p' : Nat → Option Addr} {m d m' d' : Nat → Nat}
theorem WB.below (h : WB B G w1 K p m d wr) (hb : Below wr.heap.size wr w2) : WB B G w1 K p m d w2 :=
  ⟨h.row.below hb h.row.lt, fun t ht => (h.ok t ht).below hb (h.ok t ht).lt, h.bl.trans (hb.mono (by have := h.row.lt; omega))⟩
theorem WB.sl (h : WB B G w1 K p m d wr) {t : Nat} (ht : t < 8) : SlS wr (p t) (ints (K.ch t)) ∧ m t = (ints (K.ch t)).length := ⟨(h.ok t ht).sls.1, (h.ok t ht).sls.2.trans (ints_len _).symm⟩
theorem WB.c0 (h : WB B G w1 K p m d wr) : wr.cell? ⟨G, 0, none⟩ = some (.bool (K.is 0)) := h.row.is (i := 0) (by omega)
theorem WB.c1 (h : WB B G w1 K p m d wr) : wr.cell? ⟨G, 1, none⟩ = some (.bool (K.is 1)) := h.row.is (i := 1) (by omega)
theorem WB.c2 (h : WB B G w1 K p m d wr) : wr.cell? ⟨G, 2, none⟩ = some (.bool (K.is 2)) := h.row.is (i := 2) (by omega)
theorem WB.c3 (h : WB B G w1 K p m d wr) : wr.cell? ⟨G, 3, none⟩ = some (.bool (K.is 3)) := h.row.is (i := 3) (by omega)
theorem WB.c4 (h : WB B G w1 K p m d wr) : wr.cell? ⟨G, 4, none⟩ = some (.bool (K.is 4)) := h.row.is (i := 4) (by omega)
theorem WB.c5 (h : WB B G w1 K p m d wr) : wr.cell? ⟨G, 5, none⟩ = some (.bool (K.is 5)) := h.row.is (i := 5) (by omega)
theorem WB.c6 (h : WB B G w1 K p m d wr) : wr.cell? ⟨G, 6, none⟩ = some (.bool (K.is 6)) := h.row.is (i := 6) (by omega)
theorem WB.c7 (h : WB B G w1 K p m d wr) : wr.cell? ⟨G, 7, none⟩ = some (.bool (K.is 7)) := h.row.is (i := 7) (by omega)
theorem WB.c8 (h : WB B G w1 K p m d wr) : wr.cell? ⟨G, 8, none⟩ = some (.slice (p 0) (m 0) (d 0)) := h.row.vs (i := 0) (by omega)
theorem WB.c9 (h : WB B G w1 K p m d wr) : wr.cell? ⟨G, 9, none⟩ = some (.slice (p 1) (m 1) (d 1)) := h.row.vs (i := 1) (by omega)
theorem WB.c10 (h : WB B G w1 K p m d wr) : wr.cell? ⟨G, 10, none⟩ = some (.slice (p 2) (m 2) (d 2)) := h.row.vs (i := 2) (by omega)
theorem WB.c11 (h : WB B G w1 K p m d wr) : wr.cell? ⟨G, 11, none⟩ = some (.slice (p 3) (m 3) (d 3)) := h.row.vs (i := 3) (by omega)
theorem WB.c12 (h : WB B G w1 K p m d wr) : wr.cell? ⟨G, 12, none⟩ = some (.slice (p 4) (m 4) (d 4)) := h.row.vs (i := 4) (by omega)
theorem WB.c13 (h : WB B G w1 K p m d wr) : wr.cell? ⟨G, 13, none⟩ = some (.slice (p 5) (m 5) (d 5)) := h.row.vs (i := 5) (by omega)
theorem WB.c14 (h : WB B G w1 K p m d wr) : wr.cell? ⟨G, 14, none⟩ = some (.slice (p 6) (m 6) (d 6)) := h.row.vs (i := 6) (by omega)
theorem WB.c15 (h : WB B G w1 K p m d wr) : wr.cell? ⟨G, 15, none⟩ = some (.slice (p 7) (m 7) (d 7)) := h.row.vs (i := 7) (by omega)
theorem WB.free (h : WB B G w1 K p m d wr) (i : Nat) : wr.frozen? ⟨G, i, none⟩ = false := h.row.free
theorem WB.arr (h : WB B G w1 K p m d wr) : wr.heap[G]? = some (.cells #[.bool (K.is 0), .bool (K.is 1), .bool (K.is 2), .bool (K.is 3), .bool (K.is 4), .bool (K.is 5), .bool (K.is 6), .bool (K.is 7), .slice (p 0) (m 0) (d 0), .slice (p 1) (m 1) (d 1), .slice (p 2) (m 2) (d 2), .slice (p 3) (m 3) (d 3), .slice (p 4) (m 4) (d 4), .slice (p 5) (m 5) (d 5), .slice (p 6) (m 6) (d 6), .slice (p 7) (m 7) (d 7)] 91 (0, 0)) := h.row
theorem WB.put (h : WB B G w1 K p m d wr) (ho : ∀ t, t < 8 → Ch wr B (.slice (p' t) (m' t) (d' t)) (O.ch t)) : WB B G w1 O p' m' d' ((((((((((((((((wr.setCell ⟨G, 0, none⟩ (.bool (O.is 0))).setCell ⟨G, 1, none⟩ (.bool (O.is 1))).setCell ⟨G, 2, none⟩ (.bool (O.is 2))).setCell ⟨G, 3, none⟩ (.bool (O.is 3))).setCell ⟨G, 4, none⟩ (.bool (O.is 4))).setCell ⟨G, 5, none⟩ (.bool (O.is 5))).setCell ⟨G, 6, none⟩ (.bool (O.is 6))).setCell ⟨G, 7, none⟩ (.bool (O.is 7))).setCell ⟨G, 8, none⟩ (.slice (p' 0) (m' 0) (d' 0))).setCell ⟨G, 9, none⟩ (.slice (p' 1) (m' 1) (d' 1))).setCell ⟨G, 10, none⟩ (.slice (p' 2) (m' 2) (d' 2))).setCell ⟨G, 11, none⟩ (.slice (p' 3) (m' 3) (d' 3))).setCell ⟨G, 12, none⟩ (.slice (p' 4) (m' 4) (d' 4))).setCell ⟨G, 13, none⟩ (.slice (p' 5) (m' 5) (d' 5))).setCell ⟨G, 14, none⟩ (.slice (p' 6) (m' 6) (d' 6))).setCell ⟨G, 15, none⟩ (.slice (p' 7) (m' 7) (d' 7))) := by
  refine ⟨set16 h.arr, fun t ht => ?_, ((((((((((((((((h.bl.setCell (Nat.le_refl _) _)).setCell (Nat.le_refl _) _).setCell (Nat.le_refl _) _).setCell (Nat.le_refl _) _).setCell (Nat.le_refl _) _).setCell (Nat.le_refl _) _).setCell (Nat.le_refl _) _).setCell (Nat.le_refl _) _).setCell (Nat.le_refl _) _).setCell (Nat.le_refl _) _).setCell (Nat.le_refl _) _).setCell (Nat.le_refl _) _).setCell (Nat.le_refl _) _).setCell (Nat.le_refl _) _).setCell (Nat.le_refl _) _).setCell (Nat.le_refl _) _⟩
  refine (ho t ht).same fun q hq => other16 fun e => ?_
  obtain ⟨cs', h2⟩ := (ho t ht).own hq
  rw [e, h.arr] at h2; cases h2
theorem ch_put16 {v : Value} {xs : List Nat} {B' : Nat} (h : WB B G w1 K p m d wr) (hv : Ch wr B' v xs) : Ch ((((((((((((((((wr.setCell ⟨G, 0, none⟩ (.bool (O.is 0))).setCell ⟨G, 1, none⟩ (.bool (O.is 1))).setCell ⟨G, 2, none⟩ (.bool (O.is 2))).setCell ⟨G, 3, none⟩ (.bool (O.is 3))).setCell ⟨G, 4, none⟩ (.bool (O.is 4))).setCell ⟨G, 5, none⟩ (.bool (O.is 5))).setCell ⟨G, 6, none⟩ (.bool (O.is 6))).setCell ⟨G, 7, none⟩ (.bool (O.is 7))).setCell ⟨G, 8, none⟩ (.slice (p' 0) (m' 0) (d' 0))).setCell ⟨G, 9, none⟩ (.slice (p' 1) (m' 1) (d' 1))).setCell ⟨G, 10, none⟩ (.slice (p' 2) (m' 2) (d' 2))).setCell ⟨G, 11, none⟩ (.slice (p' 3) (m' 3) (d' 3))).setCell ⟨G, 12, none⟩ (.slice (p' 4) (m' 4) (d' 4))).setCell ⟨G, 13, none⟩ (.slice (p' 5) (m' 5) (d' 5))).setCell ⟨G, 14, none⟩ (.slice (p' 6) (m' 6) (d' 6))).setCell ⟨G, 15, none⟩ (.slice (p' 7) (m' 7) (d' 7))) B' v xs := by
  refine hv.same fun q hq => other16 fun e => ?_
  obtain ⟨cs', h2⟩ := hv.own hq
  rw [e, h.arr] at h2; cases h2
end
theorem next_lit (S : Sch) (a : Option Addr) (cap : Nat) (K : Wk) (p : Nat → Option Addr) (m d : Nat → Nat) (silent : Bool) (L : Nat) (w : World) (hR : RulS w a S.rules) (hS : Fit S) (hK : ∀ t, t < 8 → Ch w 0 (.slice (p t) (m t) (d t)) (K.ch t)) (hL : ∀ t, t < 8 → (K.ch t).length ≤ L) (hL2 : L ≤ 100) :
    Calls Try.prog 58 #[.agg #[.int .i64 S.modes, .int .u8 S.acc, .slice a S.rules.length cap], .agg #[.bool (K.is 0), .bool (K.is 1), .bool (K.is 2), .bool (K.is 3), .bool (K.is 4), .bool (K.is 5), .bool (K.is 6), .bool (K.is 7), .slice (p 0) (m 0) (d 0), .slice (p 1) (m 1) (d 1), .slice (p 2) (m 2) (d 2), .slice (p 3) (m 3) (d 3), .slice (p 4) (m 4) (d 4), .slice (p 5) (m 5) (d 5), .slice (p 6) (m 6) (d 6), .slice (p 7) (m 7) (d 7)], .bool silent] w fun e w' => ∃ (p' : Nat → Option Addr) (m' d' : Nat → Nat), e = .returned (.agg #[.bool ((nextK (useS silent) S.rules K).is 0), .bool ((nextK (useS silent) S.rules K).is 1), .bool ((nextK (useS silent) S.rules K).is 2), .bool ((nextK (useS silent) S.rules K).is 3), .bool ((nextK (useS silent) S.rules K).is 4), .bool ((nextK (useS silent) S.rules K).is 5), .bool ((nextK (useS silent) S.rules K).is 6), .bool ((nextK (useS silent) S.rules K).is 7), .slice (p' 0) (m' 0) (d' 0), .slice (p' 1) (m' 1) (d' 1), .slice (p' 2) (m' 2) (d' 2), .slice (p' 3) (m' 3) (d' 3), .slice (p' 4) (m' 4) (d' 4), .slice (p' 5) (m' 5) (d' 5), .slice (p' 6) (m' 6) (d' 6), .slice (p' 7) (m' 7) (d' 7)]) ∧ (∀ t, t < 8 → Ch w' w.heap.size (.slice (p' t) (m' t) (d' t)) ((nextK (useS silent) S.rules K).ch t)) ∧ Below w.heap.size w w' := by
  refine (next_any S a cap K (fun t => .slice (p t) (m t) (d t)) silent L w hR hS hK hL hL2).mono ?_
  rintro e w' ⟨vO, rfl, hc, hb⟩
  have hf : ∀ t, t < 8 → vO t = .slice (sa (vO t)) (sn (vO t)) (sc (vO t)) := fun t ht => sl_form (hc t ht)
  refine ⟨fun t => sa (vO t), fun t => sn (vO t), fun t => sc (vO t), ?_, fun t ht => by rw [← hf t ht]; exact hc t ht, hb⟩
  simp only
  rw [← hf 0 (by omega), ← hf 1 (by omega), ← hf 2 (by omega), ← hf 3 (by omega), ← hf 4 (by omega), ← hf 5 (by omega), ← hf 6 (by omega), ← hf 7 (by omega)]
  rfl

/-! ### the best of a level -/
def bestStep (K : Wk) (ok : Nat → Bool) (best : List Nat) (m : Nat) : List Nat :=
  if K.is m && (ok m && (best.isEmpty || beforeB (ints (K.ch m)) (ints best))) then K.ch m else best
def bestTo (K : Wk) (ok : Nat → Bool) : Nat → List Nat
  | 0 => []
  | m + 1 => bestStep K ok (bestTo K ok m) m
def deadM (S : Sch) (m : Nat) : Bool := !(liveS S).testBit m
def rsF (S : Sch) : Nat → Nat → List Nat
  | 0, _ => []
  | f + 1, n => if bestTo (levelK (useS false) S.rules 0 true (n + 1)) (deadM S) S.modes.toNat = [] then rsF S f (n + 1) else bestTo (levelK (useS false) S.rules 0 true (n + 1)) (deadM S) S.modes.toNat
def rstuckF (S : Sch) : List Nat := if (liveS S).testBit 0 then rsF S S.modes.toNat 0 else []
theorem level_len {use : Rl → Bool} {R : List Rl} {start : Nat} (b : Bool) (hf : ∀ r ∈ R, r.frm.toNat < 8) : ∀ n t, t < 8 → ((levelK use R start b n).ch t).length ≤ n
  | 0, t, _ => by simp [levelK, wk0]
  | n + 1, t, ht => nextTo_len (level_len b hf n) hf R.length t ht
theorem bestTo_len {K : Wk} {ok : Nat → Bool} {L : Nat} (hK : ∀ t, t < 8 → (K.ch t).length ≤ L) : ∀ m, m ≤ 8 → (bestTo K ok m).length ≤ L
  | 0, _ => by simp [bestTo]
  | m + 1, h => by
    rw [bestTo, bestStep]
    split
    · exact hK m (by omega)
    · exact bestTo_len hK m (by omega)
end Go.Proofs.Ytogjcfcfgnbmkaa
