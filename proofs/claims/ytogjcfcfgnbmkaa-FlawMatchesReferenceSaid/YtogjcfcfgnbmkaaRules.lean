/- Lists of rules in memory; slices.Contains over them; Check and Valid of package scheme. -/
import Derived.Test.YtogjcfcfgnbmkaaScheme
import Derived.BigQuiet
namespace Go.Proofs.Ytogjcfcfgnbmkaa
open Go.RowKit
set_option linter.unusedVariables false
set_option linter.unusedSimpArgs false

/-- a rule lies in a row, from o on -/
structure RulAt (w : World) (b o : Nat) (r : Rl) : Prop where
  c0 : w.cell? ⟨b, o, none⟩ = some (.int .i64 r.frm)
  c1 : w.cell? ⟨b, o + 1, none⟩ = some (.int .i64 r.dst)
  c2 : w.cell? ⟨b, o + 2, none⟩ = some (.string r.inp)
  c3 : w.cell? ⟨b, o + 3, none⟩ = some (.string r.out)
  c4 : w.cell? ⟨b, o + 4, none⟩ = some (.int .i64 r.cost)
theorem RulAt.later {w w1 : World} {B b o : Nat} {r : Rl} (h : RulAt w b o r) (hb : Below B w w1) (hg : b < B) : RulAt w1 b o r :=
  ⟨(hb.cell (p := ⟨b, _, none⟩) hg).trans h.c0, (hb.cell (p := ⟨b, _, none⟩) hg).trans h.c1, (hb.cell (p := ⟨b, _, none⟩) hg).trans h.c2, (hb.cell (p := ⟨b, _, none⟩) hg).trans h.c3, (hb.cell (p := ⟨b, _, none⟩) hg).trans h.c4⟩

/-- a slice's address leads to the rules R -/
def RulS (w : World) (a : Option Addr) (R : List Rl) : Prop :=
  R = [] ∨ ∃ b o, a = some ⟨b, o, none⟩ ∧ b < w.heap.size ∧ ∀ i (h : i < R.length), RulAt w b (o + i * 5) R[i]
theorem RulS.later {w w1 : World} {B : Nat} {a : Option Addr} {R : List Rl} (h : RulS w a R) (hb : Below B w w1) (hB : w.heap.size ≤ B) : RulS w1 a R := by
  rcases h with h | ⟨b, o, ha, hlt, hr⟩
  · exact .inl h
  · exact .inr ⟨b, o, ha, Nat.lt_of_lt_of_le hlt hb.size, fun i hi => (hr i hi).later hb (Nat.lt_of_lt_of_le hlt hB)⟩
theorem RulS.take {w : World} {a : Option Addr} {R : List Rl} (h : RulS w a R) (k : Nat) : RulS w a (R.take k) := by
  rcases h with h | ⟨b, o, ha, hlt, hr⟩
  · exact .inl (by rw [h]; simp)
  · refine .inr ⟨b, o, ha, hlt, fun i hi => ?_⟩
    rw [List.getElem_take]
    exact hr i (by rw [List.length_take] at hi; omega)
theorem RulS.at {w : World} {a : Option Addr} {R : List Rl} (h : RulS w a R) {k : Nat} (hk : k < R.length) : ∃ b o, a = some ⟨b, o, none⟩ ∧ b < w.heap.size ∧ RulAt w b (o + k * 5) R[k] := by
  rcases h with h | ⟨b, o, ha, hlt, hr⟩
  · subst h; cases hk
  · exact ⟨b, o, ha, hlt, hr k hk⟩

/-- an element's address -/
theorem idx_rules (a : Option Addr) (b o len cap k : Nat) (ha : a = some ⟨b, o, none⟩) (hk : k < len) (w : World) :
    (Instr.indexAt 31 (.slice a len cap) (.int .i64 (k : Int))).run Try.prog w = .ok (.pointer (some ⟨b, o + k * 5, none⟩)) w := by
  subst ha
  have h0 : (0 : Int) ≤ (k : Int) := by omega
  have h1 : (k : Int) < (len : Int) := by omega
  simp [go_sem, h0, h1]

/-! ### two rules compared -/
def eqRl (r q : Rl) : Bool := decide (r.frm = q.frm) && (decide (r.dst = q.dst) && (decide (r.inp.toList = q.inp.toList) && (decide (r.out.toList = q.out.toList) && decide (r.cost = q.cost))))
theorem cmp_rules (r q : Rl) (w : World) :
    (Go.binOp .eql 29 (.agg #[.int .i64 r.frm, .int .i64 r.dst, .string r.inp, .string r.out, .int .i64 r.cost]) (.agg #[.int .i64 q.frm, .int .i64 q.dst, .string q.inp, .string q.out, .int .i64 q.cost])).run Try.prog w = .ok (.bool (eqRl r q)) w := by
  simp only [run_eql_struct]
  unfold eqRl
  by_cases h1 : r.frm = q.frm <;> by_cases h2 : r.dst = q.dst <;> by_cases h3 : r.inp.toList = q.inp.toList <;> by_cases h4 : r.out.toList = q.out.toList <;> by_cases h5 : r.cost = q.cost <;> simp [go_sem, h1, h2, h3, h4, h5]

def IdxPost (R : List Rl) (r : Rl) (w : World) (e : Ending) (w' : World) : Prop :=
  ∃ q : Int, e = .returned (.int .i64 q) ∧ decide (0 ≤ q) = R.any (eqRl r) ∧ Below w.heap.size w w'
theorem any_at {R : List Rl} {p : Rl → Bool} {k : Nat} (hk : k < R.length) (hp : p R[k] = true) : R.any p = true := List.any_eq_true.2 ⟨R[k], List.getElem_mem _, hp⟩
theorem any_snoc {R : List Rl} {p : Rl → Bool} {k : Nat} (hk : k < R.length) (h : (R.take k).any p = false) (hp : p R[k] = false) : (R.take (k + 1)).any p = false := by
  rw [List.take_succ_eq_append_getElem hk, List.any_append, h]; simp [hp]

set_option maxHeartbeats 1600000 in
theorem index_any (R : List Rl) (n : Nat) (a : Option Addr) (cap : Nat) (r : Rl) (w : World) (hR : RulS w a R) (hL : n = R.length) (hn : n ≤ 9223372036854775807) :
    Calls Try.prog 66 #[.slice a n cap, .agg #[.int .i64 r.frm, .int .i64 r.dst, .string r.inp, .string r.out, .int .i64 r.cost]] w (IdxPost R r w) := by
  subst hL
  have HR := Lib.hid hR; clear hR
  go_enter Try.func66, Try.ntmps66
  go_wp2
  go_loopw [8] (fun i wr => ∃ k : Nat, k ≤ R.length ∧ i = .int .i64 k ∧ (R.take k).any (eqRl r) = false ∧ Below (w.heap.size + 1) (w.alloc (.cells #[.int .i64 r.frm, .int .i64 r.dst, .string r.inp, .string r.out, .int .i64 r.cost] 29)) wr) (fun i _ => R.length - (intOf i).toNat)
  case atStart => exact ⟨0, Nat.zero_le _, rfl, rfl, Below.refl _ _⟩
  case round =>
    obtain ⟨k, hk, rfl, hno, hal⟩ := hrel
    have HN := Lib.hid hno; clear hno
    have hB : Below w.heap.size w wr := ((Below.refl _ _).alloc (Nat.le_refl _) _).trans (hal.mono (by omega))
    by_cases hlt : k < R.length
    · obtain ⟨b, o, ha, hb, h0, h1, h2, h3, h4⟩ := HR.out.at hlt
      have hidx := idx_rules a b o R.length cap k ha hlt
      have HA := Lib.hid ha; clear ha
      have hcmp := cmp_rules r R[k]
      obtain ⟨hz, hc, hf⟩ := bcellB hal rfl
      by_cases hq : eqRl r R[k] = true
      · have HQ := Lib.hid (any_at hlt hq)
        go_wp2
        go_region
        go_wp2
        go_ret
        exact ⟨k, rfl, by rw [HQ.out]; simp, by go_grown⟩
      · have hq' : eqRl r R[k] = false := by simpa using hq
        have HQ := Lib.hid hq'
        clear hq
        go_wp2
        go_region
        go_wp2
        go_roundw
        case rel => exact ⟨k + 1, by omega, by go_num, any_snoc hlt HN.out HQ.out, by go_grown⟩
        case measure => simp [intOf]; omega
    · have hall : R.take k = R := List.take_of_length_le (by omega)
      have HA := Lib.hid hall; clear hall
      go_wp2
      go_ret
      exact ⟨-1, rfl, by rw [← HA.out, HN.out]; rfl, hB⟩

theorem contains_any (R : List Rl) (n : Nat) (a : Option Addr) (cap : Nat) (r : Rl) (w : World) (hR : RulS w a R) (hL : n = R.length) (hn : n ≤ 9223372036854775807) :
    Calls Try.prog 61 #[.slice a n cap, .agg #[.int .i64 r.frm, .int .i64 r.dst, .string r.inp, .string r.out, .int .i64 r.cost]] w fun e w' => e = .returned (.bool (R.any (eqRl r))) ∧ Below w.heap.size w w' := by
  have HR : Hid (RulS (w.alloc (.cells #[.int .i64 r.frm, .int .i64 r.dst, .string r.inp, .string r.out, .int .i64 r.cost] 29)) a R) := hR.later ((Below.refl _ _).alloc (Nat.le_refl _) _) (Nat.le_refl _)
  have HL := Lib.hid hL; clear hR hL
  go_enter Try.func61, Try.ntmps61
  go_wp2_with (go_at_call 66; refine (index_any R _ _ _ r _ HR.out HL.out hn).mono ?_; rintro e w1 ⟨q, rfl, hq, hb⟩; have HQ := Lib.hid hq; have hB := below_call (B := w.heap.size) (w := w) (by go_grown) hb (Nat.le_refl _); clear hq hb)
  go_ret
  exact ⟨ret_bool HQ.out, hB⟩
end Go.Proofs.Ytogjcfcfgnbmkaa
