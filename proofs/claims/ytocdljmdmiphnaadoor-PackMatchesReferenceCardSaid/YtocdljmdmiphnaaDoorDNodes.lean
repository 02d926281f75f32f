
/- Automata in memory; step; equal lists of arcs. -/
import Derived.Test.YtocdljmdmiphnaaDoorDDict
import Derived.Laws.StructEq
namespace Go.Proofs.YtocdljmdmiphnaaDoor
open Go.RowKit Go.WideShapes
set_option linter.unusedVariables false
set_option linter.unusedSimpArgs false

structure Ar where
  c : Int
  t : Int
deriving DecidableEq, Inhabited
structure Nd where
  fin : Bool
  arcs : List Ar
deriving DecidableEq, Inhabited
/-- the slice at a reads as the arcs X -/
def ArcS (w : World) (a : Option Addr) (X : List Ar) : Prop := ∀ k (hk : k < X.length), ∃ b o, a = some ⟨b, o, none⟩ ∧ b < w.heap.size ∧ w.cell? ⟨b, o + k * 2, none⟩ = some (.int .u8 X[k].c) ∧ w.cell? ⟨b, o + k * 2 + 1, none⟩ = some (.int .i64 X[k].t)
theorem ArcS.later {w w1 : World} {a : Option Addr} {X : List Ar} {B : Nat} (h : ArcS w a X) (hb : Below B w w1) (hB : w.heap.size ≤ B) : ArcS w1 a X := fun k hk => by
  obtain ⟨b, o, ha, h1, h2, h3⟩ := h k hk
  exact ⟨b, o, ha, by have := hb.size; omega, (hb.cell (p := ⟨b, o + k * 2, none⟩) (by show b < B; omega)).trans h2, (hb.cell (p := ⟨b, o + k * 2 + 1, none⟩) (by show b < B; omega)).trans h3⟩
theorem ArcS.nil (w : World) (a : Option Addr) : ArcS w a [] := fun k hk => by simp at hk
/-- the slice at a reads as the automaton D -/
def DawgS (w : World) (a : Option Addr) (D : List Nd) : Prop := ∀ k (hk : k < D.length), ∃ b o, a = some ⟨b, o, none⟩ ∧ b < w.heap.size ∧ w.cell? ⟨b, o + k * 2, none⟩ = some (.bool D[k].fin) ∧
  ∃ aa cc, w.cell? ⟨b, o + k * 2 + 1, none⟩ = some (.slice aa D[k].arcs.length cc) ∧ D[k].arcs.length ≤ 9223372036854775807 ∧ ArcS w aa D[k].arcs
theorem DawgS.later {w w1 : World} {a : Option Addr} {D : List Nd} {B : Nat} (h : DawgS w a D) (hb : Below B w w1) (hB : w.heap.size ≤ B) : DawgS w1 a D := fun k hk => by
  obtain ⟨b, o, ha, h1, h2, aa, cc, h3, h4, h5⟩ := h k hk
  exact ⟨b, o, ha, by have := hb.size; omega, (hb.cell (p := ⟨b, o + k * 2, none⟩) (by show b < B; omega)).trans h2, aa, cc, (hb.cell (p := ⟨b, o + k * 2 + 1, none⟩) (by show b < B; omega)).trans h3, h4, h5.later hb hB⟩
theorem DawgS.nil (w : World) (a : Option Addr) : DawgS w a [] := fun k hk => by simp at hk
theorem ArcS.at {w : World} {a : Option Addr} {X : List Ar} (h : ArcS w a X) {k : Nat} (hk : k < X.length) : ∃ b o, a = some ⟨b, o, none⟩ ∧ b < w.heap.size ∧ w.cell? ⟨b, o + k * 2, none⟩ = some (.int .u8 X[k].c) ∧ w.cell? ⟨b, o + k * 2 + 1, none⟩ = some (.int .i64 X[k].t) := h k hk
theorem DawgS.at {w : World} {a : Option Addr} {D : List Nd} (h : DawgS w a D) {k : Nat} (hk : k < D.length) : ∃ b o, a = some ⟨b, o, none⟩ ∧ b < w.heap.size ∧ w.cell? ⟨b, o + k * 2, none⟩ = some (.bool D[k].fin) ∧
  ∃ aa cc, w.cell? ⟨b, o + k * 2 + 1, none⟩ = some (.slice aa D[k].arcs.length cc) ∧ D[k].arcs.length ≤ 9223372036854775807 ∧ ArcS w aa D[k].arcs := h k hk
theorem idx_arcs (a : Option Addr) (b o len cap k : Nat) (ha : a = some ⟨b, o, none⟩) (hk : k < len) (w : World) :
    (Instr.indexAt 51 (.slice a len cap) (.int .i64 (k : Int))).run Tryd.prog w = .ok (.pointer (some ⟨b, o + k * 2, none⟩)) w := by
  subst ha
  have h0 : (0 : Int) ≤ (k : Int) := by omega
  have h1 : (k : Int) < (len : Int) := by omega
  simp [go_sem, h0, h1]
theorem idx_nodes (a : Option Addr) (b o len cap k : Nat) (ha : a = some ⟨b, o, none⟩) (hk : k < len) (w : World) :
    (Instr.indexAt 29 (.slice a len cap) (.int .i64 (k : Int))).run Tryd.prog w = .ok (.pointer (some ⟨b, o + k * 2, none⟩)) w := by
  subst ha
  have h0 : (0 : Int) ≤ (k : Int) := by omega
  have h1 : (k : Int) < (len : Int) := by omega
  simp [go_sem, h0, h1]
theorem neq_arcs (x y : Ar) (w : World) :
    (Go.binOp .neq 56 (.agg #[.int .u8 x.c, .int .i64 x.t]) (.agg #[.int .u8 y.c, .int .i64 y.t])).run Tryd.prog w = .ok (.bool (!decide (x = y))) w := by
  obtain ⟨xc, xt⟩ := x
  obtain ⟨yc, yt⟩ := y
  simp only [run_neq_struct]
  by_cases h1 : xc = yc <;> by_cases h2 : xt = yt <;> simp [go_sem, h1, h2]

/-! ### step -/
/-- where the byte c leads, of n nodes -/
def stepL (n c : Int) : List Ar → Int
  | [] => -1
  | x :: r => if x.c = c ∧ 0 ≤ x.t ∧ x.t < n then x.t else stepL n c r
theorem stepL_at {n c : Int} {X : List Ar} {k : Nat} (hk : k < X.length) : stepL n c (X.drop k) = if X[k].c = c ∧ 0 ≤ X[k].t ∧ X[k].t < n then X[k].t else stepL n c (X.drop (k + 1)) := by
  rw [List.drop_eq_getElem_cons hk, stepL]
theorem stepL_end {n c : Int} {X : List Ar} {k : Nat} (hk : ¬ k < X.length) : stepL n c (X.drop k) = -1 := by
  rw [List.drop_eq_nil_of_le (by omega), stepL]
theorem take_eq_step {α : Type} {X Y : List α} {k : Nat} (h1 : k < X.length) (h2 : k < Y.length) (h : X.take k = Y.take k) (he : X[k] = Y[k]) : X.take (k + 1) = Y.take (k + 1) := by
  rw [List.take_succ_eq_append_getElem h1, List.take_succ_eq_append_getElem h2, h, he]
theorem take_eq_end {α : Type} {L M : List α} {k : Nat} (hl : L.length = M.length) (hk : ¬ k < L.length) (h : L.take k = M.take k) : L = M := by
  rwa [List.take_of_length_le (by omega), List.take_of_length_le (by omega)] at h
/-! ### slices.Equal at arcs -/
set_option maxHeartbeats 1600000 in
set_option maxRecDepth 100000 in
theorem eqArcs_any (X Y : List Ar) (a b : Option Addr) (n m c d : Nat) (w : World) (hX : ArcS w a X) (hY : ArcS w b Y) (hn : n = X.length) (hm : m = Y.length) (hl1 : n ≤ 9223372036854775807) (hl2 : m ≤ 9223372036854775807) :
    Calls Tryd.prog 66 #[.slice a n c, .slice b m d] w fun e w' => e = .returned (.bool (decide (X = Y))) ∧ Below w.heap.size w w' := by
  subst hn hm
  have HX := Lib.hid hX; have HY := Lib.hid hY; clear hX hY
  by_cases hl : X.length = Y.length
  · have hlI : ((X.length : Int) != (Y.length : Int)) = false := by simp [hl]
    have HL := Lib.hid hl
    clear hl
    go_enter Tryd.func66, Tryd.ntmps66
    go_wp2
    go_loopw [13] (fun q wr => ∃ k : Nat, k ≤ X.length ∧ q = .int .i64 (k : Int) ∧ X.take k = Y.take k ∧ Below w.heap.size w wr) (fun q _ => X.length - (intOf q).toNat)
    case atStart => exact ⟨0, Nat.zero_le _, rfl, rfl, Below.refl _ _⟩
    case round =>
      obtain ⟨k, hk, rfl, ht, hB⟩ := hrel
      have HT := Lib.hid ht; clear ht
      by_cases hlt : k < X.length
      · have hlt2 : k < Y.length := by have := HL.out; omega
        obtain ⟨b1, o1, ha1, hb1, q0, q1⟩ := (HX.out.later hB (Nat.le_refl _)).at hlt
        obtain ⟨b2, o2, ha2, hb2, p0, p1⟩ := (HY.out.later hB (Nat.le_refl _)).at hlt2
        have hi1 := idx_arcs a b1 o1 X.length c k ha1 hlt
        have hi2 := idx_arcs b b2 o2 Y.length d k ha2 hlt2
        have hne := neq_arcs X[k] Y[k]
        have HST := Lib.hid (fun h => take_eq_step hlt hlt2 HT.out h)
        obtain ⟨x, hx⟩ : ∃ x, X[k] = x := ⟨_, rfl⟩
        obtain ⟨y, hy⟩ : ∃ y, Y[k] = y := ⟨_, rfl⟩
        have HXE := Lib.hid hx; have HYE := Lib.hid hy
        rw [hx] at q0 q1 hne
        rw [hy] at p0 p1 hne
        clear ha1 ha2 hx hy
        by_cases hq : x = y
        · have HN : Hid (X.take (k + 1) = Y.take (k + 1)) := HST.out (by rw [HXE.out, HYE.out, hq])
          have hq2 : (decide (x = y)) = true := by simp [hq]
          rw [hq2] at hne
          clear hq hq2
          go_wp2
          go_quiet (fail)
          go_wp2
          go_roundw
          case rel => exact ⟨k + 1, by omega, by go_num, HN.out, below_drewN hB _⟩
          case measure => simp [intOf]; omega
        · have HN : Hid (decide (X = Y) = false) := decide_eq_false fun h => hq (by have := HXE.out; have := HYE.out; subst h; simp_all)
          have hq2 : (decide (x = y)) = false := decide_eq_false hq
          rw [hq2] at hne
          clear hq hq2
          go_wp2
          go_quiet (fail)
          go_wp2
          go_ret
          exact ⟨ret_bool HN.out.symm, below_drewN hB _⟩
      · have HN : Hid (decide (X = Y) = true) := decide_eq_true (take_eq_end HL.out hlt HT.out)
        go_wp2
        go_ret
        exact ⟨ret_bool HN.out.symm, hB⟩
  · have HN : Hid (decide (X = Y) = false) := decide_eq_false fun h => hl (by rw [h])
    have hlI : ((X.length : Int) != (Y.length : Int)) = true := by simp; omega
    clear hl
    go_enter Tryd.func66, Tryd.ntmps66
    go_wp2
    go_ret
    exact ⟨ret_bool HN.out.symm, by go_grown⟩
end Go.Proofs.YtocdljmdmiphnaaDoor
