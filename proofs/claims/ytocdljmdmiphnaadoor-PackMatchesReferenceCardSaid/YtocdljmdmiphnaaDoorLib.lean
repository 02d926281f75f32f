/- Words and lemmas that all walks of this seat share: what a call leaves of older memory; results. -/
import Derived.WalkKit
import Derived.Lib.Hide
import Derived.WalkLawsBesides
import Derived.WalkSpells
import Derived.Handy
import Derived.CellFam
namespace Go.Proofs.YtocdljmdmiphnaaDoor
set_option linter.unusedVariables false
set_option linter.unusedSimpArgs false
open Go.RowKit

/-- what a call leaves, as rules whose side conditions linear arithmetic decides (written as an equation of addresses) -/
theorem bcell {W w1 : World} {N : Nat} (hb : Below W.heap.size W w1) (hN : W.heap.size = N) :
    N ≤ w1.heap.size ∧ (∀ b o, (⟨b + 1 - N, 0, none⟩ : Addr) = ⟨0, 0, none⟩ → w1.cell? ⟨b, o, none⟩ = W.cell? ⟨b, o, none⟩) ∧
      (∀ b o, (⟨b + 1 - N, 0, none⟩ : Addr) = ⟨0, 0, none⟩ → w1.frozen? ⟨b, o, none⟩ = W.frozen? ⟨b, o, none⟩) := by
  subst hN
  refine ⟨hb.size, fun b o h => hb.cell (p := ⟨b, o, none⟩) ?_, fun b o h => hb.frozen (p := ⟨b, o, none⟩) ?_⟩
  · have := congrArg Addr.block h; simp only at this; show b < _; omega
  · have := congrArg Addr.block h; simp only at this; show b < _; omega

/-- the same, of what is below a number -/
theorem bcellB {W w1 : World} {B N : Nat} (hb : Below B W w1) (hN : B = N) :
    W.heap.size ≤ w1.heap.size ∧ (∀ b o, (⟨b + 1 - N, 0, none⟩ : Addr) = ⟨0, 0, none⟩ → w1.cell? ⟨b, o, none⟩ = W.cell? ⟨b, o, none⟩) ∧
      (∀ b o, (⟨b + 1 - N, 0, none⟩ : Addr) = ⟨0, 0, none⟩ → w1.frozen? ⟨b, o, none⟩ = W.frozen? ⟨b, o, none⟩) := by
  subst hN
  refine ⟨hb.size, fun b o h => hb.cell (p := ⟨b, o, none⟩) ?_, fun b o h => hb.frozen (p := ⟨b, o, none⟩) ?_⟩
  · have := congrArg Addr.block h; simp only at this; show b < _; omega
  · have := congrArg Addr.block h; simp only at this; show b < _; omega
/-- what a make or an append into a row from B on leaves below B -/
theorem below_grown {W w1 : World} {row : Option Nat} {B : Nat} (hg : W.grownBy w1 row) (hB : B ≤ W.heap.size) (hr : ∀ k, row = some k → B ≤ k) : Below B W w1 :=
  (Below.refl _ _).grown hg hB hr

/-! a cell of an older block behind up to four new blocks: the side condition as an equation of addresses -/
theorem lt_of_addr {n N : Nat} (h : (⟨n + 1 - N, 0, none⟩ : Addr) = ⟨0, 0, none⟩) : n < N := by
  have := congrArg Addr.block h; simp only at this; omega
@[go_sem] theorem cell_past1 (w : World) (o : Obj) (n i : Nat) (hn : (⟨n + 1 - w.heap.size, 0, none⟩ : Addr) = ⟨0, 0, none⟩) : (w.alloc o).cell? ⟨n, i, none⟩ = w.cell? ⟨n, i, none⟩ :=
  World.cell?_alloc_past o n i (lt_of_addr hn)
@[go_sem] theorem cell_past2 (w : World) (o o2 : Obj) (n i : Nat) (hn : (⟨n + 1 - w.heap.size, 0, none⟩ : Addr) = ⟨0, 0, none⟩) : ((w.alloc o).alloc o2).cell? ⟨n, i, none⟩ = w.cell? ⟨n, i, none⟩ := by
  have := lt_of_addr hn
  rw [World.cell?_alloc_past o2 n i (by simp; omega), World.cell?_alloc_past o n i this]
@[go_sem] theorem cell_past3 (w : World) (o o2 o3 : Obj) (n i : Nat) (hn : (⟨n + 1 - w.heap.size, 0, none⟩ : Addr) = ⟨0, 0, none⟩) : (((w.alloc o).alloc o2).alloc o3).cell? ⟨n, i, none⟩ = w.cell? ⟨n, i, none⟩ := by
  have := lt_of_addr hn
  rw [World.cell?_alloc_past o3 n i (by simp; omega), World.cell?_alloc_past o2 n i (by simp; omega), World.cell?_alloc_past o n i this]
@[go_sem] theorem cell_past4 (w : World) (o o2 o3 o4 : Obj) (n i : Nat) (hn : (⟨n + 1 - w.heap.size, 0, none⟩ : Addr) = ⟨0, 0, none⟩) : ((((w.alloc o).alloc o2).alloc o3).alloc o4).cell? ⟨n, i, none⟩ = w.cell? ⟨n, i, none⟩ := by
  have := lt_of_addr hn
  rw [World.cell?_alloc_past o4 n i (by simp; omega), World.cell?_alloc_past o3 n i (by simp; omega), World.cell?_alloc_past o2 n i (by simp; omega), World.cell?_alloc_past o n i this]
@[go_sem] theorem frozen_past1 (w : World) (o : Obj) (n i : Nat) (hn : (⟨n + 1 - w.heap.size, 0, none⟩ : Addr) = ⟨0, 0, none⟩) : (w.alloc o).frozen? ⟨n, i, none⟩ = w.frozen? ⟨n, i, none⟩ :=
  World.frozen?_alloc_past o n i (lt_of_addr hn)
@[go_sem] theorem frozen_past2 (w : World) (o o2 : Obj) (n i : Nat) (hn : (⟨n + 1 - w.heap.size, 0, none⟩ : Addr) = ⟨0, 0, none⟩) : ((w.alloc o).alloc o2).frozen? ⟨n, i, none⟩ = w.frozen? ⟨n, i, none⟩ := by
  have := lt_of_addr hn
  rw [World.frozen?_alloc_past o2 n i (by simp; omega), World.frozen?_alloc_past o n i this]
@[go_sem] theorem frozen_past3 (w : World) (o o2 o3 : Obj) (n i : Nat) (hn : (⟨n + 1 - w.heap.size, 0, none⟩ : Addr) = ⟨0, 0, none⟩) : (((w.alloc o).alloc o2).alloc o3).frozen? ⟨n, i, none⟩ = w.frozen? ⟨n, i, none⟩ := by
  have := lt_of_addr hn
  rw [World.frozen?_alloc_past o3 n i (by simp; omega), World.frozen?_alloc_past o2 n i (by simp; omega), World.frozen?_alloc_past o n i this]

/-- a call's frame, added to what is known of the world before it -/
theorem below_call {B : Nat} {w W w1 : World} (hg : Below B w W) (hb : Below W.heap.size W w1) (hB : B ≤ w.heap.size) : Below B w w1 :=
  hg.trans (hb.mono (Nat.le_trans hB hg.size))

theorem ret_int {k : IntKind} {a b : Int} (h : a = b) : Ending.returned (.int k a) = .returned (.int k b) := by rw [h]
theorem ret_bool {a b : Bool} (h : a = b) : Ending.returned (.bool a) = .returned (.bool b) := by rw [h]
theorem ret_tup2 {k l : IntKind} {a b c d : Int} (h : a = b) (h2 : c = d) : Ending.returned (.tuple #[.int k a, .int l c]) = .returned (.tuple #[.int k b, .int l d]) := by rw [h, h2]
end Go.Proofs.YtocdljmdmiphnaaDoor
