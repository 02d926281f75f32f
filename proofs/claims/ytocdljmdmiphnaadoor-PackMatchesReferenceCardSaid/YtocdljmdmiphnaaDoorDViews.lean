/- The arguments of the laws, opened. -/
import Derived.Test.YtocdljmdmiphnaaDoorOpen
import Derived.Test.YtocdljmdmiphnaaDoorDMake
import Derived.Deep.Strs
namespace Go.Proofs.YtocdljmdmiphnaaDoor
set_option linter.unusedVariables false
set_option linter.unusedSimpArgs false
open Go.ChangeShapes Go.WideShapes Go.ChangeAt Go.RowKit

structure BytA where
  a : Option Addr
  len : Nat
  cap : Nat
  Z : Nat → Int
def BytA.val (x : BytA) : Value := .slice x.a x.len x.cap
structure BytOk (w : World) (x : BytA) : Prop where
  by' : IsBytes w x.a x.len x.Z
  le : x.len ≤ 9223372036854775807
structure BytsA where
  a : Option Addr
  len : Nat
  cap : Nat
  Q : Nat → BR
def BytsA.val (x : BytsA) : Value := .slice x.a x.len x.cap
structure BytsOk (w : World) (x : BytsA) : Prop where
  rows : ByteRows w x.a x.len x.Q
  le : x.len ≤ 9223372036854775807
section
variable {H : Type} {enc : TypeId × Value → H} {w : World} {base : Nat} {spare : Nat → Bool} {held : Bool} {d : DataW H} {p : List MemPlace} {r : Reach} {b0 : Nat} {v : Value}

open Go.Deep in
theorem slice_bytes {fuel : Nat} {cs : List Value} {x : DataW H × List MemPlace} (h : DataW.trod enc Tryd.prog w base spare held fuel 24 cs = some x) : ∃ a len cap Z, cs = [.slice a len cap] ∧ IsBytes w a len Z ∧ len ≤ 9223372036854775807 := by
  rcases open_slice1 Tryd.underlying24 (by kernel_rfl) h with ⟨h0, _⟩ | ⟨ad, l, c, m, n, V, D, Pl, h0, hba, hl, hcm, hmm, _, hel⟩
  · exact ⟨none, 0, 0, fun _ => 0, h0, .inl rfl, by omega⟩
  · have hlm : l ≤ m := by rw [hmm]; split <;> omega
    have hle : l ≤ 9223372036854775807 := by unfold maxLen at hcm; omega
    have key : ∀ i, i < l → ∃ z, w.cell? (ad.add i) = some (.int .u8 z) ∧ 0 ≤ z ∧ z ≤ 255 := fun i hi => by
      obtain ⟨h1, h2⟩ := hel i (by omega)
      obtain ⟨z, hz, _, hw⟩ := DataW.trod_int Tryd.underlying5 h2
      have : V i = .int .u8 z := List.head_eq_of_cons_eq hz
      rw [this] at h1
      exact ⟨z, h1, bounds_u8 hw⟩
    by_cases h9 : l = 0
    · exact ⟨some ad, l, c, fun _ => 0, h0, .inl h9, hle⟩
    · obtain ⟨Z, hZ⟩ := choose_lt (α := Int) key
      obtain ⟨b, o, sp⟩ := ad
      have hs := World.cell?_spot (hZ 0 (by omega)).1
      obtain rfl : sp = none := by simpa [Addr.add] using hs
      refine ⟨some ⟨b, o, none⟩, l, c, Z, h0, .inr ⟨b, o, rfl, hle, ?_, fun i hi => ?_⟩, hle⟩
      · have := World.block_lt_of_cell? w _ (hZ 0 (by omega)).1
        rwa [addr_block] at this
      · have hk := hZ i hi
        rw [addr_add] at hk
        exact hk
set_option maxRecDepth 100000 in
theorem open_bytes (hv : Value.okWide Tryd.prog w r b0 24 v) (h : DataW.Trod enc Tryd.prog w base spare held 24 v d p) : ∃ x : BytA, v = x.val ∧ BytOk w x := by
  obtain ⟨a, len, cap, rfl⟩ := okWide_slice Tryd.underlying24 hv
  obtain ⟨f, hf⟩ := h
  have hf2 : DataW.trod enc Tryd.prog w base spare held f 24 [.slice a len cap] = some (d, p) := by simpa [Value.cells] using hf
  obtain ⟨a1, l1, c1, Z, h0, h1, h2⟩ := slice_bytes hf2
  cases h0
  exact ⟨⟨a, len, cap, Z⟩, rfl, h1, h2⟩
open Go.Deep in
set_option maxRecDepth 100000 in
theorem open_bytess (hv : Value.okWide Tryd.prog w r b0 22 v) (h : DataW.Trod enc Tryd.prog w base spare held 22 v d p) : ∃ x : BytsA, v = x.val ∧ BytsOk w x := by
  obtain ⟨a, len, cap, rfl⟩ := okWide_slice Tryd.underlying22 hv
  obtain ⟨f, hf⟩ := h
  have hf2 : DataW.trod enc Tryd.prog w base spare held f 22 [.slice a len cap] = some (d, p) := by simpa [Value.cells] using hf
  rcases open_slice1 Tryd.underlying22 (by kernel_rfl) hf2 with ⟨h0, _⟩ | ⟨ad, l, c, m, n, V, D, Pl, h0, hba, hl, hcm, hmm, _, hel⟩
  · cases h0
    exact ⟨⟨none, 0, 0, fun _ => default⟩, rfl, fun i hi => absurd hi (Nat.not_lt_zero i), by show 0 ≤ _; omega⟩
  · cases h0
    have hlm : len ≤ m := by rw [hmm]; split <;> omega
    have hle : len ≤ 9223372036854775807 := by unfold maxLen at hcm; omega
    have key : ∀ i, i < len → ∃ q : BR, w.cell? (ad.add i) = some (.slice q.a q.n q.c) ∧ IsBytes w q.a q.n q.Z ∧ q.n ≤ 9223372036854775807 := fun i hi => by
      obtain ⟨h1, h2⟩ := hel i (by omega)
      obtain ⟨a1, l1, c1, Z, hz, g1, g2⟩ := slice_bytes h2
      have : V i = .slice a1 l1 c1 := List.head_eq_of_cons_eq hz
      rw [this] at h1
      exact ⟨⟨a1, l1, c1, Z⟩, h1, g1, g2⟩
    obtain ⟨Q, hQ⟩ := choose_lt (α := BR) key
    refine ⟨⟨some ad, len, cap, Q⟩, rfl, fun i (hi : i < len) => ?_, hle⟩
    obtain ⟨b, o, sp⟩ := ad
    have hs := World.cell?_spot (hQ 0 (by omega)).1
    obtain rfl : sp = none := by simpa [Addr.add] using hs
    have hk := hQ i hi
    have hb := World.block_lt_of_cell? w _ hk.1
    rw [addr_block] at hb
    rw [addr_add] at hk
    exact ⟨b, o, rfl, hb, hk⟩
end
end Go.Proofs.YtocdljmdmiphnaaDoor
