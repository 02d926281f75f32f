/- An automaton that comes in as an argument, opened. -/
import Derived.Test.YtocdljmdmiphnaaDoorOpen
import Derived.Test.YtocdljmdmiphnaaDoorDViews
import Derived.Test.YtocdljmdmiphnaaDoorDAll
namespace Go.Proofs.YtocdljmdmiphnaaDoor
set_option linter.unusedVariables false
set_option linter.unusedSimpArgs false
open Go.ChangeShapes Go.WideShapes Go.ChangeAt Go.RowKit

section
variable {H : Type} {enc : TypeId × Value → H} {P : Program} {w : World} {base : Nat} {spare : Nat → Bool} {held : Bool}
open Go.Deep in
/-- a slice of structs of two fields, each of one cell -/
theorem slice_two {fuel : Nat} {cs : List Value} {x : DataW H × List MemPlace} {t e : TypeId} {f0 f1 : Field} (ht : P.underlying t = some (.slice e)) (he : P.underlying e = some (.struct #[f0, f1])) (hc : P.cellsOf e = 2) (hc0 : P.cellsOf f0.type = 1) (hc1 : P.cellsOf f1.type = 1)
    (ho0 : f0.offset = 0) (ho1 : f1.offset = 1) (h : DataW.trod enc P w base spare held fuel t cs = some x) :
    ∃ a len cap, cs = [.slice a len cap] ∧ len ≤ cap ∧ len ≤ 9223372036854775807 ∧ ∀ k, k < len → ∃ b o v0 v1 n y0 y1, a = some ⟨b, o, none⟩ ∧ b < w.heap.size ∧ w.cell? ⟨b, o + k * 2, none⟩ = some v0 ∧ w.cell? ⟨b, o + k * 2 + 1, none⟩ = some v1 ∧
      DataW.trod enc P w base spare held n f0.type [v0] = some y0 ∧ DataW.trod enc P w base spare held n f1.type [v1] = some y1 := by
  rcases open_slice ht h with ⟨h0, _⟩ | ⟨ad, l, c, m, n, D, Pl, h0, hba, hl, hcm, hmm, _, hel⟩
  · exact ⟨none, 0, 0, h0, Nat.le_refl _, by omega, fun k hk => absurd hk (Nat.not_lt_zero k)⟩
  · have hlm : l ≤ m := by rw [hmm]; split <;> omega
    have hle : l ≤ 9223372036854775807 := by unfold maxLen at hcm; omega
    have key : ∀ i, i < l → ∃ v0 v1 n y0 y1, w.cell? (ad.add (i * 2)) = some v0 ∧ w.cell? ((ad.add (i * 2)).add 1) = some v1 ∧
        DataW.trod enc P w base spare held n f0.type [v0] = some y0 ∧ DataW.trod enc P w base spare held n f1.type [v1] = some y1 := fun i hi => by
      obtain ⟨cs', hcs, htr⟩ := hel i (by omega)
      rw [hc] at hcs
      obtain ⟨_, hl', hg⟩ := World.cells?_some hcs
      obtain ⟨y0, y1, n2, _, _, h1, h2⟩ := trod_struct2 he htr
      rw [hc0, ho0] at h1
      rw [hc1, ho1] at h2
      match cs', hl', hg, h1, h2 with
      | [v0, v1], _, hg, h1, h2 =>
        have g0 := hg 0 (by decide)
        have g1 := hg 1 (by decide)
        rw [show ((ad.add (i * 2)).add 0) = ad.add (i * 2) from by unfold Addr.add; split <;> simp_all] at g0
        exact ⟨v0, v1, n2, y0, y1, g0, g1, h1, h2⟩
    refine ⟨some ad, l, c, h0, hl, hle, fun k hk => ?_⟩
    obtain ⟨_, _, _, _, _, q0, _⟩ := key 0 (by omega)
    obtain ⟨v0, v1, n2, y0, y1, g0, g1, h1, h2⟩ := key k hk
    obtain ⟨b, o, sp⟩ := ad
    have hs := World.cell?_spot q0
    obtain rfl : sp = none := by simpa [Addr.add] using hs
    have hb := World.block_lt_of_cell? w _ g0
    rw [addr_block] at hb
    rw [addr_add] at g0 g1
    rw [addr_add] at g1
    exact ⟨b, o, v0, v1, n2, y0, y1, rfl, hb, g0, g1, h1, h2⟩
end
structure DawgA where
  a : Option Addr
  len : Nat
  cap : Nat
  D : List Nd
def DawgA.val (x : DawgA) : Value := .slice x.a x.len x.cap
structure DawgOk (w : World) (x : DawgA) : Prop where
  rows : DawgS w x.a x.D
  len : x.len = x.D.length
  cs : CsOk x.D
  le : x.len ≤ 9223372036854775807
section
variable {H : Type} {enc : TypeId × Value → H} {w : World} {base : Nat} {spare : Nat → Bool} {held : Bool} {d : DataW H} {p : List MemPlace} {r : Reach} {b0 : Nat} {v : Value}
open Go.Deep in
set_option maxRecDepth 100000 in
theorem trod_arcs {fuel : Nat} {cs : List Value} {x : DataW H × List MemPlace} (h : DataW.trod enc Tryd.prog w base spare held fuel 51 cs = some x) :
    ∃ a c X, cs = [.slice a X.length c] ∧ X.length ≤ 9223372036854775807 ∧ ArcS w a X ∧ ∀ x ∈ X, 0 ≤ x.c ∧ x.c ≤ 255 ∧ -9223372036854775808 ≤ x.t ∧ x.t ≤ 9223372036854775807 := by
  obtain ⟨a, len, cap, h0, hcap, hle, hel⟩ := slice_two Tryd.underlying51 Tryd.underlying56 (by kernel_rfl) (by kernel_rfl) (by kernel_rfl) rfl rfl h
  have key : ∀ k, k < len → ∃ x : Ar, ∃ b o, a = some ⟨b, o, none⟩ ∧ b < w.heap.size ∧ w.cell? ⟨b, o + k * 2, none⟩ = some (.int .u8 x.c) ∧ w.cell? ⟨b, o + k * 2 + 1, none⟩ = some (.int .i64 x.t) ∧ 0 ≤ x.c ∧ x.c ≤ 255 ∧ -9223372036854775808 ≤ x.t ∧ x.t ≤ 9223372036854775807 := fun k hk => by
    obtain ⟨b, o, v0, v1, n, y0, y1, ha, hb, h1, h2, h3, h4⟩ := hel k hk
    obtain ⟨z0, e0, _, w0⟩ := DataW.trod_int Tryd.underlying5 h3
    obtain ⟨z1, e1, _, w1⟩ := DataW.trod_int Tryd.underlying3 h4
    obtain rfl : v0 = .int .u8 z0 := List.head_eq_of_cons_eq e0
    obtain rfl : v1 = .int .i64 z1 := List.head_eq_of_cons_eq e1
    exact ⟨⟨z0, z1⟩, b, o, ha, hb, h1, h2, (bounds_u8 w0).1, (bounds_u8 w0).2, (bounds_i64 w1).1, (bounds_i64 w1).2⟩
  obtain ⟨F, hF⟩ := choose_lt (α := Ar) key
  refine ⟨a, cap, (List.range len).map F, by simpa using h0, by simpa using hle, fun k hk => ?_, fun x hx => ?_⟩
  · have hk2 : k < len := by simpa using hk
    obtain ⟨b, o, ha, hb, h1, h2, _⟩ := hF k hk2
    refine ⟨b, o, ha, hb, ?_, ?_⟩
    · rw [h1]; simp
    · rw [h2]; simp
  · obtain ⟨k, hk, rfl⟩ := List.mem_map.1 hx
    obtain ⟨b, o, _, _, _, _, h⟩ := hF k (by simpa using hk)
    exact h
open Go.Deep in
set_option maxRecDepth 100000 in
theorem open_dawgA (hv : Value.okWide Tryd.prog w r b0 29 v) (h : DataW.Trod enc Tryd.prog w base spare held 29 v d p) : ∃ x : DawgA, v = x.val ∧ DawgOk w x := by
  obtain ⟨a, len, cap, rfl⟩ := okWide_slice Tryd.underlying29 hv
  obtain ⟨f, hf⟩ := h
  have hf2 : DataW.trod enc Tryd.prog w base spare held f 29 [.slice a len cap] = some (d, p) := by simpa [Value.cells] using hf
  obtain ⟨a1, l1, c1, h0, hcap, hle, hel⟩ := slice_two Tryd.underlying29 Tryd.underlying53 (by kernel_rfl) (by kernel_rfl) (by kernel_rfl) rfl rfl hf2
  cases h0
  have key : ∀ k, k < len → ∃ x : Nd, ∃ b o, a = some ⟨b, o, none⟩ ∧ b < w.heap.size ∧ w.cell? ⟨b, o + k * 2, none⟩ = some (.bool x.fin) ∧ (∃ aa cc, w.cell? ⟨b, o + k * 2 + 1, none⟩ = some (.slice aa x.arcs.length cc) ∧ x.arcs.length ≤ 9223372036854775807 ∧ ArcS w aa x.arcs) ∧
      ∀ y ∈ x.arcs, 0 ≤ y.c ∧ y.c ≤ 255 ∧ -9223372036854775808 ≤ y.t ∧ y.t ≤ 9223372036854775807 := fun k hk => by
    obtain ⟨b, o, v0, v1, n, y0, y1, ha, hb, h1, h2, h3, h4⟩ := hel k hk
    obtain ⟨z0, e0, _⟩ := DataW.trod_bool Tryd.underlying4 h3
    obtain ⟨aa, cc, X, e1, hX1, hX2, hX3⟩ := trod_arcs h4
    obtain rfl : v0 = .bool z0 := List.head_eq_of_cons_eq e0
    obtain rfl : v1 = .slice aa X.length cc := List.head_eq_of_cons_eq e1
    exact ⟨⟨z0, X⟩, b, o, ha, hb, h1, ⟨aa, cc, h2, hX1, hX2⟩, hX3⟩
  obtain ⟨F, hF⟩ := choose_lt (α := Nd) key
  refine ⟨⟨a, len, cap, (List.range len).map F⟩, rfl, fun k hk => ?_, by show len = ((List.range len).map F).length; simp, fun i hi x hx => ?_, hle⟩
  · have hk2 : k < len := by simpa using hk
    obtain ⟨b, o, ha, hb, h1, ⟨aa, cc, h2, h3, h4⟩, _⟩ := hF k hk2
    have e : ((List.range len).map F)[k] = F k := by simp
    show ∃ b o, a = some ⟨b, o, none⟩ ∧ b < w.heap.size ∧ w.cell? ⟨b, o + k * 2, none⟩ = some (.bool ((List.range len).map F)[k].fin) ∧ ∃ aa cc, w.cell? ⟨b, o + k * 2 + 1, none⟩ = some (.slice aa ((List.range len).map F)[k].arcs.length cc) ∧ ((List.range len).map F)[k].arcs.length ≤ 9223372036854775807 ∧ ArcS w aa ((List.range len).map F)[k].arcs
    rw [e]
    exact ⟨b, o, ha, hb, h1, aa, cc, h2, h3, h4⟩
  · have hi2 : i < len := by simpa using hi
    have e : ((List.range len).map F)[i]'hi = F i := by simp
    have hx2 : x ∈ (((List.range len).map F)[i]'hi).arcs := hx
    rw [e] at hx2
    obtain ⟨b, o, _, _, _, _, h⟩ := hF i hi2
    exact h x hx2
end
end Go.Proofs.YtocdljmdmiphnaaDoor
