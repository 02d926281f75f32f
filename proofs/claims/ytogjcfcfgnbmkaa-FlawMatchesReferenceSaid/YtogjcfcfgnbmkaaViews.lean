/- The arguments of the laws, opened. -/
import Derived.Test.YtogjcfcfgnbmkaaOpen
import Derived.Test.YtogjcfcfgnbmkaaWalk
import Derived.Deep.Strs
namespace Go.Proofs.Ytogjcfcfgnbmkaa
set_option linter.unusedVariables false
set_option linter.unusedSimpArgs false
open Go.ChangeShapes Go.WideShapes Go.ChangeAt Go.RowKit

structure RawA where
  M : Int
  A : Int
  a : Option Addr
  len : Nat
  cap : Nat
  Z : Nat → Nat → Int
def RawA.val (x : RawA) : Value := .agg #[.int .u8 x.M, .int .u8 x.A, .slice x.a x.len x.cap]
structure RawOk (w : World) (x : RawA) : Prop where
  m0 : 0 ≤ x.M
  m1 : x.M ≤ 255
  a0 : 0 ≤ x.A
  a1 : x.A ≤ 255
  rows : IsRows .u8 3 w x.a x.len x.Z
structure BytA where
  a : Option Addr
  len : Nat
  cap : Nat
  Z : Nat → Int
def BytA.val (x : BytA) : Value := .slice x.a x.len x.cap
structure BytOk (w : World) (x : BytA) : Prop where
  by' : IsBytes w x.a x.len x.Z
  le : x.len ≤ 9223372036854775807
section
variable {H : Type} {enc : TypeId × Value → H} {w : World} {base : Nat} {spare : Nat → Bool} {held : Bool} {d : DataW H} {p : List MemPlace} {r : Reach} {b0 : Nat} {v : Value}

open Go.Deep in
theorem slice_rows {P : Program} {fuel : Nat} {cs : List Value} {x : DataW H × List MemPlace} {t e e2 : TypeId} {m : Nat} {k : IntKind} (ht : P.underlying t = some (.slice e)) (he : P.underlying e = some (.array m e2)) (he2 : P.underlying e2 = some (.int k)) (hc2 : P.cellsOf e2 = 1) (hC : P.cellsOf e = m) (hm : 0 < m)
    (h : DataW.trod enc P w base spare held fuel t cs = some x) : ∃ a len cap Z, cs = [.slice a len cap] ∧ IsRows k m w a len Z := by
  have hform : ∃ a len cap, cs = [.slice a len cap] := by
    rcases open_slice ht h with ⟨h0, _⟩ | ⟨ad, l, c, mm, n, D, Pl, h0, _⟩
    · exact ⟨none, 0, 0, h0⟩
    · exact ⟨some ad, l, c, h0⟩
  obtain ⟨a, len, cap, rfl⟩ := hform
  obtain ⟨Z, hZ⟩ := trod_rows ht he he2 hc2 hC hm h
  exact ⟨a, len, cap, Z, rfl, hZ⟩
set_option maxRecDepth 100000 in
theorem open_raw04 (hv : Value.okWide Try.prog w r b0 24 v) (h : DataW.Trod enc Try.prog w base spare held 24 v d p) : ∃ x : RawA, v = x.val ∧ RawOk w x := by
  obtain ⟨cs, rfl, hsz⟩ : ∃ cs, v = .agg cs ∧ cs.size = 3 := by
    unfold Value.okWide at hv
    rw [Try.underlying24] at hv
    obtain ⟨cs, h, h2, _⟩ := hv
    exact ⟨cs, h, h2.trans (by kernel_rfl)⟩
  obtain ⟨f, hf⟩ := h
  obtain ⟨y0, y1, y2, n, _, _, h0, h1, h2⟩ := Go.Deep.trod_struct3 Try.underlying24 hf
  have hcs : ∃ c0 c1 c2, cs = #[c0, c1, c2] := by
    obtain ⟨l⟩ := cs
    match l, hsz with
    | [c0, c1, c2], _ => exact ⟨c0, c1, c2, rfl⟩
  obtain ⟨c0, c1, c2, rfl⟩ := hcs
  obtain ⟨M, e0, _, w0⟩ := DataW.trod_int Try.underlying5 h0
  obtain ⟨A, e1, _, w1⟩ := DataW.trod_int Try.underlying5 h1
  obtain ⟨a, len, cap, Z, e2, hZ⟩ := slice_rows Try.underlying22 Try.underlying63 Try.underlying5 (by kernel_rfl) (by kernel_rfl) (by decide) h2
  have g0 : c0 = .int .u8 M := List.head_eq_of_cons_eq e0
  have g1 : c1 = .int .u8 A := List.head_eq_of_cons_eq e1
  have g2 : c2 = .slice a len cap := List.head_eq_of_cons_eq e2
  subst g0 g1 g2
  exact ⟨⟨M, A, a, len, cap, Z⟩, rfl, (bounds_u8 w0).1, (bounds_u8 w0).2, (bounds_u8 w1).1, (bounds_u8 w1).2, hZ⟩
open Go.Deep in
theorem open_bytes (hv : Value.okWide Try.prog w r b0 49 v) (h : DataW.Trod enc Try.prog w base spare held 49 v d p) : ∃ x : BytA, v = x.val ∧ BytOk w x := by
  obtain ⟨a, len, cap, rfl⟩ := okWide_slice Try.underlying49 hv
  obtain ⟨f, hf⟩ := h
  have hf2 : DataW.trod enc Try.prog w base spare held f 49 [.slice a len cap] = some (d, p) := by simpa [Value.cells] using hf
  rcases open_slice1 Try.underlying49 (by kernel_rfl) hf2 with ⟨h0, _⟩ | ⟨ad, l, c, m, n, V, D, Pl, h0, hba, hl, hcm, hmm, _, hel⟩
  · cases h0
    exact ⟨⟨none, 0, 0, fun _ => 0⟩, rfl, .inl rfl, by show 0 ≤ _; omega⟩
  · cases h0
    have hlm : len ≤ m := by rw [hmm]; split <;> omega
    have hle : len ≤ 9223372036854775807 := by unfold maxLen at hcm; omega
    have key : ∀ i, i < len → ∃ z, w.cell? (ad.add i) = some (.int .u8 z) ∧ 0 ≤ z ∧ z ≤ 255 := fun i hi => by
      obtain ⟨h1, h2⟩ := hel i (by omega)
      obtain ⟨z, hz, _, hw⟩ := DataW.trod_int Try.underlying5 h2
      have : V i = .int .u8 z := List.head_eq_of_cons_eq hz
      rw [this] at h1
      exact ⟨z, h1, bounds_u8 hw⟩
    by_cases h0 : len = 0
    · exact ⟨⟨some ad, len, cap, fun _ => 0⟩, rfl, .inl h0, hle⟩
    · obtain ⟨Z, hZ⟩ := choose_lt (α := Int) key
      obtain ⟨b, o, sp⟩ := ad
      have hs := World.cell?_spot (hZ 0 (by omega)).1
      obtain rfl : sp = none := by simpa [Addr.add] using hs
      refine ⟨⟨some ⟨b, o, none⟩, len, cap, Z⟩, rfl, .inr ⟨b, o, rfl, hle, ?_, fun i hi => ?_⟩, hle⟩
      · have := World.block_lt_of_cell? w _ (hZ 0 (by omega)).1
        rwa [addr_block] at this
      · have hk := hZ i hi
        rw [addr_add] at hk
        exact hk
end
end Go.Proofs.Ytogjcfcfgnbmkaa
