/- The arguments of FlawMatchesReference, opened. -/
import Derived.Test.YtogjcfcfgnbmkaaViews
import Derived.Test.YtogjcfcfgnbmkaaMade3
namespace Go.Proofs.Ytogjcfcfgnbmkaa
set_option linter.unusedVariables false
set_option linter.unusedSimpArgs false
open Go.ChangeShapes Go.WideShapes Go.ChangeAt Go.RowKit

structure Raw2A where
  M : Int
  A : Int
  a : Option Addr
  len : Nat
  cap : Nat
  Q : Nat → RR
def Raw2A.val (x : Raw2A) : Value := .agg #[.int .u8 x.M, .int .u8 x.A, .slice x.a x.len x.cap]
structure Raw2Ok (w : World) (x : Raw2A) : Prop where
  m0 : 0 ≤ x.M
  m1 : x.M ≤ 255
  a0 : 0 ≤ x.A
  a1 : x.A ≤ 255
  rows : RawRows w x.a x.len x.Q
instance : Inhabited RR := ⟨⟨none, 0, 0, none, 0, 0, 0, 0, 0, fun _ => 0, fun _ => 0⟩⟩
def rlVal (r : Rl) : Value := .agg #[.int .i64 r.frm, .int .i64 r.dst, .string r.inp, .string r.out, .int .i64 r.cost]
section
variable {H : Type} {enc : TypeId × Value → H} {w : World} {base : Nat} {spare : Nat → Bool} {held : Bool} {d : DataW H} {p : List MemPlace} {r : Reach} {b0 : Nat} {v : Value}

theorem trod_struct5 {P : Program} {t : TypeId} {f0 f1 f2 f3 f4 : Field} {fuel : Nat} {cs : List Value} {x : DataW H × List MemPlace} (ht : P.underlying t = some (.struct #[f0, f1, f2, f3, f4])) (h : DataW.trod enc P w base spare held fuel t cs = some x) :
    ∃ y0 y1 y2 y3 y4 n, cs.length = P.cellsOf t ∧ DataW.trod enc P w base spare held n f0.type ((cs.drop f0.offset).take (P.cellsOf f0.type)) = some y0 ∧
      DataW.trod enc P w base spare held n f1.type ((cs.drop f1.offset).take (P.cellsOf f1.type)) = some y1 ∧ DataW.trod enc P w base spare held n f2.type ((cs.drop f2.offset).take (P.cellsOf f2.type)) = some y2 ∧
      DataW.trod enc P w base spare held n f3.type ((cs.drop f3.offset).take (P.cellsOf f3.type)) = some y3 ∧ DataW.trod enc P w base spare held n f4.type ((cs.drop f4.offset).take (P.cellsOf f4.type)) = some y4 := by
  obtain ⟨xs, n, _, rfl, hl, hlen, hf⟩ := DataW.trod_struct ht h
  match xs, hlen with
  | [y0, y1, y2, y3, y4], _ => exact ⟨y0, y1, y2, y3, y4, n, hl, by simpa using hf 0 f0 rfl, by simpa using hf 1 f1 rfl, by simpa using hf 2 f2 rfl, by simpa using hf 3 f3 rfl, by simpa using hf 4 f4 rfl⟩
open Go.Deep in
theorem slice_bytes {fuel : Nat} {cs : List Value} {x : DataW H × List MemPlace} (h : DataW.trod enc Try.prog w base spare held fuel 49 cs = some x) : ∃ a len cap Z, cs = [.slice a len cap] ∧ IsBytes w a len Z := by
  rcases open_slice1 Try.underlying49 (by kernel_rfl) h with ⟨h0, _⟩ | ⟨ad, l, c, m, n, V, D, Pl, h0, hba, hl, hcm, hmm, _, hel⟩
  · exact ⟨none, 0, 0, fun _ => 0, h0, .inl rfl⟩
  · have hlm : l ≤ m := by rw [hmm]; split <;> omega
    have hle : l ≤ 9223372036854775807 := by unfold maxLen at hcm; omega
    have key : ∀ i, i < l → ∃ z, w.cell? (ad.add i) = some (.int .u8 z) ∧ 0 ≤ z ∧ z ≤ 255 := fun i hi => by
      obtain ⟨h1, h2⟩ := hel i (by omega)
      obtain ⟨z, hz, _, hw⟩ := DataW.trod_int Try.underlying5 h2
      have : V i = .int .u8 z := List.head_eq_of_cons_eq hz
      rw [this] at h1
      exact ⟨z, h1, bounds_u8 hw⟩
    by_cases h9 : l = 0
    · exact ⟨some ad, l, c, fun _ => 0, h0, .inl h9⟩
    · obtain ⟨Z, hZ⟩ := choose_lt (α := Int) key
      obtain ⟨b, o, sp⟩ := ad
      have hs := World.cell?_spot (hZ 0 (by omega)).1
      obtain rfl : sp = none := by simpa [Addr.add] using hs
      refine ⟨some ⟨b, o, none⟩, l, c, Z, h0, .inr ⟨b, o, rfl, hle, ?_, fun i hi => ?_⟩⟩
      · have := World.block_lt_of_cell? w _ (hZ 0 (by omega)).1
        rwa [addr_block] at this
      · have hk := hZ i hi
        rw [addr_add] at hk
        exact hk
set_option maxRecDepth 100000 in
/-- one raw rule, in its cells -/
theorem trod_rawrule {fuel : Nat} {cs : List Value} {x : DataW H × List MemPlace} (h : DataW.trod enc Try.prog w base spare held fuel 71 cs = some x) :
    ∃ q : RR, cs = [.slice q.ai q.li q.ci, .slice q.ao q.lo q.co, .int .u8 q.f, .int .u8 q.d, .int .u8 q.c] ∧ RROk w q := by
  obtain ⟨y0, y1, y2, y3, y4, n, hl, h0, h1, h2, h3, h4⟩ := trod_struct5 Try.underlying71 h
  have hsz : cs.length = 5 := hl.trans (by kernel_rfl)
  match cs, hsz with
  | [c0, c1, c2, c3, c4], _ =>
    obtain ⟨ai, li, ci, ZI, e0, g0⟩ := slice_bytes h0
    obtain ⟨ao, lo, co, ZO, e1, g1⟩ := slice_bytes h1
    obtain ⟨f, e2, _, w2⟩ := DataW.trod_int Try.underlying5 h2
    obtain ⟨dd, e3, _, w3⟩ := DataW.trod_int Try.underlying5 h3
    obtain ⟨c, e4, _, w4⟩ := DataW.trod_int Try.underlying5 h4
    obtain rfl : c0 = .slice ai li ci := List.head_eq_of_cons_eq e0
    obtain rfl : c1 = .slice ao lo co := List.head_eq_of_cons_eq e1
    obtain rfl : c2 = .int .u8 f := List.head_eq_of_cons_eq e2
    obtain rfl : c3 = .int .u8 dd := List.head_eq_of_cons_eq e3
    obtain rfl : c4 = .int .u8 c := List.head_eq_of_cons_eq e4
    exact ⟨⟨ai, li, ci, ao, lo, co, f, dd, c, ZI, ZO⟩, rfl, (bounds_u8 w2).1, (bounds_u8 w2).2, (bounds_u8 w3).1, (bounds_u8 w3).2, (bounds_u8 w4).1, (bounds_u8 w4).2, g0, g1⟩
open Go.Deep in
theorem slice_raws {fuel : Nat} {cs : List Value} {x : DataW H × List MemPlace} (h : DataW.trod enc Try.prog w base spare held fuel 25 cs = some x) : ∃ a len cap Q, cs = [.slice a len cap] ∧ RawRows w a len Q := by
  rcases open_slice Try.underlying25 h with ⟨h0, _⟩ | ⟨ad, l, c, m, n, D, Pl, h0, hba, hl, hcm, hmm, _, hel⟩
  · exact ⟨none, 0, 0, fun _ => ⟨none, 0, 0, none, 0, 0, 0, 0, 0, fun _ => 0, fun _ => 0⟩, h0, .inl rfl⟩
  · have hlm : l ≤ m := by rw [hmm]; split <;> omega
    have hC : Try.prog.cellsOf 71 = 5 := by kernel_rfl
    have key : ∀ i, i < l → ∃ q : RR, ((w.cell? ⟨ad.block, ad.off + i * 5 + 0, none⟩ = some (.slice q.ai q.li q.ci) ∧ w.cell? ⟨ad.block, ad.off + i * 5 + 1, none⟩ = some (.slice q.ao q.lo q.co) ∧ w.cell? ⟨ad.block, ad.off + i * 5 + 2, none⟩ = some (.int .u8 q.f) ∧ w.cell? ⟨ad.block, ad.off + i * 5 + 3, none⟩ = some (.int .u8 q.d) ∧ w.cell? ⟨ad.block, ad.off + i * 5 + 4, none⟩ = some (.int .u8 q.c)) ∧ RROk w q) ∧ (i = 0 → ad.spot = none) ∧ ad.block < w.heap.size := by
      intro i hi
      obtain ⟨cs', hcs, htr⟩ := hel i (by omega)
      rw [hC] at hcs
      obtain ⟨q, rfl, hq⟩ := trod_rawrule htr
      obtain ⟨_, hl', hg⟩ := World.cells?_some hcs
      have hat : ∀ j, j < 5 → ∀ u, [Value.slice q.ai q.li q.ci, .slice q.ao q.lo q.co, .int .u8 q.f, .int .u8 q.d, .int .u8 q.c][j]? = some u → w.cell? ⟨ad.block, ad.off + i * 5 + j, none⟩ = some u := by
        intro j hj u hu
        have h1 := hg j hj
        rw [hu] at h1
        have hspot := World.cell?_spot h1
        have e : (ad.add (i * 5)).add j = ⟨ad.block, ad.off + i * 5 + j, none⟩ := by
          rw [addr_spot _ _ hspot, addr_block, addr_off]
        rwa [e] at h1
      refine ⟨q, ⟨⟨hat 0 (by omega) _ rfl, hat 1 (by omega) _ rfl, hat 2 (by omega) _ rfl, hat 3 (by omega) _ rfl, hat 4 (by omega) _ rfl⟩, hq⟩, fun hi0 => ?_, ?_⟩
      · subst hi0
        have h1 := hg 0 (by omega)
        have hspot := World.cell?_spot (v := .slice q.ai q.li q.ci) h1
        simpa [Addr.add] using hspot
      · have := World.cells?_block hcs (by omega)
        rwa [addr_block] at this
    by_cases h9 : l = 0
    · exact ⟨some ad, l, c, fun _ => ⟨none, 0, 0, none, 0, 0, 0, 0, 0, fun _ => 0, fun _ => 0⟩, h0, .inl h9⟩
    · obtain ⟨Q, hQ⟩ := choose_lt (α := RR) (n := l) (fun i hi => key i hi)
      have hsp := (hQ 0 (by omega)).2.1 rfl
      obtain ⟨b, o, sp⟩ := ad
      simp only at hsp
      subst hsp
      exact ⟨some ⟨b, o, none⟩, l, c, Q, h0, .inr ⟨b, o, rfl, (hQ 0 (by omega)).2.2, fun i hi => (hQ i hi).1⟩⟩
set_option maxRecDepth 100000 in
theorem open_raw02 (hv : Value.okWide Try.prog w r b0 27 v) (h : DataW.Trod enc Try.prog w base spare held 27 v d p) : ∃ x : Raw2A, v = x.val ∧ Raw2Ok w x := by
  obtain ⟨cs, rfl, hsz⟩ : ∃ cs, v = .agg cs ∧ cs.size = 3 := by
    unfold Value.okWide at hv
    rw [Try.underlying27] at hv
    obtain ⟨cs, h, h2, _⟩ := hv
    exact ⟨cs, h, h2.trans (by kernel_rfl)⟩
  obtain ⟨f, hf⟩ := h
  obtain ⟨y0, y1, y2, n, _, _, h0, h1, h2⟩ := Go.Deep.trod_struct3 Try.underlying27 hf
  have hcs : ∃ c0 c1 c2, cs = #[c0, c1, c2] := by
    obtain ⟨l⟩ := cs
    match l, hsz with
    | [c0, c1, c2], _ => exact ⟨c0, c1, c2, rfl⟩
  obtain ⟨c0, c1, c2, rfl⟩ := hcs
  obtain ⟨M, e0, _, w0⟩ := DataW.trod_int Try.underlying5 h0
  obtain ⟨A, e1, _, w1⟩ := DataW.trod_int Try.underlying5 h1
  obtain ⟨a, len, cap, Q, e2, hQ⟩ := slice_raws h2
  have g0 : c0 = .int .u8 M := List.head_eq_of_cons_eq e0
  have g1 : c1 = .int .u8 A := List.head_eq_of_cons_eq e1
  have g2 : c2 = .slice a len cap := List.head_eq_of_cons_eq e2
  subst g0 g1 g2
  exact ⟨⟨M, A, a, len, cap, Q⟩, rfl, (bounds_u8 w0).1, (bounds_u8 w0).2, (bounds_u8 w1).1, (bounds_u8 w1).2, hQ⟩
set_option maxRecDepth 100000 in
theorem open_rule (hv : Value.okWide Try.prog w r b0 29 v) (h : DataW.Trod enc Try.prog w base spare held 29 v d p) : ∃ x : Rl, v = rlVal x ∧ True := by
  obtain ⟨cs, rfl, hsz⟩ : ∃ cs, v = .agg cs ∧ cs.size = 5 := by
    unfold Value.okWide at hv
    rw [Try.underlying29] at hv
    obtain ⟨cs, h, h2, _⟩ := hv
    exact ⟨cs, h, h2.trans (by kernel_rfl)⟩
  obtain ⟨f, hf⟩ := h
  obtain ⟨y0, y1, y2, y3, y4, n, _, h0, h1, h2, h3, h4⟩ := trod_struct5 Try.underlying29 hf
  have hcs : ∃ c0 c1 c2 c3 c4, cs = #[c0, c1, c2, c3, c4] := by
    obtain ⟨l⟩ := cs
    match l, hsz with
    | [c0, c1, c2, c3, c4], _ => exact ⟨c0, c1, c2, c3, c4, rfl⟩
  obtain ⟨c0, c1, c2, c3, c4, rfl⟩ := hcs
  obtain ⟨fr, e0, _, _⟩ := DataW.trod_int Try.underlying3 h0
  obtain ⟨ds, e1, _, _⟩ := DataW.trod_int Try.underlying3 h1
  obtain ⟨s2, e2, _, _⟩ := DataW.trod_string Try.underlying9 h2
  obtain ⟨s3, e3, _, _⟩ := DataW.trod_string Try.underlying9 h3
  obtain ⟨co, e4, _, _⟩ := DataW.trod_int Try.underlying3 h4
  have g0 : c0 = .int .i64 fr := List.head_eq_of_cons_eq e0
  have g1 : c1 = .int .i64 ds := List.head_eq_of_cons_eq e1
  have g2 : c2 = .string s2 := List.head_eq_of_cons_eq e2
  have g3 : c3 = .string s3 := List.head_eq_of_cons_eq e3
  have g4 : c4 = .int .i64 co := List.head_eq_of_cons_eq e4
  subst g0 g1 g2 g3 g4
  exact ⟨⟨fr, ds, s2, s3, co⟩, rfl, trivial⟩
end
end Go.Proofs.Ytogjcfcfgnbmkaa
