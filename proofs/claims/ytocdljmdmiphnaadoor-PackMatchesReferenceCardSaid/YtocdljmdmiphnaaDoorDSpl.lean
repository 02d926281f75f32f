
/- An automaton's copy and its changes in memory (for DawgSpoilt). -/
import Derived.Test.YtocdljmdmiphnaaDoorDCopy
import Derived.Test.YtocdljmdmiphnaaDoorDOpenD
namespace Go.Proofs.YtocdljmdmiphnaaDoor
open Go.RowKit Go.WideShapes
set_option linter.unusedVariables false
set_option linter.unusedSimpArgs false

theorem flat_put {α : Type} {f : α → List Value} {k : Nat} (hk : ∀ x, (f x).length = k) : ∀ (L : List α) (i j : Nat) (hi : i < L.length) (x : α) (u : Value), j < k → f x = (f L[i]).set j u → (L.set i x).flatMap f = (L.flatMap f).set (i * k + j) u
  | y :: r, 0, j, _, x, u, hj, h => by
    rw [List.set_cons_zero, List.flatMap_cons, List.flatMap_cons, Nat.zero_mul, Nat.zero_add, List.set_append, if_pos (by rw [hk]; exact hj)]
    rw [h]; rfl
  | y :: r, i + 1, j, hi, x, u, hj, h => by
    have e : (i + 1) * k + j - k = i * k + j := by rw [Nat.add_mul]; omega
    rw [List.set_cons_succ, List.flatMap_cons, List.flatMap_cons, List.set_append, if_neg (by rw [hk, Nat.add_mul]; omega), hk, e, flat_put hk r i j (by simpa using hi) x u hj h]
/-- one cell of an owned row is written -/
theorem OwnG.put {α : Type} {T : RowT α} (hT : T.Ok) {w : World} {B g n c i j : Nat} {L : List α} {x : α} {u : Value} (h : OwnG T w B (.slice (some ⟨g, 0, none⟩) n c) L) (hi : i < L.length) (hj : j < T.k) (hx : T.enc x = (T.enc L[i]).set j u) :
    OwnG T (w.setCell ⟨g, i * T.k + j, none⟩ u) B (.slice (some ⟨g, 0, none⟩) n c) (L.set i x) := by
  rcases h.2 with ⟨h0, _⟩ | ⟨g', cap, cur, he, h1, h2, h3, h4, h5, h6⟩
  · cases h0
  · obtain ⟨rfl, rfl, rfl⟩ : g = g' ∧ n = L.length ∧ c = cap := by
      injection he with e1 e2 e3
      injection e1 with e1
      injection e1 with e1
      exact ⟨e1, e2, e3⟩
    have hlt : i * T.k + j < L.length * T.k := by
      have : (i + 1) * T.k ≤ L.length * T.k := Nat.mul_le_mul_right _ hi
      rw [Nat.add_mul] at this
      omega
    refine ⟨by rw [flat_len hT], .inr ⟨g, c, cur.setIfInBounds (i * T.k + j) u, by rw [List.length_set], h1, set_one h2 rfl, by rw [List.length_set]; exact h3, h4, by rw [Array.size_setIfInBounds]; exact h5, ?_⟩⟩
    rw [Array.toList_setIfInBounds, List.length_set, List.take_set, h6, flat_put hT.len L i j hi x u hj hx]
/-- a copy of an automaton at block g, older than all arcs' blocks; and a row of arcs, newer -/
structure SpS (wz w : World) (g c : Nat) (D : List Nd) (va : Value) (X : List Ar) : Prop where
  bl : Below wz.heap.size wz w
  gz : wz.heap.size ≤ g
  nd : ∃ N, NodesAs wz N D ∧ OwnG rowNode w wz.heap.size (.slice (some ⟨g, 0, none⟩) D.length c) N
  own : OwnG rowArc w (g + 1) va X
theorem SpS.go {wz w w1 : World} {g c : Nat} {D : List Nd} {va : Value} {X : List Ar} (h : SpS wz w g c D va X) (hb : Below w.heap.size w w1) : SpS wz w1 g c D va X := by
  obtain ⟨N, h1, h2⟩ := h.nd
  exact ⟨h.bl.trans (hb.mono h.bl.size), h.gz, ⟨N, h1, h2.later hb (Nat.le_refl _)⟩, h.own.later hb (Nat.le_refl _)⟩
theorem SpS.gw {wz w : World} {g c : Nat} {D : List Nd} {va : Value} {X : List Ar} (h : SpS wz w g c D va X) : g < w.heap.size := by
  obtain ⟨N, _, h2⟩ := h.nd
  exact h2.lt g rfl
theorem rowNode_k : rowNode.k = 2 := rfl
theorem rowArc_k : rowArc.k = 2 := rfl
/-- the cells of a node of the copy -/
theorem SpS.node {wz w : World} {g c : Nat} {D : List Nd} {va : Value} {X : List Ar} (h : SpS wz w g c D va X) {n : Nat} (hn : n < D.length) :
    w.cell? ⟨g, n * 2, none⟩ = some (.bool D[n].fin) ∧ ∃ aa cc, w.cell? ⟨g, n * 2 + 1, none⟩ = some (.slice aa D[n].arcs.length cc) ∧ ArcS wz aa D[n].arcs := by
  obtain ⟨N, ⟨hl, hN⟩, ho⟩ := h.nd
  have hn2 : n < N.length := by omega
  obtain ⟨e1, e2, e3⟩ := hN n hn2 hn
  have c0 := ho.cell rowNode_ok (i := n) (j := 0) hn2 (by decide)
  have c1 := ho.cell rowNode_ok (i := n) (j := 1) hn2 (by decide)
  rw [rowNode_k] at c0 c1
  refine ⟨?_, N[n].a, N[n].c, ?_, e3⟩
  · rw [← e1]; exact c0
  · rw [← e2]; exact c1
theorem SpS.free {wz w : World} {g c : Nat} {D : List Nd} {va : Value} {X : List Ar} (h : SpS wz w g c D va X) (i : Nat) : w.frozen? ⟨g, i, none⟩ = false := by
  obtain ⟨N, _, ho⟩ := h.nd
  obtain ⟨cs, hcs⟩ := ho.obj (g := g) rfl
  simp [World.frozen?, hcs]
theorem SpS.ext {wz w w1 : World} {g c : Nat} {D : List Nd} {va : Value} {X : List Ar} (h : SpS wz w g c D va X) (hb : Ext w w1) : SpS wz w1 g c D va X := h.go hb
theorem SpS.setFin {wz w : World} {g c : Nat} {D : List Nd} {va : Value} {X : List Ar} (h : SpS wz w g c D va X) {n : Nat} (hn : n < D.length) (f : Bool) :
    SpS wz (w.setCell ⟨g, n * 2, none⟩ (.bool f)) g c (D.set n ⟨f, D[n].arcs⟩) va X := by
  obtain ⟨N, ⟨hl, hN⟩, ho⟩ := h.nd
  have hn2 : n < N.length := by omega
  refine ⟨h.bl.setCell (p := ⟨g, n * 2, none⟩) h.gz _, h.gz, ⟨N.set n ⟨f, N[n].a, N[n].n, N[n].c⟩, ⟨by simpa using hl, fun k h1 h2 => ?_⟩, ?_⟩, ownsRow_setCell_below h.own (a := ⟨g, n * 2, none⟩) (by show g < g + 1; omega) _⟩
  · have hk1 : k < N.length := by simpa using h1
    have hk2 : k < D.length := by simpa using h2
    by_cases e : n = k
    · subst e
      obtain ⟨e1, e2, e3⟩ := hN n hk1 hk2
      simp only [List.getElem_set_self]
      exact ⟨trivial, e2, e3⟩
    · rw [List.getElem_set_ne e, List.getElem_set_ne e]
      exact hN k hk1 hk2
  · have := ho.put rowNode_ok (i := n) (j := 0) (x := ⟨f, N[n].a, N[n].n, N[n].c⟩) (u := .bool f) hn2 (by decide) rfl
    rw [rowNode_k, Nat.add_zero] at this
    simpa using this
/-- the arcs are put into the node -/
theorem SpS.setArcs {wz w : World} {g c a2 : Nat} {D : List Nd} {aa : Option Addr} {X : List Ar} (h : SpS wz w g c D (.slice aa X.length a2) X) {n : Nat} (hn : n < D.length) (hX : X.length ≤ 9223372036854775807) (hD : ∀ x ∈ D, x.arcs.length ≤ 9223372036854775807) :
    DawgS (w.setCell ⟨g, n * 2 + 1, none⟩ (.slice aa X.length a2)) (some ⟨g, 0, none⟩) (D.set n ⟨D[n].fin, X⟩) ∧ Below wz.heap.size wz (w.setCell ⟨g, n * 2 + 1, none⟩ (.slice aa X.length a2)) := by
  obtain ⟨N, ⟨hl, hN⟩, ho⟩ := h.nd
  have hn2 : n < N.length := by omega
  have hb := h.bl.setCell (p := ⟨g, n * 2 + 1, none⟩) h.gz (.slice aa X.length a2)
  have ho2 := ho.put rowNode_ok (i := n) (j := 1) (x := ⟨N[n].fin, aa, X.length, a2⟩) (u := .slice aa X.length a2) hn2 (by decide) rfl
  rw [rowNode_k] at ho2
  have hg2 := h.gw
  have hX2 : ArcS (w.setCell ⟨g, n * 2 + 1, none⟩ (.slice aa X.length a2)) aa X := by
    have := ownsRow_setCell_below h.own (a := ⟨g, n * 2 + 1, none⟩) (by show g < g + 1; omega) (.slice aa X.length a2)
    exact (OwnG.arcs (L := X) this).1
  refine ⟨fun k hk => ?_, hb⟩
  have hk2 : k < D.length := by simpa using hk
  have hk3 : k < (N.set n ⟨N[n].fin, aa, X.length, a2⟩).length := by rw [List.length_set]; omega
  have c0 := ho2.cell rowNode_ok (i := k) (j := 0) hk3 (by decide)
  have c1 := ho2.cell rowNode_ok (i := k) (j := 1) hk3 (by decide)
  rw [rowNode_k] at c0 c1
  refine ⟨g, 0, rfl, by simpa using hg2, ?_⟩
  rw [Nat.zero_add]
  obtain ⟨e1, e2, e3⟩ := hN k (by omega) hk2
  by_cases e : n = k
  · subst e
    simp only [List.getElem_set_self] at c0 c1 ⊢
    refine ⟨by rw [← e1]; exact c0, aa, a2, c1, hX, hX2⟩
  · rw [List.getElem_set_ne e] at c0 c1
    rw [List.getElem_set_ne e]
    refine ⟨by rw [← e1]; exact c0, N[k].a, N[k].c, by rw [← e2]; exact c1, hD _ (List.getElem_mem _), e3.later hb (Nat.le_refl _)⟩
theorem SpS.arcForm {wz w : World} {g c : Nat} {D : List Nd} {va : Value} {X : List Ar} (h : SpS wz w g c D va X) (hX : 0 < X.length) : ∃ ga ca, va = .slice (some ⟨ga, 0, none⟩) X.length ca ∧ g < ga ∧ ga < w.heap.size ∧ X.length ≤ ca := by
  rcases h.own.blk with ⟨_, h0⟩ | ⟨ga, ca, h1, h2, h3, h4⟩
  · rw [h0] at hX; simp at hX
  · exact ⟨ga, ca, h1, h2, h3, h4⟩
/-- a cell of the arcs is written -/
theorem SpS.setArc {wz w : World} {g c ga n2 ca : Nat} {D : List Nd} {X : List Ar} (h : SpS wz w g c D (.slice (some ⟨ga, 0, none⟩) n2 ca) X) {k j : Nat} (hk : k < X.length) (hj : j < 2) {x : Ar} {u : Value} (hx : rowArc.enc x = (rowArc.enc X[k]).set j u) :
    SpS wz (w.setCell ⟨ga, k * 2 + j, none⟩ u) g c D (.slice (some ⟨ga, 0, none⟩) n2 ca) (X.set k x) := by
  obtain ⟨N, h1, ho⟩ := h.nd
  have hga : g + 1 ≤ ga := h.own.ge ga rfl
  refine ⟨h.bl.setCell (p := ⟨ga, k * 2 + j, none⟩) (by have := h.gz; show wz.heap.size ≤ ga; omega) _, h.gz, ⟨N, h1, ?_⟩, ?_⟩
  · refine ho.keep fun q hq => ?_
    obtain rfl : g = q := by simpa [Value.ownBlock] using hq
    simp only [World.setCell]
    rw [Array.getElem?_modify, if_neg (by omega)]
  · have := h.own.put rowArc_ok (i := k) (j := j) (x := x) (u := u) hk hj hx
    rw [rowArc_k] at this
    exact this
/-- an arc more -/
theorem SpS.more {wz w w1 : World} {g c : Nat} {D : List Nd} {va va' : Value} {X Y : List Ar} (h : SpS wz w g c D va X) (ho : OwnG rowArc w1 (g + 1) va' Y) (hg : w.grownBy w1 va.ownBlock) : SpS wz w1 g c D va' Y := by
  obtain ⟨N, h1, h2⟩ := h.nd
  have hge := h.own.ge
  refine ⟨h.bl.trans ((below_grown hg h.bl.size fun k hk => ?_)), h.gz, ⟨N, h1, h2.grown hg fun q hq => ?_⟩, ho⟩
  · have := hge k hk; have := h.gz; omega
  · obtain rfl : g = q := by simpa [Value.ownBlock] using hq
    intro e
    have := hge g e.symm
    omega
theorem csOk_set {D : List Nd} {n : Nat} {f : Bool} {X : List Ar} (h : CsOk D) (hn : n < D.length) (hX : ∀ x ∈ X, 0 ≤ x.c ∧ x.c ≤ 255 ∧ -9223372036854775808 ≤ x.t ∧ x.t ≤ 9223372036854775807) : CsOk (D.set n ⟨f, X⟩) := fun i hi x hx => by
  have hi2 : i < D.length := by simpa using hi
  by_cases e : n = i
  · subst e
    simp only [List.getElem_set_self] at hx
    exact hX x hx
  · rw [List.getElem_set_ne e] at hx
    exact h i hi2 x hx
theorem valid_n (D : List Nd) (n : Nat) (a : Option Addr) (c : Nat) (w : World) (hn : n = D.length) (hD : DawgS w a D) (hDl : n ≤ 9223372036854775807) (hC : CsOk D) (hT : Tab w) :
    Calls Tryd.prog 31 #[.slice a n c] w fun e w' => e = .returned (.bool (validF D)) ∧ Below w.heap.size w w' := by
  subst hn; exact valid_any D a c w hD hDl hC hT
theorem rvalid_n (D : List Nd) (n : Nat) (a : Option Addr) (c : Nat) (w : World) (hn : n = D.length) (hD : DawgS w a D) (hDl : n ≤ 9223372036854775807) (hC : CsOk D) :
    Calls Tryd.prog 24 #[.slice a n c] w fun e w' => e = .returned (.bool (validF D)) ∧ Below w.heap.size w w' := by
  subst hn; rw [valid_same]; exact rvalid_any D a c w hD hDl hC
end Go.Proofs.YtocdljmdmiphnaaDoor
