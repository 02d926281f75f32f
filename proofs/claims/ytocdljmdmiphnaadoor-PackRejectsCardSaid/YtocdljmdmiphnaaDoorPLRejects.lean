
/- PackRejects: the walk. -/
import Derived.Test.YtocdljmdmiphnaaDoorPG
namespace Go.Proofs.YtocdljmdmiphnaaDoor
set_option linter.unusedVariables false
set_option linter.unusedSimpArgs false

section
open Go.ChangeShapes Go.WideShapes Go.ChangeAt Go.RowKit
variable {H : Type} {enc : TypeId × Value → H} {w : World} {base : Nat} {spare : Nat → Bool} {held : Bool} {d : DataW H} {p : List MemPlace} {r : Reach} {b0 : Nat} {v : Value}
structure ArcOk (x : Ar) : Prop where
  c0 : 0 ≤ x.c
  c1 : x.c ≤ 255
  t0 : -9223372036854775808 ≤ x.t
  t1 : x.t ≤ 9223372036854775807
def Ar.val (x : Ar) : Value := .agg #[.int .u8 x.c, .int .i64 x.t]
set_option maxRecDepth 100000 in
theorem open_arc (hv : Value.okWide Tryd.prog w r b0 56 v) (h : DataW.Trod enc Tryd.prog w base spare held 56 v d p) : ∃ x : Ar, v = x.val ∧ ArcOk x := by
  obtain ⟨cs, rfl, hsz⟩ : ∃ cs, v = .agg cs ∧ cs.size = 2 := by
    unfold Value.okWide at hv
    rw [Tryd.underlying56] at hv
    obtain ⟨cs, h, h2, _⟩ := hv
    exact ⟨cs, h, h2.trans (by kernel_rfl)⟩
  obtain ⟨f, hf⟩ := h
  obtain ⟨y0, y1, n, _, _, h0, h1⟩ := trod_struct2 Tryd.underlying56 hf
  obtain ⟨c0, c1, hcs⟩ : ∃ c0 c1, cs = #[c0, c1] := by
    obtain ⟨l⟩ := cs
    obtain ⟨c0, c1, rfl⟩ := list2 (show l.length = 2 from hsz)
    exact ⟨c0, c1, rfl⟩
  subst hcs
  obtain ⟨c, e0, _, w0⟩ := DataW.trod_int Tryd.underlying5 h0
  obtain ⟨t, e1, _, w1⟩ := DataW.trod_int Tryd.underlying3 h1
  have g0 : c0 = .int .u8 c := List.head_eq_of_cons_eq e0
  have g1 : c1 = .int .i64 t := List.head_eq_of_cons_eq e1
  subst g0 g1
  exact ⟨⟨c, t⟩, rfl, (bounds_u8 w0).1, (bounds_u8 w0).2, (bounds_i64 w1).1, (bounds_i64 w1).2⟩
end
open Go.RowKit Go.WideShapes
structure BoxC (w : World) (g : Nat) (cs : Array Value) (t : TypeId) : Prop where
  lt : g < w.heap.size
  at' : w.heap[g]? = some (.cells cs t (0, 0))
theorem BoxC.go {w w1 : World} {g : Nat} {cs : Array Value} {t : TypeId} (h : BoxC w g cs t) (hb : Below w.heap.size w w1) : BoxC w1 g cs t := ⟨Nat.lt_of_lt_of_le h.lt hb.size, (hb.block g h.lt).trans h.at'⟩
theorem BoxC.new (w : World) (cs : Array Value) (t : TypeId) : BoxC (w.alloc (.cells cs t (0, 0))) w.heap.size cs t := ⟨by simp only [World.size_alloc]; omega, heap_alloc_new _ _⟩
theorem wpOp_store_cell {P : Program} {ops : Array Oper} {Q : Exit → Act → World → Prop} {L : Nat} {K : Act → World → Prop} {o : Oper} {A : Act} {W : World} {ty : TypeId} {p v : Operand} {ad : Addr} {k : IntKind} {s : Int} {y : Value}
    (ho : ops[L]? = some o) (hg : o.guard = none) (hop : o.op = .store ty p v) (hd : o.dst = none) (hp : A.eval p = .pointer (some ad)) (hv : A.eval v = .int k s) (hf : W.frozen? ad = false) (hc : W.cell? ad = some y) (hsz : (sizeOf ty).run P W = .ok 1 W) (hK : K A (W.setCell ad (.int k s))) : wpOp P ops Q L K A W := by
  unfold wpOp
  rw [ho]
  have hw : Region.wanted o (yielded ops A.tmps) = true := by unfold Region.wanted; rw [hg]
  simp only [hw, if_pos]
  refine .inl ?_
  unfold Oper.wp execOp
  simp only [hop, hp, hv]
  simp [go_sem, hf, hc, hsz]
  rw [hd]
  exact hK
/-! ### an automaton whose nodes' arcs lie in rows of their own -/
structure OddS (wz : World) (v : Value) (N : List NV) (D : List Nd) (w : World) : Prop where
  bl : Below wz.heap.size wz w
  own : OwnG rowNode w wz.heap.size v N
  len : N.length = D.length
  arcs : ∀ k (h1 : k < N.length) (h2 : k < D.length), N[k].fin = D[k].fin ∧ OwnG rowArc w wz.heap.size (.slice N[k].a N[k].n N[k].c) D[k].arcs
  dis : ∀ j k (h1 : j < N.length) (h2 : k < N.length), j ≠ k → ∀ q, nvB N[j] = some q → nvB N[k] ≠ some q
section
variable {wz w w1 w2 : World} {v v1 : Value} {N : List NV} {D : List Nd}
theorem OddS.go (h : OddS wz v N D w) (hb : Ext w w1) : OddS wz v N D w1 :=
  ⟨h.bl.trans (Below.mono hb h.bl.size), h.own.later hb (Nat.le_refl _), h.len, fun k h1 h2 => ⟨(h.arcs k h1 h2).1, (h.arcs k h1 h2).2.later hb (Nat.le_refl _)⟩, h.dis⟩
theorem OddS.lt (h : OddS wz v N D w) {k : Nat} (hk : k < N.length) : ∀ q, nvB N[k] = some q → q < w.heap.size := fun q hq => (h.arcs k hk (by rw [← h.len]; exact hk)).2.lt q hq
theorem nodes_ne {w : World} {B C g q : Nat} {v : Value} {N : List NV} {u : Value} {X : List Ar} (h : OwnG rowNode w B v N) (hg : v.ownBlock = some g) (h2 : OwnG rowArc w C u X) (hq : u.ownBlock = some q) : g ≠ q := by
  obtain ⟨cs, h1⟩ := h.obj hg
  obtain ⟨cs2, h3⟩ := h2.obj hq
  exact cells_ne h1 h3 (by decide)
theorem OddS.n (h : OddS wz v N D w) {k : Nat} (hk : k < N.length) (hk2 : k < D.length) : N[k].n = D[k].arcs.length := by
  obtain ⟨a, c, e, _⟩ := (h.arcs k hk hk2).2.form
  injection e
/-- a node more -/
theorem OddS.app {S : Nat} {f : Bool} {a : Option Addr} {c : Nat} {X : List Ar} (h : OddS wz v N D w) (ho : OwnG rowNode w1 wz.heap.size v1 (N ++ [⟨f, a, X.length, c⟩])) (hg : w.grownBy w1 v.ownBlock)
    (hX : OwnG rowArc w1 S (.slice a X.length c) X) (hS : ∀ k (hk : k < N.length) q, nvB N[k] = some q → q < S) (hzS : wz.heap.size ≤ S) : OddS wz v1 (N ++ [⟨f, a, X.length, c⟩]) (D ++ [⟨f, X⟩]) w1 := by
  have hge := h.own.ge
  refine ⟨h.bl.trans (below_grown hg h.bl.size hge), ho, by rw [List.length_append, List.length_append, h.len]; rfl, fun k h1 h2 => ?_, fun j k h1 h2 hjk q hq => ?_⟩
  · by_cases hk : k < N.length
    · have hk2 : k < D.length := by rw [← h.len]; exact hk
      rw [List.getElem_append_left hk, List.getElem_append_left hk2]
      obtain ⟨e1, e2⟩ := h.arcs k hk hk2
      exact ⟨e1, e2.grown hg fun q hq e => nodes_ne h.own e.symm e2 hq rfl⟩
    · have hk2 : k = N.length := by rw [List.length_append] at h1; simp at h1; omega
      subst hk2
      have e : (D ++ [(⟨f, X⟩ : Nd)])[N.length]'h2 = ⟨f, X⟩ := by
        simp only [h.len]
        exact List.getElem_concat_length rfl _
      rw [List.getElem_concat_length rfl, e]
      exact ⟨rfl, hX.mono hzS⟩
  · have hh1 := hq
    by_cases hj : j < N.length
    · rw [List.getElem_append_left hj] at hq
      by_cases hk : k < N.length
      · rw [List.getElem_append_left hk]
        exact h.dis j k hj hk hjk q hq
      · have hk2 : k = N.length := by rw [List.length_append] at h2; simp at h2; omega
        subst hk2
        rw [List.getElem_concat_length rfl]
        intro e
        have h3 := hX.ge q e
        have h4 := hS j hj q hq
        omega
    · have hj2 : j = N.length := by rw [List.length_append] at h1; simp at h1; omega
      subst hj2
      rw [List.getElem_concat_length rfl] at hq
      have hk : k < N.length := by rw [List.length_append] at h2; simp at h2; omega
      rw [List.getElem_append_left hk]
      intro e
      have h3 := hX.ge q hq
      have h4 := hS k hk q e
      omega
/-- the cells of a node -/
theorem OddS.node {g n2 c : Nat} (h : OddS wz (.slice (some ⟨g, 0, none⟩) n2 c) N D w) {n : Nat} (hn : n < D.length) :
    w.cell? ⟨g, n * 2, none⟩ = some (.bool D[n].fin) ∧ ∃ aa cc, w.cell? ⟨g, n * 2 + 1, none⟩ = some (.slice aa D[n].arcs.length cc) ∧ OwnG rowArc w wz.heap.size (.slice aa D[n].arcs.length cc) D[n].arcs ∧ Value.slice (N[n]'(by rw [h.len]; exact hn)).a (N[n]'(by rw [h.len]; exact hn)).n (N[n]'(by rw [h.len]; exact hn)).c = .slice aa D[n].arcs.length cc := by
  have hn2 : n < N.length := by rw [h.len]; exact hn
  obtain ⟨e1, e3⟩ := h.arcs n hn2 hn
  have e2 := h.n hn2 hn
  have c0 := h.own.cell rowNode_ok (i := n) (j := 0) hn2 (by decide)
  have c1 := h.own.cell rowNode_ok (i := n) (j := 1) hn2 (by decide)
  rw [rowNode_k] at c0 c1
  rw [e2] at e3
  refine ⟨?_, N[n].a, N[n].c, ?_, e3, ?_⟩
  · rw [← e1]; exact c0
  · rw [← e2]; exact c1
  · rw [e2]
theorem OddS.free {g n2 c : Nat} (h : OddS wz (.slice (some ⟨g, 0, none⟩) n2 c) N D w) (i : Nat) : w.frozen? ⟨g, i, none⟩ = false := by
  obtain ⟨cs, hcs⟩ := h.own.obj (g := g) rfl
  simp [World.frozen?, hcs]
/-- one node is changed -/
theorem OddS.change {g n2 c n : Nat} {x : NV} {y : Nd} (h : OddS wz (.slice (some ⟨g, 0, none⟩) n2 c) N D w) (hn : n < D.length) (hn' : n < N.length) (ho : OwnG rowNode w1 wz.heap.size (.slice (some ⟨g, 0, none⟩) n2 c) (N.set n x))
    (hf : x.fin = y.fin) (hx : OwnG rowArc w1 wz.heap.size (.slice x.a x.n x.c) y.arcs) (hy : y.arcs.length ≤ 9223372036854775807) (hD : ∀ z ∈ D, z.arcs.length ≤ 9223372036854775807)
    (hr : ∀ q, q < w.heap.size → q ≠ g → some q ≠ nvB N[n] → w1.heap[q]? = w.heap[q]?) : DawgS w1 (some ⟨g, 0, none⟩) (D.set n y) := fun k hk => by
  have hk2 : k < D.length := by simpa using hk
  have hk3 : k < N.length := by rw [h.len]; exact hk2
  have hk4 : k < (N.set n x).length := by rw [List.length_set]; exact hk3
  have c0 := ho.cell rowNode_ok (i := k) (j := 0) hk4 (by decide)
  have c1 := ho.cell rowNode_ok (i := k) (j := 1) hk4 (by decide)
  rw [rowNode_k] at c0 c1
  refine ⟨g, 0, rfl, ho.lt g rfl, ?_⟩
  rw [Nat.zero_add]
  by_cases e : n = k
  · subst e
    simp only [List.getElem_set_self] at c0 c1 ⊢
    obtain ⟨aa, cc, e2, _⟩ := hx.form
    rw [e2] at hx
    injection e2 with e3 e4 e5
    refine ⟨by rw [← hf]; exact c0, x.a, x.c, by rw [← e4]; exact c1, hy, ?_⟩
    have hxx := hx.arcs.1
    rw [← e3] at hxx
    exact hxx
  · rw [List.getElem_set_ne e] at c0 c1
    rw [List.getElem_set_ne e]
    obtain ⟨e1, e3⟩ := h.arcs k hk3 hk2
    have e2 := h.n hk3 hk2
    have e4 : OwnG rowArc w1 wz.heap.size (.slice N[k].a N[k].n N[k].c) D[k].arcs := e3.keep fun q hq => hr q (e3.lt q hq) (fun e5 => nodes_ne h.own rfl e3 hq e5.symm) fun e5 => h.dis k n hk3 hn' (Ne.symm e) q hq e5.symm
    refine ⟨by rw [← e1]; exact c0, N[k].a, N[k].c, by rw [← e2]; exact c1, hD _ (List.getElem_mem _), ?_⟩
    rw [e2] at e4
    exact e4.arcs.1
theorem set_heap_ne {w : World} {g i q : Nat} {u : Value} (h : q ≠ g) : (w.setCell ⟨g, i, none⟩ u).heap[q]? = w.heap[q]? := by
  simp only [World.setCell]
  rw [Array.getElem?_modify, if_neg (Ne.symm h)]
theorem OddS.bounds (h : OddS wz v N D w) : v = .slice none 0 0 ∧ D = [] ∨ ∃ g c, v = .slice (some ⟨g, 0, none⟩) D.length c ∧ wz.heap.size ≤ g ∧ g < w.heap.size ∧ D.length ≤ c := by
  rcases h.own.blk with ⟨h1, h2⟩ | ⟨g, c, h1, h2, h3, h4⟩
  · refine .inl ⟨h1, ?_⟩
    have := h.len
    rw [h2] at this
    exact List.eq_nil_of_length_eq_zero this.symm
  · rw [h.len] at h1 h4
    exact .inr ⟨g, c, h1, h2, h3, h4⟩
/-- the mark is changed -/
theorem OddS.fin {g n2 c n : Nat} (h : OddS wz (.slice (some ⟨g, 0, none⟩) n2 c) N D w) (hn : n < D.length) (hD : ∀ z ∈ D, z.arcs.length ≤ 9223372036854775807) (f : Bool) :
    DawgS (w.setCell ⟨g, n * 2, none⟩ (.bool f)) (some ⟨g, 0, none⟩) (D.set n ⟨f, D[n].arcs⟩) ∧ Below wz.heap.size wz (w.setCell ⟨g, n * 2, none⟩ (.bool f)) := by
  have hn2 : n < N.length := by rw [h.len]; exact hn
  have hg : wz.heap.size ≤ g := h.own.ge g rfl
  refine ⟨?_, h.bl.setCell (p := ⟨g, n * 2, none⟩) hg _⟩
  have ho := h.own.put rowNode_ok (i := n) (j := 0) (x := ⟨f, N[n].a, N[n].n, N[n].c⟩) (u := .bool f) hn2 (by decide) rfl
  rw [rowNode_k, Nat.add_zero] at ho
  obtain ⟨e1, e3⟩ := h.arcs n hn2 hn
  refine h.change hn hn2 ho rfl ?_ (hD D[n] (List.getElem_mem hn)) hD fun q _ hq _ => set_heap_ne hq
  exact e3.keep fun q hq => set_heap_ne fun e => nodes_ne h.own rfl e3 hq e.symm
/-- the byte of an arc is changed -/
theorem OddS.byte {g n2 c n kk ga m2 ca : Nat} (h : OddS wz (.slice (some ⟨g, 0, none⟩) n2 c) N D w) (hn : n < D.length) (hD : ∀ z ∈ D, z.arcs.length ≤ 9223372036854775807) (hk : kk < D[n].arcs.length) (hv : Value.slice (N[n]'(by rw [h.len]; exact hn)).a (N[n]'(by rw [h.len]; exact hn)).n (N[n]'(by rw [h.len]; exact hn)).c = .slice (some ⟨ga, 0, none⟩) m2 ca) (b : Int) :
    DawgS (w.setCell ⟨ga, kk * 2, none⟩ (.int .u8 b)) (some ⟨g, 0, none⟩) (D.set n ⟨D[n].fin, D[n].arcs.set kk ⟨b, D[n].arcs[kk].t⟩⟩) ∧ Below wz.heap.size wz (w.setCell ⟨ga, kk * 2, none⟩ (.int .u8 b)) := by
  have hn2 : n < N.length := by rw [h.len]; exact hn
  obtain ⟨e1, e3⟩ := h.arcs n hn2 hn
  rw [hv] at e3
  have hga : wz.heap.size ≤ ga := e3.ge ga rfl
  have hne : g ≠ ga := nodes_ne h.own rfl e3 rfl
  refine ⟨?_, h.bl.setCell (p := ⟨ga, kk * 2, none⟩) hga _⟩
  have ho := e3.put rowArc_ok (i := kk) (j := 0) (x := ⟨b, D[n].arcs[kk].t⟩) (u := .int .u8 b) hk (by decide) rfl
  rw [rowArc_k, Nat.add_zero] at ho
  have hown : OwnG rowNode (w.setCell ⟨ga, kk * 2, none⟩ (.int .u8 b)) wz.heap.size (.slice (some ⟨g, 0, none⟩) n2 c) (N.set n N[n]) := by
    rw [List.set_getElem_self]
    exact h.own.keep fun q hq => set_heap_ne (by obtain rfl : g = q := by simpa [Value.ownBlock] using hq
                                                 exact hne)
  refine h.change hn hn2 hown e1 (by rw [hv]; exact ho) (by rw [List.length_set]; exact hD _ (List.getElem_mem hn)) hD fun q _ hq hq2 => set_heap_ne fun e => hq2 ?_
  unfold nvB; rw [hv, e]; rfl
/-- an arc more -/
theorem OddS.more {g n2 c n : Nat} {aa : Option Addr} {cc : Nat} {Y : List Ar} (h : OddS wz (.slice (some ⟨g, 0, none⟩) n2 c) N D w) (hn : n < D.length) (hD : ∀ z ∈ D, z.arcs.length ≤ 9223372036854775807) (ho : OwnG rowArc w1 wz.heap.size (.slice aa Y.length cc) Y) (hg : w.grownBy w1 (nvB (N[n]'(by rw [h.len]; exact hn)))) (hY : Y.length ≤ 9223372036854775807) :
    DawgS (w1.setCell ⟨g, n * 2 + 1, none⟩ (.slice aa Y.length cc)) (some ⟨g, 0, none⟩) (D.set n ⟨D[n].fin, Y⟩) ∧ Below wz.heap.size wz (w1.setCell ⟨g, n * 2 + 1, none⟩ (.slice aa Y.length cc)) := by
  have hn2 : n < N.length := by rw [h.len]; exact hn
  obtain ⟨e1, e3⟩ := h.arcs n hn2 hn
  have hgz : wz.heap.size ≤ g := h.own.ge g rfl
  have hge : ∀ q, nvB N[n] = some q → wz.heap.size ≤ q := e3.ge
  have hown1 : OwnG rowNode w1 wz.heap.size (.slice (some ⟨g, 0, none⟩) n2 c) N := h.own.grown hg fun q hq e => nodes_ne h.own hq e3 e.symm rfl
  have hb1 := h.bl.trans (below_grown hg h.bl.size hge)
  refine ⟨?_, hb1.setCell (p := ⟨g, n * 2 + 1, none⟩) hgz _⟩
  have ho2 := hown1.put rowNode_ok (i := n) (j := 1) (x := ⟨N[n].fin, aa, Y.length, cc⟩) (u := .slice aa Y.length cc) hn2 (by decide) rfl
  rw [rowNode_k] at ho2
  refine h.change hn hn2 ho2 e1 (ho.keep fun q hq => set_heap_ne fun e => nodes_ne hown1 rfl ho hq e.symm) hY hD fun q hq h1 h2 => ?_
  rw [set_heap_ne h1]
  exact hg.block q hq h2
theorem grown_ext {w w1 w2 : World} {row : Option Nat} (h : w.grownBy w1 row) (hx : Ext w1 w2) : w.grownBy w2 row := ⟨hx.os.trans h.os, hx.tape.trans h.tape, hx.output.trans h.output, Nat.le_trans h.size hx.size, fun k hk hne => (hx.block k (Nat.lt_of_lt_of_le hk h.size)).trans (h.block k hk hne)⟩
/-- the slice of arcs of a node, behind an append to it -/
theorem OddS.after {g n2 c n : Nat} (h : OddS wz (.slice (some ⟨g, 0, none⟩) n2 c) N D w) (hn : n < D.length) (hg : w.grownBy w1 (nvB (N[n]'(by rw [h.len]; exact hn)))) :
    (∃ y, w1.cell? ⟨g, n * 2 + 1, none⟩ = some y) ∧ w1.frozen? ⟨g, n * 2 + 1, none⟩ = false := by
  have hn2 : n < N.length := by rw [h.len]; exact hn
  obtain ⟨e1, e3⟩ := h.arcs n hn2 hn
  have hown1 : OwnG rowNode w1 wz.heap.size (.slice (some ⟨g, 0, none⟩) n2 c) N := h.own.grown hg fun q hq e => nodes_ne h.own hq e3 e.symm rfl
  have c1 := hown1.cell rowNode_ok (i := n) (j := 1) hn2 (by decide)
  obtain ⟨cs, hcs⟩ := hown1.obj (g := g) rfl
  rw [rowNode_k] at c1
  exact ⟨⟨_, c1⟩, by simp [World.frozen?, hcs]⟩
/-- unchanged -/
theorem OddS.dawg {g n2 c n : Nat} (h : OddS wz (.slice (some ⟨g, 0, none⟩) n2 c) N D w) (hn : n < D.length) (hD : ∀ z ∈ D, z.arcs.length ≤ 9223372036854775807) : DawgS w (some ⟨g, 0, none⟩) D := by
  have hn2 : n < N.length := by rw [h.len]; exact hn
  obtain ⟨e1, e3⟩ := h.arcs n hn2 hn
  have := h.change (w1 := w) hn hn2 (x := N[n]) (y := D[n]) (by rw [List.set_getElem_self]; exact h.own) e1 e3 (hD _ (List.getElem_mem hn)) hD fun _ _ _ _ => rfl
  rwa [List.set_getElem_self] at this
end
/-! ### the parts of a new node -/
def RowEm (S : Nat) (v : Value) (w : World) : Prop := ∃ g, v = .slice (some ⟨g, 0, none⟩) 0 0 ∧ w.heap[g]? = some (.cells #[] 56 (0, 0)) ∧ S ≤ g
def ArcsN (S : Nat) (X : List Ar) (v : Value) (w : World) : Prop := OwnG rowArc w S v X
def NodeN (S : Nat) (f : Bool) (X : List Ar) (v : Value) (w : World) : Prop := ∃ a c, v = .agg #[.bool f, .slice a X.length c] ∧ OwnG rowArc w S (.slice a X.length c) X
def NodeR (S : Nat) (f : Bool) (X : List Ar) (v : Value) (w : World) : Prop := ∃ g a c, v = .slice (some ⟨g, 0, none⟩) 1 1 ∧ w.heap[g]? = some (.cells #[.bool f, .slice a X.length c] 53 (0, 0)) ∧ OwnG rowArc w S (.slice a X.length c) X ∧ S ≤ g
def OddV (wz : World) (D : List Nd) (v : Value) (w : World) : Prop := ∃ N, OddS wz v N D w
def OT (wz : World) (S : Nat) (v : Value) (N : List NV) (D : List Nd) (b : Bool) (w : World) : Prop := match b with
  | false => S ≤ w.heap.size ∧ OddS wz v N D w
  | true => True
theorem OT.ext {wz : World} {S : Nat} {v : Value} {N : List NV} {D : List Nd} : ∀ (b : Bool) (w w' : World), OT wz S v N D b w → Ext w w' → OT wz S v N D b w'
  | false, _, _, h, hx => ⟨Nat.le_trans h.1 hx.size, OddS.go h.2 hx⟩
  | true, _, _, _, _ => trivial
theorem OT.s {wz w : World} {S : Nat} {v : Value} {N : List NV} {D : List Nd} (h : OT wz S v N D false w) : S ≤ w.heap.size := h.1
theorem OT.o {wz w : World} {S : Nat} {v : Value} {N : List NV} {D : List Nd} (h : OT wz S v N D false w) : OddS wz v N D w := h.2
theorem heap_lt {w : World} {g : Nat} {o : Obj} (h : w.heap[g]? = some o) : g < w.heap.size := (Array.getElem?_eq_some_iff.1 h).1
theorem rowEm_stays (S : Nat) : Stays (RowEm S) := by
  rintro v w w' ⟨g, h1, h2, h3⟩ hx
  exact ⟨g, h1, (hx.block g (heap_lt h2)).trans h2, h3⟩
theorem arcsN_stays (S : Nat) (X : List Ar) : Stays (ArcsN S X) := fun v w w' h hx => OwnG.later h hx (Nat.le_refl _)
theorem nodeN_stays (S : Nat) (f : Bool) (X : List Ar) : Stays (NodeN S f X) := by
  rintro v w w' ⟨a, c, h1, h2⟩ hx
  exact ⟨a, c, h1, h2.later hx (Nat.le_refl _)⟩
theorem nodeR_stays (S : Nat) (f : Bool) (X : List Ar) : Stays (NodeR S f X) := by
  rintro v w w' ⟨g, a, c, h1, h2, h3, h4⟩ hx
  exact ⟨g, a, c, h1, (hx.block g (heap_lt h2)).trans h2, h3.later hx (Nat.le_refl _), h4⟩
theorem oddV_stays (wz : World) (D : List Nd) : Stays (OddV wz D) := by
  rintro v w w' ⟨N, h⟩ hx
  exact ⟨N, h.go hx⟩
section
variable {S : Nat} {vb : Option Nat} (hvb : ∀ q, vb = some q → q < S)
include hvb
theorem rowEm_grown : ∀ v w w', RowEm S v w → w.grownBy w' vb → RowEm S v w' := by
  rintro v w w' ⟨g, h1, h2, h3⟩ hx
  exact ⟨g, h1, (hx.block g (heap_lt h2) fun e => by have := hvb g e.symm; omega).trans h2, h3⟩
theorem arcsN_grown (X : List Ar) : ∀ v w w', ArcsN S X v w → w.grownBy w' vb → ArcsN S X v w' := fun v w w' h hx => OwnG.grown h hx fun q hq e => by
  have h1 := hvb q e.symm
  have h2 := OwnG.ge h q hq
  omega
theorem nodeN_grown (f : Bool) (X : List Ar) : ∀ v w w', NodeN S f X v w → w.grownBy w' vb → NodeN S f X v w' := by
  rintro v w w' ⟨a, c, h1, h2⟩ hx
  exact ⟨a, c, h1, arcsN_grown hvb X _ _ _ h2 hx⟩
theorem nodeR_grown (f : Bool) (X : List Ar) : ∀ v w w', NodeR S f X v w → w.grownBy w' vb → NodeR S f X v w' := by
  rintro v w w' ⟨g, a, c, h1, h2, h3, h4⟩ hx
  exact ⟨g, a, c, h1, (hx.block g (heap_lt h2) fun e => by have := hvb g e.symm; omega).trans h2, arcsN_grown hvb X _ _ _ h3 hx, h4⟩
end
theorem opres_copy_g {α : Type} {T : RowT α} (hT : T.Ok) {o : Oper} {a : Act} {w : World} (s x : Operand) (ho : o.op = .call { callee := .builtin .append, args := #[s, x], argTypes := #[T.sl, T.sl] }) {g : Nat} (hs : a.eval s = .slice (some ⟨g, 0, none⟩) 0 0) (hg : w.heap[g]? = some (.cells #[] T.e (0, 0)))
    (aa : Option Addr) (n c : Nat) (news : List α) (hn : n = news.length) (hx : a.eval x = .slice aa n c) (hc : news ≠ [] → ∃ ad, aa = some ad ∧ ∀ j u, (news.flatMap T.enc)[j]? = some u → w.cell? (ad.add j) = some u) (hl : news.length ≤ 1000000) :
    OpRes Tryd.prog a o w (fun v' w' => OwnG T w' g v' news ∧ (news ≠ [] → OwnG T w' w.heap.size v' news) ∧ Ext w w') := by
  obtain ⟨v', w', hr, h1, h2, h3⟩ := copy_g hT hg o.type aa n c news hn hc hl
  refine .inl ⟨v', w', ?_, h1, h2, h3⟩
  unfold execOp
  simp only [ho, resolve, invoke, builtin, Sem.run_bind, Sem.run_pure, Result.andThen_ok, List.map_toArray, List.map_cons, List.map_nil, hs, hx, hr]
/-- around an append of an arc -/
def MT (wr : World) (row : Option Nat) (b : Bool) (w : World) : Prop := match b with
  | false => Ext wr w
  | true => ∃ wb, Ext wr wb ∧ wb.grownBy w row
theorem MT.ext {wr : World} {row : Option Nat} : ∀ (b : Bool) (w w' : World), MT wr row b w → Ext w w' → MT wr row b w'
  | false, _, _, h, hx => Below.trans h (Below.mono hx h.size)
  | true, _, _, ⟨wb, h, hg⟩, hx => ⟨wb, h, grown_ext hg hx⟩
/-! ### plain -/
theorem size_bound {m : Nat} : ∀ X : List Nd, (∀ x ∈ X, x.arcs.length ≤ m) → sizeN X ≤ X.length * (1 + 2 * m)
  | [], _ => Nat.zero_le _
  | x :: X, h => by
    have h1 := h x (by simp)
    have h2 := size_bound X fun y hy => h y (by simp [hy])
    have e1 : sizeN (x :: X) = 1 + 2 * x.arcs.length + sizeN X := rfl
    rw [e1, List.length_cons, Nat.add_mul]
    omega
theorem set_arcs {D : List Nd} {n m : Nat} {y : Nd} (h : ∀ x ∈ D, x.arcs.length ≤ m) (hy : y.arcs.length ≤ m) : ∀ x ∈ D.set n y, x.arcs.length ≤ m := fun x hx => by
  rcases List.mem_or_eq_of_mem_set hx with h1 | h1
  · exact h x h1
  · rw [h1]; exact hy
noncomputable def pkF (D : List Nd) (c : List Int) : Wd × Int := if validF D = false then ([], 90) else if cntD (wordsF D).length c = false then ([], 1) else (packB D c, 0)
theorem pkRes_form {B : Nat} {D : List Nd} {c : List Int} {e : Ending} {w : World} (h : PkRes B D c e w) : ∃ a n k, e = .returned (.tuple #[.slice a n k, .int .i64 (pkF D c).2]) ∧ ByS w a n k (pkF D c).1 := by
  rcases h with ⟨h1, he⟩ | ⟨h1, h2, he⟩ | ⟨h1, h2, v, he, ho⟩
  · have e2 : pkF D c = ([], 90) := if_pos h1
    rw [e2]
    exact ⟨none, 0, 0, he, BytS.nil _ _, rfl, Nat.le_refl _⟩
  · have e2 : pkF D c = ([], 1) := by unfold pkF; rw [if_neg (by rw [h1]; decide), if_pos h2]
    rw [e2]
    exact ⟨none, 0, 0, he, BytS.nil _ _, rfl, Nat.le_refl _⟩
  · have e2 : pkF D c = (packB D c, 0) := by unfold pkF; rw [if_neg (by rw [h1]; decide), if_neg (by rw [h2]; decide)]
    rw [e2]
    obtain ⟨a, k, rfl, hb⟩ := ho.byS
    exact ⟨a, _, k, he, hb⟩
set_option maxHeartbeats 6400000 in
set_option maxRecDepth 100000 in
theorem packRejects_view (xl : BytsA) (z0 z1 z2 : Int) (xa : Ar) (w : World) (hx : BytsOk w xl) (h00 : 0 ≤ z0) (h01 : z0 ≤ 255) (h10 : 0 ≤ z1) (h11 : z1 ≤ 255) (h20 : 0 ≤ z2) (h21 : z2 ≤ 255) (hxa : ArcOk xa) (hT : Tab w) :
    Calls Tryd.prog 8 #[xl.val, .agg #[.int .u8 z0, .int .u8 z1, .int .u8 z2], xa.val] w fun e w' => e = .returned (.bool true) ∧ Below w.heap.size w w' := by
  obtain ⟨a, len, cap, Q⟩ := xl
  obtain ⟨xc, xt⟩ := xa
  obtain ⟨hQ, hl⟩ := hx
  simp only at hQ hl
  show Calls Tryd.prog 8 #[.slice a len cap, .agg #[.int .u8 z0, .int .u8 z1, .int .u8 z2], .agg #[.int .u8 xc, .int .i64 xt]] w _
  obtain ⟨w0, hw0⟩ : ∃ w0, w.alloc (.cells #[.int .u8 z0, .int .u8 z1, .int .u8 z2] 54) = w0 := ⟨_, rfl⟩
  obtain ⟨w1, hw1⟩ : ∃ w1, w0.alloc (.cells #[.int .u8 xc, .int .i64 xt] 56) = w1 := ⟨_, rfl⟩
  have hX0 : Below w.heap.size w w0 := by rw [← hw0]; exact below_new _ _
  have hX1 : Below w0.heap.size w0 w1 := by rw [← hw1]; exact below_new _ _
  have hbx0 : BoxC w0 w.heap.size #[.int .u8 z0, .int .u8 z1, .int .u8 z2] 54 := by rw [← hw0]; exact BoxC.new _ _ _
  have hbx1 : BoxC w1 w0.heap.size #[.int .u8 xc, .int .i64 xt] 56 := by rw [← hw1]; exact BoxC.new _ _ _
  have hs0 : Since w w1 := (Since.mk hX0).go hX1
  have HQ := Lib.hid ((hQ.go hX0).go hX1); have HT := Lib.hid ((hT.go hX0).go hX1)
  have HS := Lib.hid hs0
  have HBX := Lib.hid (hbx0.go hX1); have HBY := Lib.hid hbx1
  obtain ⟨g0, hg0⟩ : ∃ g0, w.heap.size = g0 := ⟨_, rfl⟩
  have hz0 : w0.heap.size = g0 + 1 := by rw [← hw0, World.size_alloc, hg0]
  clear hQ hT hX0 hX1 hbx0 hbx1 hs0
  replace HBX : Hid (BoxC w1 g0 #[.int .u8 z0, .int .u8 z1, .int .u8 z2] 54) := by rw [← hg0]; exact HBX
  replace HBY : Hid (BoxC w1 (g0 + 1) #[.int .u8 xc, .int .i64 xt] 56) := by rw [← hz0]; exact HBY
  go_enter Tryd.func8, Tryd.ntmps8
  go_wp2_with fail
  refine (psanity_any _ HT.out).mono ?_
  rintro e w2 ⟨rfl, hb⟩
  replace HQ := Lib.hid (HQ.out.go hb); replace HT := Lib.hid (HT.out.go hb); replace HS := Lib.hid (HS.out.go hb); replace HBX := Lib.hid (HBX.out.go hb); replace HBY := Lib.hid (HBY.out.go hb)
  clear hb
  clear hw0 hw1 hg0 hz0
  go_wp2_with fail
  refine (made_d 8 8 rfl (by decide) (by decide) HQ.out hl).mono ?_
  rintro e w3 ⟨L, b, o, c, -, rfl, hd, hm, hs4, hc, hR, hb⟩
  replace HQ := Lib.hid (HQ.out.go hb); replace HT := Lib.hid (HT.out.go hb); replace HS := Lib.hid (HS.out.go hb); replace HBX := Lib.hid (HBX.out.go hb); replace HBY := Lib.hid (HBY.out.go hb)
  clear hb
  have HR := Lib.hid hR; have HD := Lib.hid hd; obtain ⟨hn70, hzA, hfl⟩ := small_dict hd (by omega) hs4; clear hR hd HQ hs4 hzA hfl
  go_wp2_with fail
  refine (of_d HD.out HR.out rfl hc).mono ?_
  rintro e w4 ⟨a3, n3, c3, rfl, hA, hb⟩
  replace HT := Lib.hid (HT.out.go hb); replace HS := Lib.hid (HS.out.go hb); replace HBX := Lib.hid (HBX.out.go hb); replace HBY := Lib.hid (HBY.out.go hb)
  clear hb
  clear HR
  have hcs := csOk_of HD.out
  have h94 : ∀ x ∈ ofF (restAt 0 L), x.arcs.length ≤ 94 := fun x hx => by
    obtain ⟨Mt, h1, h2⟩ := of_tab HD.out.okR.1 HD.out.okR.2
    obtain ⟨k, hk, rfl⟩ := List.getElem_of_mem hx
    obtain ⟨r, _, _, h3⟩ := h1.nd k hk
    rw [h3.len]; exact grp_len r
  obtain ⟨hn3a, hn3⟩ := hA.small
  have hn3l := hA.len
  have hrows := hA.rows
  obtain ⟨D, hDe⟩ : ∃ D, ofF (restAt 0 L) = D := ⟨_, rfl⟩
  rw [hDe] at hcs h94 hn70 hn3l hrows
  have HCS := Lib.hid hcs; have H94 := Lib.hid h94; have HLN := Lib.hid hn3l; have HRW := Lib.hid hrows
  have hl8 : L.length ≤ 8 := hm
  have hn370 : n3 ≤ 70 := by omega
  clear hA hDe hcs h94 hn70 hn3l hrows HD hn3a hm
  have hE := heap_alloc_new w4 (.cells #[] 53)
  have hX4 := below_new w4 (.cells #[] 53)
  have HOD : Hid (OddS w4 (.slice (some ⟨w4.heap.size, 0, none⟩) 0 0) [] [] (w4.alloc (.cells #[] 53))) := ⟨hX4, OwnG.empty rowNode hE (Nat.le_refl _), rfl, fun k h1 => by simp at h1, fun j k h1 => by simp at h1⟩
  clear hE hX4
  go_wp2
  go_loopw [11, 10] (fun q v wr => ∃ k : Nat, k ≤ n3 ∧ q = .int .i64 (k : Int) ∧ OddV w4 (D.take k) v wr) (fun q _ _ => n3 - (intOf q).toNat)
  case atStart => exact ⟨0, Nat.zero_le _, rfl, [], HOD.out⟩
  case round =>
    obtain ⟨k, hk, rfl, N, hO⟩ := hrel
    have HO := Lib.hid hO
    clear hO
    by_cases hlt : k < n3
    · have hkD : k < D.length := by have := HLN.out; omega
      obtain ⟨b3, o3, ha3, hb3, q0, aa, cc, q1, hl1, hX⟩ := HRW.out.at hkD
      have hidx := idx_nodes a3 b3 o3 n3 c3 k ha3 hlt
      have htk : D.take (k + 1) = D.take k ++ [⟨D[k].fin, D[k].arcs⟩] := List.take_succ_eq_append_getElem hkD
      have hx94 := H94.out _ (List.getElem_mem hkD)
      obtain ⟨X, hXe⟩ : ∃ X, D[k].arcs = X := ⟨_, rfl⟩
      obtain ⟨fb, hfb⟩ : ∃ f, D[k].fin = f := ⟨_, rfl⟩
      rw [hXe, hfb] at htk
      rw [hXe] at q1 hl1 hX hx94
      rw [hfb] at q0
      have HQ0 := Lib.hid q0; have HQ1 := Lib.hid q1; have HX := Lib.hid hX; have HTK := Lib.hid htk
      have HVO : Hid (∀ q, u10.ownBlock = some q → q < wr.heap.size) := HO.out.own.lt
      have HNL : Hid (∀ k (hk : k < N.length) q, nvB N[k] = some q → q < wr.heap.size) := fun k hk => HO.out.lt hk
      have HNN : Hid (N.length ≤ 70) := by show _ ≤ _; rw [HO.out.len, List.length_take]; omega
      clear ha3 q0 q1 hX hXe hfb htk hl1
      go_upto_region 8 with fail
      refine wp_region_st (by kernel_rfl) (Vs [fun v _ => v = u10, fun v _ => v = .slice a3 n3 c3, fun v _ => v = .int .i64 (k : Int), fun v _ => v = .pointer (some ⟨b3, o3 + k * 2, none⟩), fun v _ => v = .pointer (some ⟨b3, o3 + k * 2, none⟩), fun v _ => v = .bool fb, RowEm wr.heap.size, fun v _ => v = .slice a3 n3 c3, fun v _ => v = .int .i64 (k : Int), fun v _ => v = .pointer (some ⟨b3, o3 + k * 2, none⟩), fun v _ => v = .pointer (some ⟨b3, o3 + k * 2 + 1, none⟩), fun v _ => v = .slice aa X.length cc, ArcsN wr.heap.size X, NodeN wr.heap.size fb X, NodeR wr.heap.size fb X, OddV w4 (D.take k ++ [⟨fb, X⟩]), OddV w4 (D.take k ++ [⟨fb, X⟩])]) (Xs [Ext, Ext, Ext, Ext, Ext, Ext, Ext, Ext, Ext, Ext, Ext, Ext, Ext, Ext, Ext, (fun w w' => w.grownBy w' u10.ownBlock), Ext]) (fun fL => (fun b1 W => OT w4 wr.heap.size u10 N (D.take k) b1 W) (fL 15)) [0, 0, 0, 6, 14, 30, 0, 0, 0, 384, 896, 1920, 4032, 8190, 16382, 32767, 65535] 137 17 (by kernel_rfl) rfl ?hV ?hS ?hop ?hfin ?hlast
      case hV =>
        refine xs_stays (vs_stays (by simp only [List.mem_cons, List.not_mem_nil, or_false, forall_eq_or_imp, forall_eq]; exact ⟨stays_const _, stays_const _, stays_const _, stays_const _, stays_const _, stays_const _, rowEm_stays _, stays_const _, stays_const _, stays_const _, stays_const _, stays_const _, arcsN_stays _ _, nodeN_stays _ _ _, nodeR_stays _ _ _, oddV_stays _ _, oddV_stays _ _⟩)) ?_
        exact ⟨.inl rfl, .inl rfl, .inl rfl, .inl rfl, .inl rfl, .inl rfl, .inl rfl, .inl rfl, .inl rfl, .inl rfl, .inl rfl, .inl rfl, .inl rfl, .inl rfl, .inl rfl, .inr (staysM_all ⟨fun _ _ => fun _ _ _ h _ => h, fun _ _ => fun _ _ _ h _ => h, fun _ _ => fun _ _ _ h _ => h, fun _ _ => fun _ _ _ h _ => h, fun _ _ => fun _ _ _ h _ => h, fun _ _ => fun _ _ _ h _ => h, fun _ _ => rowEm_grown HVO.out, fun _ _ => fun _ _ _ h _ => h, fun _ _ => fun _ _ _ h _ => h, fun _ _ => fun _ _ _ h _ => h, fun _ _ => fun _ _ _ h _ => h, fun _ _ => fun _ _ _ h _ => h, fun _ _ => arcsN_grown HVO.out X, fun _ _ => nodeN_grown HVO.out fb X, fun _ _ => nodeR_grown HVO.out fb X, fun h => absurd rfl h, fun _ h => absurd h (by decide), trivial⟩), .inl rfl, trivial⟩
      case hS =>
        intro fL hf
        show (fun b1 W => OT w4 wr.heap.size u10 N (D.take k) b1 W) (fL 15) _
        rw [hf 15 (by decide)]
        exact OT.ext false _ _ (show OT w4 wr.heap.size u10 N (D.take k) false wr from ⟨Nat.le_refl _, HO.out⟩) ⟨rfl, rfl, rfl, Nat.le_refl _, fun _ _ => rfl⟩
      case hop =>
        refine ⟨?_, ?_, ?_, ?_, ?_, ?c5, ?c6, ?_, ?_, ?_, ?_, ?c11, ?c12, ?c13, ?c14, ?c15, ?c16, trivial⟩
        all_goals first | rw [if_neg (by decide)] | rw [if_pos (by decide)]
        all_goals try intro ac W fL hsz hfi hms hdn hS0 hdep hbase hund
        all_goals try have hS : (fun b1 W => OT w4 wr.heap.size u10 N (D.take k) b1 W) (fL 15) W := hS0
        all_goals try (have hfl15 : fL 15 = true := hms 15 (by decide); rw [hfl15] at hS)
        all_goals try (have hfl15 : fL 15 = false := (by first | exact hfi | exact hdn 15 (by decide) (by decide)); rw [hfl15] at hS)
        all_goals try (have h10 : ac.tmps.getD 10 undef = u10 := hund 16 10 (by decide) (hdn 16 (by decide) (by decide)) rfl; have hh10 := h10; rw [Array.getD_eq_getD_getElem?] at hh10)
        all_goals try (have h9 : ac.tmps.getD 9 undef = .slice a3 n3 c3 := hbase 9 (by kernel_rfl); have hh9 := h9; rw [Array.getD_eq_getD_getElem?] at hh9)
        all_goals try (have h11 : ac.tmps.getD 11 undef = .int .i64 (k : Int) := hbase 11 (by kernel_rfl); have hh11 := h11; rw [Array.getD_eq_getD_getElem?] at hh11)
        all_goals try (have d30 : ac.tmps.getD 30 undef = u10 := hdep 0 (by decide); have dd30 := d30; rw [Array.getD_eq_getD_getElem?] at dd30)
        all_goals try (have d31 : ac.tmps.getD 31 undef = .slice a3 n3 c3 := hdep 1 (by decide); have dd31 := d31; rw [Array.getD_eq_getD_getElem?] at dd31)
        all_goals try (have d32 : ac.tmps.getD 32 undef = .int .i64 (k : Int) := hdep 2 (by decide); have dd32 := d32; rw [Array.getD_eq_getD_getElem?] at dd32)
        all_goals try (have d33 : ac.tmps.getD 33 undef = .pointer (some ⟨b3, o3 + k * 2, none⟩) := hdep 3 (by decide); have dd33 := d33; rw [Array.getD_eq_getD_getElem?] at dd33)
        all_goals try (have d34 : ac.tmps.getD 34 undef = .pointer (some ⟨b3, o3 + k * 2, none⟩) := hdep 4 (by decide); have dd34 := d34; rw [Array.getD_eq_getD_getElem?] at dd34)
        all_goals try (have d35 : ac.tmps.getD 35 undef = .bool fb := hdep 5 (by decide); have dd35 := d35; rw [Array.getD_eq_getD_getElem?] at dd35)
        all_goals try have d36 : (RowEm wr.heap.size) (ac.tmps.getD 36 undef) W := hdep 6 (by decide)
        all_goals try (have d37 : ac.tmps.getD 37 undef = .slice a3 n3 c3 := hdep 7 (by decide); have dd37 := d37; rw [Array.getD_eq_getD_getElem?] at dd37)
        all_goals try (have d38 : ac.tmps.getD 38 undef = .int .i64 (k : Int) := hdep 8 (by decide); have dd38 := d38; rw [Array.getD_eq_getD_getElem?] at dd38)
        all_goals try (have d39 : ac.tmps.getD 39 undef = .pointer (some ⟨b3, o3 + k * 2, none⟩) := hdep 9 (by decide); have dd39 := d39; rw [Array.getD_eq_getD_getElem?] at dd39)
        all_goals try (have d40 : ac.tmps.getD 40 undef = .pointer (some ⟨b3, o3 + k * 2 + 1, none⟩) := hdep 10 (by decide); have dd40 := d40; rw [Array.getD_eq_getD_getElem?] at dd40)
        all_goals try (have d41 : ac.tmps.getD 41 undef = .slice aa X.length cc := hdep 11 (by decide); have dd41 := d41; rw [Array.getD_eq_getD_getElem?] at dd41)
        all_goals try have d42 : (ArcsN wr.heap.size X) (ac.tmps.getD 42 undef) W := hdep 12 (by decide)
        all_goals try have d43 : (NodeN wr.heap.size fb X) (ac.tmps.getD 43 undef) W := hdep 13 (by decide)
        all_goals try have d44 : (NodeR wr.heap.size fb X) (ac.tmps.getD 44 undef) W := hdep 14 (by decide)
        all_goals try have d45 : (OddV w4 (D.take k ++ [⟨fb, X⟩])) (ac.tmps.getD 45 undef) W := hdep 15 (by decide)
        all_goals try clear hbase hdep hms hdn hund
        case c5 =>
          have hS1 : (fun b1 W => OT w4 wr.heap.size u10 N (D.take k) b1 W) ((upd fL 5) 15) W := hS0
          have q0' := (hS.o.bl.cell (p := ⟨b3, o3 + k * 2, none⟩) hb3).trans HQ0.out
          refine opOk_run rfl (.inl ⟨_, W, ?_, rfl, Ext.refl _, hS1⟩)
          clear hsz hS hS0 hS1 hfi; simp [go_sem, Act.eval, *]
        case c6 =>
          have hS1 : (fun b1 W => OT w4 wr.heap.size u10 N (D.take k) b1 W) ((upd fL 6) 15) W := hS0
          refine opOk_run rfl (.inl ⟨.slice (some ⟨W.heap.size, 0, none⟩) 0 0, W.alloc (.cells #[] 56), ?_, ⟨_, rfl, heap_alloc_new _ _, hS.s⟩, (Below.refl _ _).alloc (Nat.le_refl _) _, (show (fun b1 W => OT w4 wr.heap.size u10 N (D.take k) b1 W) ((upd fL 6) 15) _ by
            rw [show upd fL 6 15 = fL 15 from if_neg (by decide)]
            exact OT.ext _ _ _ hS0 ((Below.refl _ _).alloc (Nat.le_refl _) _))⟩)
          clear hsz hS hS0 hS1 hfi; simp [go_sem, Act.eval, *]
        case c11 =>
          have hS1 : (fun b1 W => OT w4 wr.heap.size u10 N (D.take k) b1 W) ((upd fL 11) 15) W := hS0
          have q1' := (hS.o.bl.cell (p := ⟨b3, o3 + k * 2 + 1, none⟩) hb3).trans HQ1.out
          refine opOk_run rfl (.inl ⟨_, W, ?_, rfl, Ext.refl _, hS1⟩)
          clear hsz hS hS0 hS1 hfi; simp [go_sem, Act.eval, *]
        case c12 =>
          obtain ⟨g36, e36, hg36, hs36⟩ := d36
          have hXW : ArcS W aa X := ArcS.later HX.out hS.o.bl (Nat.le_refl _)
          refine opOk_run rfl ((opres_copy_g rowArc_ok (.tmp 36) (.tmp 41) rfl (eval_tmp e36) hg36 aa X.length cc X rfl (eval_tmp d41) (fun hne => ?_) (by omega)).mono ?_)
          · obtain ⟨b, o, e, _⟩ := hXW.at (k := 0) (List.length_pos_iff.2 hne)
            subst e
            exact ⟨_, rfl, cells_arcs hXW⟩
          rintro va w' ⟨ho, ho2, hx⟩
          exact ⟨ho.mono hs36, hx, (show (fun b1 W => OT w4 wr.heap.size u10 N (D.take k) b1 W) ((upd fL 12) 15) _ by
            rw [show upd fL 12 15 = fL 15 from if_neg (by decide)]
            exact OT.ext _ _ _ hS0 hx)⟩
        case c13 =>
          have hS1 : (fun b1 W => OT w4 wr.heap.size u10 N (D.take k) b1 W) ((upd fL 13) 15) W := hS0
          obtain ⟨a42, c42, e42, -⟩ := OwnG.form d42
          have h42 : OwnG rowArc W wr.heap.size (.slice a42 X.length c42) X := by rw [← e42]; exact d42
          have dd42 := e42
          rw [Array.getD_eq_getD_getElem?] at dd42
          refine opOk_run rfl (.inl ⟨.agg #[.bool fb, .slice a42 X.length c42], W, ?_, ⟨a42, c42, rfl, h42⟩, Ext.refl _, hS1⟩)
          clear hsz hS hS0 hS1 hfi h42; simp [go_sem, Act.eval, *]
        case c14 =>
          have hS1 : (fun b1 W => OT w4 wr.heap.size u10 N (D.take k) b1 W) ((upd fL 14) 15) W := hS0
          obtain ⟨a43, c43, e43, ho43⟩ := d43
          have dd43 := e43
          rw [Array.getD_eq_getD_getElem?] at dd43
          have hx44 : Ext W (W.alloc (.cells #[.bool fb, .slice a43 X.length c43] 53)) := (Below.refl _ _).alloc (Nat.le_refl _) _
          refine opOk_run rfl (.inl ⟨.slice (some ⟨W.heap.size, 0, none⟩) 1 1, W.alloc (.cells #[.bool fb, .slice a43 X.length c43] 53), ?_, ⟨_, a43, c43, rfl, heap_alloc_new _ _, ho43.later hx44 (Nat.le_refl _), hS.s⟩, hx44, (show (fun b1 W => OT w4 wr.heap.size u10 N (D.take k) b1 W) ((upd fL 14) 15) _ by
            rw [show upd fL 14 15 = fL 15 from if_neg (by decide)]
            exact OT.ext _ _ _ hS0 hx44)⟩)
          clear hsz hS hS0 hS1 hfi ho43 hx44; simp [go_sem, Act.eval, *]
        case c15 =>
          obtain ⟨g44, a44, c44, e44, hg44, ho44, hs44⟩ := d44
          refine opOk_run rfl ((opres_append_g rowNode_ok (.tmp 30) (.tmp 44) rfl (eval_tmp d30) hS.o.own ⟨g44, 0, none⟩ 1 [⟨fb, a44, X.length, c44⟩] (eval_tmp e44) (cells_built hg44) (by have := HNN.out; simp only [List.length_singleton]; omega) hS.o.bl.size).mono ?_)
          rintro va w' ⟨ho, hgr, hat⟩
          refine ⟨⟨_, hS.o.app ho hgr (arcsN_grown HVO.out X _ _ _ ho44 hgr) HNL.out HO.out.bl.size⟩, hgr, ?_⟩
          show OT w4 wr.heap.size u10 N (D.take k) (upd fL 15 15) w'
          rw [show upd fL 15 15 = true from if_pos rfl]
          trivial
        case c16 =>
          have hS1 : (fun b1 W => OT w4 wr.heap.size u10 N (D.take k) b1 W) ((upd fL 16) 15) W := hS0
          refine opOk_run rfl (.inl ⟨_, W, ?_, d45, Ext.refl _, hS1⟩)
          clear hsz hS hS0 hS1 hfi d45; simp [go_sem, Act.eval, *]
        all_goals (refine opOk_run rfl (.inl ⟨_, W, ?_, rfl, Ext.refl _, hS0⟩); clear hsz hS hS0 hfi; simp [go_sem, Act.eval, *]; done)
      case hlast =>
        intro h; exact absurd rfl h
      case hfin =>
        intro _ ac W hsz hdf fL hf hS0 hv hbase
        have hS : (fun b1 W => OT w4 wr.heap.size u10 N (D.take k) b1 W) (fL 15) W := hS0
        clear hS0
        rw [hf 15 (by decide)] at hS
        obtain ⟨sx, hsx, hsA⟩ := act_puts [30, 31, 32, 33, 34, 35, 36, 37, 38, 39, 40, 41, 42, 43, 44, 45, 10] (by kernel_rfl) hsz hdf hbase
        have hr10 : OddV w4 (D.take k ++ [⟨fb, X⟩]) (sx 10) W := by rw [hsx 10]; exact hv 16 (by decide)
        rw [hsA]
        simp only [List.foldl]
        simp only [Act.put, List.setIfInBounds_toArray, List.set_cons_succ, List.set_cons_zero]
        clear hsA hsx hv hbase hsz hdf hf
        obtain ⟨vv, hvv⟩ : ∃ vv, sx 10 = vv := ⟨_, rfl⟩
        rw [hvv] at hr10 ⊢
        have HR10 := Lib.hid hr10
        clear hvv hr10 hS
        go_wp2_with fail
        go_roundw
        case rel => exact ⟨k + 1, by omega, by go_num, by rw [HTK.out]; exact HR10.out⟩
        case measure => simp [intOf]; omega
    · have hkn : D.take k = D := List.take_of_length_le (by have := HLN.out; omega)
      rw [hkn] at HO
      rcases HO.out.bounds with ⟨_, hD0⟩ | ⟨g, cO, hv, hgB, hgl, hcO⟩
      · exact absurd hD0 (by intro e; have := HLN.out; rw [e] at this; simp at this; omega)
      rw [← HLN.out] at hv hcO
      subst hv
      have HBXr := Lib.hid (HBX.out.go HO.out.bl); have HBYr := Lib.hid (HBY.out.go HO.out.bl)
      have hg0r := HBXr.out.lt
      have hg1r := HBYr.out.lt
      clear HBX HBY HRW hkn HOD
      obtain ⟨i, hi⟩ : ∃ i : Nat, z0.tmod (n3 : Int) = (i : Int) := ⟨(z0.tmod (n3 : Int)).toNat, by have := Int.tmod_nonneg (n3 : Int) h00; omega⟩
      have hil : i < n3 := by have := Int.tmod_lt_of_pos z0 (show (0 : Int) < (n3 : Int) by omega); omega
      obtain ⟨j, hj⟩ : ∃ j : Nat, z1.tmod 3 = (j : Int) := ⟨(z1.tmod 3).toNat, by have := Int.tmod_nonneg 3 h10; omega⟩
      have hj3 : j < 3 := by have := Int.tmod_lt_of_pos z1 (show (0 : Int) < 3 by omega); omega
      have hwz0 : IntKind.i64.wrap z0 = z0 := IntWalk.i64_in _ (by omega)
      have hwj : IntKind.u8.wrap (j : Int) = (j : Int) := IntWalk.u8_in _ (by omega)
      have hne : ¬ (n3 : Int) = 0 := by omega
      have hiD : i < D.length := by have := HLN.out; omega
      have hiN : i < N.length := by rw [HO.out.len]; exact hiD
      have hidx := idx_nodes (some ⟨g, 0, none⟩) g 0 n3 cO i rfl hil
      rw [Nat.zero_add] at hidx
      have H64 : Hid (∀ z ∈ D, z.arcs.length ≤ 9223372036854775807) := fun z hz => by have := H94.out z hz; omega
      have H95 : Hid (∀ z ∈ D, z.arcs.length ≤ 95) := fun z hz => by have := H94.out z hz; omega
      obtain ⟨c0, aa, cc, c1, hrow, hnv⟩ := HO.out.node hiD
      have hfr0 := HO.out.free (i * 2)
      have HROW := Lib.hid hrow; have HNV := Lib.hid hnv; have HC1 := Lib.hid c1; have HC0 := Lib.hid c0
      obtain ⟨bx0, bx1, bx2⟩ := cells3' HBXr.out.at'
      have hXl := H94.out _ (List.getElem_mem hiD)
      have HAI : Hid (∀ x ∈ D[i].arcs, 0 ≤ x.c ∧ x.c ≤ 255 ∧ -9223372036854775808 ≤ x.t ∧ x.t ≤ 9223372036854775807) := fun x hx => HCS.out i hiD x hx
      have hj0 : j = 0 ∨ j = 1 ∨ j = 2 := by omega
      clear hj3 hrow hnv
      rcases hj0 with rfl | rfl | rfl
      · obtain ⟨fb, hfb⟩ : ∃ b, D[i].fin = b := ⟨_, rfl⟩
        rw [hfb] at c0
        go_upto_region 17 with fail
        clear c0 c1 bx0 bx1 bx2 hfr0 hidx hi hwz0 hwj hj hfb
        obtain ⟨hdd, hbb⟩ := HO.out.fin hiD H64.out (!fb)
        obtain ⟨w6, hw6⟩ : ∃ w6, wr.setCell ⟨g, i * 2, none⟩ (.bool !fb) = w6 := ⟨_, rfl⟩
        obtain ⟨D6, hD6⟩ : ∃ D6, D.set i ⟨!fb, D[i].arcs⟩ = D6 := ⟨_, rfl⟩
        have hl6 : n3 = D6.length := by rw [← hD6]; first | (rw [List.length_set]; exact HLN.out) | exact HLN.out
        have hc6 : CsOk D6 := by rw [← hD6]; exact csOk_set HCS.out hiD HAI.out
        have ha6 : ∀ z ∈ D6, z.arcs.length ≤ 95 := by rw [← hD6]; exact set_arcs H95.out (by show D[i].arcs.length ≤ 95; omega)
        have hd6 := hdd
        have hb6 := hbb
        rw [hw6] at hd6 hb6
        rw [hD6] at hd6
        rw [hw6]
        have HD6 := Lib.hid hd6; have HL6 := Lib.hid hl6; have HC6 := Lib.hid hc6; have HA6 := Lib.hid ha6; have HB6 := Lib.hid hb6
        clear hw6 hD6 hl6 hc6 ha6 hd6 hb6 HO HNV HROW HC1 HC0 HBXr HBYr HCS H94 H64 H95 HAI HLN
        clear hdd hbb
        have HS6 := Lib.hid (HS.out.go HB6.out); have HT6 := Lib.hid (HT.out.go HB6.out)
        have hsz6 : sizeN D6 ≤ 20000 := by
          have h1 := size_bound D6 HA6.out
          have h2 : D6.length * (1 + 2 * 95) ≤ 70 * (1 + 2 * 95) := Nat.mul_le_mul_right _ (by have := HL6.out; omega)
          omega
        have HZ6 := Lib.hid hsz6
        clear hsz6 HB6 HA6 HS HT
        go_wp2_with fail
        refine (rmade_any (fun _ => 0) none 0 0 L.length w6 (fun k hk => absurd hk (Nat.not_lt_zero k)) (by omega) (by omega)).mono ?_
        rintro e w7 ⟨a7, c7, rfl, hC, hb⟩
        replace HS6 := Lib.hid (HS6.out.go hb); replace HT6 := Lib.hid (HT6.out.go hb); replace HD6 := Lib.hid (HD6.out.go hb)
        obtain ⟨cn, hcn⟩ : ∃ cn, mkC (fun _ => 0) 0 L.length = cn := ⟨_, rfl⟩
        rw [hcn] at hC
        have HC := Lib.hid hC
        clear hcn hC hb
        go_wp2_with fail
        refine (pack_any D6 n3 cO _ cn L.length c7 a7 w7 HD6.out HL6.out HZ6.out HC6.out HC.out.ints HC.out.len (by omega) HT6.out).mono ?_
        rintro e w8 ⟨hr, hb⟩
        obtain ⟨a8, n8, k8, rfl, hB⟩ := pkRes_form hr
        replace HS6 := Lib.hid (HS6.out.go hb); replace HC := Lib.hid (HC.out.go hb); replace HD6 := Lib.hid (HD6.out.go hb)
        have HB := Lib.hid hB
        clear hb hr hB HT6
        go_wp2_with fail
        refine (rpack_any D6 n3 cO _ cn L.length c7 a7 w8 HD6.out HL6.out HZ6.out HC6.out HC.out.ints HC.out.len (by omega)).mono ?_
        rintro e w9 ⟨hr, hb⟩
        obtain ⟨a9, n9, k9, rfl, hB9⟩ := pkRes_form hr
        replace HS6 := Lib.hid (HS6.out.go hb); replace HB := Lib.hid (HB.out.go hb)
        clear hb hr HD6 HC HL6 HZ6 HC6
        obtain ⟨p, hp⟩ : ∃ p, pkF D6 cn = p := ⟨_, rfl⟩
        rw [hp] at HB hB9 ⊢
        obtain ⟨l, er⟩ := p
        simp only at HB hB9 ⊢
        have hv1 := conv_byts w9 a8 n8 k8 l HB.out.byts HB.out.len
        have hv2 := conv_byts w9 a9 n9 k9 l hB9.byts hB9.len
        have hee : (er == er) = true := by simp
        clear hp HB hB9
        go_wp2
        go_ret
        exact ⟨rfl, HS6.out.out⟩
      · obtain ⟨X, hXe⟩ : ∃ X, D[i].arcs = X := ⟨_, rfl⟩
        rw [hXe] at c1 HROW HNV hXl HAI HC1
        have HOB : Hid ((nvB N[i]) = (Value.slice aa X.length cc).ownBlock) := by show _ = _; unfold nvB; rw [HNV.out]
        clear hXe
        go_upto_region 16 with fail
        clear c0 c1 bx0 bx1 bx2 hfr0 hi hwz0 hwj hj
        refine wp_region_st (by kernel_rfl) (Vs [fun v _ => v = .slice (some ⟨g, 0, none⟩) n3 cO, fun v _ => v = .int .i64 (i : Int), fun v _ => v = .slice (some ⟨g, 0, none⟩) n3 cO, fun v _ => v = .int .i64 (i : Int), fun v _ => v = .pointer (some ⟨g, i * 2, none⟩), fun v _ => v = .pointer (some ⟨g, i * 2 + 1, none⟩), fun v _ => v = .slice aa X.length cc, fun v _ => v = .agg #[.int .u8 xc, .int .i64 xt], RowArc1 (.slice aa X.length cc) ⟨xc, xt⟩, ArcsN w4.heap.size (X ++ [⟨xc, xt⟩]), fun v _ => v = .pointer (some ⟨g, i * 2, none⟩), fun v _ => v = .pointer (some ⟨g, i * 2 + 1, none⟩)]) (Xs [Ext, Ext, Ext, Ext, Ext, Ext, Ext, Ext, Ext, (fun w w' => w.grownBy w' (Value.slice aa X.length cc).ownBlock), Ext, Ext]) (fun fL => (fun b1 W => MT wr (Value.slice aa X.length cc).ownBlock b1 W) (fL 9)) [0, 0, 0, 0, 12, 28, 60, 0, 128, 508, 3, 1027] 137 12 (by kernel_rfl) rfl ?hV ?hS ?hop ?hfin ?hlast
        case hV =>
          refine xs_stays (vs_stays (by simp only [List.mem_cons, List.not_mem_nil, or_false, forall_eq_or_imp, forall_eq]; exact ⟨stays_const _, stays_const _, stays_const _, stays_const _, stays_const _, stays_const _, stays_const _, stays_const _, rowArc1_stays _ _, arcsN_stays _ _, stays_const _, stays_const _⟩)) ?_
          exact ⟨.inl rfl, .inl rfl, .inl rfl, .inl rfl, .inl rfl, .inl rfl, .inl rfl, .inl rfl, .inl rfl, .inr (staysM_all ⟨fun _ _ => fun _ _ _ h _ => h, fun _ _ => fun _ _ _ h _ => h, fun _ _ => fun _ _ _ h _ => h, fun _ _ => fun _ _ _ h _ => h, fun _ _ => fun _ _ _ h _ => h, fun _ _ => fun _ _ _ h _ => h, fun _ _ => fun _ _ _ h _ => h, fun _ _ => fun _ _ _ h _ => h, fun _ _ => rowArc1_grown _ _, fun h => absurd rfl h, fun _ _ => fun _ _ _ h _ => h, fun _ _ => fun _ _ _ h _ => h, trivial⟩), .inl rfl, .inl rfl, trivial⟩
        case hS =>
          intro fL hf
          show (fun b1 W => MT wr (Value.slice aa X.length cc).ownBlock b1 W) (fL 9) _
          rw [hf 9 (by decide)]
          exact MT.ext false _ _ (show MT wr (Value.slice aa X.length cc).ownBlock false wr from Ext.refl _) ⟨rfl, rfl, rfl, Nat.le_refl _, fun _ _ => rfl⟩
        case hop =>
          refine ⟨?_, ?_, ?_, ?_, ?_, ?_, ?c6, ?c7, ?c8, ?c9, ?_, ?_, ?_, trivial⟩
          all_goals first | rw [if_neg (by decide)] | rw [if_pos (by decide)]
          all_goals try exact True.intro
          all_goals try intro ac W fL hsz hfi hms hdn hS0 hdep hbase hund
          all_goals try have hS : (fun b1 W => MT wr (Value.slice aa X.length cc).ownBlock b1 W) (fL 9) W := hS0
          all_goals try (have hfl9 : fL 9 = true := hms 9 (by decide); rw [hfl9] at hS)
          all_goals try (have hfl9 : fL 9 = false := (by first | exact hfi | exact hdn 9 (by decide) (by decide)); rw [hfl9] at hS)
          all_goals try (have h10 : ac.tmps.getD 10 undef = .slice (some ⟨g, 0, none⟩) n3 cO := hbase 10 (by kernel_rfl); have hh10 := h10; rw [Array.getD_eq_getD_getElem?] at hh10)
          all_goals try (have h12 : ac.tmps.getD 12 undef = .int .i64 (i : Int) := hbase 12 (by kernel_rfl); have hh12 := h12; rw [Array.getD_eq_getD_getElem?] at hh12)
          all_goals try (have h5 : ac.tmps.getD 5 undef = .pointer (some ⟨g0 + 1, 0, none⟩) := hbase 5 (by kernel_rfl); have hh5 := h5; rw [Array.getD_eq_getD_getElem?] at hh5)
          all_goals try (have d97 : ac.tmps.getD 97 undef = .slice (some ⟨g, 0, none⟩) n3 cO := hdep 0 (by decide); have dd97 := d97; rw [Array.getD_eq_getD_getElem?] at dd97)
          all_goals try (have d98 : ac.tmps.getD 98 undef = .int .i64 (i : Int) := hdep 1 (by decide); have dd98 := d98; rw [Array.getD_eq_getD_getElem?] at dd98)
          all_goals try (have d99 : ac.tmps.getD 99 undef = .slice (some ⟨g, 0, none⟩) n3 cO := hdep 2 (by decide); have dd99 := d99; rw [Array.getD_eq_getD_getElem?] at dd99)
          all_goals try (have d100 : ac.tmps.getD 100 undef = .int .i64 (i : Int) := hdep 3 (by decide); have dd100 := d100; rw [Array.getD_eq_getD_getElem?] at dd100)
          all_goals try (have d101 : ac.tmps.getD 101 undef = .pointer (some ⟨g, i * 2, none⟩) := hdep 4 (by decide); have dd101 := d101; rw [Array.getD_eq_getD_getElem?] at dd101)
          all_goals try (have d102 : ac.tmps.getD 102 undef = .pointer (some ⟨g, i * 2 + 1, none⟩) := hdep 5 (by decide); have dd102 := d102; rw [Array.getD_eq_getD_getElem?] at dd102)
          all_goals try (have d103 : ac.tmps.getD 103 undef = .slice aa X.length cc := hdep 6 (by decide); have dd103 := d103; rw [Array.getD_eq_getD_getElem?] at dd103)
          all_goals try (have d104 : ac.tmps.getD 104 undef = .agg #[.int .u8 xc, .int .i64 xt] := hdep 7 (by decide); have dd104 := d104; rw [Array.getD_eq_getD_getElem?] at dd104)
          all_goals try have d105 : (RowArc1 (.slice aa X.length cc) ⟨xc, xt⟩) (ac.tmps.getD 105 undef) W := hdep 8 (by decide)
          all_goals try (have d107 : ac.tmps.getD 107 undef = .pointer (some ⟨g, i * 2, none⟩) := hdep 10 (by decide); have dd107 := d107; rw [Array.getD_eq_getD_getElem?] at dd107)
          all_goals try clear hbase hdep hms hdn hund
          case c6 =>
            have hS1 : (fun b1 W => MT wr (Value.slice aa X.length cc).ownBlock b1 W) ((upd fL 6) 9) W := hS0
            have hx : Ext wr W := hS
            have q1' := (Below.cell (p := ⟨g, i * 2 + 1, none⟩) hx hgl).trans HC1.out
            refine opOk_run rfl (.inl ⟨_, W, ?_, rfl, Ext.refl _, hS1⟩)
            clear hsz hS hS0 hS1 hfi hx; simp [go_sem, Act.eval, *]
          case c7 =>
            have hS1 : (fun b1 W => MT wr (Value.slice aa X.length cc).ownBlock b1 W) ((upd fL 7) 9) W := hS0
            have hx : Ext wr W := hS
            obtain ⟨by0, by1⟩ := cells2 (HBYr.out.go hx).at'
            refine opOk_run rfl (.inl ⟨_, W, ?_, rfl, Ext.refl _, hS1⟩)
            clear hsz hS hS0 hS1 hfi hx; simp [go_sem, Act.eval, *]
          case c8 =>
            have hS1 : (fun b1 W => MT wr (Value.slice aa X.length cc).ownBlock b1 W) ((upd fL 8) 9) W := hS0
            have hx : Ext wr W := hS
            have hlt105 : (Value.slice aa X.length cc).ownBlock ≠ some W.heap.size := fun e => by
              have h1 := HROW.out.lt _ e
              have h2 := hx.size
              omega
            have hx5 : Ext W (W.alloc (.cells #[.int .u8 xc, .int .i64 xt] 56)) := (Below.refl _ _).alloc (Nat.le_refl _) _
            refine opOk_run rfl (.inl ⟨.slice (some ⟨W.heap.size, 0, none⟩) 1 1, W.alloc (.cells #[.int .u8 xc, .int .i64 xt] 56), ?_, ⟨_, rfl, heap_alloc_new _ _, hlt105⟩, hx5, (show (fun b1 W => MT wr (Value.slice aa X.length cc).ownBlock b1 W) ((upd fL 8) 9) _ by
              rw [show upd fL 8 9 = fL 9 from if_neg (by decide)]
              exact MT.ext _ _ _ hS0 hx5)⟩)
            clear hsz hS hS0 hS1 hfi hx hx5 hlt105; simp [go_sem, Act.eval, *]
          case c9 =>
            have hx : Ext wr W := hS
            obtain ⟨g105, e105, hg105, hn105⟩ := d105
            refine opOk_run rfl ((opres_append_g rowArc_ok (.tmp 103) (.tmp 105) rfl (eval_tmp d103) (HROW.out.later hx (Nat.le_refl _)) ⟨g105, 0, none⟩ 1 [⟨xc, xt⟩] (eval_tmp e105) (cells_built hg105) (by simp only [List.length_singleton]; omega) (Nat.le_trans HO.out.bl.size hx.size)).mono ?_)
            rintro va w' ⟨ho, hgr, hat⟩
            refine ⟨ho, hgr, ?_⟩
            show MT wr (Value.slice aa X.length cc).ownBlock (upd fL 9 9) w'
            rw [show upd fL 9 9 = true from if_pos rfl]
            exact ⟨W, hx, hgr⟩
          all_goals (refine opOk_run rfl (.inl ⟨_, W, ?_, rfl, Ext.refl _, hS0⟩); clear hsz hS hS0 hfi; simp [go_sem, Act.eval, *]; done)
        case hfin =>
          intro h; exact absurd h (by decide)
        case hlast =>
          intro _ ac W hsz hdf fL hf hS0 hv hbase
          have hS : (fun b1 W => MT wr (Value.slice aa X.length cc).ownBlock b1 W) (fL 9) W := hS0
          clear hS0
          rw [hf 9 (by decide)] at hS
          have hst : ac.tmps.getD 108 undef = .pointer (some ⟨g, i * 2 + 1, none⟩) := hv 11 (by decide)
          have hnv : ArcsN w4.heap.size (X ++ [⟨xc, xt⟩]) (ac.tmps.getD 106 undef) W := hv 9 (by decide)
          obtain ⟨wb, hxb, hgb⟩ := (show ∃ wb, Ext wr wb ∧ wb.grownBy W (Value.slice aa X.length cc).ownBlock from hS)
          obtain ⟨xq, xk, hxq, -, -⟩ := OwnG.form hnv
          have hnv2 : OwnG rowArc W w4.heap.size (.slice xq (X ++ [(⟨xc, xt⟩ : Ar)]).length xk) (X ++ [⟨xc, xt⟩]) := by rw [← hxq]; exact hnv
          have hgb2 : wb.grownBy W (nvB N[i]) := by rw [HOB.out]; exact hgb
          obtain ⟨⟨y, hy⟩, hfz⟩ := (HO.out.go hxb).after hiD hgb2
          refine wpOp_store rfl rfl rfl rfl (eval_tmp hst) (eval_tmp hxq) hfz hy (by kernel_rfl) ?_
          obtain ⟨hdd, hbb⟩ := (HO.out.go hxb).more hiD H64.out hnv2 hgb2 (by simp only [List.length_append, List.length_singleton]; omega)
          have hxn : (X ++ [(⟨xc, xt⟩ : Ar)]).length ≤ 95 := by simp only [List.length_append, List.length_singleton]; omega
          have hok : ∀ x ∈ X ++ [(⟨xc, xt⟩ : Ar)], 0 ≤ x.c ∧ x.c ≤ 255 ∧ -9223372036854775808 ≤ x.t ∧ x.t ≤ 9223372036854775807 := fun x hx => by
            rcases List.mem_append.1 hx with h | h
            · exact HAI.out x h
            · obtain rfl := List.mem_singleton.1 h
              exact ⟨hxa.c0, hxa.c1, hxa.t0, hxa.t1⟩
          clear hS
          obtain ⟨w6, hw6⟩ : ∃ w6, W.setCell ⟨g, i * 2 + 1, none⟩ (.slice xq (X ++ [(⟨xc, xt⟩ : Ar)]).length xk) = w6 := ⟨_, rfl⟩
          obtain ⟨D6, hD6⟩ : ∃ D6, D.set i ⟨D[i].fin, X ++ [⟨xc, xt⟩]⟩ = D6 := ⟨_, rfl⟩
          have hl6 : n3 = D6.length := by rw [← hD6]; first | (rw [List.length_set]; exact HLN.out) | exact HLN.out
          have hc6 : CsOk D6 := by rw [← hD6]; exact csOk_set HCS.out hiD hok
          have ha6 : ∀ z ∈ D6, z.arcs.length ≤ 95 := by rw [← hD6]; exact set_arcs H95.out hxn
          have hd6 := hdd
          have hb6 := hbb
          rw [hw6] at hd6 hb6
          rw [hD6] at hd6
          rw [hw6]
          have HD6 := Lib.hid hd6; have HL6 := Lib.hid hl6; have HC6 := Lib.hid hc6; have HA6 := Lib.hid ha6; have HB6 := Lib.hid hb6
          clear hw6 hD6 hl6 hc6 ha6 hd6 hb6 HNV HROW HC1 HC0 HBXr HBYr HCS H94 H64 H95 HAI HLN
          clear hdd hbb hst hnv hnv2 hgb hgb2 hy hfz hxq hxb hok hxn HO HOB
          obtain ⟨sx, hsx, hsA⟩ := act_puts [97, 98, 99, 100, 101, 102, 103, 104, 105, 106, 107, 108] (by kernel_rfl) hsz hdf hbase
          rw [hsA]
          simp only [List.foldl]
          simp only [Act.put, List.setIfInBounds_toArray, List.set_cons_succ, List.set_cons_zero]
          clear hsA hsx hv hbase hsz hdf hf
          go_upto_region 17 with fail
          have HS6 := Lib.hid (HS.out.go HB6.out); have HT6 := Lib.hid (HT.out.go HB6.out)
          have hsz6 : sizeN D6 ≤ 20000 := by
            have h1 := size_bound D6 HA6.out
            have h2 : D6.length * (1 + 2 * 95) ≤ 70 * (1 + 2 * 95) := Nat.mul_le_mul_right _ (by have := HL6.out; omega)
            omega
          have HZ6 := Lib.hid hsz6
          clear hsz6 HB6 HA6 HS HT
          go_wp2_with fail
          refine (rmade_any (fun _ => 0) none 0 0 L.length w6 (fun k hk => absurd hk (Nat.not_lt_zero k)) (by omega) (by omega)).mono ?_
          rintro e w7 ⟨a7, c7, rfl, hC, hb⟩
          replace HS6 := Lib.hid (HS6.out.go hb); replace HT6 := Lib.hid (HT6.out.go hb); replace HD6 := Lib.hid (HD6.out.go hb)
          obtain ⟨cn, hcn⟩ : ∃ cn, mkC (fun _ => 0) 0 L.length = cn := ⟨_, rfl⟩
          rw [hcn] at hC
          have HC := Lib.hid hC
          clear hcn hC hb
          go_wp2_with fail
          refine (pack_any D6 n3 cO _ cn L.length c7 a7 w7 HD6.out HL6.out HZ6.out HC6.out HC.out.ints HC.out.len (by omega) HT6.out).mono ?_
          rintro e w8 ⟨hr, hb⟩
          obtain ⟨a8, n8, k8, rfl, hB⟩ := pkRes_form hr
          replace HS6 := Lib.hid (HS6.out.go hb); replace HC := Lib.hid (HC.out.go hb); replace HD6 := Lib.hid (HD6.out.go hb)
          have HB := Lib.hid hB
          clear hb hr hB HT6
          go_wp2_with fail
          refine (rpack_any D6 n3 cO _ cn L.length c7 a7 w8 HD6.out HL6.out HZ6.out HC6.out HC.out.ints HC.out.len (by omega)).mono ?_
          rintro e w9 ⟨hr, hb⟩
          obtain ⟨a9, n9, k9, rfl, hB9⟩ := pkRes_form hr
          replace HS6 := Lib.hid (HS6.out.go hb); replace HB := Lib.hid (HB.out.go hb)
          clear hb hr HD6 HC HL6 HZ6 HC6
          obtain ⟨p, hp⟩ : ∃ p, pkF D6 cn = p := ⟨_, rfl⟩
          rw [hp] at HB hB9 ⊢
          obtain ⟨l, er⟩ := p
          simp only at HB hB9 ⊢
          have hv1 := conv_byts w9 a8 n8 k8 l HB.out.byts HB.out.len
          have hv2 := conv_byts w9 a9 n9 k9 l hB9.byts hB9.len
          have hee : (er == er) = true := by simp
          clear hp HB hB9
          go_wp2
          go_ret
          exact ⟨rfl, HS6.out.out⟩
      · obtain ⟨X, hXe⟩ : ∃ X, D[i].arcs = X := ⟨_, rfl⟩
        rw [hXe] at c1 HROW HNV hXl HAI HC1
        have HXE := Lib.hid hXe
        clear hXe
        by_cases hx0 : 0 < X.length
        · obtain ⟨ga, ca, hv5, hgaB, hga, hca⟩ : ∃ ga ca, Value.slice aa X.length cc = .slice (some ⟨ga, 0, none⟩) X.length ca ∧ w4.heap.size ≤ ga ∧ ga < wr.heap.size ∧ X.length ≤ ca := by
            rcases HROW.out.blk with ⟨_, h⟩ | h
            · rw [h] at hx0; simp at hx0
            · exact h
          injection hv5 with hv5a _ hv5c
          subst hv5a hv5c
          obtain ⟨kk, hkk⟩ : ∃ kk : Nat, z2.tmod (X.length : Int) = (kk : Int) := ⟨(z2.tmod (X.length : Int)).toNat, by have := Int.tmod_nonneg (X.length : Int) h20; omega⟩
          have hkl : kk < X.length := by have := Int.tmod_lt_of_pos z2 (show (0 : Int) < (X.length : Int) by omega); omega
          have hwz2 : IntKind.i64.wrap z2 = z2 := IntWalk.i64_in _ (by omega)
          have hneX : ¬ (X.length : Int) = 0 := by omega
          have hneX2 : ¬ X = [] := fun h => by rw [h] at hx0; simp at hx0
          have q0 : wr.cell? ⟨ga, kk * 2, none⟩ = some (.int .u8 X[kk].c) := HROW.out.cell rowArc_ok (i := kk) (j := 0) hkl (by decide)
          obtain ⟨xb, hxb⟩ : ∃ xb, X[kk].c = xb := ⟨_, rfl⟩
          rw [hxb] at q0
          have hidxa := idx_arcs (some ⟨ga, 0, none⟩) ga 0 X.length cc kk rfl hkl
          rw [Nat.zero_add] at hidxa
          obtain ⟨b3, hb3⟩ : ∃ b3, IntKind.u8.wrap (xb + 1) = b3 := ⟨_, rfl⟩
          have hbb3 := bounds_u8 (Go.wf_wrap .u8 (xb + 1))
          rw [hb3] at hbb3
          obtain ⟨csa, hcsa⟩ := HROW.out.obj (g := ga) rfl
          have HCSA := Lib.hid hcsa; have HQ0 := Lib.hid q0
          clear q0 hcsa hxb
          go_upto_region 12 with fail
          clear c0 c1 bx0 bx1 bx2 hfr0 hi hwz0 hwj hj
          refine wp_region_st (by kernel_rfl) (Vs [fun v _ => v = .slice (some ⟨g, 0, none⟩) n3 cO, fun v _ => v = .int .i64 (i : Int), fun v _ => v = .pointer (some ⟨g, i * 2, none⟩), fun v _ => v = .pointer (some ⟨g, i * 2 + 1, none⟩), fun v _ => v = .slice (some ⟨ga, 0, none⟩) X.length cc, fun v _ => v = .pointer (some ⟨g0, 2, none⟩), fun v _ => v = .int .u8 z2, fun v _ => v = .int .i64 z2, fun v _ => v = .slice (some ⟨g, 0, none⟩) n3 cO, fun v _ => v = .int .i64 (i : Int), fun v _ => v = .pointer (some ⟨g, i * 2, none⟩), fun v _ => v = .pointer (some ⟨g, i * 2 + 1, none⟩), fun v _ => v = .slice (some ⟨ga, 0, none⟩) X.length cc, fun v _ => v = .int .i64 (X.length : Int), fun v _ => v = .int .i64 (kk : Int), fun v _ => v = .pointer (some ⟨ga, kk * 2, none⟩), fun v _ => v = .pointer (some ⟨ga, kk * 2, none⟩), fun v _ => v = .int .u8 xb, fun v _ => v = .int .u8 b3, fun v _ => v = .pointer (some ⟨ga, kk * 2, none⟩), fun v _ => v = .pointer (some ⟨ga, kk * 2, none⟩)]) (Xs [Ext, Ext, Ext, Ext, Ext, Ext, Ext, Ext, Ext, Ext, Ext, Ext, Ext, Ext, Ext, Ext, Ext, Ext, Ext, Ext, Ext]) (fun fL => (fun W => Below wr.heap.size wr W) ) [0, 0, 3, 7, 15, 0, 32, 96, 0, 0, 768, 1792, 3840, 7936, 16352, 32767, 65535, 131071, 262143, 32767, 557055] 137 21 (by kernel_rfl) rfl ?hV ?hS ?hop ?hfin ?hlast
          case hV =>
            refine xs_stays (vs_stays (by simp only [List.mem_cons, List.not_mem_nil, or_false, forall_eq_or_imp, forall_eq]; exact ⟨stays_const _, stays_const _, stays_const _, stays_const _, stays_const _, stays_const _, stays_const _, stays_const _, stays_const _, stays_const _, stays_const _, stays_const _, stays_const _, stays_const _, stays_const _, stays_const _, stays_const _, stays_const _, stays_const _, stays_const _, stays_const _⟩)) ?_
            exact ⟨.inl rfl, .inl rfl, .inl rfl, .inl rfl, .inl rfl, .inl rfl, .inl rfl, .inl rfl, .inl rfl, .inl rfl, .inl rfl, .inl rfl, .inl rfl, .inl rfl, .inl rfl, .inl rfl, .inl rfl, .inl rfl, .inl rfl, .inl rfl, .inl rfl, trivial⟩
          case hS =>
            intro fL hf
            show (fun W => Below wr.heap.size wr W)  _
            exact (Below.refl _ wr).drew
          case hop =>
            refine ⟨?_, ?_, ?_, ?_, ?_, ?_, ?_, ?_, ?_, ?_, ?_, ?_, ?_, ?_, ?_, ?_, ?_, ?_, ?_, ?_, ?_, ?_, trivial⟩
            all_goals first | rw [if_neg (by decide)] | rw [if_pos (by decide)]
            all_goals try exact True.intro
            all_goals try intro ac W fL hsz hfi hms hdn hS0 hdep hbase hund
            all_goals try have hS : (fun W => Below wr.heap.size wr W)  W := hS0
            all_goals try (
              obtain ⟨b0, b1, b2⟩ := cells3' (HBXr.out.go hS).at'
              have q0 := (hS.cell (p := ⟨ga, kk * 2, none⟩) hga).trans HQ0.out
              have q1 := (hS.cell (p := ⟨g, i * 2 + 1, none⟩) hgl).trans HC1.out)
            all_goals try (have h10 : ac.tmps.getD 10 undef = .slice (some ⟨g, 0, none⟩) n3 cO := hbase 10 (by kernel_rfl); have hh10 := h10; rw [Array.getD_eq_getD_getElem?] at hh10)
            all_goals try (have h12 : ac.tmps.getD 12 undef = .int .i64 (i : Int) := hbase 12 (by kernel_rfl); have hh12 := h12; rw [Array.getD_eq_getD_getElem?] at hh12)
            all_goals try (have h4 : ac.tmps.getD 4 undef = .pointer (some ⟨g0, 0, none⟩) := hbase 4 (by kernel_rfl); have hh4 := h4; rw [Array.getD_eq_getD_getElem?] at hh4)
            all_goals try (have d62 : ac.tmps.getD 62 undef = .slice (some ⟨g, 0, none⟩) n3 cO := hdep 0 (by decide); have dd62 := d62; rw [Array.getD_eq_getD_getElem?] at dd62)
            all_goals try (have d63 : ac.tmps.getD 63 undef = .int .i64 (i : Int) := hdep 1 (by decide); have dd63 := d63; rw [Array.getD_eq_getD_getElem?] at dd63)
            all_goals try (have d64 : ac.tmps.getD 64 undef = .pointer (some ⟨g, i * 2, none⟩) := hdep 2 (by decide); have dd64 := d64; rw [Array.getD_eq_getD_getElem?] at dd64)
            all_goals try (have d65 : ac.tmps.getD 65 undef = .pointer (some ⟨g, i * 2 + 1, none⟩) := hdep 3 (by decide); have dd65 := d65; rw [Array.getD_eq_getD_getElem?] at dd65)
            all_goals try (have d66 : ac.tmps.getD 66 undef = .slice (some ⟨ga, 0, none⟩) X.length cc := hdep 4 (by decide); have dd66 := d66; rw [Array.getD_eq_getD_getElem?] at dd66)
            all_goals try (have d67 : ac.tmps.getD 67 undef = .pointer (some ⟨g0, 2, none⟩) := hdep 5 (by decide); have dd67 := d67; rw [Array.getD_eq_getD_getElem?] at dd67)
            all_goals try (have d68 : ac.tmps.getD 68 undef = .int .u8 z2 := hdep 6 (by decide); have dd68 := d68; rw [Array.getD_eq_getD_getElem?] at dd68)
            all_goals try (have d69 : ac.tmps.getD 69 undef = .int .i64 z2 := hdep 7 (by decide); have dd69 := d69; rw [Array.getD_eq_getD_getElem?] at dd69)
            all_goals try (have d70 : ac.tmps.getD 70 undef = .slice (some ⟨g, 0, none⟩) n3 cO := hdep 8 (by decide); have dd70 := d70; rw [Array.getD_eq_getD_getElem?] at dd70)
            all_goals try (have d71 : ac.tmps.getD 71 undef = .int .i64 (i : Int) := hdep 9 (by decide); have dd71 := d71; rw [Array.getD_eq_getD_getElem?] at dd71)
            all_goals try (have d72 : ac.tmps.getD 72 undef = .pointer (some ⟨g, i * 2, none⟩) := hdep 10 (by decide); have dd72 := d72; rw [Array.getD_eq_getD_getElem?] at dd72)
            all_goals try (have d73 : ac.tmps.getD 73 undef = .pointer (some ⟨g, i * 2 + 1, none⟩) := hdep 11 (by decide); have dd73 := d73; rw [Array.getD_eq_getD_getElem?] at dd73)
            all_goals try (have d74 : ac.tmps.getD 74 undef = .slice (some ⟨ga, 0, none⟩) X.length cc := hdep 12 (by decide); have dd74 := d74; rw [Array.getD_eq_getD_getElem?] at dd74)
            all_goals try (have d75 : ac.tmps.getD 75 undef = .int .i64 (X.length : Int) := hdep 13 (by decide); have dd75 := d75; rw [Array.getD_eq_getD_getElem?] at dd75)
            all_goals try (have d76 : ac.tmps.getD 76 undef = .int .i64 (kk : Int) := hdep 14 (by decide); have dd76 := d76; rw [Array.getD_eq_getD_getElem?] at dd76)
            all_goals try (have d77 : ac.tmps.getD 77 undef = .pointer (some ⟨ga, kk * 2, none⟩) := hdep 15 (by decide); have dd77 := d77; rw [Array.getD_eq_getD_getElem?] at dd77)
            all_goals try (have d78 : ac.tmps.getD 78 undef = .pointer (some ⟨ga, kk * 2, none⟩) := hdep 16 (by decide); have dd78 := d78; rw [Array.getD_eq_getD_getElem?] at dd78)
            all_goals try (have d79 : ac.tmps.getD 79 undef = .int .u8 xb := hdep 17 (by decide); have dd79 := d79; rw [Array.getD_eq_getD_getElem?] at dd79)
            all_goals try (have d81 : ac.tmps.getD 81 undef = .pointer (some ⟨ga, kk * 2, none⟩) := hdep 19 (by decide); have dd81 := d81; rw [Array.getD_eq_getD_getElem?] at dd81)
            all_goals try clear hbase hdep hms hdn hund
            all_goals (refine opOk_run rfl (.inl ⟨_, W, ?_, rfl, Ext.refl _, hS0⟩); clear hsz hS hS0 hfi; simp [go_sem, Act.eval, *]; done)
          case hfin =>
            intro h; exact absurd h (by decide)
          case hlast =>
            intro _ ac W hsz hdf fL hf hS0 hv hbase
            have hS : (fun W => Below wr.heap.size wr W)  W := hS0
            clear hS0
            have hst : ac.tmps.getD 82 undef = .pointer (some ⟨ga, kk * 2, none⟩) := hv 20 (by decide)
            have hnv : ac.tmps.getD 80 undef = .int .u8 b3 := hv 18 (by decide)
            have q2 := (hS.cell (p := ⟨ga, kk * 2, none⟩) hga).trans HQ0.out
            have q4 := (hS.block ga hga).trans HCSA.out
            refine wpOp_store_cell rfl rfl rfl rfl (eval_tmp hst) (eval_tmp hnv) (by simp [World.frozen?, q4]) q2 (by kernel_rfl) ?_
            have hkl2 : kk < D[i].arcs.length := by rw [HXE.out]; exact hkl
            obtain ⟨hdd, hbb⟩ := (HO.out.go hS).byte hiD H64.out hkl2 HNV.out b3
            have hok : ∀ x ∈ D[i].arcs.set kk ⟨b3, D[i].arcs[kk].t⟩, 0 ≤ x.c ∧ x.c ≤ 255 ∧ -9223372036854775808 ≤ x.t ∧ x.t ≤ 9223372036854775807 := fun x hx => by
              rcases List.mem_or_eq_of_mem_set hx with h | h
              · exact HCS.out i hiD x h
              · have h0 := HCS.out i hiD _ (List.getElem_mem hkl2)
                rw [h]
                exact ⟨hbb3.1, hbb3.2, h0.2.2⟩
            have hxn : (D[i].arcs.set kk ⟨b3, D[i].arcs[kk].t⟩).length ≤ 95 := by rw [List.length_set, HXE.out]; omega
            clear hS q2 q4
            obtain ⟨w6, hw6⟩ : ∃ w6, W.setCell ⟨ga, kk * 2, none⟩ (.int .u8 b3) = w6 := ⟨_, rfl⟩
            obtain ⟨D6, hD6⟩ : ∃ D6, D.set i ⟨D[i].fin, D[i].arcs.set kk ⟨b3, D[i].arcs[kk].t⟩⟩ = D6 := ⟨_, rfl⟩
            have hl6 : n3 = D6.length := by rw [← hD6]; first | (rw [List.length_set]; exact HLN.out) | exact HLN.out
            have hc6 : CsOk D6 := by rw [← hD6]; exact csOk_set HCS.out hiD hok
            have ha6 : ∀ z ∈ D6, z.arcs.length ≤ 95 := by rw [← hD6]; exact set_arcs H95.out hxn
            have hd6 := hdd
            have hb6 := hbb
            rw [hw6] at hd6 hb6
            rw [hD6] at hd6
            rw [hw6]
            have HD6 := Lib.hid hd6; have HL6 := Lib.hid hl6; have HC6 := Lib.hid hc6; have HA6 := Lib.hid ha6; have HB6 := Lib.hid hb6
            clear hw6 hD6 hl6 hc6 ha6 hd6 hb6 HO HNV HROW HC1 HC0 HBXr HBYr HCS H94 H64 H95 HAI HLN
            clear hdd hbb hst hnv hok hxn hkl2 HXE HCSA HQ0 hidxa hkk hwz2 hb3 hbb3
            obtain ⟨sx, hsx, hsA⟩ := act_puts [62, 63, 64, 65, 66, 67, 68, 69, 70, 71, 72, 73, 74, 75, 76, 77, 78, 79, 80, 81, 82] (by kernel_rfl) hsz hdf hbase
            rw [hsA]
            simp only [List.foldl]
            simp only [Act.put, List.setIfInBounds_toArray, List.set_cons_succ, List.set_cons_zero]
            clear hsA hsx hv hbase hsz hdf hf
            go_upto_region 17 with fail
            have HS6 := Lib.hid (HS.out.go HB6.out); have HT6 := Lib.hid (HT.out.go HB6.out)
            have hsz6 : sizeN D6 ≤ 20000 := by
              have h1 := size_bound D6 HA6.out
              have h2 : D6.length * (1 + 2 * 95) ≤ 70 * (1 + 2 * 95) := Nat.mul_le_mul_right _ (by have := HL6.out; omega)
              omega
            have HZ6 := Lib.hid hsz6
            clear hsz6 HB6 HA6 HS HT
            go_wp2_with fail
            refine (rmade_any (fun _ => 0) none 0 0 L.length w6 (fun k hk => absurd hk (Nat.not_lt_zero k)) (by omega) (by omega)).mono ?_
            rintro e w7 ⟨a7, c7, rfl, hC, hb⟩
            replace HS6 := Lib.hid (HS6.out.go hb); replace HT6 := Lib.hid (HT6.out.go hb); replace HD6 := Lib.hid (HD6.out.go hb)
            obtain ⟨cn, hcn⟩ : ∃ cn, mkC (fun _ => 0) 0 L.length = cn := ⟨_, rfl⟩
            rw [hcn] at hC
            have HC := Lib.hid hC
            clear hcn hC hb
            go_wp2_with fail
            refine (pack_any D6 n3 cO _ cn L.length c7 a7 w7 HD6.out HL6.out HZ6.out HC6.out HC.out.ints HC.out.len (by omega) HT6.out).mono ?_
            rintro e w8 ⟨hr, hb⟩
            obtain ⟨a8, n8, k8, rfl, hB⟩ := pkRes_form hr
            replace HS6 := Lib.hid (HS6.out.go hb); replace HC := Lib.hid (HC.out.go hb); replace HD6 := Lib.hid (HD6.out.go hb)
            have HB := Lib.hid hB
            clear hb hr hB HT6
            go_wp2_with fail
            refine (rpack_any D6 n3 cO _ cn L.length c7 a7 w8 HD6.out HL6.out HZ6.out HC6.out HC.out.ints HC.out.len (by omega)).mono ?_
            rintro e w9 ⟨hr, hb⟩
            obtain ⟨a9, n9, k9, rfl, hB9⟩ := pkRes_form hr
            replace HS6 := Lib.hid (HS6.out.go hb); replace HB := Lib.hid (HB.out.go hb)
            clear hb hr HD6 HC HL6 HZ6 HC6
            obtain ⟨p, hp⟩ : ∃ p, pkF D6 cn = p := ⟨_, rfl⟩
            rw [hp] at HB hB9 ⊢
            obtain ⟨l, er⟩ := p
            simp only at HB hB9 ⊢
            have hv1 := conv_byts w9 a8 n8 k8 l HB.out.byts HB.out.len
            have hv2 := conv_byts w9 a9 n9 k9 l hB9.byts hB9.len
            have hee : (er == er) = true := by simp
            clear hp HB hB9
            go_wp2
            go_ret
            exact ⟨rfl, HS6.out.out⟩
        · have hx1 : X.length = 0 := by omega
          have hx2 : X = [] := List.eq_nil_of_length_eq_zero hx1
          go_upto_region 17 with fail
          clear c0 c1 bx0 bx1 bx2 hfr0 hi hwz0 hwj hj
          obtain ⟨w6, hw6⟩ : ∃ w6, wr = w6 := ⟨_, rfl⟩
          obtain ⟨D6, hD6⟩ : ∃ D6, D = D6 := ⟨_, rfl⟩
          have hl6 : n3 = D6.length := by rw [← hD6]; first | (rw [List.length_set]; exact HLN.out) | exact HLN.out
          have hc6 : CsOk D6 := by rw [← hD6]; exact HCS.out
          have ha6 : ∀ z ∈ D6, z.arcs.length ≤ 95 := by rw [← hD6]; exact H95.out
          have hd6 := HO.out.dawg hiD H64.out
          have hb6 := HO.out.bl
          rw [hw6] at hd6 hb6
          rw [hD6] at hd6
          rw [hw6]
          have HD6 := Lib.hid hd6; have HL6 := Lib.hid hl6; have HC6 := Lib.hid hc6; have HA6 := Lib.hid ha6; have HB6 := Lib.hid hb6
          clear hw6 hD6 hl6 hc6 ha6 hd6 hb6 HO HNV HROW HC1 HC0 HBXr HBYr HCS H94 H64 H95 HAI HLN
          have HS6 := Lib.hid (HS.out.go HB6.out); have HT6 := Lib.hid (HT.out.go HB6.out)
          have hsz6 : sizeN D6 ≤ 20000 := by
            have h1 := size_bound D6 HA6.out
            have h2 : D6.length * (1 + 2 * 95) ≤ 70 * (1 + 2 * 95) := Nat.mul_le_mul_right _ (by have := HL6.out; omega)
            omega
          have HZ6 := Lib.hid hsz6
          clear hsz6 HB6 HA6 HS HT
          go_wp2_with fail
          refine (rmade_any (fun _ => 0) none 0 0 L.length w6 (fun k hk => absurd hk (Nat.not_lt_zero k)) (by omega) (by omega)).mono ?_
          rintro e w7 ⟨a7, c7, rfl, hC, hb⟩
          replace HS6 := Lib.hid (HS6.out.go hb); replace HT6 := Lib.hid (HT6.out.go hb); replace HD6 := Lib.hid (HD6.out.go hb)
          obtain ⟨cn, hcn⟩ : ∃ cn, mkC (fun _ => 0) 0 L.length = cn := ⟨_, rfl⟩
          rw [hcn] at hC
          have HC := Lib.hid hC
          clear hcn hC hb
          go_wp2_with fail
          refine (pack_any D6 n3 cO _ cn L.length c7 a7 w7 HD6.out HL6.out HZ6.out HC6.out HC.out.ints HC.out.len (by omega) HT6.out).mono ?_
          rintro e w8 ⟨hr, hb⟩
          obtain ⟨a8, n8, k8, rfl, hB⟩ := pkRes_form hr
          replace HS6 := Lib.hid (HS6.out.go hb); replace HC := Lib.hid (HC.out.go hb); replace HD6 := Lib.hid (HD6.out.go hb)
          have HB := Lib.hid hB
          clear hb hr hB HT6
          go_wp2_with fail
          refine (rpack_any D6 n3 cO _ cn L.length c7 a7 w8 HD6.out HL6.out HZ6.out HC6.out HC.out.ints HC.out.len (by omega)).mono ?_
          rintro e w9 ⟨hr, hb⟩
          obtain ⟨a9, n9, k9, rfl, hB9⟩ := pkRes_form hr
          replace HS6 := Lib.hid (HS6.out.go hb); replace HB := Lib.hid (HB.out.go hb)
          clear hb hr HD6 HC HL6 HZ6 HC6
          obtain ⟨p, hp⟩ : ∃ p, pkF D6 cn = p := ⟨_, rfl⟩
          rw [hp] at HB hB9 ⊢
          obtain ⟨l, er⟩ := p
          simp only at HB hB9 ⊢
          have hv1 := conv_byts w9 a8 n8 k8 l HB.out.byts HB.out.len
          have hv2 := conv_byts w9 a9 n9 k9 l hB9.byts hB9.len
          have hee : (er == er) = true := by simp
          clear hp HB hB9
          go_wp2
          go_ret
          exact ⟨rfl, HS6.out.out⟩
end Go.Proofs.YtocdljmdmiphnaaDoor
