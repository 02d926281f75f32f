/- Copies of rows of nodes and of arcs; a node changed. -/
import Derived.Test.YtocdljmdmiphnaaDoorDLawK
import Derived.Deep.Slices
namespace Go.Proofs.YtocdljmdmiphnaaDoor
open Go.RowKit Go.WideShapes
set_option linter.unusedVariables false
set_option linter.unusedSimpArgs false

/-- the cells behind an address, two by two -/
theorem cells_two {α : Type} {T : RowT α} (hT : T.Ok) (hk : T.k = 2) {w : World} {b o : Nat} {L : List α} {x y : α → Value} (he : ∀ z, T.enc z = [x z, y z])
    (h : ∀ k (hk : k < L.length), w.cell? ⟨b, o + k * 2, none⟩ = some (x L[k]) ∧ w.cell? ⟨b, o + k * 2 + 1, none⟩ = some (y L[k])) :
    ∀ j u, (L.flatMap T.enc)[j]? = some u → w.cell? ((⟨b, o, none⟩ : Addr).add j) = some u := by
  intro j u hu
  have hl := flat_len hT L
  have hj := (List.getElem?_eq_some_iff.1 hu).1
  rw [hl, hk] at hj
  have hkl : j / 2 < L.length := by omega
  obtain ⟨c0, c1⟩ := h (j / 2) hkl
  rw [addr_add']
  rcases Nat.mod_two_eq_zero_or_one j with e | e
  · have h1 := flat_get hT (L := L) (i := j / 2) (j := 0) hkl (by omega)
    rw [hk, he, show j / 2 * 2 + 0 = j by omega, hu] at h1
    rw [show o + j = o + j / 2 * 2 by omega, c0]
    exact h1.symm
  · have h1 := flat_get hT (L := L) (i := j / 2) (j := 1) hkl (by omega)
    rw [hk, he, show j / 2 * 2 + 1 = j by omega, hu] at h1
    rw [show o + j = o + j / 2 * 2 + 1 by omega, c1]
    exact h1.symm
theorem cells_arcs {w : World} {b o : Nat} {X : List Ar} (h : ArcS w (some ⟨b, o, none⟩) X) : ∀ j u, (X.flatMap rowArc.enc)[j]? = some u → w.cell? ((⟨b, o, none⟩ : Addr).add j) = some u :=
  cells_two rowArc_ok rfl (x := fun z => .int .u8 z.c) (y := fun z => .int .i64 z.t) (fun _ => rfl) fun k hk => by
    obtain ⟨b1, o1, e, _, h1, h2⟩ := h k hk
    injection e with e
    injection e with e1 e2
    subst e1 e2
    exact ⟨h1, h2⟩
/-- the nodes' values agree with an automaton, their arcs as they lay in a world -/
def NodesAs (w : World) (N : List NV) (D : List Nd) : Prop := N.length = D.length ∧ ∀ k (h : k < N.length) (h2 : k < D.length), N[k].fin = D[k].fin ∧ N[k].n = D[k].arcs.length ∧ ArcS w N[k].a D[k].arcs
theorem NodesAs.later {w w1 : World} {N : List NV} {D : List Nd} {B : Nat} (h : NodesAs w N D) (hb : Below B w w1) (hB : w.heap.size ≤ B) : NodesAs w1 N D :=
  ⟨h.1, fun k h1 h2 => ⟨(h.2 k h1 h2).1, (h.2 k h1 h2).2.1, (h.2 k h1 h2).2.2.later hb hB⟩⟩
/-- the nodes that a slice holds -/
theorem nodes_of {w : World} {b o : Nat} {D : List Nd} (h : DawgS w (some ⟨b, o, none⟩) D) : ∃ N : List NV, NodesAs w N D ∧ ∀ j u, (N.flatMap rowNode.enc)[j]? = some u → w.cell? ((⟨b, o, none⟩ : Addr).add j) = some u := by
  have key : ∀ k, k < D.length → ∃ x : NV, w.cell? ⟨b, o + k * 2, none⟩ = some (.bool x.fin) ∧ w.cell? ⟨b, o + k * 2 + 1, none⟩ = some (.slice x.a x.n x.c) ∧ ∀ h2 : k < D.length, x.fin = D[k].fin ∧ x.n = D[k].arcs.length ∧ ArcS w x.a D[k].arcs := fun k hk => by
    obtain ⟨b1, o1, e, _, h1, aa, cc, h2, _, h3⟩ := h k hk
    injection e with e
    injection e with e1 e2
    subst e1 e2
    exact ⟨⟨D[k].fin, aa, D[k].arcs.length, cc⟩, h1, h2, fun _ => ⟨rfl, rfl, h3⟩⟩
  have hch : ∃ f : Nat → NV, ∀ k, k < D.length → w.cell? ⟨b, o + k * 2, none⟩ = some (.bool (f k).fin) ∧ w.cell? ⟨b, o + k * 2 + 1, none⟩ = some (.slice (f k).a (f k).n (f k).c) ∧ ∀ h2 : k < D.length, (f k).fin = D[k].fin ∧ (f k).n = D[k].arcs.length ∧ ArcS w (f k).a D[k].arcs :=
    haveI : Inhabited NV := ⟨⟨false, none, 0, 0⟩⟩
    Go.Deep.choose_lt key
  obtain ⟨f, hf⟩ := hch
  refine ⟨(List.range D.length).map f, ⟨by simp, fun k h1 h2 => ?_⟩, cells_two rowNode_ok rfl (x := fun z => .bool z.fin) (y := fun z => .slice z.a z.n z.c) (fun _ => rfl) fun k hk => ?_⟩
  · rw [List.getElem_map, List.getElem_range]
    exact (hf k h2).2.2 h2
  · have hk2 : k < D.length := by simpa using hk
    rw [List.getElem_map, List.getElem_range]
    exact ⟨(hf k hk2).1, (hf k hk2).2.1⟩
/-- append of nothing -/
theorem append_zero {α : Type} {T : RowT α} (hT : T.Ok) (g : Nat) (aa : Option Addr) (cc : Nat) (ty : TypeId) (w : World) :
    (Builtin.append_ #[T.sl, T.sl] ty #[.slice (some ⟨g, 0, none⟩) 0 0, .slice aa 0 cc]).run Tryd.prog w = .ok (.slice (some ⟨g, 0, none⟩) 0 0) w := by
  obtain ⟨i0, hi, hz0, hz1, hz2⟩ := info_parts hT.info
  cases aa <;> simp [Builtin.append_, run_underlying hT.und, sizeOf, typeInfo, hi, Builtin.lenOf, Builtin.firstCells, storeCells, loadCells, loadCellsFrom]
theorem OwnG.rebase {α : Type} {T : RowT α} {w : World} {B C : Nat} {v : Value} {L : List α} (h : OwnG T w B v L) (hC : ∀ q, v.ownBlock = some q → C ≤ q) : OwnG T w C v L := by
  rcases h.2 with ⟨rfl, h0⟩ | ⟨g', cap, cur, rfl, h1, h2⟩
  · exact ⟨h.1, .inl ⟨rfl, h0⟩⟩
  · exact ⟨h.1, .inr ⟨g', cap, cur, rfl, hC g' rfl, h2⟩⟩
/-- append([]T{}, xs...): a copy; every old block stays -/
theorem copy_g {α : Type} {T : RowT α} (hT : T.Ok) {w : World} {g : Nat} (hg : w.heap[g]? = some (.cells #[] T.e (0, 0))) (ty : TypeId) (aa : Option Addr) (n c : Nat) (news : List α) (hn : n = news.length)
    (hc : news ≠ [] → ∃ ad, aa = some ad ∧ ∀ j u, (news.flatMap T.enc)[j]? = some u → w.cell? (ad.add j) = some u) (hl : news.length ≤ 1000000) :
    ∃ v' w', (Builtin.append_ #[T.sl, T.sl] ty #[.slice (some ⟨g, 0, none⟩) 0 0, .slice aa n c]).run Tryd.prog w = .ok v' w' ∧ OwnG T w' g v' news ∧ (news ≠ [] → OwnG T w' w.heap.size v' news) ∧ Ext w w' := by
  subst hn
  by_cases h0 : news = []
  · subst h0
    exact ⟨_, w, append_zero hT g aa c ty w, OwnG.empty T hg (Nat.le_refl _), fun h => absurd rfl h, Ext.refl _⟩
  · obtain ⟨ad, rfl, hcell⟩ := hc h0
    have hpos : 0 < news.length := List.length_pos_iff.2 h0
    have hgl : g < w.heap.size := (Array.getElem?_eq_some_iff.1 hg).1
    obtain ⟨i0, hi, hz0, hz1, hz2⟩ := info_parts hT.info
    have hb : news.length * T.bytes ≤ 1000000 * 64 := Nat.mul_le_mul hl hT.b
    obtain ⟨v', w', hr, ho, -, -⟩ := (OwnG.empty T hg (Nat.le_refl g)).run_append hT ty ad c news hcell (by simpa using hl) (by omega)
    have hr2 := run_append_grow (P := Tryd.prog) (w := w) T.sl ty T.e i0 T.z hT.und hi hz0 ⟨g, 0, none⟩ 0 0 [] (by simp) (by simp) ad news.length c (news.flatMap T.enc) (by rw [hz1]; exact flat_len hT news) hcell (by omega) (by omega) (growslice_fits (by omega) (by rw [hz2, Nat.zero_add]; omega))
    rw [hr2] at hr
    injection hr with e1 e2
    rw [List.nil_append] at ho
    refine ⟨v', w', by rw [hr2]; simp [← e1, ← e2], ho, fun _ => ho.rebase fun q hq => ?_, ?_⟩
    · rw [← e1] at hq
      injection hq with hq
      rw [← hq]
      exact Nat.le_refl _
    · rw [← e2]
      exact ((Below.refl _ w).drew).alloc (by exact Nat.le_refl _) _
theorem wpList_copy_g {α : Type} {T : RowT α} (hT : T.Ok) {w : World} {g : Nat} (hg : w.heap[g]? = some (.cells #[] T.e (0, 0))) {ops : Array Oper} {rest : List Oper} {o : Oper} {a : Act} {Q : Exit → Act → World → Prop} (hgd : o.guard = none) (s x : Operand)
    (ho : o.op = .call { callee := .builtin .append, args := #[s, x], argTypes := #[T.sl, T.sl] }) (hs : a.eval s = .slice (some ⟨g, 0, none⟩) 0 0) (aa : Option Addr) (n c : Nat) (news : List α) (hn : n = news.length) (hx : a.eval x = .slice aa n c)
    (hc : news ≠ [] → ∃ ad, aa = some ad ∧ ∀ j u, (news.flatMap T.enc)[j]? = some u → w.cell? (ad.add j) = some u) (hl : news.length ≤ 1000000)
    (h : ∀ v' w', OwnG T w' g v' news → (news ≠ [] → OwnG T w' w.heap.size v' news) → Ext w w' → wpList Tryd.prog ops Q rest (a.put o.dst v') w') : wpList Tryd.prog ops Q (o :: rest) a w := by
  refine wpList_plain hgd fun K' hK' => ?_
  obtain ⟨v', w', hr, h1, h2, h3⟩ := copy_g hT hg o.type aa n c news hn hc hl
  unfold Oper.wp
  simp only [execOp, ho, resolve, invoke, builtin, Sem.run_bind, Sem.run_pure, Result.andThen_ok, List.map_toArray, List.map_cons, List.map_nil, hs, hx, hr]
  exact hK' _ _ (h v' w' h1 h2 h3)
end Go.Proofs.YtocdljmdmiphnaaDoor
