
/- dawg.numbered: the plain function, and what is told of memory. -/
import Derived.Test.YtocdljmdmiphnaaDoorDNode
namespace Go.Proofs.YtocdljmdmiphnaaDoor
open Go.RowKit Go.WideShapes Go.Maps Go.WideMaps
set_option linter.unusedVariables false
set_option linter.unusedSimpArgs false

/-! ### plain -/
def posI (Mt : List Nat) (i : Nat) : Nat := Mt.findIdx fun j => decide (j = i)
def armsV (rec : Nat → List Nat → List Nd → Nat × List Nat × List Nd) : List Ar → List Ar → List Nat → List Nd → List Ar × List Nat × List Nd
  | [], A, Mt, E => (A, Mt, E)
  | x :: r, A, Mt, E => armsV rec r (A ++ [⟨x.c, ((rec x.t.toNat Mt E).1 : Nat)⟩]) (rec x.t.toNat Mt E).2.1 (rec x.t.toNat Mt E).2.2
/-- the nodes numbered as they are met -/
def numV (Dn : List Nd) : Nat → Nat → List Nat → List Nd → Nat × List Nat × List Nd
  | 0, _, Mt, E => (0, Mt, E)
  | m + 1, i, Mt, E =>
    if posI Mt i < Mt.length then (posI Mt i, Mt, E)
    else
      (E.length, (armsV (numV Dn m) (Dn.getD i default).arcs [] (Mt ++ [i]) (E ++ [⟨(Dn.getD i default).fin, []⟩])).2.1,
        (armsV (numV Dn m) (Dn.getD i default).arcs [] (Mt ++ [i]) (E ++ [⟨(Dn.getD i default).fin, []⟩])).2.2.set E.length ⟨(Dn.getD i default).fin, (armsV (numV Dn m) (Dn.getD i default).arcs [] (Mt ++ [i]) (E ++ [⟨(Dn.getD i default).fin, []⟩])).1⟩)
/-- arcs lead to earlier nodes -/
def Down (Dn : List Nd) : Prop := ∀ i (h : i < Dn.length), ∀ x ∈ Dn[i].arcs, 0 ≤ x.t ∧ x.t < (i : Int)
theorem posI_snoc {Mt : List Nat} {i j : Nat} : posI (Mt ++ [j]) i = if posI Mt i < Mt.length then posI Mt i else if j = i then Mt.length else Mt.length + 1 := by
  unfold posI
  rw [List.findIdx_append]
  split
  · rfl
  · rw [List.findIdx_cons]
    by_cases h : j = i
    · simp [h]
    · simp [h]; omega
theorem posI_lt {Mt : List Nat} {i : Nat} (h : i ∈ Mt) : posI Mt i < Mt.length := List.findIdx_lt_length_of_exists ⟨i, h, by simp⟩
/-- each input node is met at most once: at most Dn.length are met -/
structure VOk (Dn : List Nd) (Mt : List Nat) (E : List Nd) : Prop where
  len : Mt.length = E.length
  nd : Mt.Nodup
  lt : ∀ j ∈ Mt, j < Dn.length
theorem nodup_le : ∀ (n : Nat) (l : List Nat), l.Nodup → (∀ j ∈ l, j < n) → l.length ≤ n
  | 0, l, _, h => by
    cases l with
    | nil => simp
    | cons x r => have := h x (by simp); omega
  | n + 1, l, hn, h => by
    by_cases hm : n ∈ l
    · have h1 := nodup_le n (l.erase n) (hn.erase n) (fun j hj => by
        have h2 := h j (List.mem_of_mem_erase hj)
        have h3 : j ≠ n := fun e => by subst e; exact hn.not_mem_erase hj
        omega)
      rw [List.length_erase_of_mem hm] at h1
      omega
    · have h1 := nodup_le n l hn (fun j hj => by
        have h2 := h j hj
        have h3 : j ≠ n := fun e => by subst e; exact hm hj
        omega)
      omega
theorem VOk.le {Dn : List Nd} {Mt : List Nat} {E : List Nd} (h : VOk Dn Mt E) : E.length ≤ Dn.length := by
  rw [← h.len]; exact nodup_le _ _ h.nd h.lt
/-! ### the map -/
def MapI (w : World) (g : Nat) (Mt : List Nat) : Prop := ∃ (n : Nat) (M : DataW Unit), w.ownsMap Tryd.prog 3 (plainElem Tryd.prog 3) g n M ∧ n ≤ Mt.length ∧
  ∀ i : Nat, i < 1000000 → Maps.has M (.int .i64 (i : Int)) = decide (posI Mt i < Mt.length) ∧ M.atKey (.int .i64 (i : Int)) (.lit (.int .i64 0)) = .lit (.int .i64 (if posI Mt i < Mt.length then (posI Mt i : Int) else 0))
theorem keyedI : Keyed Tryd.prog 3 := int_keyed Tryd.underlying3
theorem wfN {n : Nat} (h : n < 1000001) : (Lit.int .i64 (n : Int)).wf = true := by simp [Lit.wf, IntKind.min, IntKind.max, IntKind.bits, IntKind.signed]; omega
theorem MapI.new (w : World) : MapI (w.alloc (.map #[] 0)) w.heap.size [] :=
  ⟨0, .map [], World.ownsMap_made _ _ _ _, Nat.le_refl _, fun s _ => ⟨by simp [posI, Maps.has], by simp [posI, DataW.atKey]⟩⟩
theorem MapI.kept {w w1 : World} {g : Nat} {Mt : List Nat} (h : MapI w g Mt) (hk : w1.heap[g]? = w.heap[g]?) : MapI w1 g Mt := by
  obtain ⟨n, M, ⟨es, clock, hb, h1, h2, h3⟩, h4⟩ := h
  exact ⟨n, M, ⟨es, clock, hk.trans hb, h1, h2, h3⟩, h4⟩
theorem MapI.obj {w : World} {g : Nat} {Mt : List Nat} (h : MapI w g Mt) : ∃ es c, w.heap[g]? = some (.map es c) := by
  obtain ⟨n, M, ⟨es, clock, hb, _⟩, _⟩ := h
  exact ⟨es, clock, hb⟩
theorem MapI.look {w : World} {g : Nat} {Mt : List Nat} (h : MapI w g Mt) (i : Nat) (hi : i < 1000000) :
    (Instr.lookup 109 (.map (some g)) (.int .i64 (i : Int)) true).run Tryd.prog w = .ok (.tuple #[.int .i64 (if posI Mt i < Mt.length then (posI Mt i : Int) else 0), .bool (decide (posI Mt i < Mt.length))]) w := by
  obtain ⟨n, M, h1, _, h3⟩ := h
  obtain ⟨v, ps, hrun, hv⟩ := h1.look_ok keyedI Tryd.underlying109 (Tryd.zeroValue3 w) (plainElem_int (H := Unit) Tryd.underlying3 (a := 0) (by decide)) (keyOf_int_mk Tryd.underlying3 (wfN (n := i) (by omega)))
  obtain ⟨e1, e2⟩ := h3 i hi
  rw [e2] at hv
  obtain ⟨a, rfl, hz, _⟩ := plainElem_int_inv Tryd.underlying3 hv
  rw [e1] at hrun
  have : a = if posI Mt i < Mt.length then (posI Mt i : Int) else 0 := by
    have := congrArg Prod.fst hz
    simp only [DataW.lit.injEq, Lit.int.injEq, true_and] at this
    exact this.symm
  rw [← this]
  exact hrun
theorem wpList_mapUpdate_i {w : World} {g : Nat} {Mt : List Nat} {ops : Array Oper} {rest : List Oper} {o : Oper} {a : Act} {Q : Exit → Act → World → Prop} (h : MapI w g Mt) (i : Nat) (hi : i < 1000000) (hno : ¬ posI Mt i < Mt.length) (hD : Mt.length < 1000000)
    (hgd : o.guard = none) (m x v : Operand) (hop : o.op = Op.mapUpdate 109 m x v) (hm : a.eval m = .map (some g)) (hx : a.eval x = .int .i64 (i : Int)) (hv : a.eval v = .int .i64 (Mt.length : Int))
    (hK : ∀ w', MapI w' g (Mt ++ [i]) → w.grownBy w' (some g) → wpList Tryd.prog ops Q rest (a.put o.dst undef) w') : wpList Tryd.prog ops Q (o :: rest) a w := by
  obtain ⟨n, M, h1, h2, h3⟩ := h
  refine wpList_mapUpdate_own w hgd m x v _ hop _ _ keyedI Tryd.underlying109 _ g n M hm h1 (by unfold maxLen; omega) _ _ _ hx hv (keyOf_int_mk Tryd.underlying3 (wfN (n := i) (by omega))) _ _ (plainElem_int (H := Unit) Tryd.underlying3 (wfN (n := Mt.length) (by omega))) ?_
  intro w' hown hgr
  refine hK w' ⟨n + 1, _, hown, by rw [List.length_append]; simp; omega, fun j hj => ?_⟩ hgr
  have hM : IsMap M := h1.isMap
  rw [posI_snoc]
  by_cases e : j = i
  · subst e
    have hkl : WideAt.IsKeyLit (.int .i64 (j : Int)) := trivial
    rw [Maps.has_put_same hM hkl, Maps.atKey_put_same hM hkl, if_neg hno, if_pos rfl]
    simp
  · have hne : Lit.int .i64 (j : Int) ≠ Lit.int .i64 (i : Int) := fun h => e (by injection h with _ h; omega)
    rw [Maps.has_put_other hne, Maps.atKey_put_other hne]
    obtain ⟨e1, e2⟩ := h3 j hj
    rw [e1, e2]
    rw [if_neg (show ¬ i = j from fun h => e h.symm)]
    by_cases hf : posI Mt j < Mt.length
    · simp [hf]; omega
    · simp [hf]
end Go.Proofs.YtocdljmdmiphnaaDoor
/- dawg.numbered: the state in memory. -/
namespace Go.Proofs.YtocdljmdmiphnaaDoor
open Go.RowKit Go.WideShapes
set_option linter.unusedVariables false
set_option linter.unusedSimpArgs false

/-- a node's arcs written in its row -/
theorem flat_set : ∀ {N : List NV} {k : Nat} (hk : k < N.length) (a : Option Addr) (m c : Nat), (N.set k ⟨N[k].fin, a, m, c⟩).flatMap rowNode.enc = (N.flatMap rowNode.enc).set (k * 2 + 1) (.slice a m c)
  | x :: r, 0, _, a, m, c => by simp [rowNode]
  | x :: r, k + 1, hk, a, m, c => by
    have ih := flat_set (N := r) (k := k) (by simpa using hk) a m c
    have e : (k + 1) * 2 + 1 = (k * 2 + 1) + 1 + 1 := by omega
    simp only [List.set_cons_succ, List.getElem_cons_succ, List.flatMap_cons, e]
    rw [ih]
    simp [rowNode]
theorem OwnG.setArcs {w : World} {B g n c0 : Nat} {N : List NV} {k : Nat} (h : OwnG rowNode w B (.slice (some ⟨g, 0, none⟩) n c0) N) (hk : k < N.length) (a : Option Addr) (m c : Nat) :
    OwnG rowNode (w.setCell ⟨g, k * 2 + 1, none⟩ (.slice a m c)) B (.slice (some ⟨g, 0, none⟩) n c0) (N.set k ⟨N[k].fin, a, m, c⟩) := by
  have hf := flat_set hk a m c
  have hlen := flat_len rowNode_ok N
  rcases id h.2 with ⟨he, _⟩ | ⟨g', cap, cur, he, h1, h2, h3, h4, h5, h6⟩
  · cases he
  · injection he with e1 e2 e3
    injection e1 with e1
    injection e1 with e1
    subst e1 e3
    refine ⟨by rw [hf, List.length_set, hlen, List.length_set], .inr ⟨g, c0, cur.setIfInBounds (k * 2 + 1) (.slice a m c), by rw [List.length_set, e2], h1, set_one h2 rfl, by rw [List.length_set]; exact h3, h4, by simp [h5], ?_⟩⟩
    rw [hf, ← h6, List.length_set]
    simp only [Array.toList_setIfInBounds]
    rw [List.take_set]
def VFn (gMet gD gN gV : Nat) : Value := .func (.func 58) #[] #[.pointer (some ⟨gMet, 0, none⟩), .pointer (some ⟨gD, 0, none⟩), .pointer (some ⟨gN, 0, none⟩), .pointer (some ⟨gV, 0, none⟩)]
/-- the boxes that stand -/
structure VBx (w : World) (gMet gm gD gN gV : Nat) (aN : Option Addr) (nN cN : Nat) : Prop where
  met : w.heap[gMet]? = some (.cells #[.map (some gm)] 109 (0, 0))
  nn : w.heap[gN]? = some (.cells #[.slice aN nN cN] 29 (0, 0))
  vv : w.heap[gV]? = some (.cells #[VFn gMet gD gN gV] 110 (0, 0))
/-- but the row of the nodes and its box -/
structure VS0 (w : World) (B gMet gm gD gN gV : Nat) (aN : Option Addr) (nN cN : Nat) (v0 : Value) (N : List NV) (E : List Nd) (Mt : List Nat) : Prop where
  bx : VBx w gMet gm gD gN gV aN nN cN
  dd : w.heap[gD]? = some (.cells #[v0] 29 (0, 0))
  len : N.length = E.length
  arcs : ∀ k (h : k < N.length) (h2 : k < E.length), N[k].fin = E[k].fin ∧ OwnG rowArc w B (.slice N[k].a N[k].n N[k].c) E[k].arcs
  map : MapI w gm Mt
  hD : B ≤ gD
  hm : B ≤ gm
  dn : gN ≠ gD
structure VSt (w : World) (B gMet gm gD gN gV : Nat) (aN : Option Addr) (nN cN : Nat) (v : Value) (N : List NV) (E : List Nd) (Mt : List Nat) : Prop extends VS0 w B gMet gm gD gN gV aN nN cN v N E Mt where
  own : OwnG rowNode w B v N
section
variable {w w' : World} {B gMet gm gD gN gV : Nat} {aN : Option Addr} {nN cN : Nat} {v v0 : Value} {N : List NV} {E : List Nd} {Mt : List Nat}
theorem VBx.keep (h : VBx w gMet gm gD gN gV aN nN cN) (hk : ∀ q, q < w.heap.size → q = gMet ∨ q = gN ∨ q = gV → w'.heap[q]? = w.heap[q]?) : VBx w' gMet gm gD gN gV aN nN cN :=
  ⟨(hk gMet (Array.getElem?_eq_some_iff.1 h.met).1 (.inl rfl)).trans h.met, (hk gN (Array.getElem?_eq_some_iff.1 h.nn).1 (.inr (.inl rfl))).trans h.nn, (hk gV (Array.getElem?_eq_some_iff.1 h.vv).1 (.inr (.inr rfl))).trans h.vv⟩
theorem VS0.keep (h : VS0 w B gMet gm gD gN gV aN nN cN v0 N E Mt) (hk : ∀ q, q < w.heap.size → (q = gMet ∨ q = gN ∨ q = gV) ∨ q = gD ∨ q = gm ∨ (∃ x ∈ N, nvB x = some q) → w'.heap[q]? = w.heap[q]?) : VS0 w' B gMet gm gD gN gV aN nN cN v0 N E Mt := by
  obtain ⟨es, c, hmo⟩ := h.map.obj
  exact ⟨h.bx.keep fun q hq hh => hk q hq (.inl hh), (hk gD (Array.getElem?_eq_some_iff.1 h.dd).1 (.inr (.inl rfl))).trans h.dd, h.len, fun k h1 h2 => ⟨(h.arcs k h1 h2).1, (h.arcs k h1 h2).2.keep fun g hg => hk g ((h.arcs k h1 h2).2.lt g hg) (.inr (.inr (.inr ⟨N[k], List.getElem_mem h1, hg⟩)))⟩, h.map.kept (hk gm (Array.getElem?_eq_some_iff.1 hmo).1 (.inr (.inr (.inl rfl)))), h.hD, h.hm, h.dn⟩
theorem VS0.ext (h : VS0 w B gMet gm gD gN gV aN nN cN v0 N E Mt) (hx : Ext w w') : VS0 w' B gMet gm gD gN gV aN nN cN v0 N E Mt := h.keep fun q hq _ => Below.block hx q hq
theorem VSt.ext (h : VSt w B gMet gm gD gN gV aN nN cN v N E Mt) (hx : Ext w w') : VSt w' B gMet gm gD gN gV aN nN cN v N E Mt := ⟨h.toVS0.ext hx, h.own.later hx (Nat.le_refl _)⟩
theorem VS0.size (h : VS0 w B gMet gm gD gN gV aN nN cN v0 N E Mt) : B ≤ w.heap.size := Nat.le_trans h.hD (Nat.le_of_lt (Array.getElem?_eq_some_iff.1 h.dd).1)
/-- a block of a type that is none of theirs -/
theorem VS0.apartT (h : VS0 w B gMet gm gD gN gV aN nN cN v0 N E Mt) {g : Nat} {cs : Array Value} {t : TypeId} {fz : Nat × Nat} (hg : w.heap[g]? = some (.cells cs t fz)) (ht : t ≠ 109 ∧ t ≠ 29 ∧ t ≠ 110) : g ≠ gMet ∧ g ≠ gN ∧ g ≠ gV ∧ g ≠ gD ∧ g ≠ gm := by
  have key : ∀ {q : Nat} {cs2 : Array Value} {t2 : TypeId}, w.heap[q]? = some (.cells cs2 t2 (0, 0)) → t ≠ t2 → g ≠ q := fun h1 h2 e => by
    rw [e, h1] at hg; injection hg with hg; injection hg with _ h3; exact h2 h3.symm
  refine ⟨key h.bx.met ht.1, key h.bx.nn ht.2.1, key h.bx.vv ht.2.2, key h.dd ht.2.1, fun e => ?_⟩
  obtain ⟨es, c, hm⟩ := h.map.obj
  rw [e, hm] at hg; cases hg
theorem VS0.rows_lt (h : VS0 w B gMet gm gD gN gV aN nN cN v0 N E Mt) : ∀ x ∈ N, ∀ g, nvB x = some g → g < w.heap.size ∧ ∃ cs, w.heap[g]? = some (.cells cs 56 (0, 0)) := by
  intro x hx g hg
  obtain ⟨k, hk, rfl⟩ := List.getElem_of_mem hx
  have h2 := (h.arcs k hk (by rw [← h.len]; exact hk)).2
  exact ⟨h2.lt g hg, h2.obj hg⟩
end
/-- inside visit -/
structure LVt (wW w0 : World) (B gMet gm gD gN gV : Nat) (aN : Option Addr) (nN cN : Nat) (vb0 : Option Nat) (N0 : List NV) (vA : Value) (A : List Ar) (v : Value) (N : List NV) (E : List Nd) (Mt : List Nat) (w : World) : Prop where
  bst : VSt w B gMet gm gD gN gV aN nN cN v N E Mt
  bl : Below B wW w
  fr : Fr gD gm vb0 w0 w
  nr : NewRow vb0 v.ownBlock w0.heap.size
  ex : ∃ X, N = N0 ++ X ∧ ∀ x ∈ X, ∀ g, nvB x = some g → w0.heap.size ≤ g
  own : OwnG rowArc w w0.heap.size vA A
  apart : ∀ x ∈ N, ∀ g, nvB x = some g → vA.ownBlock ≠ some g
/-- the same without the row of arcs -/
structure LV0 (wW w0 : World) (B gMet gm gD gN gV : Nat) (aN : Option Addr) (nN cN : Nat) (vb0 : Option Nat) (N0 : List NV) (v : Value) (N : List NV) (E : List Nd) (Mt : List Nat) (w : World) : Prop where
  bst : VSt w B gMet gm gD gN gV aN nN cN v N E Mt
  bl : Below B wW w
  fr : Fr gD gm vb0 w0 w
  nr : NewRow vb0 v.ownBlock w0.heap.size
  ex : ∃ X, N = N0 ++ X ∧ ∀ x ∈ X, ∀ g, nvB x = some g → w0.heap.size ≤ g
def VPost (wW : World) (B gMet gm gD gN gV : Nat) (aN : Option Addr) (nN cN : Nat) (q : Nat × List Nat × List Nd) (v : Value) (N : List NV) (w : World) (e : Ending) (w' : World) : Prop :=
  e = .returned (.int .i64 (q.1 : Int)) ∧ ∃ v' N', LV0 wW w B gMet gm gD gN gV aN nN cN v.ownBlock N v' N' q.2.2 q.2.1 w'
section
variable {wW w0 w w' : World} {B gMet gm gD gN gV : Nat} {aN : Option Addr} {nN cN : Nat} {vb0 : Option Nat} {N0 : List NV} {vA va v : Value} {A A2 : List Ar} {N : List NV} {E : List Nd} {Mt : List Nat}
theorem LVt.to0 (h : LVt wW w0 B gMet gm gD gN gV aN nN cN vb0 N0 vA A v N E Mt w) : LV0 wW w0 B gMet gm gD gN gV aN nN cN vb0 N0 v N E Mt w := ⟨h.bst, h.bl, h.fr, h.nr, h.ex⟩
theorem LV0.ext (h : LV0 wW w0 B gMet gm gD gN gV aN nN cN vb0 N0 v N E Mt w) (hx : Ext w w') : LV0 wW w0 B gMet gm gD gN gV aN nN cN vb0 N0 v N E Mt w' :=
  ⟨h.bst.ext hx, h.bl.trans (Below.mono hx h.bst.size), h.fr.trans (Fr.of_below hx) h.nr, h.nr, h.ex⟩
theorem LVt.ext (h : LVt wW w0 B gMet gm gD gN gV aN nN cN vb0 N0 vA A v N E Mt w) (hx : Ext w w') : LVt wW w0 B gMet gm gD gN gV aN nN cN vb0 N0 vA A v N E Mt w' :=
  ⟨h.bst.ext hx, h.bl.trans (Below.mono hx h.bst.size), h.fr.trans (Fr.of_below hx) h.nr, h.nr, h.ex, h.own.later hx (Nat.le_refl _), h.apart⟩
/-- behind a call of visit -/
theorem LVt.called (h : LVt wW w0 B gMet gm gD gN gV aN nN cN vb0 N0 vA A v N E Mt w) {q : Nat × List Nat × List Nd} {e : Ending} (hp : VPost wW B gMet gm gD gN gV aN nN cN q v N w e w') :
    e = .returned (.int .i64 (q.1 : Int)) ∧ ∃ v' N', LVt wW w0 B gMet gm gD gN gV aN nN cN vb0 N0 vA A v' N' q.2.2 q.2.1 w' := by
  obtain ⟨he, v', N', hp⟩ := hp
  have hw0 := h.fr.size
  obtain ⟨X, hX, hX2⟩ := hp.ex
  refine ⟨he, v', N', hp.bst, hp.bl, h.fr.trans hp.fr h.nr, h.nr.trans hp.nr hw0, ?_, h.own.keep fun g hg => ?_, fun x hx g hg => ?_⟩
  · obtain ⟨E0, rfl, hE0⟩ := h.ex
    refine ⟨E0 ++ X, by rw [hX, List.append_assoc], fun x hx g hg => ?_⟩
    rcases List.mem_append.1 hx with hx | hx
    · exact hE0 x hx g hg
    · exact Nat.le_trans hw0 (hX2 x hx g hg)
  · obtain ⟨cs, hcs⟩ := h.own.obj hg
    obtain ⟨_, _, _, h4, h5⟩ := h.bst.apartT hcs (by decide)
    refine hp.fr.block g (h.own.lt g hg) h4 h5 fun e => ?_
    obtain ⟨cs2, hc2⟩ := h.bst.own.obj e
    rw [hcs] at hc2
    injection hc2 with hc2; injection hc2 with _ h6; cases h6
  · intro e
    rw [hX] at hx
    rcases List.mem_append.1 hx with hx | hx
    · exact h.apart x hx g hg e
    · have := hX2 x hx g hg; have := h.own.lt g e; omega
/-- behind an append to the row of arcs -/
theorem LVt.app (h : LVt wW w0 B gMet gm gD gN gV aN nN cN vb0 N0 vA A v N E Mt w) (hB : B ≤ w0.heap.size) (hg : w.grownBy w' vA.ownBlock) : LV0 wW w0 B gMet gm gD gN gV aN nN cN vb0 N0 v N E Mt w' := by
  have hk : ∀ q, q < w.heap.size → vA.ownBlock ≠ some q → w'.heap[q]? = w.heap[q]? := fun q hq hne => hg.block q hq (fun e => hne e.symm)
  have hva : ∀ q, vA.ownBlock = some q → q ≠ gMet ∧ q ≠ gN ∧ q ≠ gV ∧ q ≠ gD ∧ q ≠ gm := fun q hq => by
    obtain ⟨cs, hcs⟩ := h.own.obj hq
    exact h.bst.apartT hcs (by decide)
  refine ⟨⟨h.bst.toVS0.keep fun q hq hh => hk q hq fun e => ?_, h.bst.own.keep fun g hgo => hk g (h.bst.own.lt g hgo) fun e => ?_⟩, h.bl.grown hg h.bst.size fun q hq => Nat.le_trans hB (h.own.ge q hq), ⟨hg.os.trans h.fr.os, hg.tape.trans h.fr.tape, hg.output.trans h.fr.output, Nat.le_trans h.fr.size hg.size, fun q hq h3 h4 h5 => ?_⟩, h.nr, h.ex⟩
  · obtain ⟨h1, h2, h3, h4, h5⟩ := hva q e
    rcases hh with (rfl | rfl | rfl) | rfl | rfl | ⟨x, hx, hq2⟩
    · exact h1 rfl
    · exact h2 rfl
    · exact h3 rfl
    · exact h4 rfl
    · exact h5 rfl
    · exact h.apart x hx q hq2 e
  · obtain ⟨cs, hcs⟩ := h.own.obj e
    obtain ⟨cs2, hc2⟩ := h.bst.own.obj hgo
    rw [hcs] at hc2
    injection hc2 with hc2; injection hc2 with _ h6; cases h6
  · have h6 := h.fr.size
    exact (hk q (by omega) (fun e => by have := h.own.ge q e; omega)).trans (h.fr.block q hq h3 h4 h5)
end
end Go.Proofs.YtocdljmdmiphnaaDoor
/- dawg.numbered: earlier nodes stand; no node is met twice. -/
namespace Go.Proofs.YtocdljmdmiphnaaDoor
open Go.RowKit Go.WideShapes
set_option linter.unusedVariables false
set_option linter.unusedSimpArgs false

/-- E is the beginning of R -/
def Begins (R E : List Nd) : Prop := E.length ≤ R.length ∧ ∀ k, k < E.length → R[k]? = E[k]?
theorem Begins.refl (E : List Nd) : Begins E E := ⟨Nat.le_refl _, fun _ _ => rfl⟩
theorem Begins.trans {A B C : List Nd} (h : Begins A B) (h2 : Begins B C) : Begins A C := ⟨Nat.le_trans h2.1 h.1, fun k hk => (h.2 k (Nat.lt_of_lt_of_le hk h2.1)).trans (h2.2 k hk)⟩
theorem Begins.snoc (E : List Nd) (x : Nd) : Begins (E ++ [x]) E := ⟨by simp, fun k hk => by rw [List.getElem?_append_left hk]⟩
theorem armsV_begins {rec : Nat → List Nat → List Nd → Nat × List Nat × List Nd} (hr : ∀ i Mt E, Begins (rec i Mt E).2.2 E) : ∀ X A Mt E, Begins (armsV rec X A Mt E).2.2 E
  | [], _, _, _ => Begins.refl _
  | x :: r, A, Mt, E => by rw [armsV]; exact (armsV_begins hr r _ _ _).trans (hr _ _ _)
theorem numV_begins (Dn : List Nd) : ∀ m i Mt E, Begins (numV Dn m i Mt E).2.2 E
  | 0, _, _, _ => Begins.refl _
  | m + 1, i, Mt, E => by
    rw [numV]
    split
    · exact Begins.refl _
    · have h := (armsV_begins (numV_begins Dn m) (Dn.getD i default).arcs [] (Mt ++ [i]) (E ++ [⟨(Dn.getD i default).fin, []⟩])).trans (Begins.snoc E _)
      refine ⟨by rw [List.length_set]; exact h.1, fun k hk => ?_⟩
      rw [List.getElem?_set_ne (by omega)]
      exact h.2 k hk
theorem VOk.snoc {Dn : List Nd} {Mt : List Nat} {E : List Nd} {i : Nat} (h : VOk Dn Mt E) (hi : i < Dn.length) (hno : ¬ posI Mt i < Mt.length) (x : Nd) : VOk Dn (Mt ++ [i]) (E ++ [x]) := by
  refine ⟨by simp [h.len], ?_, fun j hj => ?_⟩
  · rw [List.nodup_append]
    exact ⟨h.nd, by simp, fun a ha b hb => by
      obtain rfl := List.mem_singleton.1 hb
      intro e; subst e; exact hno (posI_lt ha)⟩
  · rcases List.mem_append.1 hj with hj | hj
    · exact h.lt j hj
    · obtain rfl := List.mem_singleton.1 hj; exact hi
theorem armsV_ok {Dn : List Nd} {rec : Nat → List Nat → List Nd → Nat × List Nat × List Nd} {i : Nat} (hi : i ≤ Dn.length) (hr : ∀ j Mt E, j < i → VOk Dn Mt E → VOk Dn (rec j Mt E).2.1 (rec j Mt E).2.2) : ∀ X A Mt E, (∀ x ∈ X, 0 ≤ x.t ∧ x.t < (i : Int)) → VOk Dn Mt E → VOk Dn (armsV rec X A Mt E).2.1 (armsV rec X A Mt E).2.2
  | [], _, _, _, _, h => h
  | x :: r, A, Mt, E, hX, h => by
    rw [armsV]
    have hx := hX x (by simp)
    exact armsV_ok hi hr r _ _ _ (fun y hy => hX y (by simp [hy])) (hr _ _ _ (by omega) h)
theorem numV_ok {Dn : List Nd} (hD : Down Dn) : ∀ m i Mt E, i < Dn.length → i < m → VOk Dn Mt E → VOk Dn (numV Dn m i Mt E).2.1 (numV Dn m i Mt E).2.2
  | 0, _, _, _, _, h, _ => by omega
  | m + 1, i, Mt, E, hi, hm, h => by
    rw [numV]
    split
    · exact h
    · rename_i hno
      have hg : Dn.getD i default = Dn[i] := by rw [List.getD_eq_getElem?_getD, List.getElem?_eq_getElem hi]; rfl
      have h2 := armsV_ok (Dn := Dn) (rec := numV Dn m) (i := i) (by omega) (fun j Mt E hj h => numV_ok hD m j Mt E (by omega) (by omega) h) (Dn.getD i default).arcs [] (Mt ++ [i]) (E ++ [⟨(Dn.getD i default).fin, []⟩]) (by rw [hg]; exact hD i hi) (h.snoc hi hno _)
      exact ⟨by rw [List.length_set]; exact h2.len, h2.nd, h2.lt⟩
end Go.Proofs.YtocdljmdmiphnaaDoor
