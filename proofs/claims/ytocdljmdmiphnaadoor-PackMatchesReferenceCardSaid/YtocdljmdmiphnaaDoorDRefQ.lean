/- Reference 09's builder.node: plain lemmas, the builder in memory. -/
import Derived.Test.YtocdljmdmiphnaaDoorDBuildF
namespace Go.Proofs.YtocdljmdmiphnaaDoor
open Go.RowKit Go.WideShapes
set_option linter.unusedVariables false
set_option linter.unusedSimpArgs false

/-! ### plain -/
def toB (l : Wd) : ByteArray := ⟨l.toArray⟩
def rowsB (r : Rst) : List ByteArray := r.map toB
theorem toB_list (l : Wd) : (toB l).data.toList = l := rfl
theorem toB_inj {l m : Wd} (h : toB l = toB m) : l = m := by
  have := congrArg (fun s : ByteArray => s.data.toList) h
  exact this
theorem rowsB_inj {r q : Rst} (h : rowsB r = rowsB q) : r = q := List.map_inj_right (fun _ _ h => toB_inj h) |>.1 h
theorem rowsB_rest (L : List ByteArray) : rowsB (restAt 0 L) = L := by
  unfold rowsB restAt
  rw [List.map_map]
  have : (toB ∘ fun s : ByteArray => s.data.toList.drop 0) = id := by
    funext s
    show toB (s.data.toList.drop 0) = s
    rw [List.drop_zero]; rfl
  rw [this, List.map_id]
theorem rowsB_len (r : Rst) : (rowsB r).length = r.length := List.length_map _
theorem rowsB_nil {r : Rst} : rowsB r = [] ↔ r = [] := List.map_eq_nil_iff
theorem same_rows (r q : Rst) : decide (rowsB r = rowsB q) = decide (r = q) := by
  by_cases h : r = q
  · subst h; simp
  · rw [decide_eq_false h, decide_eq_false fun e => h (rowsB_inj e)]
theorem afterF_rows (c : Nat) : ∀ r : Rst, afterF (rowsB r) (c : Int) = rowsB (afterL r c)
  | [] => rfl
  | [] :: r => by
    have ih := afterF_rows c r
    rw [afterL_e, ← ih]
    show ((toB [] :: rowsB r).filter fun s => headB s c).map tailB = _
    rw [List.filter_cons, if_neg (by simp [headB, toB, ByteArray.size])]
    rfl
  | (b :: t) :: r => by
    have ih := afterF_rows c r
    show ((toB (b :: t) :: rowsB r).filter fun s => headB s c).map tailB = _
    by_cases h : b.toNat = c
    · rw [afterL_yes h, List.filter_cons, if_pos (by subst h; simp [headB, toB, ByteArray.size]), List.map_cons]
      have e : tailB (toB (b :: t)) = toB t := by
        unfold tailB
        refine bytes_inj ?_
        rw [ByteArray.data_extract]
        simp [toB, ByteArray.size]
      rw [e]
      show toB t :: afterF (rowsB r) c = _
      rw [ih]; rfl
    · rw [afterL_no h, List.filter_cons, if_neg (by simp [headB, toB, ByteArray.size]; omega)]
      exact ih
theorem afterL_len (r : Rst) (c : Nat) : (afterL r c).length ≤ r.length := List.length_filterMap_le _ _
/-- it only adds -/
theorem armsC_ge {rec : Rst → List Rst → List Nd → Nat × List Rst × List Nd} (hr : ∀ r Mt E, E.length ≤ (rec r Mt E).2.2.length) (r : Rst) : ∀ C A Mt E, E.length ≤ (armsC rec r C A Mt E).2.2.length
  | [], _, _, _ => Nat.le_refl _
  | c :: C, A, Mt, E => by
    rw [armsC]
    split
    · exact armsC_ge hr r C _ _ _
    · exact Nat.le_trans (hr _ _ _) (armsC_ge hr r C _ _ _)
theorem refV_ge : ∀ m r Mt E, E.length ≤ (refV m r Mt E).2.2.length
  | 0, _, _, _ => Nat.le_refl _
  | m + 1, r, Mt, E => by
    rw [refV]
    split
    · exact Nat.le_refl _
    · have := armsC_ge (refV_ge m) r (List.range' 33 94) [] (Mt ++ [r]) (E ++ [⟨false, []⟩])
      simp only [List.length_append, List.length_singleton] at this
      simp only [List.length_set]; omega
theorem refV_no {m : Nat} {r : Rst} {Mt : List Rst} {E : List Nd} (h : ¬ idxR Mt r < Mt.length) : refV (m + 1) r Mt E =
    (E.length, (armsC (refV m) r (List.range' 33 94) [] (Mt ++ [r]) (E ++ [⟨false, []⟩])).2.1, (armsC (refV m) r (List.range' 33 94) [] (Mt ++ [r]) (E ++ [⟨false, []⟩])).2.2.set E.length ⟨finR r, (armsC (refV m) r (List.range' 33 94) [] (Mt ++ [r]) (E ++ [⟨false, []⟩])).1⟩) := by
  rw [refV, if_neg h]
theorem refV_yes {m : Nat} {r : Rst} {Mt : List Rst} {E : List Nd} (h : idxR Mt r < Mt.length) : refV (m + 1) r Mt E = (idxR Mt r, Mt, E) := by
  rw [refV, if_pos h]
theorem idxR_find {Mt : List Rst} {r : Rst} {k : Nat} (hk : k < Mt.length) (hno : ∀ j (hj : j < Mt.length), j < k → Mt[j] ≠ r) (h : Mt[k] = r) : idxR Mt r = k :=
  (List.findIdx_eq hk).2 ⟨by simp [h], fun j hj => by simpa using hno j (by omega) hj⟩
theorem idxR_none {Mt : List Rst} {r : Rst} (hno : ∀ j (hj : j < Mt.length), Mt[j] ≠ r) : ¬ idxR Mt r < Mt.length := by
  intro h
  have := List.findIdx_getElem (w := h)
  simp only [decide_eq_true_eq] at this
  exact hno _ h this
theorem armsC_len {rec : Rst → List Rst → List Nd → Nat × List Rst × List Nd} (hr : ∀ r Mt E, Mt.length = E.length → (rec r Mt E).2.1.length = (rec r Mt E).2.2.length) (r : Rst) : ∀ C A Mt E, Mt.length = E.length → (armsC rec r C A Mt E).2.1.length = (armsC rec r C A Mt E).2.2.length
  | [], _, _, _, h => h
  | c :: C, A, Mt, E, h => by
    rw [armsC]
    split
    · exact armsC_len hr r C _ _ _ h
    · exact armsC_len hr r C _ _ _ (hr _ _ _ h)
theorem refV_len : ∀ m r Mt E, Mt.length = E.length → (refV m r Mt E).2.1.length = (refV m r Mt E).2.2.length
  | 0, _, _, _, h => h
  | m + 1, r, Mt, E, h => by
    rw [refV]
    split
    · exact h
    · have := armsC_len (refV_len m) r (List.range' 33 94) [] (Mt ++ [r]) (E ++ [⟨false, []⟩]) (by simp [h])
      simp only [List.length_set]; exact this
/-! ### memory -/
/-- a list of rests: older, or a row of the call's own -/
structure RestIn (wW : World) (B : Nat) (w : World) (x : SV) (r : Rst) : Prop where
  n : x.n = r.length
  c : x.n ≤ x.c
  b : r.length ≤ 1000
  s : StrS wW x.a (rowsB r) ∨ OwnG rowStr w B (.slice x.a x.n x.c) (rowsB r)
theorem RestIn.strs {wW w : World} {B : Nat} {x : SV} {r : Rst} (h : RestIn wW B w x r) (hb : Below B wW w) (hB : wW.heap.size ≤ B) : StrS w x.a (rowsB r) := by
  rcases h.s with h | h
  · exact h.later hb hB
  · exact h.strs.1
theorem RestIn.keep {wW w w' : World} {B : Nat} {x : SV} {r : Rst} (h : RestIn wW B w x r) (hk : ∀ (q : Nat) (cs : Array Value), w.heap[q]? = some (Obj.cells cs 9 (0, 0)) → w'.heap[q]? = w.heap[q]?) : RestIn wW B w' x r :=
  ⟨h.n, h.c, h.b, h.s.imp id fun h => h.keep fun g hg => by
    rcases h.2 with ⟨he, _⟩ | ⟨g', cap, cur, he, _, h2, _⟩
    · rw [he] at hg; cases hg
    · rw [he] at hg; cases hg; exact hk _ _ h2⟩
structure RSt (wW w : World) (B gB : Nat) (v vr : Value) (N : List NV) (D : List Nd) (S : List SV) (R : List Rst) : Prop where
  rep : w.heap[gB]? = some (.cells #[v, vr] 72 (0, 0))
  own : OwnG rowNode w B v N
  len : N.length = D.length
  arcs : ∀ k (h : k < N.length) (h2 : k < D.length), N[k].fin = D[k].fin ∧ OwnG rowArc w B (.slice N[k].a N[k].n N[k].c) D[k].arcs
  rown : OwnG rowRest w B vr S
  slen : S.length = R.length
  rests : ∀ k (h : k < S.length) (h2 : k < R.length), RestIn wW B w S[k] R[k]
  gB : B ≤ gB
theorem RSt.keep {wW w w' : World} {B gB : Nat} {v vr : Value} {N : List NV} {D : List Nd} {S : List SV} {R : List Rst} (h : RSt wW w B gB v vr N D S R)
    (hk : ∀ q cs t, w.heap[q]? = some (.cells cs t (0, 0)) → (q = gB ∨ v.ownBlock = some q ∨ (∃ x ∈ N, nvB x = some q) ∨ t = 9 ∨ t = 26) → w'.heap[q]? = w.heap[q]?) : RSt wW w' B gB v vr N D S R := by
  refine ⟨(hk gB _ _ h.rep (.inl rfl)).trans h.rep, h.own.keep fun g hg => ?_, h.len, fun k h1 h2 => ⟨(h.arcs k h1 h2).1, (h.arcs k h1 h2).2.keep fun g hg => ?_⟩, h.rown.keep fun g hg => ?_, h.slen, fun k h1 h2 => (h.rests k h1 h2).keep fun q cs hq => hk q cs _ hq (.inr (.inr (.inr (.inl rfl)))), h.gB⟩
  · obtain ⟨cs, hcs⟩ := h.own.obj hg
    exact hk g _ _ hcs (.inr (.inl hg))
  · obtain ⟨cs, hcs⟩ := (h.arcs k h1 h2).2.obj hg
    exact hk g _ _ hcs (.inr (.inr (.inl ⟨N[k], List.getElem_mem h1, hg⟩)))
  · obtain ⟨cs, hcs⟩ := h.rown.obj hg
    exact hk g _ _ hcs (.inr (.inr (.inr (.inr rfl))))
theorem RSt.ext {wW w w' : World} {B gB : Nat} {v vr : Value} {N : List NV} {D : List Nd} {S : List SV} {R : List Rst} (h : RSt wW w B gB v vr N D S R) (hx : Ext w w') : RSt wW w' B gB v vr N D S R :=
  h.keep fun q cs t hq _ => Below.block hx q (Array.getElem?_eq_some_iff.1 hq).1
theorem RSt.size {wW w : World} {B gB : Nat} {v vr : Value} {N : List NV} {D : List Nd} {S : List SV} {R : List Rst} (h : RSt wW w B gB v vr N D S R) : B ≤ w.heap.size := Nat.le_trans h.gB (Nat.le_of_lt (Array.getElem?_eq_some_iff.1 h.rep).1)
/-- all but the builder, its rows of lists and the row vb stands -/
structure FrR (gB : Nat) (vb : Option Nat) (w w' : World) : Prop where
  os : w'.os = w.os
  tape : w'.tape = w.tape
  output : w'.output = w.output
  size : w.heap.size ≤ w'.heap.size
  block : ∀ q cs t, w.heap[q]? = some (.cells cs t (0, 0)) → q ≠ gB → vb ≠ some q → t ≠ 26 → w'.heap[q]? = w.heap[q]?
theorem FrR.refl (gB : Nat) (vb : Option Nat) (w : World) : FrR gB vb w w := ⟨rfl, rfl, rfl, Nat.le_refl _, fun _ _ _ _ _ _ _ => rfl⟩
theorem FrR.trans {gB : Nat} {vb vb1 : Option Nat} {a b c : World} (h : FrR gB vb a b) (h2 : FrR gB vb1 b c) (hn : NewRow vb vb1 a.heap.size) : FrR gB vb a c :=
  ⟨h2.os.trans h.os, h2.tape.trans h.tape, h2.output.trans h.output, Nat.le_trans h.size h2.size, fun q cs t hq h3 h4 h5 => by
    have e := h.block q cs t hq h3 h4 h5
    refine (h2.block q cs t (e.trans hq) h3 (fun e2 => ?_) h5).trans e
    have hlt := (Array.getElem?_eq_some_iff.1 hq).1
    rcases hn with rfl | hn
    · exact h4 e2
    · have := hn q e2; omega⟩
theorem FrR.of_below {gB : Nat} {vb : Option Nat} {w w' : World} (h : Below w.heap.size w w') : FrR gB vb w w' := ⟨h.os, h.tape, h.output, h.size, fun q cs t hq _ _ _ => h.block q (Array.getElem?_eq_some_iff.1 hq).1⟩
def RPost (wW : World) (B gB : Nat) (q : Nat × List Rst × List Nd) (v : Value) (N : List NV) (w : World) (e : Ending) (w' : World) : Prop :=
  ∃ v' vr' N' S' E, e = .returned (.int .i64 (q.1 : Int)) ∧ RSt wW w' B gB v' vr' N' q.2.2 S' q.2.1 ∧ N' = N ++ E ∧ (∀ x ∈ E, ∀ g, nvB x = some g → w.heap.size ≤ g) ∧ Below B wW w' ∧ FrR gB v.ownBlock w w' ∧ NewRow v.ownBlock v'.ownBlock w.heap.size
/-- inside node -/
structure RL0 (wW w0 : World) (B gB : Nat) (vb0 : Option Nat) (N0 : List NV) (v vr : Value) (N : List NV) (D : List Nd) (S : List SV) (R : List Rst) (w : World) : Prop where
  bst : RSt wW w B gB v vr N D S R
  bl : Below B wW w
  fr : FrR gB vb0 w0 w
  nr : NewRow vb0 v.ownBlock w0.heap.size
  ex : ∃ E, N = N0 ++ E ∧ ∀ x ∈ E, ∀ g, nvB x = some g → w0.heap.size ≤ g
/-- with the node in block gn -/
structure RL1 (wW w0 : World) (B gB gn : Nat) (vb0 : Option Nat) (N0 : List NV) (fin : Bool) (vA : Value) (v vr : Value) (N : List NV) (D : List Nd) (S : List SV) (R : List Rst) (w : World) : Prop extends RL0 wW w0 B gB vb0 N0 v vr N D S R w where
  box : w.heap[gn]? = some (.cells #[.bool fin, vA] 53 (0, 0))
  gg : w0.heap.size ≤ gn
  vn : v.ownBlock ≠ some gn
structure RL (wW w0 : World) (B gB gn : Nat) (vb0 : Option Nat) (N0 : List NV) (fin : Bool) (vA : Value) (A : List Ar) (v vr : Value) (N : List NV) (D : List Nd) (S : List SV) (R : List Rst) (w : World) : Prop extends RL1 wW w0 B gB gn vb0 N0 fin vA v vr N D S R w where
  own : OwnG rowArc w w0.heap.size vA A
  apart : ∀ x ∈ N, ∀ g, nvB x = some g → vA.ownBlock ≠ some g
section
variable {wW w0 w w' : World} {B gB gn : Nat} {vb0 : Option Nat} {N0 : List NV} {fin : Bool} {vA va : Value} {A A2 : List Ar} {v vr : Value} {N : List NV} {D : List Nd} {S : List SV} {R : List Rst}
theorem RL0.ext (h : RL0 wW w0 B gB vb0 N0 v vr N D S R w) (hx : Ext w w') : RL0 wW w0 B gB vb0 N0 v vr N D S R w' :=
  ⟨h.bst.ext hx, h.bl.trans (Below.mono hx h.bst.size), h.fr.trans (FrR.of_below hx) h.nr, h.nr, h.ex⟩
theorem RL1.ext (h : RL1 wW w0 B gB gn vb0 N0 fin vA v vr N D S R w) (hx : Ext w w') : RL1 wW w0 B gB gn vb0 N0 fin vA v vr N D S R w' :=
  ⟨h.toRL0.ext hx, (Below.block hx gn (Array.getElem?_eq_some_iff.1 h.box).1).trans h.box, h.gg, h.vn⟩
theorem RL.ext (h : RL wW w0 B gB gn vb0 N0 fin vA A v vr N D S R w) (hx : Ext w w') : RL wW w0 B gB gn vb0 N0 fin vA A v vr N D S R w' :=
  ⟨h.toRL1.ext hx, h.own.later hx (Nat.le_refl _), h.apart⟩
theorem cells_ty {w : World} {q q' : Nat} {cs cs' : Array Value} {t t' : TypeId} {f f' : Nat × Nat} (h : w.heap[q]? = some (.cells cs t f)) (h' : w.heap[q']? = some (.cells cs' t' f')) (ht : t ≠ t') : q ≠ q' := fun e => by
  rw [e, h'] at h; injection h with h; injection h with _ h2; exact ht h2.symm
theorem RSt.row_ty (h : RSt wW w B gB v vr N D S R) : ∀ x ∈ N, ∀ g, nvB x = some g → ∃ cs, w.heap[g]? = some (.cells cs 56 (0, 0)) := by
  intro x hx g hg
  obtain ⟨k, hk, rfl⟩ := List.getElem_of_mem hx
  exact (h.arcs k hk (by rw [← h.len]; exact hk)).2.obj hg
/-- a block of nodes that is not their row is none of the builder's -/
theorem RSt.apart_node (h : RSt wW w B gB v vr N D S R) {g : Nat} {cs : Array Value} (hg : w.heap[g]? = some (.cells cs 53 (0, 0))) (hv : v.ownBlock ≠ some g) :
    ∀ q cs' t, w.heap[q]? = some (.cells cs' t (0, 0)) → (q = gB ∨ v.ownBlock = some q ∨ (∃ x ∈ N, nvB x = some q) ∨ t = 9 ∨ t = 26) → q ≠ g := by
  rintro q cs' t hq (rfl | hv2 | ⟨x, hx, hq2⟩ | rfl | rfl)
  · exact cells_ty h.rep hg (by decide)
  · rintro rfl; exact hv hv2
  · obtain ⟨cs2, hc2⟩ := h.row_ty x hx q hq2
    exact cells_ty hc2 hg (by decide)
  · exact cells_ty hq hg (by decide)
  · exact cells_ty hq hg (by decide)
/-- the node's box written -/
theorem RL1.setBox {fin' : Bool} {vA' : Value} {A' : List Ar} {i : Nat} {y : Value} (h : RL1 wW w0 B gB gn vb0 N0 fin vA v vr N D S R w) (hB : B ≤ w0.heap.size)
    (hc : (#[.bool fin, vA] : Array Value).setIfInBounds i y = #[.bool fin', vA']) (ho : OwnG rowArc w w0.heap.size vA' A') (hap : ∀ x ∈ N, ∀ g, nvB x = some g → vA'.ownBlock ≠ some g) : RL wW w0 B gB gn vb0 N0 fin' vA' A' v vr N D S R (w.setCell ⟨gn, i, none⟩ y) := by
  have hne : ∀ q, q ≠ gn → (w.setCell ⟨gn, i, none⟩ y).heap[q]? = w.heap[q]? := fun q hq => Below.heap_setCell _ _ _ _ hq
  refine ⟨⟨⟨h.bst.keep fun q cs t hq hh => hne q (h.bst.apart_node h.box h.vn q cs t hq hh), h.bl.setCell (Nat.le_trans hB h.gg) _, ⟨h.fr.os, h.fr.tape, h.fr.output, by rw [World.size_setCell]; exact h.fr.size, fun q cs t hq h3 h4 h5 => (hne q (by have := h.gg; have := (Array.getElem?_eq_some_iff.1 hq).1; omega)).trans (h.fr.block q cs t hq h3 h4 h5)⟩, h.nr, h.ex⟩, set_one h.box hc, h.gg, h.vn⟩, ho.keep fun g hg => hne g ?_, hap⟩
  obtain ⟨cs, hcs⟩ := ho.obj hg
  exact cells_ty hcs h.box (by decide)
/-- behind a call of node -/
theorem RL.called (h : RL wW w0 B gB gn vb0 N0 fin vA A v vr N D S R w) {q : Nat × List Rst × List Nd} {e : Ending} (hp : RPost wW B gB q v N w e w') :
    e = .returned (.int .i64 (q.1 : Int)) ∧ ∃ v' vr' N' S', RL wW w0 B gB gn vb0 N0 fin vA A v' vr' N' q.2.2 S' q.2.1 w' := by
  obtain ⟨v', vr', N', S', E, rfl, hb, rfl, hE, hbl, hfr, hnr⟩ := hp
  have hw0 := h.fr.size
  have hgs := (Array.getElem?_eq_some_iff.1 h.box).1
  refine ⟨rfl, v', vr', _, S', ⟨⟨⟨hb, hbl, h.fr.trans hfr h.nr, h.nr.trans hnr hw0, ?_⟩, (hfr.block gn _ _ h.box (cells_ty h.box h.bst.rep (by decide)) h.vn (by decide)).trans h.box, h.gg, ?_⟩, h.own.keep fun g hg => ?_, fun x hx g hg => ?_⟩⟩
  · obtain ⟨E0, rfl, hE0⟩ := h.ex
    refine ⟨E0 ++ E, by rw [List.append_assoc], fun x hx g hg => ?_⟩
    rcases List.mem_append.1 hx with hx | hx
    · exact hE0 x hx g hg
    · exact Nat.le_trans hw0 (hE x hx g hg)
  · intro e
    rcases hnr with h1 | h1
    · exact h.vn (by rw [← h1]; exact e)
    · have := h1 gn e; omega
  · obtain ⟨cs, hcs⟩ := h.own.obj hg
    refine hfr.block g _ _ hcs (cells_ty hcs h.bst.rep (by decide)) (fun e => ?_) (by decide)
    obtain ⟨cs2, hc2⟩ := h.bst.own.obj e
    exact cells_ty hcs hc2 (by decide) rfl
  · intro e
    rcases List.mem_append.1 hx with hx | hx
    · exact h.apart x hx g hg e
    · have := hE x hx g hg; have := h.own.lt g e; omega
/-- behind an append to the row of arcs -/
theorem RL.app (h : RL wW w0 B gB gn vb0 N0 fin vA A v vr N D S R w) (hB : B ≤ w0.heap.size) (hg : w.grownBy w' vA.ownBlock) : RL1 wW w0 B gB gn vb0 N0 fin vA v vr N D S R w' := by
  have hk : ∀ q, q < w.heap.size → vA.ownBlock ≠ some q → w'.heap[q]? = w.heap[q]? := fun q hq hne => hg.block q hq (fun e => hne e.symm)
  have hty : ∀ (q : Nat) (cs : Array Value) (t : TypeId), w.heap[q]? = some (Obj.cells cs t (0, 0)) → t ≠ 56 → w'.heap[q]? = w.heap[q]? := fun q cs t hq ht => hk q (Array.getElem?_eq_some_iff.1 hq).1 fun e => by
    obtain ⟨cs2, hc2⟩ := h.own.obj e
    exact cells_ty hq hc2 ht rfl
  refine ⟨⟨h.bst.keep fun q cs t hq hh => ?_, h.bl.grown hg h.bst.size fun q hq => Nat.le_trans hB (h.own.ge q hq), ⟨hg.os.trans h.fr.os, hg.tape.trans h.fr.tape, hg.output.trans h.fr.output, Nat.le_trans h.fr.size hg.size, fun q cs t hq h3 h4 h5 => ?_⟩, h.nr, h.ex⟩, (hty gn _ _ h.box (by decide)).trans h.box, h.gg, h.vn⟩
  · rcases hh with rfl | hv | ⟨x, hx, hq2⟩ | rfl | rfl
    · exact hty _ _ _ h.bst.rep (by decide)
    · obtain ⟨cs2, hc2⟩ := h.bst.own.obj hv
      exact hty _ _ _ hc2 (by decide)
    · exact hk q (Array.getElem?_eq_some_iff.1 hq).1 fun e => h.apart x hx q hq2 e
    · exact hty _ _ _ hq (by decide)
    · exact hty _ _ _ hq (by decide)
  · have h6 := h.fr.size
    have hlt := (Array.getElem?_eq_some_iff.1 hq).1
    exact (hk q (by omega) (fun e => by have := h.own.ge q e; omega)).trans (h.fr.block q cs t hq h3 h4 h5)
/-- a row of strings of the call's own, as a list of rests -/
theorem RestIn.of_own {x : SV} {r : Rst} (h : OwnG rowStr w B (.slice x.a x.n x.c) (rowsB r)) (hb : r.length ≤ 1000) : RestIn wW B w x r := by
  obtain ⟨h1, h2, h3⟩ := h.strs
  rw [rowsB_len] at h2 h3
  exact ⟨h2, by omega, hb, .inr h⟩
theorem RL0.addD (h : RL0 wW w0 B gB vb0 N0 v vr N D S R w) (hb0 : B ≤ w0.heap.size) (ho : OwnG rowNode w' B va (N ++ [⟨false, none, 0, 0⟩])) (hg : w.grownBy w' v.ownBlock) (hat : va.ownBlock = v.ownBlock ∨ va.ownBlock = some w.heap.size) :
    RL0 wW w0 B gB vb0 N0 va vr (N ++ [⟨false, none, 0, 0⟩]) (D ++ [⟨false, []⟩]) S R (w'.setCell ⟨gB, 0, none⟩ va) := by
  have hsz := h.fr.size
  have hk : ∀ q, q < w.heap.size → v.ownBlock ≠ some q → w'.heap[q]? = w.heap[q]? := fun q hq hne => hg.block q hq (fun e => hne e.symm)
  have hne : ∀ q, q ≠ gB → (w'.setCell ⟨gB, 0, none⟩ va).heap[q]? = w'.heap[q]? := fun q hq => Below.heap_setCell _ _ _ _ hq
  have hrep : w'.heap[gB]? = some (.cells #[v, vr] 72 (0, 0)) := (hk gB (Array.getElem?_eq_some_iff.1 h.bst.rep).1 fun e => by
    obtain ⟨cs2, hc2⟩ := h.bst.own.obj e
    exact cells_ty h.bst.rep hc2 (by decide) rfl).trans h.bst.rep
  have hty : ∀ (q : Nat) (cs : Array Value) (t : TypeId), w.heap[q]? = some (Obj.cells cs t (0, 0)) → t ≠ 53 → t ≠ 72 → (w'.setCell ⟨gB, 0, none⟩ va).heap[q]? = w.heap[q]? := fun q cs t hq ht ht2 => (hne q (cells_ty hq h.bst.rep ht2)).trans (hk q (Array.getElem?_eq_some_iff.1 hq).1 fun e => by
    obtain ⟨cs2, hc2⟩ := h.bst.own.obj e
    exact cells_ty hq hc2 ht rfl)
  refine ⟨⟨set_one hrep rfl, ho.keep fun g hg2 => hne g ?_, by simp [h.bst.len], fun k h1 h2 => ?_, h.bst.rown.keep fun g hg2 => ?_, h.bst.slen, fun k h1 h2 => (h.bst.rests k h1 h2).keep fun q cs hq => hty q cs _ hq (by decide) (by decide), h.bst.gB⟩, (h.bl.grown hg h.bst.size fun q hq => h.bst.own.ge q hq).setCell h.bst.gB _, ⟨hg.os.trans h.fr.os, hg.tape.trans h.fr.tape, hg.output.trans h.fr.output, by rw [World.size_setCell]; exact Nat.le_trans hsz hg.size, fun q cs t hq h3 h4 h5 => ?_⟩, ?_, ?_⟩
  · obtain ⟨cs, hcs⟩ := ho.obj hg2
    exact cells_ty hcs hrep (by decide)
  · by_cases hkN : k < N.length
    · have hkD : k < D.length := by rw [← h.bst.len]; exact hkN
      obtain ⟨h3, h4⟩ := h.bst.arcs k hkN hkD
      simp only [List.getElem_append_left hkN, List.getElem_append_left hkD]
      exact ⟨h3, h4.keep fun g hgk => by
        obtain ⟨cs, hcs⟩ := h4.obj hgk
        exact hty g _ _ hcs (by decide) (by decide)⟩
    · obtain rfl : k = N.length := by rw [List.length_append] at h1; simp at h1; omega
      have e1 : (N ++ [(⟨false, none, 0, 0⟩ : NV)])[N.length] = ⟨false, none, 0, 0⟩ := by simp
      have e2 : (D ++ [(⟨false, []⟩ : Nd)])[N.length] = ⟨false, []⟩ := by simp [h.bst.len]
      rw [e1, e2]
      exact ⟨rfl, OwnG.nil _ _ _⟩
  · obtain ⟨cs, hcs⟩ := h.bst.rown.obj hg2
    exact hty g _ _ hcs (by decide) (by decide)
  · have hlt := (Array.getElem?_eq_some_iff.1 hq).1
    refine (hne q h3).trans ((hk q (by omega) fun e => ?_).trans (h.fr.block q cs t hq h3 h4 h5))
    rcases h.nr with h7 | h7
    · exact h4 (by rw [← h7]; exact e)
    · have := h7 q e; omega
  · rcases hat with h1 | h1
    · rw [h1]; exact h.nr
    · rw [h1]; exact .inr fun q hq => by injection hq with hq; omega
  · obtain ⟨E0, rfl, hE0⟩ := h.ex
    refine ⟨E0 ++ [⟨false, none, 0, 0⟩], by rw [List.append_assoc], fun x hx g hg => ?_⟩
    rcases List.mem_append.1 hx with hx | hx
    · exact hE0 x hx g hg
    · obtain rfl := List.mem_singleton.1 hx; cases hg
theorem RL0.addR {vra : Value} {x : SV} {r : Rst} (h : RL0 wW w0 B gB vb0 N0 v vr N D S R w) (hb0 : B ≤ w0.heap.size) (hx : RestIn wW B w x r) (ho : OwnG rowRest w' B vra (S ++ [x])) (hg : w.grownBy w' vr.ownBlock) :
    RL0 wW w0 B gB vb0 N0 v vra N D (S ++ [x]) (R ++ [r]) (w'.setCell ⟨gB, 1, none⟩ vra) := by
  have hsz := h.fr.size
  have hk : ∀ q, q < w.heap.size → vr.ownBlock ≠ some q → w'.heap[q]? = w.heap[q]? := fun q hq hne => hg.block q hq (fun e => hne e.symm)
  have hne : ∀ q, q ≠ gB → (w'.setCell ⟨gB, 1, none⟩ vra).heap[q]? = w'.heap[q]? := fun q hq => Below.heap_setCell _ _ _ _ hq
  have hrep : w'.heap[gB]? = some (.cells #[v, vr] 72 (0, 0)) := (hk gB (Array.getElem?_eq_some_iff.1 h.bst.rep).1 fun e => by
    obtain ⟨cs2, hc2⟩ := h.bst.rown.obj e
    exact cells_ty h.bst.rep hc2 (by decide) rfl).trans h.bst.rep
  have hty : ∀ (q : Nat) (cs : Array Value) (t : TypeId), w.heap[q]? = some (Obj.cells cs t (0, 0)) → t ≠ 26 → q ≠ gB → (w'.setCell ⟨gB, 1, none⟩ vra).heap[q]? = w.heap[q]? := fun q cs t hq ht ht2 => (hne q ht2).trans (hk q (Array.getElem?_eq_some_iff.1 hq).1 fun e => by
    obtain ⟨cs2, hc2⟩ := h.bst.rown.obj e
    exact cells_ty hq hc2 ht rfl)
  refine ⟨⟨set_one hrep rfl, h.bst.own.keep fun g hg2 => ?_, h.bst.len, fun k h1 h2 => ⟨(h.bst.arcs k h1 h2).1, (h.bst.arcs k h1 h2).2.keep fun g hgk => ?_⟩, ho.keep fun g hg2 => hne g ?_, by simp [h.bst.slen], fun k h1 h2 => ?_, h.bst.gB⟩, (h.bl.grown hg h.bst.size fun q hq => h.bst.rown.ge q hq).setCell h.bst.gB _, ⟨hg.os.trans h.fr.os, hg.tape.trans h.fr.tape, hg.output.trans h.fr.output, by rw [World.size_setCell]; exact Nat.le_trans hsz hg.size, fun q cs t hq h3 h4 h5 => ?_⟩, h.nr, h.ex⟩
  · obtain ⟨cs, hcs⟩ := h.bst.own.obj hg2
    exact hty g _ _ hcs (by decide) (cells_ty hcs h.bst.rep (by decide))
  · obtain ⟨cs, hcs⟩ := (h.bst.arcs k h1 h2).2.obj hgk
    exact hty g _ _ hcs (by decide) (cells_ty hcs h.bst.rep (by decide))
  · obtain ⟨cs, hcs⟩ := ho.obj hg2
    exact cells_ty hcs hrep (by decide)
  · have hkeep : ∀ {y : SV} {q : Rst}, RestIn wW B w y q → RestIn wW B (w'.setCell ⟨gB, 1, none⟩ vra) y q := fun hy => hy.keep fun q cs hq => hty q cs _ hq (by decide) (cells_ty hq h.bst.rep (by decide))
    by_cases hkS : k < S.length
    · have hkR : k < R.length := by rw [← h.bst.slen]; exact hkS
      simp only [List.getElem_append_left hkS, List.getElem_append_left hkR]
      exact hkeep (h.bst.rests k hkS hkR)
    · obtain rfl : k = S.length := by rw [List.length_append] at h1; simp at h1; omega
      have e1 : (S ++ [x])[S.length] = x := by simp
      have e2 : (R ++ [r])[S.length] = r := by simp [h.bst.slen]
      rw [e1, e2]
      exact hkeep hx
  · have hlt := (Array.getElem?_eq_some_iff.1 hq).1
    have e := h.fr.block q cs t hq h3 h4 h5
    exact (hty q cs t (e.trans hq) h5 h3).trans e
theorem flat_set0 : ∀ {N : List NV} {k : Nat} (hk : k < N.length) (f : Bool), (N.set k ⟨f, N[k].a, N[k].n, N[k].c⟩).flatMap rowNode.enc = (N.flatMap rowNode.enc).set (k * 2) (.bool f)
  | x :: r, 0, _, f => by simp [rowNode]
  | x :: r, k + 1, hk, f => by
    have ih := flat_set0 (N := r) (k := k) (by simpa using hk) f
    have e : (k + 1) * 2 = (k * 2) + 1 + 1 := by omega
    simp only [List.set_cons_succ, List.getElem_cons_succ, List.flatMap_cons, e]
    rw [ih]
    simp [rowNode]
theorem OwnG.setFin {g n c0 : Nat} {N : List NV} {k : Nat} (h : OwnG rowNode w B (.slice (some ⟨g, 0, none⟩) n c0) N) (hk : k < N.length) (f : Bool) :
    OwnG rowNode (w.setCell ⟨g, k * 2, none⟩ (.bool f)) B (.slice (some ⟨g, 0, none⟩) n c0) (N.set k ⟨f, N[k].a, N[k].n, N[k].c⟩) := by
  have hf := flat_set0 hk f
  have hlen := flat_len rowNode_ok N
  rcases id h.2 with ⟨he, _⟩ | ⟨g', cap, cur, he, h1, h2, h3, h4, h5, h6⟩
  · cases he
  · injection he with e1 e2 e3
    injection e1 with e1
    injection e1 with e1
    subst e1 e3
    refine ⟨by rw [hf, List.length_set, hlen, List.length_set], .inr ⟨g, c0, cur.setIfInBounds (k * 2) (.bool f), by rw [List.length_set, e2], h1, set_one h2 rfl, by rw [List.length_set]; exact h3, h4, by simp [h5], ?_⟩⟩
    rw [hf, ← h6, List.length_set]
    simp only [Array.toList_setIfInBounds]
    rw [List.take_set]
/-- the node stored in its place -/
theorem RL.done {n g cr c : Nat} {a : Option Addr} (h : RL wW w0 B gB gn vb0 N0 fin (.slice a A.length c) A (.slice (some ⟨g, 0, none⟩) N.length cr) vr N D S R w) (hb0 : B ≤ w0.heap.size) (hn : N0.length = n) (hn2 : n < N.length) :
    ∃ N', RL0 wW w0 B gB vb0 N0 (.slice (some ⟨g, 0, none⟩) N.length cr) vr N' (D.set n ⟨fin, A⟩) S R ((w.setCell ⟨g, n * 2, none⟩ (.bool fin)).setCell ⟨g, n * 2 + 1, none⟩ (.slice a A.length c)) := by
  obtain ⟨w2, hw2⟩ : ∃ w2, (w.setCell ⟨g, n * 2, none⟩ (.bool fin)).setCell ⟨g, n * 2 + 1, none⟩ (.slice a A.length c) = w2 := ⟨_, rfl⟩
  have hne : ∀ q, q ≠ g → w2.heap[q]? = w.heap[q]? := fun q hq => by
    rw [← hw2]; exact (Below.heap_setCell _ _ _ _ hq).trans (Below.heap_setCell _ _ _ _ hq)
  have ho1 := h.bst.own.setFin hn2 fin
  have ho2 := ho1.setArcs (k := n) (by rw [List.length_set]; exact hn2) a A.length c
  rw [hw2] at ho2
  obtain ⟨csg, hcg⟩ := h.bst.own.obj (g := g) rfl
  have hty : ∀ (q : Nat) (cs : Array Value) (t : TypeId), w.heap[q]? = some (Obj.cells cs t (0, 0)) → t ≠ 53 → w2.heap[q]? = w.heap[q]? := fun q cs t hq ht => hne q (cells_ty hq hcg ht)
  have hsz : w2.heap.size = w.heap.size := by rw [← hw2, World.size_setCell, World.size_setCell]
  have hgB := h.bst.own.ge g rfl
  have hN' : (N.set n (⟨fin, N[n].a, N[n].n, N[n].c⟩ : NV)).set n ⟨((N.set n (⟨fin, N[n].a, N[n].n, N[n].c⟩ : NV))[n]'(by rw [List.length_set]; exact hn2)).fin, a, A.length, c⟩ = N.set n ⟨fin, a, A.length, c⟩ := by
    rw [List.set_set]
    congr 1
    rw [List.getElem_set_self]
  rw [hN'] at ho2
  rw [hw2]
  have hbl2 : Below B wW w2 := by rw [← hw2]; exact (h.bl.setCell hgB _).setCell hgB _
  refine ⟨N.set n ⟨fin, a, A.length, c⟩, ⟨(hty gB _ _ h.bst.rep (by decide)).trans h.bst.rep, ho2, by simp [h.bst.len], fun k h1 h2 => ?_, h.bst.rown.keep fun q hq => ?_, h.bst.slen, fun k h1 h2 => (h.bst.rests k h1 h2).keep fun q cs hq => hty q cs _ hq (by decide), h.bst.gB⟩, hbl2, ⟨?_, ?_, ?_, by rw [hsz]; exact h.fr.size, fun q cs t hq h3 h4 h5 => ?_⟩, h.nr, ?_⟩
  · rw [List.length_set] at h1 h2
    by_cases e : k = n
    · subst e
      simp only [List.getElem_set_self]
      refine ⟨trivial, (h.own.mono hb0).keep fun q hq => ?_⟩
      obtain ⟨cs, hcs⟩ := h.own.obj hq
      exact hty q _ _ hcs (by decide)
    · simp only [List.getElem_set_ne (Ne.symm e)]
      refine ⟨(h.bst.arcs k h1 h2).1, (h.bst.arcs k h1 h2).2.keep fun q hq => ?_⟩
      obtain ⟨cs, hcs⟩ := (h.bst.arcs k h1 h2).2.obj hq
      exact hty q _ _ hcs (by decide)
  · obtain ⟨cs, hcs⟩ := h.bst.rown.obj hq
    exact hty q _ _ hcs (by decide)
  · rw [← hw2]; exact h.fr.os
  · rw [← hw2]; exact h.fr.tape
  · rw [← hw2]; exact h.fr.output
  · have hlt := (Array.getElem?_eq_some_iff.1 hq).1
    refine (hne q fun e => ?_).trans (h.fr.block q cs t hq h3 h4 h5)
    subst e
    rcases h.nr with h7 | h7
    · exact h4 (by rw [← h7]; rfl)
    · have := h7 q rfl; omega
  · obtain ⟨X, hX, hX2⟩ := h.ex
    refine ⟨X.set 0 ⟨fin, a, A.length, c⟩, ?_, fun x hx q hq => ?_⟩
    · rw [hX, List.set_append_right _ _ (by omega), hn, Nat.sub_self]
    · rcases List.mem_or_eq_of_mem_set hx with hx | rfl
      · exact hX2 x hx q hq
      · exact h.own.ge q hq
theorem RL0.post {q : Nat × List Rst × List Nd} (h : RL0 wW w B gB v.ownBlock N0 va vr N q.2.2 S q.2.1 w') : RPost wW B gB q v N0 w (.returned (.int .i64 (q.1 : Int))) w' := by
  obtain ⟨E, h1, h2⟩ := h.ex
  exact ⟨va, vr, N, S, E, rfl, h.bst, h1, h2, h.bl, h.fr, h.nr⟩
theorem RestIn.fr {x : SV} {r : Rst} (h : RestIn wW B w x r) (hb : RSt wW w B gB v vr N D S R) (hf : FrR gB v.ownBlock w w') : RestIn wW B w' x r :=
  h.keep fun q cs hq => hf.block q cs _ hq (cells_ty hq hb.rep (by decide)) (fun e => by
    obtain ⟨cs2, hc2⟩ := hb.own.obj e
    exact cells_ty hq hc2 (by decide) rfl) (by decide)
theorem RSt.repD (h : RSt wW w B gB v vr N D S R) (hg : w.grownBy w' v.ownBlock) : w'.heap[gB]? = some (.cells #[v, vr] 72 (0, 0)) :=
  (hg.block gB (Array.getElem?_eq_some_iff.1 h.rep).1 fun e => by
    obtain ⟨cs2, hc2⟩ := h.own.obj e.symm
    exact cells_ty h.rep hc2 (by decide) rfl).trans h.rep
theorem RSt.repR (h : RSt wW w B gB v vr N D S R) (hg : w.grownBy w' vr.ownBlock) : w'.heap[gB]? = some (.cells #[v, vr] 72 (0, 0)) :=
  (hg.block gB (Array.getElem?_eq_some_iff.1 h.rep).1 fun e => by
    obtain ⟨cs2, hc2⟩ := h.rown.obj e.symm
    exact cells_ty h.rep hc2 (by decide) rfl).trans h.rep
theorem RL0.rows_lt (h : RL0 wW w0 B gB vb0 N0 v vr N D S R w) : ∀ x ∈ N, ∀ g, nvB x = some g → g < w.heap.size := fun x hx g hg => by
  obtain ⟨cs, hcs⟩ := h.bst.row_ty x hx g hg
  exact (Array.getElem?_eq_some_iff.1 hcs).1
end
end Go.Proofs.YtocdljmdmiphnaaDoor
