/- Reference 04's levels: chains that are one rule longer. -/
import Derived.Test.YtogjcfcfgnbmkaaRefD
import Derived.Laws.AppendOwnNone
namespace Go.Proofs.Ytogjcfcfgnbmkaa
open Go.RowKit
set_option linter.unusedVariables false
set_option linter.unusedSimpArgs false

/-- append(v, ys...) where ys is a chain, nil or not -/
theorem wpList_append_ch {w : World} {ops : Array Oper} {rest : List Oper} {o : Oper} {a : Act} {Q : Exit → Act → World → Prop} (hgd : o.guard = none) (s x : Operand)
    (ho : o.op = .call { callee := .builtin .append, args := #[s, x], argTypes := #[38, 38] }) (base : Nat) (v : Value) (n : Nat) (xs : List Value) (hs : a.eval s = v) (hown : w.ownsRow base 3 1 v n xs)
    (B0 : Nat) (vx : Value) (ys : List Nat) (hx : a.eval x = vx) (hch : Ch w B0 vx ys) (hl : n + ys.length ≤ 1000) (hbase : base ≤ w.heap.size)
    (h : ∀ v' w', w'.ownsRow base 3 1 v' (n + ys.length) (xs ++ nats ys) → w.grownBy w' v.ownBlock → wpList Try.prog ops Q rest (a.put o.dst v') w') : wpList Try.prog ops Q (o :: rest) a w := by
  obtain ⟨i0, hi, hz0, hz1, hz2⟩ := info_parts info_int
  rcases id hch.2 with ⟨rfl, h0⟩ | ⟨g, cp, cur, rfl, _⟩
  · obtain rfl : ys = [] := List.eq_nil_of_length_eq_zero h0
    refine wpList_append_own_none hgd s x 38 ho base 3 i0 1 Try.underlying38 hi v n xs hs hown hx (h v w ?_ (World.grownBy.refl w _))
    simpa [nats] using hown
  · refine wpList_append_own w hgd s x 38 ho base 3 i0 (.int .i64 0) 1 8 Try.underlying38 hi hz0 hz1 hz2 rfl (by decide) v n xs hs hown ⟨g, 0, none⟩ ys.length cp (nats ys) hx (by rw [nats_length]; omega)
      (fun j u hj => World.ownsRow.cells (g := g) hch rfl j u hj) (fun u hu => by obtain ⟨k, _, rfl⟩ := List.mem_map.1 hu; rfl) (by unfold maxLen; omega) (by omega) hbase (fun v' w' h1 h2 _ => h v' w' h1 h2)

/-! ### Walks -/
structure Wk where
  is : Nat → Bool
  ch : Nat → List Nat
def Wk.empty : Wk := ⟨fun _ => false, fun _ => []⟩
def Wk.put (k : Wk) (t : Nat) (l : List Nat) : Wk := ⟨fun j => if j = t then true else k.is j, fun j => if j = t then l else k.ch j⟩
def stepK (use : Rl → Bool) (K : Wk) (O : Wk) (i : Nat) (r : Rl) : Wk :=
  if K.is r.frm.toNat && use r then
    (if !O.is r.dst.toNat || beforeB (ints (K.ch r.frm.toNat ++ [i])) (ints (O.ch r.dst.toNat)) then O.put r.dst.toNat (K.ch r.frm.toNat ++ [i]) else O)
  else O
def nextTo (use : Rl → Bool) (R : List Rl) (K : Wk) : Nat → Wk
  | 0 => Wk.empty
  | k + 1 => if h : k < R.length then stepK use K (nextTo use R K k) k R[k] else nextTo use R K k
def nextK (use : Rl → Bool) (R : List Rl) (K : Wk) : Wk := nextTo use R K R.length

def wkL (is : Nat → Bool) (vs : Nat → Value) : List Value := (List.range 8).map (fun i => Value.bool (is i)) ++ (List.range 8).map vs
theorem wkL_is {is : Nat → Bool} {vs : Nat → Value} {i : Nat} (h : i < 8) : (wkL is vs)[i]? = some (.bool (is i)) := by
  rw [wkL, List.getElem?_append_left (by simpa using h), List.getElem?_map, List.getElem?_range h]; rfl
theorem wkL_vs {is : Nat → Bool} {vs : Nat → Value} {i : Nat} (h : i < 8) : (wkL is vs)[8 + i]? = some (vs i) := by
  rw [wkL, List.getElem?_append_right (by simp), List.getElem?_map]
  simp [h]
def WkRow (w : World) (g : Nat) (is : Nat → Bool) (vs : Nat → Value) : Prop := w.heap[g]? = some (.cells (wkL is vs).toArray 91 (0, 0))
theorem WkRow.is {w : World} {g i : Nat} {is : Nat → Bool} {vs : Nat → Value} (h : WkRow w g is vs) (hi : i < 8) : w.cell? ⟨g, i, none⟩ = some (.bool (is i)) := by
  rw [cell_of_row w g i _ _ (0, 0) h, List.getElem?_toArray, wkL_is hi]
theorem WkRow.vs {w : World} {g i : Nat} {is : Nat → Bool} {vs : Nat → Value} (h : WkRow w g is vs) (hi : i < 8) : w.cell? ⟨g, 8 + i, none⟩ = some (vs i) := by
  rw [cell_of_row w g _ _ _ (0, 0) h, List.getElem?_toArray, wkL_vs hi]
theorem WkRow.free {w : World} {g i : Nat} {is : Nat → Bool} {vs : Nat → Value} (h : WkRow w g is vs) : w.frozen? ⟨g, i, none⟩ = false := by unfold WkRow at h; simp [World.frozen?, h]
theorem WkRow.below {w w1 : World} {g B : Nat} {is : Nat → Bool} {vs : Nat → Value} (h : WkRow w g is vs) (hb : Below B w w1) (hg : g < B) : WkRow w1 g is vs := (hb.block g hg).trans h
theorem WkRow.lt {w : World} {g : Nat} {is : Nat → Bool} {vs : Nat → Value} (h : WkRow w g is vs) : g < w.heap.size := (Array.getElem?_eq_some_iff.1 h).1
theorem wkL_len (is : Nat → Bool) (vs : Nat → Value) : (wkL is vs).length = 16 := by simp [wkL]
theorem wkL_ext {is is' : Nat → Bool} {vs vs' : Nat → Value} {l : List Value} (hl : l.length = 16) (h1 : ∀ i, i < 8 → l[i]? = some (.bool (is i))) (h2 : ∀ i, i < 8 → l[8 + i]? = some (vs i)) : l = wkL is vs := by
  apply List.ext_getElem?
  intro i
  by_cases h : i < 8
  · rw [h1 i h, wkL_is h]
  · by_cases h' : i < 16
    · obtain ⟨j, rfl⟩ : ∃ j, i = 8 + j := ⟨i - 8, by omega⟩
      rw [h2 j (by omega), wkL_vs (by omega)]
    · rw [List.getElem?_eq_none (by omega), List.getElem?_eq_none (by rw [wkL_len]; omega)]
theorem WkRow.set {w : World} {g t : Nat} {is : Nat → Bool} {vs : Nat → Value} {v : Value} (h : WkRow w g is vs) (ht : t < 8) :
    WkRow ((w.setCell ⟨g, t, none⟩ (.bool true)).setCell ⟨g, 8 + t, none⟩ v) g (fun j => if j = t then true else is j) (fun j => if j = t then v else vs j) := by
  unfold WkRow at h ⊢
  simp only [World.setCell]
  rw [Array.getElem?_modify, if_pos rfl, Array.getElem?_modify, if_pos rfl, h]
  simp only [Option.map_some, Option.isSome_none, Bool.false_eq_true, if_false]
  congr 2
  apply Array.ext'
  simp only [Array.toList_setIfInBounds]
  refine wkL_ext (is' := is) (vs' := vs) (by simp [wkL_len]) (fun i hi => ?_) (fun i hi => ?_)
  · rw [List.getElem?_set_ne (by omega), List.getElem?_set]
    by_cases e : t = i
    · subst e; rw [if_pos rfl, wkL_len, if_pos (by omega), if_pos rfl]
    · rw [if_neg e, wkL_is hi, if_neg (fun h => e h.symm)]
  · rw [List.getElem?_set]
    by_cases e : t = i
    · subst e; rw [if_pos rfl, List.length_set, wkL_len, if_pos (by omega), if_pos rfl]
    · rw [if_neg (by omega), List.getElem?_set_ne (by omega), wkL_vs hi, if_neg (fun h => e h.symm)]

/-- the round's state: K came in, O is being built in block g -/
structure NX (B : Nat) (M : World) (g : Nat) (K O : Wk) (vK vO : Nat → Value) (wr : World) : Prop where
  okK : ∀ t, t < 8 → Ch wr 0 (vK t) (K.ch t)
  okO : ∀ t, t < 8 → Ch wr B (vO t) (O.ch t)
  row : WkRow wr g O.is vO
  bl : Below g M wr
  gB : B ≤ g
section
variable {B : Nat} {M : World} {g : Nat} {K O : Wk} {vK vO : Nat → Value} {wr w1 : World}
theorem NX.below (h : NX B M g K O vK vO wr) (hb : Below wr.heap.size wr w1) : NX B M g K O vK vO w1 :=
  ⟨fun t ht => (h.okK t ht).below hb (h.okK t ht).lt, fun t ht => (h.okO t ht).below hb (h.okO t ht).lt, h.row.below hb h.row.lt, h.bl.trans (hb.mono (by have := h.row.lt; omega)), h.gB⟩
theorem ch_setW {w : World} {B g i : Nat} {v u : Value} {xs : List Nat} {is : Nat → Bool} {vs : Nat → Value} (h : Ch w B v xs) (hg : WkRow w g is vs) (u2 : Value) (i2 : Nat) : Ch ((w.setCell ⟨g, i, none⟩ u).setCell ⟨g, i2, none⟩ u2) B v xs := by
  refine h.same fun b hb => ?_
  have hne : b ≠ g := fun e => by
    obtain ⟨cs', h2⟩ := h.own hb
    rw [e] at h2
    unfold WkRow at hg
    rw [hg] at h2; cases h2
  rw [Below.heap_setCell _ _ _ _ hne, Below.heap_setCell _ _ _ _ hne]
theorem NX.store (h : NX B M g K O vK vO wr) {t : Nat} (ht : t < 8) {v : Value} {l : List Nat} (hv : Ch wr B v l) :
    NX B M g K (O.put t l) vK (fun j => if j = t then v else vO j) ((wr.setCell ⟨g, t, none⟩ (.bool true)).setCell ⟨g, 8 + t, none⟩ v) := by
  refine ⟨fun j hj => ch_setW (h.okK j hj) h.row _ _, fun j hj => ?_, h.row.set ht, (h.bl.setCell (Nat.le_refl _) _).setCell (Nat.le_refl _) _, h.gB⟩
  show Ch _ _ (if j = t then v else vO j) (if j = t then l else O.ch j)
  by_cases e : j = t
  · rw [if_pos e, if_pos e]; exact ch_setW hv h.row _ _
  · rw [if_neg e, if_neg e]; exact ch_setW (h.okO j hj) h.row _ _
end
theorem stepK_len {use : Rl → Bool} {K O : Wk} {i L : Nat} {r : Rl} (hK : ∀ t, t < 8 → (K.ch t).length ≤ L) (hO : ∀ t, t < 8 → (O.ch t).length ≤ L + 1) (hf : r.frm.toNat < 8) : ∀ t, t < 8 → ((stepK use K O i r).ch t).length ≤ L + 1 := by
  intro t ht
  unfold stepK
  split
  · split
    · show (if t = r.dst.toNat then K.ch r.frm.toNat ++ [i] else O.ch t).length ≤ L + 1
      split
      · have := hK _ hf; rw [List.length_append]; simp only [List.length_cons, List.length_nil]; omega
      · exact hO t ht
    · exact hO t ht
  · exact hO t ht
theorem nextTo_len {use : Rl → Bool} {R : List Rl} {K : Wk} {L : Nat} (hK : ∀ t, t < 8 → (K.ch t).length ≤ L) (hf : ∀ r ∈ R, r.frm.toNat < 8) : ∀ k t, t < 8 → ((nextTo use R K k).ch t).length ≤ L + 1
  | 0, t, _ => by simp [nextTo, Wk.empty]
  | k + 1, t, ht => by
    rw [nextTo]
    split
    · rename_i h; exact stepK_len hK (nextTo_len hK hf k) (hf _ (List.getElem_mem h)) t ht
    · exact nextTo_len hK hf k t ht
end Go.Proofs.Ytogjcfcfgnbmkaa
