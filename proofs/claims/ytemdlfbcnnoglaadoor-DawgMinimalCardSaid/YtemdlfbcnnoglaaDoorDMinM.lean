/- DawgMinimal: memory. Rows of bools; the lists that were kept; a copy whose first node is changed. -/
import Derived.Test.YtemdlfbcnnoglaaDoorDMin
import Derived.Test.YtemdlfbcnnoglaaDoorDSpl
import Derived.Deep.OwnRows
namespace Go.Proofs.YtemdlfbcnnoglaaDoor
open Go.RowKit Go.WideShapes
set_option linter.unusedVariables false
set_option linter.unusedSimpArgs false

def maskF (n : Nat) (f : Nat → Bool) : List Bool := (List.range n).map f
theorem maskF_len (n : Nat) (f : Nat → Bool) : (maskF n f).length = n := by simp [maskF]
theorem maskF_get {n i : Nat} {f : Nat → Bool} (h : i < n) : (maskF n f)[i]? = some (f i) := by
  rw [maskF, List.getElem?_map, List.getElem?_range h]; rfl
theorem maskF_set {n t : Nat} {f : Nat → Bool} {b : Bool} : (maskF n f).set t b = maskF n (fun j => if j = t then b else f j) := by
  apply List.ext_getElem?
  intro i
  rw [List.getElem?_set]
  by_cases hi : i < n
  · rw [maskF_get hi, maskF_get hi, maskF_len]
    by_cases e : t = i
    · subst e; simp [hi]
    · rw [if_neg e, if_neg (fun h => e h.symm)]
  · have h1 : (maskF n f)[i]? = none := by rw [List.getElem?_eq_none]; rw [maskF_len]; omega
    have h2 : (maskF n (fun j => if j = t then b else f j))[i]? = none := by rw [List.getElem?_eq_none]; rw [maskF_len]; omega
    rw [h1, h2, maskF_len]
    split
    · rw [if_neg (by omega)]
    · rfl
def BoolRow (w : World) (g n : Nat) (f : Nat → Bool) : Prop := w.heap[g]? = some (.cells ((maskF n f).map Value.bool).toArray 4 (0, 0))
theorem BoolRow.cell {w : World} {g n i : Nat} {f : Nat → Bool} (h : BoolRow w g n f) (hi : i < n) : w.cell? ⟨g, i, none⟩ = some (.bool (f i)) := by
  rw [cell_of_row w g i _ _ (0, 0) h]
  rw [List.getElem?_toArray, List.getElem?_map, maskF_get hi]; rfl
theorem BoolRow.free {w : World} {g n i : Nat} {f : Nat → Bool} (h : BoolRow w g n f) : w.frozen? ⟨g, i, none⟩ = false := by unfold BoolRow at h; simp [World.frozen?, h]
theorem BoolRow.set {w : World} {g n i : Nat} {f : Nat → Bool} {b : Bool} (h : BoolRow w g n f) : BoolRow (w.setCell ⟨g, i, none⟩ (.bool b)) g n (fun j => if j = i then b else f j) := by
  unfold BoolRow at h ⊢
  simp only [World.setCell]
  rw [Array.getElem?_modify, if_pos rfl, h, ← maskF_set]
  simp [List.map_set]
theorem BoolRow.lt {w : World} {g n : Nat} {f : Nat → Bool} (h : BoolRow w g n f) : g < w.heap.size := (Array.getElem?_eq_some_iff.1 h).1
theorem BoolRow.go {w w1 : World} {g n : Nat} {f : Nat → Bool} (h : BoolRow w g n f) (hb : Below w.heap.size w w1) : BoolRow w1 g n f := (hb.block g h.lt).trans h
theorem info_bool : (Tryd.prog.info? 4).map (fun i => (i.zero, i.size, i.bytes)) = some (some (.bool false), 1, 1) := by kernel_rfl
theorem make_bools (n : Nat) (h : n ≤ 60) (W : World) : (Instr.makeSlice 44 (.int .i64 (n : Int)) (.int .i64 (n : Int))).run Tryd.prog W = .ok (.slice (some ⟨W.heap.size, 0, none⟩) n n) (W.alloc (.cells ((maskF n fun _ => false).map Value.bool).toArray 4)) := by
  have := run_make_row' (P := Tryd.prog) 44 4 (.bool false) 1 Tryd.underlying44 info_bool rfl .i64 .i64 n (by omega) (by omega) W
  rw [this]
  have e : madeCells #[Value.bool false] n = ((maskF n fun _ => false).map Value.bool).toArray := by
    apply Array.ext
    · simp [madeCells, maskF]
    · intro i h1 h2
      simp [madeCells, maskF, Nat.mod_one]
  rw [e]
/-- a new empty row -/
def RowE0 (B : Nat) (e : TypeId) (v : Value) (W : World) : Prop := ∃ g, v = .slice (some ⟨g, 0, none⟩) 0 0 ∧ W.heap[g]? = some (.cells #[] e (0, 0)) ∧ B ≤ g
theorem rowE0_stays (B : Nat) (e : TypeId) : Stays (RowE0 B e) := by
  rintro v w w' ⟨g, hv, hg, hB⟩ hx
  exact ⟨g, hv, (Below.block hx g (Array.getElem?_eq_some_iff.1 hg).1).trans hg, hB⟩
/-- a new row of bools -/
def BoolS (B n : Nat) (v : Value) (W : World) : Prop := ∃ g, v = .slice (some ⟨g, 0, none⟩) n n ∧ BoolRow W g n (fun _ => false) ∧ B ≤ g
theorem boolS_stays (B n : Nat) : Stays (BoolS B n) := by
  rintro v w w' ⟨g, hv, hg, hB⟩ hx
  exact ⟨g, hv, hg.go hx, hB⟩
/-- the lists that were kept -/
def RestsAt (w : World) (B : Nat) (Mt : List Rst) (n : Nat) (v : Value) : Prop :=
  ∃ S : List SV, S.length = n ∧ OwnG rowRest w B v S ∧ ∀ k (h : k < S.length), ∃ r, Mt[k]? = some r ∧ S[k].n = r.length ∧ OwnG rowStr w B (.slice S[k].a S[k].n S[k].c) (rowsB r)
theorem RestsAt.go {w w1 : World} {B : Nat} {Mt : List Rst} {n : Nat} {v : Value} (h : RestsAt w B Mt n v) (hb : Below w.heap.size w w1) : RestsAt w1 B Mt n v := by
  obtain ⟨S, h1, h2, h3⟩ := h
  refine ⟨S, h1, h2.later hb (Nat.le_refl _), fun k hk => ?_⟩
  obtain ⟨r, a, b, c⟩ := h3 k hk
  exact ⟨r, a, b, c.later hb (Nat.le_refl _)⟩
theorem RestsAt.form {w : World} {B : Nat} {Mt : List Rst} {n : Nat} {v : Value} (h : RestsAt w B Mt n v) : ∃ a c, v = .slice a n c := by
  obtain ⟨S, rfl, h2, h3⟩ := h
  obtain ⟨a, c, h, _⟩ := h2.form
  exact ⟨a, c, h⟩
theorem RestsAt.at {w : World} {B : Nat} {Mt : List Rst} {n : Nat} {v : Value} (h : RestsAt w B Mt n v) {k : Nat} (hk : k < n) :
    ∃ g c a m cc r, v = .slice (some ⟨g, 0, none⟩) n c ∧ w.cell? ⟨g, k, none⟩ = some (.slice a m cc) ∧ g < w.heap.size ∧ Mt[k]? = some r ∧ m = (rowsB r).length ∧ StrS w a (rowsB r) := by
  obtain ⟨S, rfl, h2, h3⟩ := h
  obtain ⟨r, a, b, c⟩ := h3 k hk
  rcases h2.blk with ⟨_, h⟩ | ⟨g, c0, e, _, hg, _⟩
  · rw [h] at hk; simp at hk
  · subst e
    have hc := h2.cell rowRest_ok (i := k) (j := 0) hk (by decide)
    rw [show rowRest.k = 1 from rfl, Nat.mul_one, Nat.add_zero] at hc
    exact ⟨g, c0, _, _, _, r, rfl, hc, hg, a, by rw [rowsB_len]; exact b, c.strs.1⟩
/-- blocks of other types are not the row's -/
theorem OwnG.ne_of {α β : Type} {T : RowT α} {U : RowT β} {w : World} {B C : Nat} {v u : Value} {L : List α} {M : List β} (h : OwnG T w B v L) (h2 : OwnG U w C u M) (he : T.e ≠ U.e) : ∀ q, v.ownBlock = some q → some q ≠ u.ownBlock := fun q hq e => by
  obtain ⟨c1, e1⟩ := h.obj hq
  obtain ⟨c2, e2⟩ := h2.obj e.symm
  rw [e1] at e2
  injection e2 with e2
  injection e2 with _ e2
  exact he e2
theorem BoolRow.ne_of {β : Type} {U : RowT β} {w : World} {C g n : Nat} {f : Nat → Bool} {u : Value} {M : List β} (h : BoolRow w g n f) (h2 : OwnG U w C u M) (he : 4 ≠ U.e) : some g ≠ u.ownBlock := fun e => by
  obtain ⟨c2, e2⟩ := h2.obj e.symm
  unfold BoolRow at h
  rw [h] at e2
  injection e2 with e2
  injection e2 with _ e2
  exact he e2
/-- a list more is kept -/
theorem RestsAt.more {w w1 : World} {B : Nat} {Mt : List Rst} {n : Nat} {v v' : Value} {a : Option Addr} {c : Nat} {r : Rst} {S : List SV} (hSl : S.length = n) (h2 : OwnG rowRest w B v S)
    (h3 : ∀ k (h : k < S.length), ∃ r, Mt[k]? = some r ∧ S[k].n = r.length ∧ OwnG rowStr w B (.slice S[k].a S[k].n S[k].c) (rowsB r)) (hr : Mt[n]? = some r) (ho : OwnG rowStr w B (.slice a r.length c) (rowsB r))
    (happ : OwnG rowRest w1 B v' (S ++ [⟨a, r.length, c⟩])) (hg : w.grownBy w1 v.ownBlock) : RestsAt w1 B Mt (n + 1) v' := by
  subst hSl
  refine ⟨S ++ [⟨a, r.length, c⟩], by simp, happ, fun k hk => ?_⟩
  rw [List.length_append, List.length_singleton] at hk
  by_cases e : k < S.length
  · rw [List.getElem_append_left e]
    obtain ⟨q, a1, b1, c1⟩ := h3 k e
    exact ⟨q, a1, b1, c1.grown hg (c1.ne_of h2 (by decide))⟩
  · obtain rfl : k = S.length := by omega
    rw [List.getElem_append_right (Nat.le_refl _)]
    simp only [Nat.sub_self, List.getElem_singleton]
    exact ⟨r, hr, rfl, ho.grown hg (ho.ne_of h2 (by decide))⟩
theorem BoolRow.grown {w w1 : World} {g n : Nat} {f : Nat → Bool} {row : Option Nat} (h : BoolRow w g n f) (hg : w.grownBy w1 row) (hr : some g ≠ row) : BoolRow w1 g n f := (hg.block g h.lt hr).trans h
theorem idx_bools (g len cap k : Nat) (hk : k < len) (w : World) :
    (Instr.indexAt 44 (.slice (some ⟨g, 0, none⟩) len cap) (.int .i64 (k : Int))).run Tryd.prog w = .ok (.pointer (some ⟨g, k, none⟩)) w := by
  have h0 : (0 : Int) ≤ (k : Int) := by omega
  have h1 : (k : Int) < (len : Int) := by omega
  simp [go_sem, h0, h1]
theorem RestsAt.own {w : World} {B : Nat} {Mt : List Rst} {n : Nat} {v : Value} (h : RestsAt w B Mt n v) : ∃ S : List SV, S.length = n ∧ OwnG rowRest w B v S := by
  obtain ⟨S, h1, h2, _⟩ := h
  exact ⟨S, h1, h2⟩
/-- the copy, as an automaton -/
theorem SpS.dawg {wz w : World} {g c : Nat} {D : List Nd} {va : Value} {X : List Ar} (h : SpS wz w g c D va X) (hD : ∀ x ∈ D, x.arcs.length ≤ 9223372036854775807) : DawgS w (some ⟨g, 0, none⟩) D := fun k hk => by
  obtain ⟨c0, aa, cc, c1, hA⟩ := h.node hk
  rw [← Nat.zero_add (k * 2)] at c0 c1
  exact ⟨g, 0, rfl, h.gw, c0, aa, cc, c1, hD _ (List.getElem_mem hk), hA.later h.bl (Nat.le_refl _)⟩
/-- the copy's first node is written -/
theorem SpS.setNode {wz w : World} {g c cc : Nat} {D : List Nd} {aa : Option Addr} {X : List Ar} {f : Bool} (h : SpS wz w g c D (.slice none 0 0) []) (hA : ArcS wz aa X) (h0 : 0 < D.length) :
    SpS wz ((w.setCell ⟨g, 0, none⟩ (.bool f)).setCell ⟨g, 1, none⟩ (.slice aa X.length cc)) g c (D.set 0 ⟨f, X⟩) (.slice none 0 0) [] := by
  obtain ⟨N, ⟨hl, hN⟩, ho⟩ := h.nd
  have hn2 : 0 < N.length := by omega
  have ho1 := ho.put rowNode_ok (i := 0) (j := 0) (x := ⟨f, N[0].a, N[0].n, N[0].c⟩) (u := .bool f) hn2 (by decide) rfl
  have hn3 : 0 < (N.set 0 ⟨f, N[0].a, N[0].n, N[0].c⟩).length := by rw [List.length_set]; exact hn2
  have ho2 := ho1.put rowNode_ok (i := 0) (j := 1) (x := ⟨f, aa, X.length, cc⟩) (u := .slice aa X.length cc) hn3 (by decide) (by simp only [List.getElem_set_self]; rfl)
  rw [List.set_set] at ho2
  refine ⟨(h.bl.setCell (p := ⟨g, 0, none⟩) h.gz _).setCell (p := ⟨g, 1, none⟩) h.gz _, h.gz, ⟨N.set 0 ⟨f, aa, X.length, cc⟩, ⟨by simpa using hl, fun k h1 h2 => ?_⟩, ?_⟩, OwnG.nil _ _ _⟩
  · have hk1 : k < N.length := by simpa using h1
    have hk2 : k < D.length := by simpa using h2
    by_cases e : 0 = k
    · subst e
      simp only [List.getElem_set_self]
      exact ⟨trivial, trivial, hA⟩
    · rw [List.getElem_set_ne e, List.getElem_set_ne e]
      exact hN k hk1 hk2
  · rw [List.length_set]
    simpa using ho2
theorem csOk_set0 {D : List Nd} (h : CsOk D) {n : Nat} (hn : n < D.length) : CsOk (D.set 0 D[n]) := csOk_set (f := D[n].fin) (X := D[n].arcs) h (by omega) (fun x hx => h n hn x hx)
theorem set0_self {D : List Nd} (h : 0 < D.length) : D.set 0 D[0] = D := List.set_getElem_self h
/-- what is listed from a copy -/
theorem listed_n (D : List Nd) (n : Nat) (a : Option Addr) (c : Nat) (r : Rst) (w : World) (hD : DawgS w a D) (hn : n = D.length) (hDl : n ≤ 9223372036854775807) (hC : CsOk D) (h1 : (listedF D).2 = r) (h2 : fewB D = true) :
    Calls Tryd.prog 25 #[.slice a n c] w fun e w' => ∃ a1 c1, e = .returned (.tuple #[.slice a1 r.length c1, .bool true]) ∧ OwnG rowStr w' w.heap.size (.slice a1 r.length c1) (rowsB r) ∧ Below w.heap.size w w' := by
  subst hn h1
  have := listed_any D a c w hD hDl hC
  rw [h2] at this
  exact this
end Go.Proofs.YtemdlfbcnnoglaaDoor
