
/- Rows that were just built; dictionaries by evaluation. -/
import Derived.Test.YtocdljmdmiphnaaDoorDVis
namespace Go.Proofs.YtocdljmdmiphnaaDoor
open Go.RowKit Go.WideShapes
set_option linter.unusedVariables false
set_option linter.unusedSimpArgs false

theorem dict_mk {L : List ByteArray} (h1 : 1 ≤ L.length) (h2 : L.length ≤ 200) (h3 : (List.range L.length).all (fun i => wordB (L.getD i ⟨#[]⟩) && (i == 0 || Op.bytesLess (L.getD (i - 1) ⟨#[]⟩).data.toList (L.getD i ⟨#[]⟩).data.toList)) = true) : Dict L := by
  refine ⟨h1, h2, fun i hi _ => ?_⟩
  have h := List.all_eq_true.1 h3 i (List.mem_range.2 hi)
  rw [List.getD_eq_getElem?_getD, List.getElem?_eq_getElem hi] at h
  simp only [Option.getD_some, Bool.and_eq_true, Bool.or_eq_true, beq_iff_eq] at h
  refine ⟨h.1, fun h0 => ?_⟩
  rcases h.2 with h' | h'
  · omega
  · rw [List.getD_eq_getElem?_getD, List.getElem?_eq_getElem (by omega)] at h'
    rw [ltS, ByteArray.toList_eq, ByteArray.toList_eq]
    exact h'
theorem strS_row {w : World} {g : Nat} {cs : Array Value} {t : TypeId} {fz : Nat × Nat} {L : List ByteArray} (h : w.heap[g]? = some (.cells cs t fz)) (hcs : cs.toList = L.map Value.string) : StrS w (some ⟨g, 0, none⟩) L := fun k hk => by
  refine ⟨g, 0, rfl, (Array.getElem?_eq_some_iff.1 h).1, ?_⟩
  rw [cell_of_row _ _ _ _ _ _ h, ← Array.getElem?_toList, hcs]
  simp [hk]
theorem arcS_row {w : World} {g : Nat} {cs : Array Value} {t : TypeId} {fz : Nat × Nat} {X : List Ar} (h : w.heap[g]? = some (.cells cs t fz)) (hcs : cs.toList = X.flatMap fun x => [Value.int .u8 x.c, Value.int .i64 x.t]) : ArcS w (some ⟨g, 0, none⟩) X := fun k hk => by
  refine ⟨g, 0, rfl, (Array.getElem?_eq_some_iff.1 h).1, ?_, ?_⟩
  · have h1 := flat_get rowArc_ok (L := X) (i := k) (j := 0) hk (by decide)
    rw [cell_of_row _ _ _ _ _ _ h, ← Array.getElem?_toList, hcs, Nat.zero_add]
    exact h1
  · have h1 := flat_get rowArc_ok (L := X) (i := k) (j := 1) hk (by decide)
    rw [Nat.zero_add, cell_of_row _ _ _ _ _ _ h, ← Array.getElem?_toList, hcs]
    exact h1
theorem dawgS_row {w : World} {g : Nat} {cs : Array Value} {t : TypeId} {fz : Nat × Nat} {D : List Nd} {N : List NV} (h : w.heap[g]? = some (.cells cs t fz)) (hcs : cs.toList = N.flatMap rowNode.enc) (hl : N.length = D.length)
    (hN : ∀ k (hk : k < D.length), N[k].fin = D[k].fin ∧ N[k].n = D[k].arcs.length ∧ D[k].arcs.length ≤ 1000 ∧ ArcS w N[k].a D[k].arcs) : DawgS w (some ⟨g, 0, none⟩) D := fun k hk => by
  have hkN : k < N.length := by rw [hl]; exact hk
  obtain ⟨a1, a2, a3, a4⟩ := hN k hk
  refine ⟨g, 0, rfl, (Array.getElem?_eq_some_iff.1 h).1, ?_, N[k].a, N[k].c, ?_, by omega, a4⟩
  · have h1 := flat_get rowNode_ok (L := N) (i := k) (j := 0) hkN (by decide)
    rw [cell_of_row _ _ _ _ _ _ h, ← Array.getElem?_toList, hcs, Nat.zero_add, ← a1]
    exact h1
  · have h1 := flat_get rowNode_ok (L := N) (i := k) (j := 1) hkN (by decide)
    rw [Nat.zero_add, cell_of_row _ _ _ _ _ _ h, ← Array.getElem?_toList, hcs, ← a2]
    exact h1
/-- several new blocks -/
def pushAll : World → List Obj → World
  | w, [] => w
  | w, o :: os => pushAll (w.alloc o) os
theorem pushAll_below : ∀ (os : List Obj) (w : World), Below w.heap.size w (pushAll w os)
  | [], w => Below.refl _ _
  | o :: os, w => by
    have h : Below w.heap.size w (w.alloc o) := (Below.refl _ _).alloc (Nat.le_refl _) _
    exact h.trans ((pushAll_below os (w.alloc o)).mono h.size)
theorem pushAll_at : ∀ (os : List Obj) (w : World) (k : Nat), k < os.length → (pushAll w os).heap[w.heap.size + k]? = os[k]?
  | [], _, _, h => by simp at h
  | o :: os, w, 0, _ => by
    have h := (pushAll_below os (w.alloc o)).block w.heap.size (by simp)
    show (pushAll (w.alloc o) os).heap[w.heap.size]? = some o
    rw [h]; exact heap_alloc_new _ _
  | o :: os, w, k + 1, h => by
    have := pushAll_at os (w.alloc o) k (by simpa using h)
    rw [World.size_alloc] at this
    show (pushAll (w.alloc o) os).heap[w.heap.size + (k + 1)]? = os[k]?
    rw [← this]
    congr 1; omega
theorem asc_lit {s : ByteArray} (h : s.data.toList.all (fun c => decide (c.toNat < 128)) = true) : Ascii s := fun c hc => by simpa using List.all_eq_true.1 h c hc
theorem build_lit {L : List ByteArray} {D : List Nd} {w : World} {n : Nat} (hd : Dict L) (ho : ofF (restAt 0 L) = D) (hn : n = L.length) (cs : Array Value) (hcs : cs.toList = L.map Value.string) (hT : Tab w) :
    Calls Tryd.prog 22 #[.slice (some ⟨w.heap.size, 0, none⟩) n n] (w.alloc (.cells cs 9)) fun e w' => ∃ a c, e = .returned (.tuple #[.slice a D.length c, .int .i64 0]) ∧ DawgS w' a D ∧ Below w.heap.size w w' := by
  have hx : Below w.heap.size w (w.alloc (.cells cs 9)) := (Below.refl _ _).alloc (Nat.le_refl _) _
  refine (build_yes L n (some ⟨w.heap.size, 0, none⟩) n (w.alloc (.cells cs 9)) (strS_row (heap_alloc_new _ _) hcs) hn (by have := hd.2.1; omega) (Nat.le_refl _) (hT.later hx) hd).mono ?_
  rintro e w1 ⟨a, c, rfl, _, _, h2, h3⟩
  rw [ho] at h2 ⊢
  exact ⟨a, c, rfl, h2, hx.trans (h3.mono hx.size)⟩
theorem build_litn {L : List ByteArray} {w : World} {n : Nat} (hd : ¬ Dict L) (hn : n = L.length) (hl : n ≤ 1000) (cs : Array Value) (hcs : cs.toList = L.map Value.string) (hT : Tab w) :
    Calls Tryd.prog 22 #[.slice (some ⟨w.heap.size, 0, none⟩) n n] (w.alloc (.cells cs 9)) fun e w' => e = .returned (.tuple #[.slice none 0 0, .int .i64 90]) ∧ Below w.heap.size w w' := by
  have hx : Below w.heap.size w (w.alloc (.cells cs 9)) := (Below.refl _ _).alloc (Nat.le_refl _) _
  refine (build_no L n (some ⟨w.heap.size, 0, none⟩) n (w.alloc (.cells cs 9)) (strS_row (heap_alloc_new _ _) hcs) hn (by omega) (Nat.le_refl _) (hT.later hx) hd).mono ?_
  rintro e w1 ⟨rfl, h3⟩
  exact ⟨rfl, hx.trans (h3.mono hx.size)⟩
end Go.Proofs.YtocdljmdmiphnaaDoor
