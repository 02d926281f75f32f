
/- dawg.Has. -/
import Derived.Test.YtocdljmdmiphnaaDoorDNodes
import Derived.Laws.RangeString
namespace Go.Proofs.YtocdljmdmiphnaaDoor
open Go.RowKit Go.WideShapes
set_option linter.unusedVariables false
set_option linter.unusedSimpArgs false

/-- how far the iterator in block g has come -/
def itPos (g : Nat) (w : World) : Nat := match w.heap[g]? with | some (.stringIter _ p) => p | _ => 0
theorem itPos_eq {g : Nat} {w : World} {s : ByteArray} {p : Nat} (h : w.heap[g]? = some (.stringIter s p)) : itPos g w = p := by rw [itPos, h]
def itSet (w : World) (g : Nat) (s : ByteArray) (p : Nat) : World := { w with heap := w.heap.setIfInBounds g (.stringIter s p) }
theorem itSet_at {w : World} {g : Nat} {s : ByteArray} {p q : Nat} (h : w.heap[g]? = some (.stringIter s p)) : (itSet w g s q).heap[g]? = some (.stringIter s q) := by
  have hg : g < w.heap.size := (Array.getElem?_eq_some_iff.1 h).1
  simp [itSet, hg]
theorem itSet_below {w : World} {g B : Nat} {s : ByteArray} {q : Nat} (hB : B ≤ g) : Below B w (itSet w g s q) :=
  ⟨rfl, rfl, rfl, by simp [itSet], fun k hk => by
    have : k ≠ g := by omega
    simp [itSet, Array.getElem?_setIfInBounds, Ne.symm this]⟩
theorem run_next_it {P : Program} {w : World} {g : Nat} {s : ByteArray} {p : Nat} (hw : w.heap[g]? = some (.stringIter s p)) (ty : TypeId) (h : p < s.size) (ha : (s[p]'h).toNat < 128) :
    (Instr.next (.pointer (some ⟨g, 0, none⟩)) true ty).run P w = .ok (.tuple #[.bool true, .int .i64 p, .int .i32 (s[p]'h).toNat]) (itSet w g s (p + 1)) := by
  have hg : g < w.heap.size := (Array.getElem?_eq_some_iff.1 hw).1
  simp only [Instr.next, getObj, setObj, Sem.run_bind, Sem.run, hw, Result.andThen, h, if_true, decode_ascii s p h ha]
  simp [goInt, Sem.run, hw, itSet, Array.set!, hg]
theorem run_next_ie {P : Program} {w : World} {g : Nat} {s : ByteArray} {p : Nat} (hw : w.heap[g]? = some (.stringIter s p)) (ty : TypeId) (h : ¬ p < s.size) :
    (Instr.next (.pointer (some ⟨g, 0, none⟩)) true ty).run P w = .ok (.tuple #[.bool false]) w := by
  simp [Instr.next, getObj, Sem.run, hw, h]
/-- whether the bytes lead from node i to a final one -/
def goL (D : List Nd) : Nat → List UInt8 → Bool
  | i, [] => (D.getD i default).fin
  | i, c :: r => if stepL D.length (c.toNat : Int) (D.getD i default).arcs < 0 then false else goL D (stepL D.length (c.toNat : Int) (D.getD i default).arcs).toNat r
def hasB (D : List Nd) (s : ByteArray) : Bool := if D.length = 0 then false else goL D 0 s.data.toList
def Ascii (s : ByteArray) : Prop := ∀ c ∈ s.data.toList, c.toNat < 128
theorem Ascii.at {s : ByteArray} (h : Ascii s) {k : Nat} (hk : k < s.size) : (s[k]'hk).toNat < 128 := h _ (by show s.data[k] ∈ s.data.toList; simp)
theorem drop_byte (s : ByteArray) {k : Nat} (hk : k < s.size) : s.data.toList.drop k = s[k] :: s.data.toList.drop (k + 1) := by
  rw [List.drop_eq_getElem_cons (by simpa using hk)]; rfl
theorem stepL_lt {n c : Int} {X : List Ar} (hn : 0 ≤ n) : stepL n c X < n ∨ stepL n c X = -1 := by
  induction X with
  | nil => exact .inr rfl
  | cons x r ih => rw [stepL]; split
                   · rename_i h; exact .inl h.2.2
                   · exact ih
theorem stepL_ge {n c : Int} {X : List Ar} : stepL n c X = -1 ∨ 0 ≤ stepL n c X := by
  induction X with
  | nil => exact .inl rfl
  | cons x r ih => rw [stepL]; split
                   · rename_i h; exact .inr h.2.1
                   · exact ih
end Go.Proofs.YtocdljmdmiphnaaDoor
