/- dawg.Has. -/
import Derived.Test.YtemdlfbcnnoglaaDoorDNodes
import Derived.Laws.RangeString
namespace Go.Proofs.YtemdlfbcnnoglaaDoor
open Go.RowKit Go.WideShapes
set_option linter.unusedVariables false
set_option linter.unusedSimpArgs false

/-- how far the iterator in block g has come -/
def itPos (g : Nat) (w : World) : Nat := match w.heap[g]? with | some (.stringIter _ p) => p | _ => 0
theorem itPos_eq {g : Nat} {w : World} {s : ByteArray} {p : Nat} (h : w.heap[g]? = some (.stringIter s p)) : itPos g w = p := by rw [itPos, h]
def itSet (w : World) (g : Nat) (s : ByteArray) (p : Nat) : World := { w with heap := w.heap.setIfInBounds g (.stringIter s p) }
theorem itSet_at {w : World} {g : Nat} {s : ByteArray} {p q : Nat} (h : w.heap[g]? = some (.stringIter s p)) : (itSet w g s q).heap[g]? = some (.stringIter s q) := by
  have hg : g < w.heap.size := (Array.getElem?_eq_some_iff.1 h).1
  simp [itSet, hg]
theorem itSet_below {w : World} {g B : Nat} {s : ByteArray} {q : Nat} (hB : B ≤ g) : Below B w (itSet w g s q) :=
  ⟨rfl, rfl, rfl, by simp [itSet], fun k hk => by
    have : k ≠ g := by omega
    simp [itSet, Array.getElem?_setIfInBounds, Ne.symm this]⟩
theorem run_next_it {P : Program} {w : World} {g : Nat} {s : ByteArray} {p : Nat} (hw : w.heap[g]? = some (.stringIter s p)) (ty : TypeId) (h : p < s.size) (ha : (s[p]'h).toNat < 128) :
    (Instr.next (.pointer (some ⟨g, 0, none⟩)) true ty).run P w = .ok (.tuple #[.bool true, .int .i64 p, .int .i32 (s[p]'h).toNat]) (itSet w g s (p + 1)) := by
  have hg : g < w.heap.size := (Array.getElem?_eq_some_iff.1 hw).1
  simp only [Instr.next, getObj, setObj, Sem.run_bind, Sem.run, hw, Result.andThen, h, if_true, decode_ascii s p h ha]
  simp [goInt, Sem.run, hw, itSet, Array.set!, hg]
theorem run_next_ie {P : Program} {w : World} {g : Nat} {s : ByteArray} {p : Nat} (hw : w.heap[g]? = some (.stringIter s p)) (ty : TypeId) (h : ¬ p < s.size) :
    (Instr.next (.pointer (some ⟨g, 0, none⟩)) true ty).run P w = .ok (.tuple #[.bool false]) w := by
  simp [Instr.next, getObj, Sem.run, hw, h]
/-- whether the bytes lead from node i to a final one -/
def goL (D : List Nd) : Nat → List UInt8 → Bool
  | i, [] => (D.getD i default).fin
  | i, c :: r => if stepL D.length (c.toNat : Int) (D.getD i default).arcs < 0 then false else goL D (stepL D.length (c.toNat : Int) (D.getD i default).arcs).toNat r
def hasB (D : List Nd) (s : ByteArray) : Bool := if D.length = 0 then false else goL D 0 s.data.toList
def Ascii (s : ByteArray) : Prop := ∀ c ∈ s.data.toList, c.toNat < 128
theorem Ascii.at {s : ByteArray} (h : Ascii s) {k : Nat} (hk : k < s.size) : (s[k]'hk).toNat < 128 := h _ (by show s.data[k] ∈ s.data.toList; simp)
theorem drop_byte (s : ByteArray) {k : Nat} (hk : k < s.size) : s.data.toList.drop k = s[k] :: s.data.toList.drop (k + 1) := by
  rw [List.drop_eq_getElem_cons (by simpa using hk)]; rfl
theorem stepL_lt {n c : Int} {X : List Ar} (hn : 0 ≤ n) : stepL n c X < n ∨ stepL n c X = -1 := by
  induction X with
  | nil => exact .inr rfl
  | cons x r ih => rw [stepL]; split
                   · rename_i h; exact .inl h.2.2
                   · exact ih
theorem stepL_ge {n c : Int} {X : List Ar} : stepL n c X = -1 ∨ 0 ≤ stepL n c X := by
  induction X with
  | nil => exact .inl rfl
  | cons x r ih => rw [stepL]; split
                   · rename_i h; exact .inr h.2.1
                   · exact ih
set_option maxHeartbeats 1600000 in
set_option maxRecDepth 100000 in
theorem has_any (D : List Nd) (a : Option Addr) (cap : Nat) (s : ByteArray) (w : World) (hD : DawgS w a D) (hn : D.length ≤ 9223372036854775807) (hs : Ascii s) :
    Calls Tryd.prog 18 #[.slice a D.length cap, .string s] w fun e w' => e = .returned (.bool (hasB D s)) ∧ Below w.heap.size w w' := by
  have HD := Lib.hid hD; have HA := Lib.hid hs; clear hD hs
  by_cases h0 : D.length = 0
  · have i0 : ((D.length : Int) == 0) = true := by simp [h0]
    have HR : Hid (hasB D s = false) := by show _ = _; rw [hasB, if_pos h0]
    clear h0
    go_enter Tryd.func18, Tryd.ntmps18
    go_wp2
    go_ret
    exact ⟨ret_bool HR.out.symm, Below.refl _ _⟩
  · have i0 : ((D.length : Int) == 0) = false := by rw [beq_eq_false_iff_ne]; omega
    have HR : Hid (hasB D s = goL D 0 s.data.toList) := by show _ = _; rw [hasB, if_neg h0]
    have hn0 : 0 < D.length := by omega
    clear h0
    go_enter Tryd.func18, Tryd.ntmps18
    go_wp2
    go_loopw [5] (fun q wr => ∃ (k i : Nat), k ≤ s.size ∧ q = .int .i64 (i : Int) ∧ i < D.length ∧ goL D 0 s.data.toList = goL D i (s.data.toList.drop k) ∧ wr.heap[w.heap.size]? = some (.stringIter s k) ∧ Below w.heap.size w wr) (fun q wr => s.size - itPos w.heap.size wr)
    case atStart => exact ⟨0, 0, Nat.zero_le _, rfl, hn0, rfl, World.iter_heap _ _ _, (Below.refl _ _).alloc (Nat.le_refl _) _⟩
    case round =>
      obtain ⟨k, i, hk, rfl, hi, hg, hit, hB⟩ := hrel
      have HG := Lib.hid hg; have HIT := Lib.hid hit; have HB := Lib.hid hB
      have hgz : w.heap.size < wr.heap.size := (Array.getElem?_eq_some_iff.1 hit).1
      have HP := Lib.hid (itPos_eq hit)
      clear hg hB
      obtain ⟨b, o, ha, hb, f0, aa, cc, f1, hl, hX⟩ := (HD.out.later HB.out (Nat.le_refl _)).at hi
      have hidx := idx_nodes a b o D.length cap i ha hi
      have hgd : D.getD i default = D[i] := by rw [List.getD_eq_getElem?_getD, List.getElem?_eq_getElem hi]; rfl
      by_cases hlt : k < s.size
      · have hasc := HA.out.at hlt
        have hnx := fun ty => run_next_it (P := Tryd.prog) hit ty hlt hasc
        have HDR := Lib.hid (drop_byte s hlt)
        obtain ⟨ch, hch⟩ : ∃ ch, s[k] = ch := ⟨_, rfl⟩
        rw [hch] at hnx hasc HDR
        obtain ⟨w2, hw2⟩ : ∃ w2, itSet wr w.heap.size s (k + 1) = w2 := ⟨_, rfl⟩
        have hit2 := itSet_at (q := k + 1) hit
        have hB2 := HB.out.trans (itSet_below (w := wr) (s := s) (q := k + 1) (Nat.le_refl w.heap.size))
        rw [hw2] at hnx hit2 hB2
        have HB2 := Lib.hid hB2; have HIT2 := Lib.hid hit2
        have hw2s : w.heap.size < w2.heap.size := (Array.getElem?_eq_some_iff.1 hit2).1
        have HD2 := Lib.hid (HD.out.later hB2 (Nat.le_refl _))
        have hlt128 : ((ch.toNat : Nat) : Int) < 128 := by omega
        have hc8 : IntKind.u8.wrap ((ch.toNat : Nat) : Int) = (ch.toNat : Int) := by simp [IntKind.wrap, IntKind.bits, IntKind.signed]; omega
        obtain ⟨q, hq⟩ : ∃ q, stepL D.length (ch.toNat : Int) D[i].arcs = q := ⟨_, rfl⟩
        have HQ := Lib.hid hq
        have hq1 := stepL_lt (n := (D.length : Int)) (c := (ch.toNat : Int)) (X := D[i].arcs) (by omega)
        have hq2 := stepL_ge (n := (D.length : Int)) (c := (ch.toNat : Int)) (X := D[i].arcs)
        rw [hq] at hq1 hq2
        clear hit hit2 hB2 hw2 hch ha hq hX f0 f1 hl
        rcases hq2 with hq2 | hq2
        · subst hq2
          have HN : Hid (hasB D s = false) := by
            show _ = _
            rw [HR.out, HG.out, HDR.out, goL, hgd, HQ.out, if_pos (by omega)]
          clear hgd hq1
          go_wp2_with (go_at_call 37; refine (step_any D a cap i (ch.toNat : Int) _ HD2.out hi hn).mono ?_; rintro e w3 ⟨he, hb⟩; rw [HQ.out] at he; subst he; have HB3 := Lib.hid (HB2.out.trans (hb.mono HB2.out.size)); clear hb)
          go_ret
          exact ⟨ret_bool HN.out.symm, HB3.out⟩
        · obtain ⟨j, rfl⟩ := Int.eq_ofNat_of_zero_le hq2
          have hj : j < D.length := by omega
          have HN : Hid (goL D 0 s.data.toList = goL D j (s.data.toList.drop (k + 1))) := by
            show _ = _
            rw [HG.out, HDR.out, goL, hgd, HQ.out, if_neg (by omega)]
            rfl
          have hjn : ¬ (j : Int) < 0 := by omega
          clear hgd hq1 hq2
          go_wp2_with (go_at_call 37; refine (step_any D a cap i (ch.toNat : Int) _ HD2.out hi hn).mono ?_; rintro e w3 ⟨he, hb⟩; rw [HQ.out] at he; subst he; have HB3 := Lib.hid (HB2.out.trans (hb.mono HB2.out.size)); have HIT3 := Lib.hid ((hb.block w.heap.size hw2s).trans HIT2.out); clear hb)
          go_roundw
          case rel => exact ⟨k + 1, j, by omega, rfl, hj, HN.out, HIT3.out, HB3.out⟩
          case measure => rw [HP.out, itPos_eq HIT3.out]; omega
      · have hnx := fun ty => run_next_ie (P := Tryd.prog) hit ty hlt
        have HN : Hid (hasB D s = D[i].fin) := by
          show _ = _
          rw [HR.out, HG.out, List.drop_eq_nil_of_le (by simp; omega), goL, hgd]
        clear hgd hit ha
        go_wp2
        go_ret
        exact ⟨ret_bool HN.out.symm, HB.out⟩
end Go.Proofs.YtemdlfbcnnoglaaDoor
