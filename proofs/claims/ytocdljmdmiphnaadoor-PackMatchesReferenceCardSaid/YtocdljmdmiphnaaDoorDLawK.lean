
/- The contracts of dawg's functions at the automaton of a dictionary. -/
import Derived.Test.YtocdljmdmiphnaaDoorDFacts
import Derived.Test.YtocdljmdmiphnaaDoorDListed
import Derived.Test.YtocdljmdmiphnaaDoorDDict
import Derived.Test.YtocdljmdmiphnaaDoorDLit
import Derived.Laws.Strings3
namespace Go.Proofs.YtocdljmdmiphnaaDoor
open Go.RowKit Go.WideShapes
set_option linter.unusedVariables false
set_option linter.unusedSimpArgs false

/-- the automaton of a dictionary, in memory -/
structure AutS (w : World) (a : Option Addr) (n c : Nat) (L : List ByteArray) : Prop where
  dict : Dict L
  len : n = (ofF (restAt 0 L)).length
  cap : n ≤ c
  rows : DawgS w a (ofF (restAt 0 L))
theorem AutS.later {w w1 : World} {a : Option Addr} {n c : Nat} {L : List ByteArray} (h : AutS w a n c L) (hb : Below w.heap.size w w1) : AutS w1 a n c L := ⟨h.dict, h.len, h.cap, h.rows.later hb (Nat.le_refl _)⟩
theorem AutS.go {w w1 : World} {a : Option Addr} {n c : Nat} {L : List ByteArray} (h : AutS w a n c L) (hb : Below w.heap.size w w1) : AutS w1 a n c L := h.later hb
theorem StrS.go {w w1 : World} {a : Option Addr} {L : List ByteArray} (h : StrS w a L) (hb : Below w.heap.size w w1) : StrS w1 a L := h.later hb (Nat.le_refl _)
theorem DawgS.go {w w1 : World} {a : Option Addr} {L : List Nd} (h : DawgS w a L) (hb : Below w.heap.size w w1) : DawgS w1 a L := h.later hb (Nat.le_refl _)
theorem ByteRows.go {w w1 : World} {a : Option Addr} {n : Nat} {Q : Nat → BR} (h : ByteRows w a n Q) (hb : Below w.heap.size w w1) : ByteRows w1 a n Q := h.later hb (Nat.le_refl _)
theorem IsBytes.go {w w1 : World} {a : Option Addr} {n : Nat} {Z : Nat → Int} (h : IsBytes w a n Z) (hb : Below w.heap.size w w1) : IsBytes w1 a n Z := h.later hb (Nat.le_refl _)
theorem Tab.go {w w1 : World} (h : Tab w) (hb : Below w.heap.size w w1) : Tab w1 := h.later hb
/-- the world has only grown since -/
structure Since (w w1 : World) : Prop where
  out : Below w.heap.size w w1
theorem Since.refl (w : World) : Since w w := ⟨Below.refl _ _⟩
theorem Since.go {w w1 w2 : World} (h : Since w w1) (hb : Below w1.heap.size w1 w2) : Since w w2 := ⟨h.out.trans (hb.mono h.out.size)⟩
theorem AutS.small {w : World} {a : Option Addr} {n c : Nat} {L : List ByteArray} (h : AutS w a n c L) : n ≤ 4200 ∧ 1 ≤ n := by
  have h1 := ofF_len h.dict; have h2 := ofF_pos h.dict; have h3 := h.len; omega
theorem AutS.big {w : World} {a : Option Addr} {n c : Nat} {L : List ByteArray} (h : AutS w a n c L) : (ofF (restAt 0 L)).length ≤ 9223372036854775807 := by
  have h1 := ofF_len h.dict; omega
theorem build_d {L : List ByteArray} {n : Nat} {a : Option Addr} {cap : Nat} {w : World} (hd : Dict L) (hR : StrS w a L) (hL : n = L.length) (hc : n ≤ cap) (hT : Tab w) :
    Calls Tryd.prog 22 #[.slice a n cap] w fun e w' => ∃ a n c, e = .returned (.tuple #[.slice a n c, .int .i64 0]) ∧ AutS w' a n c L ∧ Below w.heap.size w w' := by
  refine (build_yes L n a cap w hR hL (by have := hd.2.1; omega) hc hT hd).mono ?_
  rintro e w1 ⟨a1, c1, rfl, hc1, h2, h3, hb⟩
  exact ⟨a1, _, c1, rfl, ⟨hd, rfl, hc1, h3⟩, hb⟩
theorem of_d {L : List ByteArray} {n : Nat} {a : Option Addr} {cap : Nat} {w : World} (hd : Dict L) (hR : StrS w a L) (hL : n = L.length) (hc : n ≤ cap) :
    Calls Tryd.prog 12 #[.slice a n cap] w fun e w' => ∃ a n c, e = .returned (.slice a n c) ∧ AutS w' a n c L ∧ Below w.heap.size w w' := by
  refine (of_any L n a cap w hR hL hc hd).mono ?_
  rintro e w1 ⟨a1, c1, rfl, hc1, h3, hb⟩
  exact ⟨a1, _, c1, rfl, ⟨hd, rfl, hc1, h3⟩, hb⟩
theorem same_d {L M : List ByteArray} {n m : Nat} {a b : Option Addr} {c d : Nat} {w : World} (hA : AutS w a n c L) (hB : AutS w b m d M) :
    Calls Tryd.prog 27 #[.slice a n c, .slice b m d] w fun e w' => e = .returned (.bool (decide (L = M))) ∧ Below w.heap.size w w' := by
  refine (rsame_any _ _ a b n m c d w hA.rows hB.rows hA.len hB.len (by have := hA.small; omega) (by have := hB.small; omega)).mono ?_
  rintro e w1 ⟨rfl, hb⟩
  refine ⟨?_, hb⟩
  rw [show decide (ofF (restAt 0 L) = ofF (restAt 0 M)) = decide (L = M) from by
    rw [decide_eq_decide]; exact ⟨of_inj hA.dict hB.dict, fun h => by rw [h]⟩]
theorem valid_d {L : List ByteArray} {n : Nat} {a : Option Addr} {c : Nat} {w : World} (hA : AutS w a n c L) (hT : Tab w) :
    Calls Tryd.prog 31 #[.slice a n c] w fun e w' => e = .returned (.bool true) ∧ Below w.heap.size w w' := by
  have h := hA.len; subst h
  refine (valid_any _ a c w hA.rows hA.big (csOk_of hA.dict) hT).mono ?_
  rintro e w1 ⟨rfl, hb⟩
  rw [valid_of hA.dict]
  exact ⟨rfl, hb⟩
theorem index_d {L : List ByteArray} {n : Nat} {a : Option Addr} {c : Nat} {w : World} (hA : AutS w a n c L) (s : ByteArray) :
    Calls Tryd.prog 25 #[.slice a n c, .string s] w fun e w' => e = .returned (.int .i64 (idxF L s)) ∧ Below w.heap.size w w' := by
  have h := hA.len; subst h
  refine (dindex_any _ a c s w hA.rows hA.big (csOk_of hA.dict)).mono ?_
  rintro e w1 ⟨rfl, hb⟩
  rw [words_of hA.dict]
  exact ⟨rfl, hb⟩
theorem words_d {L : List ByteArray} {n : Nat} {a : Option Addr} {c : Nat} {w : World} (hA : AutS w a n c L) :
    Calls Tryd.prog 26 #[.slice a n c] w fun e w' => ∃ a1 c1, e = .returned (.slice a1 L.length c1) ∧ StrS w' a1 L ∧ L.length ≤ c1 ∧ Below w.heap.size w w' := by
  have h := hA.len; subst h
  have hW := words_any _ a c w hA.rows hA.big (csOk_of hA.dict)
  rw [words_of hA.dict] at hW
  exact hW
theorem made_d {Q : Nat → BR} {a : Option Addr} {len cap : Nat} {w : World} (n : Nat) (i : Int) (hi : i = (n : Int)) (h1 : 1 ≤ n) (h2 : n ≤ 200) (hQ : ByteRows w a len Q) (hl : len ≤ 9223372036854775807) :
    Calls Tryd.prog 11 #[.slice a len cap, .int .i64 i] w fun e w' => ∃ L b o c, madeF Q len n = L ∧ e = .returned (.slice (some ⟨b, o, none⟩) L.length c) ∧ Dict L ∧ L.length ≤ n ∧ (∀ x ∈ L, x.size ≤ 4) ∧ L.length ≤ c ∧ StrS w' (some ⟨b, o, none⟩) L ∧ Below w.heap.size w w' := by
  subst hi
  refine (made_any Q a len cap n w hQ hl (by omega)).mono ?_
  rintro e w1 ⟨b, o, c, rfl, hS, hc, hb⟩
  exact ⟨_, b, o, c, rfl, rfl, made_dict Q len n h2, made_len Q len n h1, made_size Q len n, hc, hS, hb⟩
theorem str_to (s : ByteArray) (k : Nat) (hk : k ≤ s.size) (w : World) : (Instr.slice 9 (.string s) none (some (.int .i64 (k : Int))) none).run Tryd.prog w = .ok (.string (s.extract 0 k)) w := by
  have h0 : (0 : Int) ≤ (k : Int) := by omega
  have h1 : (k : Int) ≤ (s.size : Int) := by omega
  simp [go_sem, h0, h1]
theorem ascii_extract {s : ByteArray} (h : wordB s = true) (k : Nat) : Ascii (s.extract 0 k) := ascii_take h fun c hc => by
  rw [ByteArray.data_extract, Array.toList_extract] at hc
  exact List.mem_of_mem_drop (List.mem_of_mem_take hc)
end Go.Proofs.YtocdljmdmiphnaaDoor
