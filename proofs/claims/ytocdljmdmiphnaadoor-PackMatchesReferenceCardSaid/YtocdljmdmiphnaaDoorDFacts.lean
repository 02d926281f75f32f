/- The dictionaries of the laws: made ones, with one word more, with one less; what is known of their automata. Plain. -/
import Derived.Test.YtocdljmdmiphnaaDoorDVis
import Derived.Test.YtocdljmdmiphnaaDoorDMake
namespace Go.Proofs.YtocdljmdmiphnaaDoor
set_option linter.unusedVariables false
set_option linter.unusedSimpArgs false

theorem csOk_of {L : List ByteArray} (hd : Dict L) : CsOk (ofF (restAt 0 L)) := fun i hi x hx => by
  obtain ⟨Mt, hgt, -⟩ := of_tab hd.okR.1 hd.okR.2
  obtain ⟨r, _, _, h3⟩ := hgt.nd i hi
  obtain ⟨⟨p1, p2, p3⟩, p4⟩ := h3.mem x hx
  have := ofF_len hd
  exact ⟨p1, by omega, by omega, by omega⟩
theorem ofF_pos {L : List ByteArray} (hd : Dict L) : 0 < (ofF (restAt 0 L)).length := by
  obtain ⟨Mt, hgt, h0⟩ := of_tab hd.okR.1 hd.okR.2
  rw [← hgt.len]; exact (List.getElem?_eq_some_iff.1 h0).1
theorem dict_mk2 {L : List ByteArray} (h1 : 1 ≤ L.length) (h2 : L.length ≤ 200) (hw : ∀ x ∈ L, wordB x = true) (hs : L.Pairwise fun x y => ltS x y = true) : Dict L :=
  ⟨h1, h2, fun i hi _ => ⟨hw _ (List.getElem_mem hi), fun h0 => List.pairwise_iff_getElem.1 hs (i - 1) i (by omega) hi (by omega)⟩⟩
theorem ltS_tot {a b : ByteArray} (h : ltS a b = false) (hne : a ≠ b) : ltS b a = true := by
  have := less_total a.toList b.toList
  unfold ltS at h ⊢
  have hab : (a.toList == b.toList) = false := by
    cases e : (a.toList == b.toList)
    · rfl
    · exact absurd (by rw [beq_str] at e; exact of_decide_eq_true e) hne
  rw [h, hab] at this
  simpa using this.symm
theorem ltS_irr (a : ByteArray) : ltS a a = false := by
  have := less_total a.toList a.toList
  unfold ltS
  cases h : Op.bytesLess a.toList a.toList
  · rfl
  · rw [h] at this; simp at this
theorem mem_tw {α : Type} {p : α → Bool} {x : α} : ∀ {L : List α}, x ∈ L.takeWhile p → p x = true
  | y :: r, h => by
    rw [List.takeWhile_cons] at h
    split at h
    · rename_i hy
      rcases List.mem_cons.1 h with rfl | h
      · exact hy
      · exact mem_tw h
    · cases h
theorem dw_head {α : Type} {p : α → Bool} : ∀ {L : List α}, L.dropWhile p = [] ∨ ∃ y r, L.dropWhile p = y :: r ∧ p y = false
  | [] => .inl rfl
  | y :: r => by
    rw [List.dropWhile_cons]
    split
    · exact dw_head
    · rename_i h; exact .inr ⟨y, r, rfl, by simpa using h⟩
/-- a word put in keeps the order -/
theorem ins_sorted {L : List ByteArray} {s : ByteArray} (h : L.Pairwise fun x y => ltS x y = true) : (insF L s).Pairwise fun x y => ltS x y = true := by
  unfold insF
  split
  · exact h
  · rename_i hn
    have hns : s ∉ L := fun hm => hn (idxF_mem.2 hm)
    have e := List.takeWhile_append_dropWhile (p := fun x => ltS x s) (l := L)
    rw [← e, List.pairwise_append] at h
    obtain ⟨h1, h2, h3⟩ := h
    have hd : ∀ y ∈ L.dropWhile (fun x => ltS x s), ltS s y = true := by
      rcases dw_head (p := fun x => ltS x s) (L := L) with e0 | ⟨z, r, e0, hz⟩
      · rw [e0]; intro y hy; cases hy
      · have hzm : z ∈ L := by rw [← e, e0]; simp
        have hsz := ltS_tot hz (fun e => hns (e ▸ hzm))
        rw [e0] at h2
        intro y hy
        rw [e0] at hy
        rcases List.mem_cons.1 hy with rfl | hy
        · exact hsz
        · exact ltS_trans hsz ((List.pairwise_cons.1 h2).1 y hy)
    refine List.pairwise_append.2 ⟨h1, List.pairwise_cons.2 ⟨hd, h2⟩, fun x hx y hy => ?_⟩
    have hxs : ltS x s = true := mem_tw (p := fun x => ltS x s) hx
    rcases List.mem_cons.1 hy with rfl | hy
    · exact hxs
    · exact ltS_trans hxs (hd y hy)
theorem ins_mem {L : List ByteArray} {s x : ByteArray} : x ∈ insF L s ↔ x = s ∨ x ∈ L := by
  unfold insF
  split
  · rename_i h
    have := idxF_mem.1 h
    exact ⟨.inr, fun h => h.elim (fun e => e ▸ this) id⟩
  · have e := List.takeWhile_append_dropWhile (p := fun x => ltS x s) (l := L)
    constructor
    · intro h
      rcases List.mem_append.1 h with h | h
      · exact .inr (by rw [← e]; exact List.mem_append_left _ h)
      · rcases List.mem_cons.1 h with h | h
        · exact .inl h
        · exact .inr (by rw [← e]; exact List.mem_append_right _ h)
    · rintro (rfl | h)
      · simp
      · rw [← e] at h
        rcases List.mem_append.1 h with h | h
        · exact List.mem_append_left _ h
        · exact List.mem_append_right _ (List.mem_cons_of_mem _ h)
theorem ins_ne (L : List ByteArray) (s : ByteArray) : insF L s ≠ [] := fun e => by
  have : s ∈ insF L s := ins_mem.2 (.inl rfl)
  rw [e] at this; cases this
theorem ins_dict {L : List ByteArray} {s : ByteArray} (h : Dict L) (hl : L.length ≤ 199) (hs : wordB s = true) : Dict (insF L s) := by
  refine dict_mk2 (List.length_pos_iff.2 (ins_ne L s)) (by have := insF_len L s; omega) (fun x hx => ?_) (ins_sorted h.sorted)
  rcases ins_mem.1 hx with rfl | hx
  · exact hs
  · exact h.word x hx
/-! ### the words of numbers -/
theorem letL_ok (z : Int) : (!(classF ((letL z).toNat : Int) == 0)) = true := by
  unfold letL
  split
  · decide
  · split
    · decide
    · split <;> decide
theorem wordF_ok (Z : Nat → Int) (n : Nat) : wordB (wordF Z n) = true ∧ (wordF Z n).size ≤ 4 ∧ 1 ≤ (wordF Z n).size := by
  unfold wordF
  split
  · exact ⟨by decide, by decide, by decide⟩
  · rename_i hn
    have hsz : (⟨(lettersF Z (min n 4)).toArray⟩ : ByteArray).size = min n 4 := by
      show (lettersF Z (min n 4)).toArray.size = _
      simp [lettersF]
    refine ⟨?_, by rw [hsz]; omega, by rw [hsz]; omega⟩
    unfold wordB knownB knownL
    rw [hsz]
    have h1 : decide (1 ≤ min n 4) = true := decide_eq_true (by omega)
    have h2 : decide (min n 4 ≤ 20) = true := decide_eq_true (by omega)
    rw [h1, h2]
    simp only [Bool.true_and, List.all_eq_true]
    intro c hc
    have hc2 : c ∈ lettersF Z (min n 4) := hc
    obtain ⟨i, _, rfl⟩ := List.mem_map.1 hc2
    exact letL_ok _
theorem made_all (Q : Nat → BR) : ∀ k, (madeTo Q k).Pairwise (fun x y => ltS x y = true) ∧ ∀ x ∈ madeTo Q k, wordB x = true ∧ x.size ≤ 4
  | 0 => ⟨.nil, fun x hx => by cases hx⟩
  | k + 1 => by
    obtain ⟨h1, h2⟩ := made_all Q k
    rw [madeTo]
    refine ⟨ins_sorted h1, fun x hx => ?_⟩
    rcases ins_mem.1 hx with rfl | hx
    · exact ⟨(wordF_ok _ _).1, (wordF_ok _ _).2.1⟩
    · exact h2 x hx
theorem made_dict (Q : Nat → BR) (len n : Nat) (hn : n ≤ 200) : Dict (madeF Q len n) := by
  have hl := madeTo_len Q (min len n)
  unfold madeF
  split
  · exact dict_mk2 (by simp) (by simp) (fun x hx => by rw [List.mem_singleton.1 hx]; decide) (by simp)
  · rename_i h
    exact dict_mk2 (List.length_pos_iff.2 h) (by omega) (fun x hx => ((made_all Q _).2 x hx).1) (made_all Q _).1
theorem made_len (Q : Nat → BR) (len n : Nat) (hn : 1 ≤ n) : (madeF Q len n).length ≤ n := by
  have hl := madeTo_len Q (min len n)
  unfold madeF
  split
  · simpa using hn
  · omega
theorem made_size (Q : Nat → BR) (len n : Nat) : ∀ x ∈ madeF Q len n, x.size ≤ 4 := by
  unfold madeF
  split
  · intro x hx; rw [List.mem_singleton.1 hx]; decide
  · exact fun x hx => ((made_all Q _).2 x hx).2
theorem ascii_take {s : ByteArray} (h : wordB s = true) {p : ByteArray} (hp : ∀ c ∈ p.data.toList, c ∈ s.data.toList) : Ascii p := fun c hc => by
  have := (word_facts h).2.2 c (hp c hc); omega
theorem Dict.size {L : List ByteArray} (h : Dict L) : ∀ x ∈ L, x.size ≤ 9223372036854775807 := fun x hx => by
  have := (word_facts (h.word x hx)).2.1; omega
end Go.Proofs.YtocdljmdmiphnaaDoor
