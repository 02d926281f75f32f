
/- dawg.Build. -/
import Derived.Test.YtocdljmdmiphnaaDoorDRefP
namespace Go.Proofs.YtocdljmdmiphnaaDoor
open Go.RowKit Go.WideShapes
set_option linter.unusedVariables false
set_option linter.unusedSimpArgs false

theorem less_trans : ∀ {a b c : List UInt8}, Op.bytesLess a b = true → Op.bytesLess b c = true → Op.bytesLess a c = true
  | _, [], _, h, _ => by rw [less_nil] at h; cases h
  | _, _ :: _, [], _, h => by rw [less_nil] at h; cases h
  | [], _ :: _, _ :: _, _, _ => rfl
  | x :: a, y :: b, z :: c, h1, h2 => by
    rw [less_cons] at *
    rcases h1 with h1 | ⟨rfl, h1⟩
    · rcases h2 with h2 | ⟨rfl, h2⟩
      · exact .inl (by omega)
      · exact .inl h1
    · rcases h2 with h2 | ⟨rfl, h2⟩
      · exact .inl h2
      · exact .inr ⟨rfl, less_trans h1 h2⟩
theorem ltS_trans {a b c : ByteArray} (h1 : ltS a b = true) (h2 : ltS b c = true) : ltS a c = true := less_trans h1 h2
theorem pairwise_adj {α : Type} {p : α → α → Prop} (ht : ∀ a b c, p a b → p b c → p a c) : ∀ {L : List α}, (∀ i (h : i + 1 < L.length), p (L[i]'(by omega)) L[i + 1]) → L.Pairwise p
  | [], _ => .nil
  | [x], _ => by simp
  | x :: y :: r, h => by
    have ih := pairwise_adj (p := p) ht (L := y :: r) (fun i hi => by
      have h2 := h (i + 1) (by simpa using hi)
      simpa using h2)
    have h0 : p x y := h 0 (by simp)
    refine List.pairwise_cons.2 ⟨fun z hz => ?_, ih⟩
    rcases List.mem_cons.1 hz with rfl | hz
    · exact h0
    · exact ht _ _ _ h0 ((List.pairwise_cons.1 ih).1 z hz)
theorem Dict.sorted {L : List ByteArray} (h : Dict L) : L.Pairwise fun x y => ltS x y = true :=
  pairwise_adj (p := fun x y => ltS x y = true) (fun _ _ _ h1 h2 => ltS_trans h1 h2) fun i hi => (h.2.2 (i + 1) hi hi).2 (by omega)
theorem Dict.word {L : List ByteArray} (h : Dict L) : ∀ x ∈ L, wordB x = true := fun x hx => by
  obtain ⟨i, hi, rfl⟩ := List.getElem_of_mem hx
  exact (h.2.2 i hi hi).1
theorem word_facts {x : ByteArray} (h : wordB x = true) : 1 ≤ x.size ∧ x.size ≤ 20 ∧ ∀ b ∈ x.data.toList, 33 ≤ UInt8.toNat b ∧ UInt8.toNat b < 127 := by
  unfold wordB at h
  simp only [Bool.and_eq_true, decide_eq_true_eq] at h
  refine ⟨h.1, h.2.1, fun b hb => ?_⟩
  have := List.all_eq_true.1 h.2.2 b hb
  unfold classF at this
  split at this
  · omega
  · split at this
    · omega
    · split at this
      · omega
      · simp at this
theorem Dict.pre {L : List ByteArray} (h : Dict L) : Pre 0 21 L ∧ BytesB L := by
  refine ⟨⟨fun e => by have := h.1; rw [e] at this; simp at this, fun _ _ => Nat.zero_le _, fun x hx => ?_, fun x hx c hc => ?_, fun _ _ _ _ => by simp, h.sorted⟩, fun x hx => (word_facts (h.word x hx)).2.2⟩
  · have := (word_facts (h.word x hx)).2.1; omega
  · have := (word_facts (h.word x hx)).2.2 c hc; omega
theorem Dict.okR {L : List ByteArray} (h : Dict L) : OkR (restAt 0 L) ∧ ∀ s ∈ restAt 0 L, s.length < 21 := by
  obtain ⟨hP, hB⟩ := h.pre
  refine ⟨⟨restAt_sort hP.same hP.inc, restAt_bytes hB, fun e => hP.ne (List.map_eq_nil_iff.1 e)⟩, fun s hs => ?_⟩
  obtain ⟨x, hx, rfl⟩ := List.mem_map.1 hs
  have := hP.lt x hx
  simpa using this
/-- what Build answers -/
def buildP (L : List ByteArray) (w : World) (e : Ending) (w' : World) : Prop :=
  (Dict L ∧ ∃ a c, e = .returned (.tuple #[.slice a (ofF (restAt 0 L)).length c, .int .i64 0]) ∧ (ofF (restAt 0 L)).length ≤ c ∧ (ofF (restAt 0 L)).length ≤ 4200 ∧ DawgS w' a (ofF (restAt 0 L)) ∧ Below w.heap.size w w') ∨
  (¬ Dict L ∧ e = .returned (.tuple #[.slice none 0 0, .int .i64 90]) ∧ Below w.heap.size w w')
set_option maxHeartbeats 800000 in
theorem build_any (L : List ByteArray) (n : Nat) (a : Option Addr) (cap : Nat) (w : World) (hR : StrS w a L) (hL : n = L.length) (hn : n ≤ 9223372036854775807) (hc : n ≤ cap) (hT : Tab w) :
    Calls Tryd.prog 22 #[.slice a n cap] w (buildP L w) := by
  subst hL
  have HR := Lib.hid hR; have HT := Lib.hid hT; clear hR hT
  by_cases hd : Dict L
  · have HD := Lib.hid hd
    have hdb := dictB_yes hd
    clear hd
    have hmm := @run_makeMap Tryd.prog
    go_enter Tryd.func22, Tryd.ntmps22
    go_upto_region 4 with (first
      | (go_at_call 42; refine (dictionary_any L _ a cap _ HR.out rfl hn).mono ?_; rintro e w1 ⟨rfl, rfl⟩; rw [hdb]))
    clear hmm
    obtain ⟨b, o, rfl, -, -⟩ := HR.out.at (k := 0) (by have := HD.out.1; omega)
    obtain ⟨w2, hw2⟩ : ∃ w2, w2 = (w.alloc (Obj.map #[] 0)).alloc (Obj.cells #[Value.slice none 0 0, Value.map (some w.heap.size)] 93) := ⟨_, rfl⟩
    have HB2 : Hid (Below w.heap.size w w2) := by
      show Below _ _ _
      rw [hw2]
      exact ((Below.refl _ _).alloc (Nat.le_refl _) _).alloc (by simp only [World.size_alloc]; omega) _
    have HST : Hid (BSt w2 w.heap.size (w.heap.size + 1) w.heap.size (.slice none 0 0) [] []) := by
      show BSt _ _ _ _ _ _ _
      rw [hw2]
      refine ⟨?_, OwnG.nil _ _ _, rfl, fun k h => by simp at h, ?_, by omega, by omega⟩
      · have h := heap_alloc_new (w.alloc (Obj.map #[] 0)) (Obj.cells #[Value.slice none 0 0, Value.map (some w.heap.size)] 93)
        simp only [World.size_alloc] at h
        exact h
      · refine (MapS.new w).kept (skip (by simp only [World.size_alloc]; omega) rfl)
    rw [← hw2]
    clear hw2
    obtain ⟨HP, HBY⟩ : Hid (Pre 0 21 L) ∧ Hid (BytesB L) := HD.out.pre
    obtain ⟨hbo, hb1, hb2, hb3⟩ := build_of HP.out HBY.out
    have hl200 : L.length ≤ 200 := HD.out.2.1
    have hdl := nodeW_le 21 0 L [] HP.out.ne
    have HOKR := Lib.hid HD.out.okR
    obtain ⟨s0, D0, hq⟩ : ∃ s0 D0, nodeW 21 0 L [] = (s0, D0) := ⟨_, _, rfl⟩
    have HNA := Lib.hid (node_any w w.heap.size (w.heap.size + 1) w.heap.size (Nat.le_refl _) HT.out 21 0 L b o cap (.slice none 0 0) [] [] w2 HR.out hc (by omega) HP.out (by omega) (by simp; omega) HST.out HB2.out)
    rw [hq] at hbo hb1 hb2 hb3 hdl HNA
    simp only at hbo hb1 hb2 hb3 hdl
    have HBO := Lib.hid hbo; have HDN := Lib.hid hb2; have HAL := Lib.hid hb3
    have hdl2 : D0.length ≤ 4200 := by simp at hdl; omega
    clear hbo hb2 hb3 hq hdl
    go_upto_region 5 with (first
      | (go_at_call 43; refine HNA.out.mono ?_; rintro e w3 ⟨v3, N3, E3, rfl, hb3, -, -, hB3, -, -⟩; have HB3 := Lib.hid hb3; have HW3 := Lib.hid hB3; clear hb3 hB3))
    have hrep := HB3.out.rep
    obtain ⟨a3, c3, hv3, hc3, hdw⟩ := OwnD.dawg (w := w3) (B := w.heap.size) (v := v3) (D := D0) ⟨N3, HB3.out.own, HB3.out.len, HB3.out.arcs⟩ HAL.out
    subst hv3
    have HDW := Lib.hid hdw
    have hr0 : w3.cell? ⟨w.heap.size + 1, 0, none⟩ = some (.slice a3 D0.length c3) := by
      rw [cell_of_row _ _ _ _ _ _ hrep]; rfl
    clear hrep hdw
    go_wp2_with (first
      | (go_at_call 44; refine (numbered_any D0 s0 a3 c3 w3 HDW.out (by omega) HDN.out HAL.out hb1).mono ?_; rintro e w4 ⟨v4, rfl, ho4, hb4⟩; have HO4 := Lib.hid ho4; have HB4 := Lib.hid hb4; clear ho4 hb4))
    rw [HBO.out] at HO4
    obtain ⟨Mt, hgt, -⟩ := of_tab HOKR.out.1 HOKR.out.2
    obtain ⟨a4, c4, rfl, hc4, hdw4⟩ := HO4.out.dawg fun i hi => by
      obtain ⟨r, _, _, h3⟩ := hgt.nd i hi
      rw [h3.len]; have := grp_len r; omega
    have hle := ofF_le HOKR.out.1
    have hln : (restAt 0 L).length = L.length := by simp [restAt]
    go_ret2
    exact .inl ⟨HD.out, a4, c4, rfl, hc4, by omega, hdw4, HW3.out.trans (HB4.out.mono HW3.out.size)⟩
  · have HD := Lib.hid hd
    have hdb := dictB_no hd
    clear hd
    go_enter Tryd.func22, Tryd.ntmps22
    go_wp2_with (first
      | (go_at_call 42; refine (dictionary_any L _ a cap _ HR.out rfl hn).mono ?_; rintro e w1 ⟨rfl, rfl⟩; rw [hdb]))
    go_ret2
    exact .inr ⟨HD.out, rfl, Below.refl _ _⟩
end Go.Proofs.YtocdljmdmiphnaaDoor
