/- What is listed of the canonical automaton: its words. Plain. -/
import Derived.Test.YtocdljmdmiphnaaDoorDListed
import Derived.Test.YtocdljmdmiphnaaDoorDWords
import Derived.Test.YtocdljmdmiphnaaDoorDHas
namespace Go.Proofs.YtocdljmdmiphnaaDoor
open Go.RowKit Go.WideShapes
set_option linter.unusedVariables false
set_option linter.unusedSimpArgs false

def tagW (ws : Wd) (l : Wd) : ByteArray × Bool := (toB (ws ++ l), true)
theorem catG_cons (c : Nat) (g : Rst) (G : List (Nat × Rst)) : catG ((c, g) :: G) = g.map (UInt8.ofNat c :: ·) ++ catG G := rfl
/-! ### visit -/
theorem armsL_cat {Mt : List Rst} {n : Nat} {rec : Int → List UInt8 → List (ByteArray × Bool) × Bool} {ws : Wd} : ∀ {G : List (Nat × Rst)} {X : List Ar}, Arcs Mt n G X →
    (∀ (c t : Nat) (g : Rst), (c, g) ∈ G → t < n → Mt[t]? = some g → rec (t : Int) (ws ++ [UInt8.ofNat c]) = (g.map (tagW (ws ++ [UInt8.ofNat c])), true)) → armsL rec ws X = ((catG G).map (tagW ws), true) := by
  intro G X hA
  induction hA with
  | nil => intro _; rfl
  | @cons c t g G X h1 h2 h3 _ ih =>
    intro hr
    have h := hr c t g (by simp) h2 h3
    have ih2 := ih fun c t g hg => hr c t g (List.mem_cons_of_mem _ hg)
    have e : UInt8.ofNat (c : Int).toNat = UInt8.ofNat c := by rw [Int.toNat_natCast]
    rw [armsL]
    simp only [e, h, if_pos, ih2]
    rw [catG_cons, List.map_append, List.map_map]
    have : (tagW ws ∘ fun x => UInt8.ofNat c :: x) = tagW (ws ++ [UInt8.ofNat c]) := by
      funext l
      simp [tagW]
    rw [this]
theorem grp_ne {r : Rst} (h : OkR r) (hf : finR r = false) : grp r ≠ [] := by
  intro e
  have := recon h.1 h.2.1
  rw [hf, e] at this
  simp [catG] at this
  exact h.2.2 this
theorem OkR.fst {r : Rst} (h : OkR r) : ∃ s, s ∈ r := List.exists_mem_of_ne_nil _ h.2.2
theorem visit_tab {Mt : List Rst} {E : List Nd} (hT : GTab Mt E) : ∀ (m k : Nat) (r : Rst) (ws : Wd), Mt[k]? = some r → (∀ s ∈ r, s.length < m) → (∀ s ∈ r, ws.length + s.length ≤ 20) → visitL E m (k : Int) ws = (r.map (tagW ws), true)
  | 0, k, r, ws, hk, hm, _ => by
    exfalso
    have hok := hT.ok r (List.mem_of_getElem? hk)
    obtain ⟨s, hs⟩ := hok.fst
    have := hm s hs; omega
  | m + 1, k, r, ws, hk, hm, hw => by
    have hok := hT.ok r (List.mem_of_getElem? hk)
    have hkE : k < E.length := by rw [← hT.len]; exact (List.getElem?_eq_some_iff.1 hk).1
    obtain ⟨r', h1, h2, h3⟩ := hT.nd k hkE
    obtain rfl : r = r' := by rw [hk] at h1; injection h1
    have hgd : E.getD (k : Int).toNat default = E[k] := by rw [Int.toNat_natCast, List.getD_eq_getElem?_getD, List.getElem?_eq_getElem hkE]; rfl
    have hne : ¬ ((E[k].fin = false) ∧ E[k].arcs = []) := by
      rintro ⟨a, b⟩
      rw [h2] at a
      have := h3.len
      rw [b] at this
      exact grp_ne hok a (List.eq_nil_of_length_eq_zero this.symm)
    obtain ⟨s0, hs0⟩ := hok.fst
    have hfail : failV E (k : Int) ws = false := by
      unfold failV
      rw [hgd]
      have := hw s0 hs0
      have e1 : ¬ (k : Int) < 0 := by omega
      have e2 : ¬ (E.length : Int) ≤ k := by omega
      have e3 : ¬ 20 < ws.length := by omega
      simp only [e1, e2, e3, decide_false, Bool.or_false, Bool.false_or, Bool.and_eq_false_iff, Bool.not_eq_false']
      by_cases hf : E[k].fin = true
      · exact .inl hf
      · exact .inr (decide_eq_false fun h => hne ⟨by simpa using hf, h⟩)
    rw [visitL, if_neg (by rw [hfail]; simp), hgd]
    have hA := armsL_cat (rec := visitL E m) (ws := ws) h3 fun c t g hg ht hM => by
      obtain ⟨g1, g2, g3, g4⟩ := grp_mem hg
      simp only at g3
      refine visit_tab hT m t g _ hM (fun s hs => ?_) (fun s hs => ?_)
      · rw [g3] at hs
        obtain ⟨b, _, h5⟩ := afterL_mem.1 hs
        have := hm _ h5
        simp at this; omega
      · rw [g3] at hs
        obtain ⟨b, _, h5⟩ := afterL_mem.1 hs
        have := hw _ h5
        simp at this ⊢; omega
    rw [hA, h2]
    have hre : r.map (tagW ws) = (if finR r = true then [((⟨ws.toArray⟩ : ByteArray), true)] else []) ++ (catG (grp r)).map (tagW ws) := by
      have hrc := recon hok.1 hok.2.1
      refine (congrArg (List.map (tagW ws)) hrc).trans ?_
      rw [List.map_append]
      congr 1
      split
      · simp [tagW, toB]
      · rfl
    rw [hre]
/-- a dictionary's automaton yields its words -/
theorem visit_of {L : List ByteArray} (hd : Dict L) : (visitL (ofF (restAt 0 L)) 22 0 []).1 = L.map fun s => (s, true) := by
  obtain ⟨Mt, hgt, h0⟩ := of_tab hd.okR.1 hd.okR.2
  have h := visit_tab hgt 22 0 (restAt 0 L) [] h0 (fun s hs => by have := hd.okR.2 s hs; omega) (fun s hs => by have := hd.okR.2 s hs; simp; omega)
  have e : ((0 : Nat) : Int) = 0 := rfl
  rw [e] at h
  rw [h]
  show (restAt 0 L).map (tagW []) = _
  unfold restAt
  rw [List.map_map]
  congr 1
theorem col_of {L : List ByteArray} (hd : Dict L) : colOk (visitL (ofF (restAt 0 L)) 22 0 []).1 := by
  rw [visit_of hd]
  refine ⟨fun x hx => ?_, by rw [List.length_map]; exact hd.2.1⟩
  obtain ⟨s, _, rfl⟩ := List.mem_map.1 hx
  rfl
theorem fst_of {L : List ByteArray} (hd : Dict L) : fstS (visitL (ofF (restAt 0 L)) 22 0 []).1 = L := by
  rw [visit_of hd]
  unfold fstS
  rw [List.map_map]
  exact List.map_id'' (fun _ => rfl) _
theorem words_of {L : List ByteArray} (hd : Dict L) : wordsF (ofF (restAt 0 L)) = L := by rw [wordsF_yes (col_of hd), fst_of hd]
theorem valid_of {L : List ByteArray} (hd : Dict L) : validF (ofF (restAt 0 L)) = true := validF_yes ⟨col_of hd, by rw [fst_of hd]; exact hd, by rw [fst_of hd]⟩
/-! ### the lister -/
def sumW (r : Rst) : Nat := (r.map List.length).sum
theorem sumW_app (a b : Rst) : sumW (a ++ b) = sumW a + sumW b := by unfold sumW; rw [List.map_append, List.sum_append]
theorem sumW_map (c : UInt8) : ∀ r : Rst, sumW (r.map (c :: ·)) = r.length + sumW r
  | [] => rfl
  | l :: r => by
    have := sumW_map c r
    unfold sumW at this ⊢
    simp only [List.map_cons, List.sum_cons, List.length_cons] at this ⊢
    omega
theorem sumW_le {k : Nat} : ∀ {r : Rst}, (∀ s ∈ r, s.length ≤ k) → sumW r ≤ r.length * k
  | [], _ => Nat.zero_le _
  | l :: r, h => by
    have h1 := sumW_le (r := r) fun s hs => h s (List.mem_cons_of_mem _ hs)
    have h2 := h l (by simp)
    have h3 : (l :: r).length * k = r.length * k + k := by rw [List.length_cons, Nat.succ_mul]
    unfold sumW at h1 ⊢
    simp only [List.map_cons, List.sum_cons]
    omega
theorem armsX_cat {Mt : List Rst} {n : Nat} {rec : Int → Wd → Nat × List Wd → Nat × List Wd} {ws : Wd} : ∀ {G : List (Nat × Rst)} {X : List Ar}, Arcs Mt n G X →
    (∀ (c t : Nat) (g : Rst), (c, g) ∈ G → g ≠ [] ∧ (t < n → Mt[t]? = some g → ∀ left out, 1 + sumW g < left → ∃ l2, left ≤ l2 + (1 + sumW g) ∧ rec (t : Int) (ws ++ [UInt8.ofNat c]) (left, out) = (l2, out ++ g.map ((ws ++ [UInt8.ofNat c]) ++ ·)))) →
    ∀ left out, sumW (catG G) < left → ∃ l2, left ≤ l2 + sumW (catG G) ∧ armsX rec ws X (left, out) = (l2, out ++ (catG G).map (ws ++ ·)) := by
  intro G X hA
  induction hA with
  | nil => intro _ left out _; exact ⟨left, by omega, by simp [armsX, catG]⟩
  | @cons c t g G X h1 h2 h3 _ ih =>
    intro hr left out hl
    obtain ⟨hg, h⟩ := hr c t g (by simp)
    rw [catG_cons, sumW_app, sumW_map] at hl
    have hgl : 1 ≤ g.length := List.length_pos_iff.2 hg
    obtain ⟨l2, e1, e2⟩ := h h2 h3 left out (by omega)
    obtain ⟨l3, e3, e4⟩ := ih (fun c t g hg => hr c t g (List.mem_cons_of_mem _ hg)) l2 (out ++ g.map ((ws ++ [UInt8.ofNat c]) ++ ·)) (by omega)
    refine ⟨l3, by rw [catG_cons, sumW_app, sumW_map]; omega, ?_⟩
    have ec : arB ⟨(c : Int), (t : Int)⟩ = UInt8.ofNat c := by unfold arB; rw [Int.toNat_natCast]
    rw [armsX, if_neg (by simp only; omega), ec, e2, e4, catG_cons, List.map_append, List.map_map, List.append_assoc]
    have : ((fun l => ws ++ l) ∘ fun x => UInt8.ofNat c :: x) = fun l => (ws ++ [UInt8.ofNat c]) ++ l := by
      funext l
      simp
    rw [this]
theorem list_tab {Mt : List Rst} {E : List Nd} (hT : GTab Mt E) : ∀ (m k : Nat) (r : Rst) (ws : Wd) (left : Nat) (out : List Wd), Mt[k]? = some r → (∀ s ∈ r, s.length < m) → (∀ s ∈ r, ws.length + s.length ≤ 20) → 1 + sumW r < left →
    ∃ l2, left ≤ l2 + (1 + sumW r) ∧ listF E m (k : Int) ws (left, out) = (l2, out ++ r.map (ws ++ ·))
  | 0, k, r, ws, left, out, hk, hm, _, _ => by
    exfalso
    have hok := hT.ok r (List.mem_of_getElem? hk)
    obtain ⟨s, hs⟩ := hok.fst
    have := hm s hs; omega
  | m + 1, k, r, ws, left, out, hk, hm, hw, hl => by
    have hok := hT.ok r (List.mem_of_getElem? hk)
    have hkE : k < E.length := by rw [← hT.len]; exact (List.getElem?_eq_some_iff.1 hk).1
    obtain ⟨r', h1, h2, h3⟩ := hT.nd k hkE
    obtain rfl : r = r' := by rw [hk] at h1; injection h1
    have hgd : E.getD (k : Int).toNat default = E[k] := by rw [Int.toNat_natCast, List.getD_eq_getElem?_getD, List.getElem?_eq_getElem hkE]; rfl
    obtain ⟨s0, hs0⟩ := hok.fst
    have h0 := hw s0 hs0
    have hrc := recon hok.1 hok.2.1
    have hsum : sumW r = sumW (catG (grp r)) := by
      refine (congrArg sumW hrc).trans ?_
      rw [sumW_app]
      split <;> simp [sumW]
    obtain ⟨l2, e1, e2⟩ := armsX_cat (rec := listF E m) (ws := ws) h3 (fun c t g hg => by
      obtain ⟨g1, g2, g3, g4⟩ := grp_mem hg
      simp only at g3 g4
      refine ⟨g4, fun ht hM left out hl => list_tab hT m t g _ left out hM (fun s hs => ?_) (fun s hs => ?_) hl⟩
      · rw [g3] at hs
        obtain ⟨b, _, h5⟩ := afterL_mem.1 hs
        have := hm _ h5
        simp at this; omega
      · rw [g3] at hs
        obtain ⟨b, _, h5⟩ := afterL_mem.1 hs
        have := hw _ h5
        simp at this ⊢; omega) (left - 1) (if finR r = true then out ++ [ws] else out) (by omega)
    refine ⟨l2, by omega, ?_⟩
    rw [listF, if_neg (by simp only; omega), hgd, h2]
    simp only
    rw [e2]
    congr 1
    have hre : r.map (ws ++ ·) = (if finR r = true then [ws] else []) ++ (catG (grp r)).map (ws ++ ·) := by
      refine (congrArg (List.map (ws ++ ·)) hrc).trans ?_
      rw [List.map_append]
      congr 1
      split
      · simp
      · rfl
    rw [hre]
    split
    · rw [List.append_assoc]
    · rfl
theorem listed_of {L : List ByteArray} (hd : Dict L) : (listedF (ofF (restAt 0 L))).2 = restAt 0 L ∧ fewB (ofF (restAt 0 L)) = true := by
  obtain ⟨Mt, hgt, h0⟩ := of_tab hd.okR.1 hd.okR.2
  have hs := sumW_le (r := restAt 0 L) (k := 20) fun s hs => by have := hd.okR.2 s hs; omega
  have hln : (restAt 0 L).length = L.length := by simp [restAt]
  have := hd.2.1
  obtain ⟨l2, e1, e2⟩ := list_tab hgt 22 0 (restAt 0 L) [] 5000 [] h0 (fun s hs => by have := hd.okR.2 s hs; omega) (fun s hs => by have := hd.okR.2 s hs; simp; omega) (by omega)
  have e : ((0 : Nat) : Int) = 0 := rfl
  rw [e] at e2
  unfold fewB listedF
  rw [e2]
  refine ⟨?_, decide_eq_true (by simp only; omega)⟩
  simp
theorem validR_of {L : List ByteArray} (hd : Dict L) : validR (ofF (restAt 0 L)) = true := by
  obtain ⟨h1, h2⟩ := listed_of hd
  refine validR_yes ⟨h2, ?_, by rw [h1]⟩
  rw [h1, rowsB_rest]; exact hd
/-- both Valids agree -/
theorem valid_same (D : List Nd) : validF D = validR D := by
  by_cases h : colOk (visitL D 22 0 []).1 ∧ Dict (fstS (visitL D 22 0 []).1) ∧ D = ofF (restAt 0 (fstS (visitL D 22 0 []).1))
  · have h2 := validR_of h.2.1
    rw [← h.2.2] at h2
    rw [validF_yes h, h2]
  · rw [validF_no h]
    by_cases h2 : fewB D = true ∧ Dict (rowsB (listedF D).2) ∧ D = ofF (listedF D).2
    · exfalso
      have h3 := h2.2.2
      have hd := h2.2.1
      have e : restAt 0 (rowsB (listedF D).2) = (listedF D).2 := rest_rows _
      rw [← e] at h3
      refine h ⟨?_, ?_, ?_⟩
      · rw [h3]; exact col_of hd
      · rw [h3, fst_of hd]; exact hd
      · rw [h3, fst_of hd]
    · rw [validR_no h2]
/-! ### Has -/
theorem step_cat {Mt : List Rst} {n : Nat} {c : Nat} : ∀ {G : List (Nat × Rst)} {X : List Ar}, Arcs Mt n G X →
    (stepL (n : Int) (c : Int) X = -1 ∧ ∀ g, (c, g) ∉ G) ∨ ∃ (t : Nat) (g : Rst), stepL (n : Int) (c : Int) X = (t : Int) ∧ t < n ∧ Mt[t]? = some g ∧ (c, g) ∈ G := by
  intro G X hA
  induction hA with
  | nil => exact .inl ⟨rfl, fun g h => by cases h⟩
  | @cons c' t g G X h1 h2 h3 _ ih =>
    rw [stepL]
    by_cases e : c' = c
    · subst e
      rw [if_pos ⟨rfl, by simp only; omega, by simp only; omega⟩]
      exact .inr ⟨t, g, rfl, h2, h3, by simp⟩
    · rw [if_neg (by simp only; omega)]
      rcases ih with ⟨a, b⟩ | ⟨t, g, a, b, d, f⟩
      · refine .inl ⟨a, fun g h => ?_⟩
        rcases List.mem_cons.1 h with h | h
        · injection h with h _; exact e h.symm
        · exact b g h
      · exact .inr ⟨t, g, a, b, d, List.mem_cons_of_mem _ f⟩
theorem grp_has {r : Rst} {c : Nat} (hc : 33 ≤ c) (hc2 : c < 127) (h : afterL r c ≠ []) : (c, afterL r c) ∈ grp r := by
  unfold grp grpR
  rw [List.mem_filterMap]
  exact ⟨c, List.mem_range'.2 ⟨c - 33, by omega, by omega⟩, by rw [if_neg h]⟩
theorem finR_mem {r : Rst} (h : SortR r) : finR r = decide ([] ∈ r) := by
  cases r with
  | nil => simp [finR]
  | cons x r =>
    cases x with
    | nil => simp [finR]
    | cons b t =>
      have : [] ∉ (b :: t) :: r := fun hm => by
        rcases List.mem_cons.1 hm with hm | hm
        · cases hm
        · exact h.nonempty [] hm rfl
      rw [decide_eq_false this]; rfl
theorem go_tab {Mt : List Rst} {E : List Nd} (hT : GTab Mt E) : ∀ (l : Wd) (k : Nat) (r : Rst), Mt[k]? = some r → goL E k l = decide (l ∈ r)
  | [], k, r, hk => by
    have hok := hT.ok r (List.mem_of_getElem? hk)
    have hkE : k < E.length := by rw [← hT.len]; exact (List.getElem?_eq_some_iff.1 hk).1
    obtain ⟨r', h1, h2, h3⟩ := hT.nd k hkE
    obtain rfl : r = r' := by rw [hk] at h1; injection h1
    rw [goL, List.getD_eq_getElem?_getD, List.getElem?_eq_getElem hkE]
    show E[k].fin = _
    rw [h2, finR_mem hok.1]
  | c :: l, k, r, hk => by
    have hok := hT.ok r (List.mem_of_getElem? hk)
    have hkE : k < E.length := by rw [← hT.len]; exact (List.getElem?_eq_some_iff.1 hk).1
    obtain ⟨r', h1, h2, h3⟩ := hT.nd k hkE
    obtain rfl : r = r' := by rw [hk] at h1; injection h1
    have hgd : E.getD k default = E[k] := by rw [List.getD_eq_getElem?_getD, List.getElem?_eq_getElem hkE]; rfl
    have hin : (c :: l ∈ r) ↔ l ∈ afterL r c.toNat := by
      rw [afterL_mem]
      constructor
      · intro h; exact ⟨c, rfl, h⟩
      · rintro ⟨b, hb, h⟩
        obtain rfl : b = c := UInt8.toNat_inj.1 hb
        exact h
    rw [goL, hgd]
    rcases step_cat (c := c.toNat) h3 with ⟨a, b⟩ | ⟨t, g, a, b, d, f⟩
    · rw [a, if_pos (by decide)]
      refine (decide_eq_false fun h => ?_).symm
      have hne : afterL r c.toNat ≠ [] := fun e => by rw [hin, e] at h; cases h
      have hb := hok.2.1 _ h c (by simp)
      exact b _ (grp_has hb.1 hb.2 hne)
    · rw [a, if_neg (by omega), Int.toNat_natCast, go_tab hT l t g d]
      obtain ⟨_, _, g3, _⟩ := grp_mem f
      simp only at g3
      rw [g3]
      by_cases h : l ∈ afterL r c.toNat
      · rw [decide_eq_true h, decide_eq_true (hin.2 h)]
      · rw [decide_eq_false h, decide_eq_false fun h2 => h (hin.1 h2)]
theorem idxF_mem {L : List ByteArray} {s : ByteArray} : 0 ≤ idxF L s ↔ s ∈ L := by
  unfold idxF
  constructor
  · intro h
    split at h
    · rename_i h2
      have := List.findIdx_getElem (w := h2)
      simp only [decide_eq_true_eq] at this
      rw [← this]; exact List.getElem_mem h2
    · omega
  · intro h
    rw [if_pos (List.findIdx_lt_length_of_exists ⟨s, h, by simp⟩)]
    omega
theorem has_of {L : List ByteArray} (hd : Dict L) (s : ByteArray) : hasB (ofF (restAt 0 L)) s = decide (0 ≤ idxF L s) := by
  obtain ⟨Mt, hgt, h0⟩ := of_tab hd.okR.1 hd.okR.2
  have hpos : 0 < (ofF (restAt 0 L)).length := by rw [← hgt.len]; exact (List.getElem?_eq_some_iff.1 h0).1
  rw [hasB, if_neg (by omega), go_tab hgt _ 0 _ h0]
  have : s.data.toList ∈ restAt 0 L ↔ s ∈ L := by
    unfold restAt
    rw [List.mem_map]
    constructor
    · rintro ⟨x, hx, h⟩
      rw [List.drop_zero] at h
      have : x = s := bytes_inj h
      rw [← this]; exact hx
    · intro h
      exact ⟨s, h, by rw [List.drop_zero]⟩
  by_cases h : s ∈ L
  · rw [decide_eq_true (idxF_mem.2 h), decide_eq_true (this.2 h)]
  · rw [decide_eq_false fun h2 => h (idxF_mem.1 h2), decide_eq_false fun h2 => h (this.1 h2)]
/-- two dictionaries with one automaton are one -/
theorem of_inj {L M : List ByteArray} (hL : Dict L) (hM : Dict M) (h : ofF (restAt 0 L) = ofF (restAt 0 M)) : L = M := by
  rw [← words_of hL, h, words_of hM]
end Go.Proofs.YtocdljmdmiphnaaDoor
