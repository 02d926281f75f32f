/- flaw.first: the plain search, and its state in memory. -/
import Derived.Test.YtogjcfcfgnbmkaaChain
import Derived.Conc.LoneSelectN
import Derived.Deep.OwnRows
namespace Go.Proofs.Ytogjcfcfgnbmkaa
open Go.RowKit Go.Conc
set_option linter.unusedVariables false
set_option linter.unusedSimpArgs false

/-! ### plain: the search -/
structure BS where
  q : List Nat
  ch : Nat → List Nat
  seen : Nat
/-- the rules from number i on, at mode m -/
def inner (use : Rl → Bool) (goal m : Nat) : List Rl → Nat → BS → List Nat ⊕ BS
  | [], _, s => .inr s
  | r :: R, i, s =>
    if decide (r.frm.toNat = m) && use r then
      if goal.testBit r.dst.toNat then .inl (s.ch m ++ [i])
      else if s.seen.testBit r.dst.toNat then inner use goal m R (i + 1) s
      else inner use goal m R (i + 1) ⟨s.q ++ [r.dst.toNat], fun t => if t = r.dst.toNat then s.ch m ++ [i] else s.ch t, s.seen ||| 2 ^ r.dst.toNat⟩
    else inner use goal m R (i + 1) s
def outer (use : Rl → Bool) (goal : Nat) (R : List Rl) : Nat → BS → List Nat
  | 0, _ => []
  | n + 1, s => match s.q with
    | [] => []
    | m :: q => match inner use goal m R 0 { s with q := q } with
      | .inl c => c
      | .inr s' => outer use goal R n s'
def cntF : Nat → (Nat → Bool) → Nat
  | 0, _ => 0
  | n + 1, f => cntF n f + if f n then 0 else 1
def unseen (L : Nat) : Nat := cntF 8 L.testBit
def bfs (use : Rl → Bool) (goal : Nat) (R : List Rl) (start : Nat) : List Nat := outer use goal R 8 ⟨[start], fun _ => [], 2 ^ start⟩
theorem cntF_le (f : Nat → Bool) : ∀ n, cntF n f ≤ n
  | 0 => Nat.le_refl _
  | n + 1 => by have := cntF_le f n; simp only [cntF]; split <;> omega
theorem cntF_add {f g : Nat → Bool} {t : Nat} (hg : ∀ i, g i = (f i || decide (t = i))) (ht : f t = false) : ∀ n, cntF n g + (if t < n then 1 else 0) = cntF n f
  | 0 => by simp [cntF]
  | n + 1 => by
    have ih := cntF_add hg ht n
    simp only [cntF, hg n]
    by_cases h : t = n
    · subst h
      simp [ht] at ih ⊢
      omega
    · have : decide (t = n) = false := by simp [h]
      rw [this, Bool.or_false]
      have h3 : (if t < n + 1 then 1 else 0) = if t < n then 1 else (0 : Nat) := by
        by_cases h2 : t < n
        · rw [if_pos h2, if_pos (by omega)]
        · rw [if_neg h2, if_neg (by omega)]
      rw [h3]
      split at ih <;> split <;> omega
theorem unseen_le (L : Nat) : unseen L ≤ 8 := cntF_le _ 8
theorem unseen_add {L t : Nat} (ht : t < 8) (h : L.testBit t = false) : unseen (L ||| 2 ^ t) + 1 = unseen L := by
  have := cntF_add (f := L.testBit) (g := (L ||| 2 ^ t).testBit) (t := t) (fun i => by rw [Nat.testBit_or, Nat.testBit_two_pow]) h 8
  rwa [if_pos ht] at this
theorem unseen_one {t : Nat} (ht : t < 8) : unseen (2 ^ t) = 7 := by
  rcases (show t = 0 ∨ t = 1 ∨ t = 2 ∨ t = 3 ∨ t = 4 ∨ t = 5 ∨ t = 6 ∨ t = 7 by omega) with rfl | rfl | rfl | rfl | rfl | rfl | rfl | rfl <;> decide +kernel

/-! ### the slots of flaw.first: what is known of them, the others whatever -/
theorem seg (l : List Value) (a k : Nat) (h : a + k ≤ l.length) : (l.drop a).take k = (List.range k).map fun i => l.getD (i + a) undef := by
  refine List.ext_getElem (by simp; omega) fun i h1 h2 => ?_
  have hi : i < k := by simpa using h2
  simp only [List.getElem_take, List.getElem_drop, List.getElem_map, List.getElem_range]
  rw [List.getD_eq_getElem?_getD, List.getElem?_eq_getElem (by omega), Option.getD_some]
  congr 1; omega
theorem form_o {p0 p1 p2 p3 p4 p5 p6 p7 p8 p9 p10 p11 : Value} {A : Act} (hd : A.defers = []) (hs : A.tmps.toList.length = 77) (h : A.tmps.toList.take 12 = [p0, p1, p2, p3, p4, p5, p6, p7, p8, p9, p10, p11]) : ∃ x : Nat → Value, A = ⟨#[p0, p1, p2, p3, p4, p5, p6, p7, p8, p9, p10, p11, x 12, x 13, x 14, x 15, x 16, x 17, x 18, x 19, x 20, x 21, x 22, x 23, x 24, x 25, x 26, x 27, x 28, x 29, x 30, x 31, x 32, x 33, x 34, x 35, x 36, x 37, x 38, x 39, x 40, x 41, x 42, x 43, x 44, x 45, x 46, x 47, x 48, x 49, x 50, x 51, x 52, x 53, x 54, x 55, x 56, x 57, x 58, x 59, x 60, x 61, x 62, x 63, x 64, x 65, x 66, x 67, x 68, x 69, x 70, x 71, x 72, x 73, x 74, x 75, x 76], []⟩ := by
  refine ⟨fun i => A.tmps.toList.getD i undef, ?_⟩
  obtain ⟨⟨l⟩, d⟩ := A
  simp only at hd hs h ⊢
  subst hd
  congr 1
  apply congrArg Array.mk
  have e2 := seg l 12 65 (by omega)
  rw [List.take_of_length_le (by simp; omega)] at e2
  have e4 : l = l.take 12 ++ l.drop 12 := (List.take_append_drop 12 l).symm
  refine e4.trans ?_
  rw [h, e2]
  rfl
theorem form_m {p0 p1 p2 p3 p4 p5 p6 p7 p8 p9 p10 p11 p12 : Value} {A : Act} (hd : A.defers = []) (hs : A.tmps.toList.length = 77) (h : A.tmps.toList.take 13 = [p0, p1, p2, p3, p4, p5, p6, p7, p8, p9, p10, p11, p12]) : ∃ x : Nat → Value, A = ⟨#[p0, p1, p2, p3, p4, p5, p6, p7, p8, p9, p10, p11, p12, x 13, x 14, x 15, x 16, x 17, x 18, x 19, x 20, x 21, x 22, x 23, x 24, x 25, x 26, x 27, x 28, x 29, x 30, x 31, x 32, x 33, x 34, x 35, x 36, x 37, x 38, x 39, x 40, x 41, x 42, x 43, x 44, x 45, x 46, x 47, x 48, x 49, x 50, x 51, x 52, x 53, x 54, x 55, x 56, x 57, x 58, x 59, x 60, x 61, x 62, x 63, x 64, x 65, x 66, x 67, x 68, x 69, x 70, x 71, x 72, x 73, x 74, x 75, x 76], []⟩ := by
  refine ⟨fun i => A.tmps.toList.getD i undef, ?_⟩
  obtain ⟨⟨l⟩, d⟩ := A
  simp only at hd hs h ⊢
  subst hd
  congr 1
  apply congrArg Array.mk
  have e2 := seg l 13 64 (by omega)
  rw [List.take_of_length_le (by simp; omega)] at e2
  have e4 : l = l.take 13 ++ l.drop 13 := (List.take_append_drop 13 l).symm
  refine e4.trans ?_
  rw [h, e2]
  rfl
theorem wpK_act {P : Program} {c : Code} {Q : Exit → Act → World → Prop} {A A' : Act} {w : World} (h : A = A') (h2 : wpK P c Q A' w) : wpK P c Q A w := h ▸ h2
theorem wpK_m {P : Program} {c : Code} {Q : Exit → Act → World → Prop} {w : World} {p0 p1 p2 p3 p4 p5 p6 p7 p8 p9 p10 p11 p12 : Value} {A : Act} (hd : A.defers = []) (hs : A.tmps.toList.length = 77) (h : A.tmps.toList.take 13 = [p0, p1, p2, p3, p4, p5, p6, p7, p8, p9, p10, p11, p12])
    (h2 : ∀ x : Nat → Value, wpK P c Q ⟨#[p0, p1, p2, p3, p4, p5, p6, p7, p8, p9, p10, p11, p12, x 13, x 14, x 15, x 16, x 17, x 18, x 19, x 20, x 21, x 22, x 23, x 24, x 25, x 26, x 27, x 28, x 29, x 30, x 31, x 32, x 33, x 34, x 35, x 36, x 37, x 38, x 39, x 40, x 41, x 42, x 43, x 44, x 45, x 46, x 47, x 48, x 49, x 50, x 51, x 52, x 53, x 54, x 55, x 56, x 57, x 58, x 59, x 60, x 61, x 62, x 63, x 64, x 65, x 66, x 67, x 68, x 69, x 70, x 71, x 72, x 73, x 74, x 75, x 76], []⟩ w) : wpK P c Q A w := by
  obtain ⟨x, hx⟩ := form_m hd hs h; rw [hx]; exact h2 x
theorem pop_vals (m : Nat) (q : List Nat) : (((m :: q).map fun (t : Nat) => Value.int .i64 (t : Int)).toArray).extract 1 (((m :: q).map fun (t : Nat) => Value.int .i64 (t : Int)).toArray).size = (q.map fun (t : Nat) => Value.int .i64 (t : Int)).toArray := by
  apply Array.ext'
  simp [List.take_of_length_le]
theorem form_i {p0 p1 p2 p3 p4 p5 p6 p7 p8 p9 p10 p11 p12 p28 p29 p30 : Value} {A : Act} (hd : A.defers = []) (hs : A.tmps.toList.length = 77) (h : A.tmps.toList.take 13 = [p0, p1, p2, p3, p4, p5, p6, p7, p8, p9, p10, p11, p12]) (h2 : (A.tmps.toList.drop 28).take 3 = [p28, p29, p30]) :
    ∃ x : Nat → Value, A = ⟨#[p0, p1, p2, p3, p4, p5, p6, p7, p8, p9, p10, p11, p12, x 13, x 14, x 15, x 16, x 17, x 18, x 19, x 20, x 21, x 22, x 23, x 24, x 25, x 26, x 27, p28, p29, p30, x 31, x 32, x 33, x 34, x 35, x 36, x 37, x 38, x 39, x 40, x 41, x 42, x 43, x 44, x 45, x 46, x 47, x 48, x 49, x 50, x 51, x 52, x 53, x 54, x 55, x 56, x 57, x 58, x 59, x 60, x 61, x 62, x 63, x 64, x 65, x 66, x 67, x 68, x 69, x 70, x 71, x 72, x 73, x 74, x 75, x 76], []⟩ := by
  refine ⟨fun i => A.tmps.toList.getD i undef, ?_⟩
  obtain ⟨⟨l⟩, d⟩ := A
  simp only at hd hs h h2 ⊢
  subst hd
  congr 1
  apply congrArg Array.mk
  have e2 := seg l 13 15 (by omega)
  have e3 := seg l 31 46 (by omega)
  rw [List.take_of_length_le (by simp; omega)] at e3
  have e4 : l = l.take 13 ++ ((l.drop 13).take 15 ++ ((l.drop 28).take 3 ++ l.drop 31)) := by
    conv => lhs; rw [← List.take_append_drop 13 l, ← List.take_append_drop 15 (l.drop 13), ← List.take_append_drop 3 ((l.drop 13).drop 15)]
    simp only [List.drop_drop]
  refine e4.trans ?_
  rw [h, h2, e2, e3]
  rfl

/-! ### the search's state in memory -/
/-- W: the world behind the boxed scheme; its channel lies in block w.heap.size + 1, its chains in w.heap.size + 2 -/
structure BSt (B : Nat) (s : BS) (wr : World) : Prop where
  chan : ∃ sn rc, wr.heap[B + 1]? = some (.chan 8 ((s.q.map fun (t : Nat) => Value.int .i64 (t : Int)).toArray) false sn rc false)
  chains : ∃ cs : Array Value, wr.heap[B + 2]? = some (.cells cs 38 (0, 0)) ∧ cs.size = 8 ∧ ∀ t, t < 8 → ∃ v, cs[t]? = some v ∧ Ch wr B v (s.ch t)
  short : ∀ t, t < 8 → (s.ch t).length + unseen s.seen ≤ 8
  seen : s.seen < 256
  modes : ∀ t ∈ s.q, t < 8
  room : s.q.length + unseen s.seen ≤ 8

/-- the same, and nil where it is empty -/
def ChN (w : World) (B : Nat) (v : Value) (xs : List Nat) : Prop := Ch w B v xs ∧ (xs = [] → v = .slice none 0 0)
theorem Ch.slv {w : World} {B : Nat} {v : Value} {xs : List Nat} (h : Ch w B v xs) (hx : xs ≠ []) : ∃ g cap, v = .slice (some ⟨g, 0, none⟩) xs.length cap := by
  rcases h.2 with ⟨rfl, h0⟩ | ⟨g, cap, cur, rfl, _⟩
  · exact absurd (List.eq_nil_of_length_eq_zero h0) hx
  · exact ⟨g, cap, rfl⟩
theorem outer_nil {use : Rl → Bool} {goal : Nat} {R : List Rl} {n : Nat} {s : BS} (h : s.q = []) : outer use goal R n s = [] := by
  cases n with
  | zero => rfl
  | succ n => simp [outer, h]
theorem Ch.same {w w1 : World} {B : Nat} {v : Value} {xs : List Nat} (h : Ch w B v xs) (hv : ∀ g, v.ownBlock = some g → w1.heap[g]? = w.heap[g]?) : Ch w1 B v xs := by
  refine ⟨h.1, h.2.imp id ?_⟩
  rintro ⟨g, cap, cur, rfl, h1, h2, h3⟩
  exact ⟨g, cap, cur, rfl, h1, (hv g rfl).trans h2, h3⟩
theorem Ch.own {w : World} {B : Nat} {v : Value} {xs : List Nat} (h : Ch w B v xs) {g : Nat} (hg : v.ownBlock = some g) : ∃ cs, w.heap[g]? = some (.cells cs 3 (0, 0)) := by
  rcases h.2 with ⟨rfl, _⟩ | ⟨g', cap, cur, rfl, h1, h2, h3⟩
  · cases hg
  · cases hg; exact ⟨_, h2⟩
theorem bst_below {B : Nat} {s : BS} {wr w1 : World} (h : BSt B s wr) (hb : Below wr.heap.size wr w1) : BSt B s w1 := by
  obtain ⟨sn, rc, hch⟩ := h.chan
  obtain ⟨cs, h1, h2, h3⟩ := h.chains
  have hl : ∀ {g : Nat} {o : Obj}, wr.heap[g]? = some o → w1.heap[g]? = some o := fun {g o} hg => (hb.block g (Array.getElem?_eq_some_iff.1 hg).1).trans hg
  refine ⟨⟨sn, rc, hl hch⟩, ⟨cs, hl h1, h2, fun t ht => ?_⟩, h.short, h.seen, h.modes, h.room⟩
  obtain ⟨v, hv, hc⟩ := h3 t ht
  exact ⟨v, hv, hc.same fun g hg => hb.block g (hc.lt g hg)⟩
theorem bst_pop {B sn rc m : Nat} {s : BS} {q : List Nat} {wr : World} (h : BSt B s wr) (hq : s.q = m :: q) (hlt : B + 1 < wr.heap.size) (hch : ∃ buf sn rc, wr.heap[B + 1]? = some (.chan 8 buf false sn rc false)) :
    BSt B { s with q := q } (wr.setChan (B + 1) 8 ((q.map fun (t : Nat) => Value.int .i64 (t : Int)).toArray) false sn (rc + 1) false) := by
  obtain ⟨buf, sn', rc', hch⟩ := hch
  obtain ⟨cs, h1, h2, h3⟩ := h.chains
  have hoth : ∀ g, g ≠ B + 1 → (wr.setChan (B + 1) 8 ((q.map fun (t : Nat) => Value.int .i64 (t : Int)).toArray) false sn (rc + 1) false).heap[g]? = wr.heap[g]? := fun g hg => by
    simp only [World.setChan]; rw [Array.getElem?_setIfInBounds_ne (by omega)]
  refine ⟨⟨sn, rc + 1, heap_setChan _ _ _ _ _ _ _ _ hlt⟩, ⟨cs, (hoth _ (by omega)).trans h1, h2, fun t ht => ?_⟩, h.short, h.seen, fun t ht => h.modes t (by rw [hq]; simp [ht]), by have := h.room; rw [hq] at this; simp only [List.length_cons] at this; show q.length + unseen s.seen ≤ 8; omega⟩
  obtain ⟨v, hv, hc⟩ := h3 t ht
  refine ⟨v, hv, hc.same fun g hg => hoth g fun he => ?_⟩
  subst he
  obtain ⟨cs', hcs⟩ := hc.own hg
  rw [hch] at hcs; cases hcs
theorem bst_start (w : World) (o : Obj) (start : Nat) (hs : start < 8) :
    BSt w.heap.size ⟨[start], fun _ => [], 2 ^ start⟩ ((((w.alloc o).alloc (.chan 8 #[] false 0 0 false)).alloc (.cells (Array.replicate 8 (.slice none 0 0)) 38)).setChan (w.heap.size + 1) 8 (#[].push (.int .i64 (start : Int))) false (0 + 1) 0 false) := by
  refine ⟨⟨1, 0, ?_⟩, ⟨Array.replicate 8 (.slice none 0 0), ?_, by simp, fun t ht => ⟨.slice none 0 0, by simp [ht], Ch.nil _ _⟩⟩, fun t ht => by show 0 + unseen (2 ^ start) ≤ 8; rw [unseen_one hs]; omega, pow_lt _ hs, fun t ht => by simp at ht; omega, by show 1 + unseen (2 ^ start) ≤ 8; rw [unseen_one hs]; omega⟩
  · rw [heap_setChan _ _ _ _ _ _ _ _ (by simp)]; simp
  · simp only [World.setChan]
    rw [Array.getElem?_setIfInBounds_ne (by omega)]
    have : w.heap.size + 2 = ((w.alloc o).alloc (.chan 8 #[] false 0 0 false)).heap.size := by simp
    rw [this]; exact heap_alloc_new _ _
theorem heap_setChan_ne (w : World) {c c' : Nat} (cap : Nat) (buf : Array Value) (cl : Bool) (s r : Nat) (tm : Bool) (h : c ≠ c') : (w.setChan c cap buf cl s r tm).heap[c']? = w.heap[c']? := by
  simp only [World.setChan]; rw [Array.getElem?_setIfInBounds_ne h]
theorem bst_push {B sn rc m k d : Nat} {s : BS} {w3 : World} {v3 : Value} (h : BSt B s w3) (hd : d < 8) (hm : m < 8) (hsn : s.seen.testBit d = false) (hc3 : Ch w3 B v3 (s.ch m ++ [k]))
    (hch : w3.heap[B + 1]? = some (.chan 8 ((s.q.map fun (t : Nat) => Value.int .i64 (t : Int)).toArray) false sn rc false)) :
    BSt B ⟨s.q ++ [d], fun t => if t = d then s.ch m ++ [k] else s.ch t, s.seen ||| 2 ^ d⟩ ((w3.setCell ⟨B + 2, d, none⟩ v3).setChan (B + 1) 8 (((s.q.map fun (t : Nat) => Value.int .i64 (t : Int)).toArray).push (.int .i64 (d : Int))) false (sn + 1) rc false) := by
  obtain ⟨cs, h1, h2, h3⟩ := h.chains
  have hun := unseen_add hd hsn
  have hlt : B + 1 < (w3.setCell ⟨B + 2, d, none⟩ v3).heap.size := by rw [World.size_setCell]; exact (Array.getElem?_eq_some_iff.1 hch).1
  have hoth : ∀ g, g ≠ B + 1 → g ≠ B + 2 → ((w3.setCell ⟨B + 2, d, none⟩ v3).setChan (B + 1) 8 (((s.q.map fun (t : Nat) => Value.int .i64 (t : Int)).toArray).push (.int .i64 (d : Int))) false (sn + 1) rc false).heap[g]? = w3.heap[g]? := fun g hg hg2 => by
    rw [heap_setChan_ne _ _ _ _ _ _ _ (Ne.symm hg), Below.heap_setCell _ _ _ _ hg2]
  have hB2 : ((w3.setCell ⟨B + 2, d, none⟩ v3).setChan (B + 1) 8 (((s.q.map fun (t : Nat) => Value.int .i64 (t : Int)).toArray).push (.int .i64 (d : Int))) false (sn + 1) rc false).heap[B + 2]? = some (.cells (cs.setIfInBounds d v3) 38 (0, 0)) := by
    rw [heap_setChan_ne _ _ _ _ _ _ _ (by omega)]
    have h1' := (Array.getElem?_eq_some_iff.1 h1)
    simp only [World.setCell]
    rw [Array.getElem?_modify, if_pos rfl, h1]; rfl
  have hown : ∀ {v : Value} {xs : List Nat}, Ch w3 B v xs → ∀ g, v.ownBlock = some g → ((w3.setCell ⟨B + 2, d, none⟩ v3).setChan (B + 1) 8 (((s.q.map fun (t : Nat) => Value.int .i64 (t : Int)).toArray).push (.int .i64 (d : Int))) false (sn + 1) rc false).heap[g]? = w3.heap[g]? := fun {v xs} hc g hg => by
    obtain ⟨cs', hcs⟩ := hc.own hg
    refine hoth g (fun he => ?_) (fun he => ?_)
    · subst he; rw [hch] at hcs; cases hcs
    · subst he; rw [h1] at hcs; cases hcs
  refine ⟨⟨sn + 1, rc, ?_⟩, ⟨_, hB2, by simp [h2], fun t ht => ?_⟩, fun t ht => ?_, or_lt h.seen (pow_lt _ hd), fun t ht => ?_, ?_⟩
  · rw [heap_setChan _ _ _ _ _ _ _ _ hlt]; simp
  · by_cases e : t = d
    · subst e
      refine ⟨v3, by rw [Array.getElem?_setIfInBounds_self]; simp [h2, ht], ?_⟩
      simp only [if_true]
      exact hc3.same (hown hc3)
    · obtain ⟨v, hv, hcv⟩ := h3 t ht
      refine ⟨v, by rw [Array.getElem?_setIfInBounds_ne (Ne.symm e)]; exact hv, ?_⟩
      simp only [if_neg e]
      exact hcv.same (hown hcv)
  · show (if t = d then s.ch m ++ [k] else s.ch t).length + unseen (s.seen ||| 2 ^ d) ≤ 8
    split
    · have := h.short m hm; rw [List.length_append]; simp only [List.length_cons, List.length_nil]; omega
    · have := h.short t ht; omega
  · rcases List.mem_append.1 ht with h4 | h4
    · exact h.modes t h4
    · simp at h4; omega
  · show (s.q ++ [d]).length + unseen (s.seen ||| 2 ^ d) ≤ 8
    have := h.room
    rw [List.length_append]; simp only [List.length_cons, List.length_nil]; omega
theorem bst_push' {B sn rc m k d : Nat} {t : Int} {s : BS} {w3 : World} {v3 : Value} (hti : t = (d : Int)) (h : BSt B s w3) (hd : d < 8) (hm : m < 8) (hsn : s.seen.testBit d = false) (hc3 : Ch w3 B v3 (s.ch m ++ [k]))
    (hch : w3.heap[B + 1]? = some (.chan 8 ((s.q.map fun (t : Nat) => Value.int .i64 (t : Int)).toArray) false sn rc false)) :
    BSt B ⟨s.q ++ [d], fun t => if t = d then s.ch m ++ [k] else s.ch t, s.seen ||| 2 ^ d⟩ ((w3.setCell ⟨B + 2, t.toNat, none⟩ v3).setChan (B + 1) 8 (((s.q.map fun (t : Nat) => Value.int .i64 (t : Int)).toArray).push (.int .i64 t)) false (sn + 1) rc false) := by
  subst hti; exact bst_push h hd hm hsn hc3 hch
theorem chan_start (w : World) (o o3 : Obj) : (((w.alloc o).alloc (.chan 8 #[] false 0 0 false)).alloc o3).heap[w.heap.size + 1]? = some (.chan 8 #[] false 0 0 false) := by
  have e : w.heap.size + 1 = (w.alloc o).heap.size := by simp
  rw [Below.heap_alloc _ _ _ (by simp), e]; exact heap_alloc_new _ _
theorem below_start (w : World) (o o2 o3 : Obj) (buf : Array Value) (sn rc : Nat) :
    Below (w.heap.size + 1) (w.alloc o) ((((w.alloc o).alloc o2).alloc o3).setChan (w.heap.size + 1) 8 buf false sn rc false) :=
  below_setChan (((Below.refl _ _).alloc (by simp) _).alloc (by simp) _) (Nat.le_refl _) _ _ _ _ _ _

theorem inner_at {use : Rl → Bool} {goal m k : Nat} {R : List Rl} (s : BS) (hlt : k < R.length) : inner use goal m (R.drop k) k s =
    if decide (R[k].frm.toNat = m) && use R[k] then
      if goal.testBit R[k].dst.toNat then .inl (s.ch m ++ [k])
      else if s.seen.testBit R[k].dst.toNat then inner use goal m (R.drop (k + 1)) (k + 1) s
      else inner use goal m (R.drop (k + 1)) (k + 1) ⟨s.q ++ [R[k].dst.toNat], fun t => if t = R[k].dst.toNat then s.ch m ++ [k] else s.ch t, s.seen ||| 2 ^ R[k].dst.toNat⟩
    else inner use goal m (R.drop (k + 1)) (k + 1) s := by
  rw [List.drop_eq_getElem_cons hlt, inner]
def InvO (w : World) (fid : Nat) (use : Rl → Bool) (S : Sch) (a : Option Addr) (cap start goal n : Nat) (A : Act) (wr : World) : Prop :=
  ∃ (s : BS) (x : Nat → Value), n = s.q.length + unseen s.seen ∧ A = ⟨#[.agg #[.int .i64 S.modes, .int .u8 S.acc, .slice a S.rules.length cap], .int .i64 (start : Int), .int .u8 (goal : Int), .func (.func fid) #[] #[], .pointer (some ⟨w.heap.size, 0, none⟩), undef, undef, undef, .slice none 0 0, .chan (some (w.heap.size + 1)), .slice (some ⟨w.heap.size + 2, 0, none⟩) 8 8, .int .u8 (s.seen : Int), x 12, x 13, x 14, x 15, x 16, x 17, x 18, x 19, x 20, x 21, x 22, x 23, x 24, x 25, x 26, x 27, x 28, x 29, x 30, x 31, x 32, x 33, x 34, x 35, x 36, x 37, x 38, x 39, x 40, x 41, x 42, x 43, x 44, x 45, x 46, x 47, x 48, x 49, x 50, x 51, x 52, x 53, x 54, x 55, x 56, x 57, x 58, x 59, x 60, x 61, x 62, x 63, x 64, x 65, x 66, x 67, x 68, x 69, x 70, x 71, x 72, x 73, x 74, x 75, x 76], []⟩ ∧ BSt w.heap.size s wr ∧ outer use goal S.rules n s = bfs use goal S.rules start ∧ Below (w.heap.size + 1) (w.alloc (.cells #[.int .i64 S.modes, .int .u8 S.acc, .slice a S.rules.length cap] 33)) wr
theorem invO_of {w : World} {fid : Nat} {use : Rl → Bool} {S : Sch} {a : Option Addr} {cap start goal n : Nat} {A : Act} {wr : World} (s : BS) (hd : A.defers = []) (hs : A.tmps.toList.length = 77)
    (h : A.tmps.toList.take 12 = [.agg #[.int .i64 S.modes, .int .u8 S.acc, .slice a S.rules.length cap], .int .i64 (start : Int), .int .u8 (goal : Int), .func (.func fid) #[] #[], .pointer (some ⟨w.heap.size, 0, none⟩), undef, undef, undef, .slice none 0 0, .chan (some (w.heap.size + 1)), .slice (some ⟨w.heap.size + 2, 0, none⟩) 8 8, .int .u8 (s.seen : Int)]) (h1 : n = s.q.length + unseen s.seen) (h2 : BSt w.heap.size s wr) (h3 : outer use goal S.rules n s = bfs use goal S.rules start) (h4 : Below (w.heap.size + 1) (w.alloc (.cells #[.int .i64 S.modes, .int .u8 S.acc, .slice a S.rules.length cap] 33)) wr) :
    InvO w fid use S a cap start goal n A wr := (form_o hd hs h).elim fun x hx => ⟨s, x, h1, hx, h2, h3, h4⟩
def InvI (w : World) (fid : Nat) (use : Rl → Bool) (S : Sch) (a : Option Addr) (cap start goal m N n : Nat) (A : Act) (wr : World) : Prop :=
  ∃ (k : Nat) (s : BS) (x : Nat → Value), k ≤ S.rules.length ∧ n = S.rules.length - k ∧ A = ⟨#[.agg #[.int .i64 S.modes, .int .u8 S.acc, .slice a S.rules.length cap], .int .i64 (start : Int), .int .u8 (goal : Int), .func (.func fid) #[] #[], .pointer (some ⟨w.heap.size, 0, none⟩), undef, undef, undef, .slice none 0 0, .chan (some (w.heap.size + 1)), .slice (some ⟨w.heap.size + 2, 0, none⟩) 8 8, .int .u8 (s.seen : Int), .int .i64 (m : Int), x 13, x 14, x 15, x 16, x 17, x 18, x 19, x 20, x 21, x 22, x 23, x 24, x 25, x 26, x 27, .slice a S.rules.length cap, .int .i64 (S.rules.length : Int), .int .i64 (k : Int), x 31, x 32, x 33, x 34, x 35, x 36, x 37, x 38, x 39, x 40, x 41, x 42, x 43, x 44, x 45, x 46, x 47, x 48, x 49, x 50, x 51, x 52, x 53, x 54, x 55, x 56, x 57, x 58, x 59, x 60, x 61, x 62, x 63, x 64, x 65, x 66, x 67, x 68, x 69, x 70, x 71, x 72, x 73, x 74, x 75, x 76], []⟩ ∧ BSt w.heap.size s wr ∧ (match inner use goal m (S.rules.drop k) k s with | .inl c => c | .inr s'' => outer use goal S.rules N s'') = bfs use goal S.rules start ∧ N = s.q.length + unseen s.seen ∧ Below (w.heap.size + 1) (w.alloc (.cells #[.int .i64 S.modes, .int .u8 S.acc, .slice a S.rules.length cap] 33)) wr
theorem invI_of {w : World} {fid : Nat} {use : Rl → Bool} {S : Sch} {a : Option Addr} {cap start goal m N n : Nat} {A : Act} {wr : World} (k : Nat) (s : BS) (hd : A.defers = []) (hs : A.tmps.toList.length = 77)
    (h : A.tmps.toList.take 13 = [.agg #[.int .i64 S.modes, .int .u8 S.acc, .slice a S.rules.length cap], .int .i64 (start : Int), .int .u8 (goal : Int), .func (.func fid) #[] #[], .pointer (some ⟨w.heap.size, 0, none⟩), undef, undef, undef, .slice none 0 0, .chan (some (w.heap.size + 1)), .slice (some ⟨w.heap.size + 2, 0, none⟩) 8 8, .int .u8 (s.seen : Int), .int .i64 (m : Int)]) (h' : (A.tmps.toList.drop 28).take 3 = [.slice a S.rules.length cap, .int .i64 (S.rules.length : Int), .int .i64 (k : Int)])
    (hk : k ≤ S.rules.length) (hn : n = S.rules.length - k) (h2 : BSt w.heap.size s wr) (h3 : (match inner use goal m (S.rules.drop k) k s with | .inl c => c | .inr s'' => outer use goal S.rules N s'') = bfs use goal S.rules start) (h5 : N = s.q.length + unseen s.seen) (h4 : Below (w.heap.size + 1) (w.alloc (.cells #[.int .i64 S.modes, .int .u8 S.acc, .slice a S.rules.length cap] 33)) wr) :
    InvI w fid use S a cap start goal m N n A wr := (form_i hd hs h h').elim fun x hx => ⟨k, s, x, hk, hn, hx, h2, h3, h5, h4⟩

theorem ch_snoc {w : World} {B : Nat} {v : Value} {xs : List Nat} {k : Nat} (h : w.ownsRow B 3 1 v (xs.length + 1) (nats xs ++ [.int .i64 (k : Int)])) : Ch w B v (xs ++ [k]) := by
  unfold Ch
  have e : nats (xs ++ [k]) = nats xs ++ [.int .i64 (k : Int)] := by simp [nats]
  rw [e, List.length_append]; exact h

theorem any_any (r : Rl) (w : World) : Calls Try.prog 46 #[.agg #[.int .i64 r.frm, .int .i64 r.dst, .string r.inp, .string r.out, .int .i64 r.cost]] w fun e w' => e = .returned (.bool true) ∧ Below w.heap.size w w' := by
  go_enter Try.func46, Try.ntmps46
  go_wp2
  go_ret
  exact ⟨rfl, by go_grown⟩
theorem empty_any (r : Rl) (w : World) : Calls Try.prog 47 #[.agg #[.int .i64 r.frm, .int .i64 r.dst, .string r.inp, .string r.out, .int .i64 r.cost]] w fun e w' => e = .returned (.bool (decide (r.inp.size = 0))) ∧ Below w.heap.size w w' := by
  go_enter Try.func47, Try.ntmps47
  go_wp2
  go_ret
  refine ⟨?_, by go_grown⟩
  show Ending.returned (.bool r.inp.toList.isEmpty) = _
  have : r.inp.toList.isEmpty = decide (r.inp.size = 0) := by
    rw [ByteArray.toList_eq, Bool.eq_iff_iff, decide_eq_true_iff, List.isEmpty_iff, ← ByteArray.size_data]
    constructor
    · intro h; rw [← Array.length_toList, h]; rfl
    · intro h; exact List.eq_nil_of_length_eq_zero (by rw [Array.length_toList]; exact h)
  rw [this]

theorem info_ints : (Try.prog.info? 38).map (fun i => (i.zero, i.size, i.bytes)) = some (some (.slice none 0 0), 1, 24) := by kernel_rfl

end Go.Proofs.Ytogjcfcfgnbmkaa
