/- Lists of texts in order: their groups by the first byte. Plain. -/
import Derived.Test.YtocdljmdmiphnaaDoorDNodeP
namespace Go.Proofs.YtocdljmdmiphnaaDoor
set_option linter.unusedVariables false
set_option linter.unusedSimpArgs false

abbrev Wd := List UInt8
abbrev Rst := List (List UInt8)
def afterL (R : Rst) (c : Nat) : Rst := R.filterMap fun s => match s with | [] => none | b :: t => if b.toNat = c then some t else none
def finR (R : Rst) : Bool := match R with | [] :: _ => true | _ => false
def grpR (lo n : Nat) (R : Rst) : List (Nat × Rst) := (List.range' lo n).filterMap fun c => if afterL R c = [] then none else some (c, afterL R c)
def grp (R : Rst) : List (Nat × Rst) := grpR 33 94 R
def SortR (R : Rst) : Prop := R.Pairwise fun a b => Op.bytesLess a b = true
/-- all texts begin, with a byte from lo to lo + n -/
def Heads (lo n : Nat) (R : Rst) : Prop := ∀ s ∈ R, ∃ b t, s = b :: t ∧ lo ≤ b.toNat ∧ b.toNat < lo + n
def BytesR (R : Rst) : Prop := ∀ s ∈ R, ∀ b ∈ s, 33 ≤ UInt8.toNat b ∧ UInt8.toNat b < 127

theorem less_cons {a b : UInt8} {x y : Wd} : Op.bytesLess (a :: x) (b :: y) = true ↔ a.toNat < b.toNat ∨ (a = b ∧ Op.bytesLess x y = true) := by
  simp only [Op.bytesLess, Bool.or_eq_true, Bool.and_eq_true, decide_eq_true_eq, beq_iff_eq, UInt8.lt_iff_toNat_lt]
theorem less_irr : ∀ x : Wd, Op.bytesLess x x = false
  | [] => rfl
  | a :: x => by
    have h : ¬ a < a := by rw [UInt8.lt_iff_toNat_lt]; omega
    simp [Op.bytesLess, h, less_irr x]
theorem less_pre : ∀ (p : Wd) {x y : Wd}, Op.bytesLess (p ++ x) (p ++ y) = Op.bytesLess x y
  | [], _, _ => rfl
  | a :: p, x, y => by
    have h : ¬ a < a := by rw [UInt8.lt_iff_toNat_lt]; omega
    simp [Op.bytesLess, h, less_pre p]
theorem less_nil {x : Wd} : Op.bytesLess x [] = false := by cases x <;> rfl
theorem SortR.nodup {R : Rst} (h : SortR R) : R.Nodup := by
  refine List.Pairwise.imp ?_ h
  intro a b hab e
  rw [e, less_irr] at hab; cases hab
theorem SortR.tail {x : Wd} {R : Rst} (h : SortR (x :: R)) : SortR R := (List.pairwise_cons.1 h).2
/-- behind the first, no text is empty -/
theorem SortR.nonempty {x : Wd} {R : Rst} (h : SortR (x :: R)) : ∀ s ∈ R, s ≠ [] := fun s hs e => by
  have := (List.pairwise_cons.1 h).1 s hs
  rw [e, less_nil] at this; cases this
theorem afterL_nil (c : Nat) : afterL [] c = [] := rfl
theorem afterL_e (R : Rst) (c : Nat) : afterL ([] :: R) c = afterL R c := rfl
theorem afterL_yes {b : UInt8} {t : Wd} {R : Rst} {c : Nat} (h : b.toNat = c) : afterL ((b :: t) :: R) c = t :: afterL R c := by simp [afterL, h]
theorem afterL_no {b : UInt8} {t : Wd} {R : Rst} {c : Nat} (h : b.toNat ≠ c) : afterL ((b :: t) :: R) c = afterL R c := by simp [afterL, h]
theorem afterL_mem {R : Rst} {c : Nat} {t : Wd} : t ∈ afterL R c ↔ ∃ b : UInt8, b.toNat = c ∧ b :: t ∈ R := by
  unfold afterL
  rw [List.mem_filterMap]
  constructor
  · rintro ⟨s, hs, h⟩
    cases s with
    | nil => cases h
    | cons b u =>
      simp only at h
      split at h
      · injection h with h; subst h; exact ⟨b, by assumption, hs⟩
      · cases h
  · rintro ⟨b, hb, h⟩
    exact ⟨_, h, by simp [hb]⟩
theorem afterL_append (P Q : Rst) (c : Nat) : afterL (P ++ Q) c = afterL P c ++ afterL Q c := List.filterMap_append
theorem afterL_sort {R : Rst} {c : Nat} (h : SortR R) : SortR (afterL R c) := by
  unfold SortR afterL
  rw [List.pairwise_filterMap]
  refine List.Pairwise.imp ?_ h
  intro a b hab t ht u hu
  cases a with
  | nil => cases ht
  | cons x a =>
    cases b with
    | nil => cases hu
    | cons y b =>
      simp only at ht hu
      split at ht
      · split at hu
        · injection ht with ht; injection hu with hu
          subst ht hu
          rcases less_cons.1 hab with h | ⟨_, h⟩
          · omega
          · exact h
        · cases hu
      · cases ht
theorem afterL_bytes {R : Rst} {c : Nat} (h : BytesR R) : BytesR (afterL R c) := fun s hs b hb => by
  obtain ⟨x, _, hx⟩ := afterL_mem.1 hs
  exact h _ hx b (List.mem_cons_of_mem _ hb)
/-- what is greater begins with a greater byte -/
theorem heads_split {b : UInt8} {n : Nat} : ∀ {R : Rst}, SortR R → Heads b.toNat n R → afterL R b.toNat = (R.takeWhile fun s => s.head? == some b).map List.tail ∧
    Heads (b.toNat + 1) (n - 1) (R.dropWhile fun s => s.head? == some b) ∧ (R.takeWhile fun s => s.head? == some b).map (fun s => b :: s.tail) = (R.takeWhile fun s => s.head? == some b)
  | [], _, _ => ⟨rfl, fun s hs => by simp at hs, rfl⟩
  | x :: r, hs, hh => by
    obtain ⟨y, t, rfl, h1, h2⟩ := hh x (by simp)
    by_cases e : y = b
    · subst e
      obtain ⟨i1, i2, i3⟩ := heads_split (R := r) (hs.tail) fun s hsr => hh s (List.mem_cons_of_mem _ hsr)
      simp only [List.takeWhile_cons, List.dropWhile_cons, List.head?_cons, beq_self_eq_true, if_true, List.map_cons, List.tail_cons]
      exact ⟨by rw [afterL_yes rfl, i1], i2, by rw [i3]⟩
    · have hne : ((y :: t).head? == some b) = false := by simpa using e
      simp only [List.takeWhile_cons, List.dropWhile_cons, hne, Bool.false_eq_true, if_false]
      have hlt : b.toNat < y.toNat := by
        have : y.toNat ≠ b.toNat := fun h => e (UInt8.toNat_inj.1 h)
        omega
      have hall : ∀ s ∈ (y :: t) :: r, ∃ c u, s = c :: u ∧ b.toNat + 1 ≤ c.toNat ∧ c.toNat < b.toNat + n := fun s hsr => by
        obtain ⟨c, u, rfl, h3, h4⟩ := hh s hsr
        refine ⟨c, u, rfl, ?_, h4⟩
        rcases List.mem_cons.1 hsr with h5 | h5
        · injection h5 with h5; subst h5; omega
        · rcases less_cons.1 ((List.pairwise_cons.1 hs).1 _ h5) with h6 | ⟨h6, _⟩
          · omega
          · subst h6; omega
      refine ⟨?_, fun s hsr => ?_, rfl⟩
      · rw [List.map_nil]
        unfold afterL
        rw [List.filterMap_eq_nil_iff]
        intro s hsr
        obtain ⟨c, u, rfl, h3, _⟩ := hall s hsr
        simp; omega
      · obtain ⟨c, u, rfl, h3, h4⟩ := hall s hsr
        exact ⟨c, u, rfl, h3, by omega⟩
theorem afterL_out {lo n c : Nat} {R : Rst} (h : Heads lo n R) (hc : c < lo ∨ lo + n ≤ c) : afterL R c = [] := by
  unfold afterL
  rw [List.filterMap_eq_nil_iff]
  intro s hs
  obtain ⟨b, t, rfl, h3, h4⟩ := h s hs
  simp; omega
theorem takeWhile_head {b : UInt8} {R : Rst} {c : Nat} (hc : c ≠ b.toNat) : afterL (R.takeWhile fun s => s.head? == some b) c = [] := by
  unfold afterL
  rw [List.filterMap_eq_nil_iff]
  intro s hs
  have h := List.all_takeWhile (p := fun s : Wd => s.head? == some b) (l := R)
  have h2 := List.all_eq_true.1 h s hs
  cases s with
  | nil => rfl
  | cons y t =>
    have : y = b := by simpa using h2
    subst this
    simp; omega
theorem afterL_drop {b : UInt8} {R : Rst} {c : Nat} (hc : c ≠ b.toNat) : afterL R c = afterL (R.dropWhile fun s => s.head? == some b) c := by
  conv => lhs; rw [← List.takeWhile_append_dropWhile (p := fun s : Wd => s.head? == some b) (l := R)]
  rw [afterL_append, takeWhile_head hc]; rfl
theorem grpR_nil (lo n : Nat) : grpR lo n [] = [] := by
  unfold grpR
  rw [List.filterMap_eq_nil_iff]
  intro c _; rfl
theorem fm_congr {α β : Type} {f g : α → Option β} : ∀ {l : List α}, (∀ x ∈ l, f x = g x) → l.filterMap f = l.filterMap g
  | [], _ => rfl
  | x :: r, h => by rw [List.filterMap_cons, List.filterMap_cons, h x (by simp), fm_congr fun y hy => h y (List.mem_cons_of_mem _ hy)]
theorem grpR_congr {lo n : Nat} {R Q : Rst} (h : ∀ c, lo ≤ c → c < lo + n → afterL R c = afterL Q c) : grpR lo n R = grpR lo n Q := by
  unfold grpR
  refine fm_congr fun c hc => ?_
  have := List.mem_range'_1.1 hc
  rw [h c this.1 this.2]
/-- the first group -/
theorem grpR_cons {lo n : Nat} {b : UInt8} {t : Wd} {r : Rst} (hs : SortR ((b :: t) :: r)) (hh : Heads lo n ((b :: t) :: r)) :
    grpR lo n ((b :: t) :: r) = (b.toNat, (((b :: t) :: r).takeWhile fun s => s.head? == some b).map List.tail) :: grpR (b.toNat + 1) (lo + n - (b.toNat + 1)) (((b :: t) :: r).dropWhile fun s => s.head? == some b) := by
  obtain ⟨b', t', e, h1, h2⟩ := hh (b :: t) (by simp)
  injection e with e1 e2
  subst e1 e2
  have hall : Heads b.toNat (lo + n - b.toNat) ((b :: t) :: r) := fun s hsr => by
    obtain ⟨c, u, rfl, h3, h4⟩ := hh s hsr
    refine ⟨c, u, rfl, ?_, by omega⟩
    rcases List.mem_cons.1 hsr with h5 | h5
    · injection h5 with h5; subst h5; exact Nat.le_refl _
    · rcases less_cons.1 ((List.pairwise_cons.1 hs).1 _ h5) with h6 | ⟨h6, _⟩
      · omega
      · subst h6; exact Nat.le_refl _
  obtain ⟨i1, i2, _⟩ := heads_split hs hall
  have hr : List.range' lo n = List.range' lo (b.toNat - lo) ++ (b.toNat :: List.range' (b.toNat + 1) (lo + n - (b.toNat + 1))) := by
    have e1 : b.toNat :: List.range' (b.toNat + 1) (lo + n - (b.toNat + 1)) = List.range' b.toNat (lo + n - b.toNat) := by
      rw [show lo + n - b.toNat = (lo + n - (b.toNat + 1)) + 1 from by omega, List.range'_succ]
    rw [e1]
    have := List.range'_append (s := lo) (m := b.toNat - lo) (n := lo + n - b.toNat) (step := 1)
    rw [show lo + 1 * (b.toNat - lo) = b.toNat from by omega, show b.toNat - lo + (lo + n - b.toNat) = n from by omega] at this
    exact this.symm
  have hne : afterL ((b :: t) :: r) b.toNat ≠ [] := by rw [afterL_yes rfl]; simp
  have hcg := grpR_congr (lo := b.toNat + 1) (n := lo + n - (b.toNat + 1)) (R := (b :: t) :: r) (Q := ((b :: t) :: r).dropWhile fun s => s.head? == some b) fun c h3 h4 => afterL_drop (by omega)
  rw [← hcg, ← i1]
  unfold grpR
  rw [hr, List.filterMap_append, List.filterMap_cons, if_neg hne]
  have hz : (List.range' lo (b.toNat - lo)).filterMap (fun c => if afterL ((b :: t) :: r) c = [] then none else some (c, afterL ((b :: t) :: r) c)) = [] := by
    rw [List.filterMap_eq_nil_iff]
    intro c hc
    have := List.mem_range'_1.1 hc
    rw [afterL_out hall (.inl (by omega)), if_pos rfl]
  rw [hz]; rfl
/-- the texts from their groups -/
def catG (G : List (Nat × Rst)) : Rst := G.flatMap fun g => g.2.map (UInt8.ofNat g.1 :: ·)
theorem takeWhile_le {b : UInt8} {R : Rst} : (R.dropWhile fun s => s.head? == some b).length ≤ R.length := (List.dropWhile_sublist _).length_le
theorem sort_drop {b : UInt8} {R : Rst} (h : SortR R) : SortR (R.dropWhile fun s => s.head? == some b) := List.Pairwise.sublist (List.dropWhile_sublist _) h
theorem heads_drop {b : UInt8} {t : Wd} {r : Rst} {lo n : Nat} (hs : SortR ((b :: t) :: r)) (hh : Heads lo n ((b :: t) :: r)) : Heads (b.toNat + 1) (lo + n - (b.toNat + 1)) (((b :: t) :: r).dropWhile fun s => s.head? == some b) := by
  have hall : Heads b.toNat (lo + n - b.toNat) ((b :: t) :: r) := fun s hsr => by
    obtain ⟨c, u, rfl, h3, h4⟩ := hh s hsr
    refine ⟨c, u, rfl, ?_, by omega⟩
    rcases List.mem_cons.1 hsr with h5 | h5
    · injection h5 with h5; subst h5; exact Nat.le_refl _
    · rcases less_cons.1 ((List.pairwise_cons.1 hs).1 _ h5) with h6 | ⟨h6, _⟩
      · omega
      · subst h6; exact Nat.le_refl _
  have := (heads_split hs hall).2.1
  rwa [show lo + n - b.toNat - 1 = lo + n - (b.toNat + 1) from by omega] at this
theorem catG_grpR : ∀ (k lo n : Nat) (R : Rst), R.length ≤ k → SortR R → Heads lo n R → catG (grpR lo n R) = R
  | _, _, _, [], _, _, _ => by rw [grpR_nil]; rfl
  | 0, _, _, _ :: _, h, _, _ => by simp at h
  | k + 1, lo, n, x :: r, hk, hs, hh => by
    obtain ⟨b, t, rfl, h1, h2⟩ := hh x (by simp)
    rw [grpR_cons hs hh]
    have hall : Heads b.toNat (lo + n - b.toNat) ((b :: t) :: r) := fun s hsr => by
      obtain ⟨c, u, rfl, h3, h4⟩ := hh s hsr
      refine ⟨c, u, rfl, ?_, by omega⟩
      rcases List.mem_cons.1 hsr with h5 | h5
      · injection h5 with h5; subst h5; exact Nat.le_refl _
      · rcases less_cons.1 ((List.pairwise_cons.1 hs).1 _ h5) with h6 | ⟨h6, _⟩
        · omega
        · subst h6; exact Nat.le_refl _
    obtain ⟨i1, i2, i3⟩ := heads_split hs hall
    have hd : (((b :: t) :: r).dropWhile fun s => s.head? == some b) = r.dropWhile fun s => s.head? == some b := by simp [List.dropWhile_cons]
    have ih := catG_grpR k (b.toNat + 1) (lo + n - (b.toNat + 1)) (((b :: t) :: r).dropWhile fun s => s.head? == some b) (by rw [hd]; have := takeWhile_le (b := b) (R := r); simp at hk; omega) (sort_drop hs) (heads_drop hs hh)
    unfold catG at ih ⊢
    rw [List.flatMap_cons, ih]
    simp only [UInt8.ofNat_toNat, List.map_map]
    have : (fun s : Wd => b :: s) ∘ List.tail = fun s : Wd => b :: s.tail := rfl
    rw [this, i3]
    exact List.takeWhile_append_dropWhile
theorem grp_fin {R : Rst} : grp ([] :: R) = grp R := rfl
theorem heads_of {R : Rst} (hb : BytesR R) (hn : ∀ s ∈ R, s ≠ []) : Heads 33 94 R := fun s hs => by
  cases s with
  | nil => exact absurd rfl (hn _ hs)
  | cons b t => exact ⟨b, t, rfl, (hb _ hs b (by simp)).1, (hb _ hs b (by simp)).2⟩
/-- a sorted list of texts: the empty one, and its groups -/
theorem recon {R : Rst} (hs : SortR R) (hb : BytesR R) : R = (if finR R = true then [[]] else []) ++ catG (grp R) := by
  cases R with
  | nil => unfold grp; rw [grpR_nil]; rfl
  | cons x r =>
    cases x with
    | nil =>
      have h1 : finR ([] :: r) = true := rfl
      rw [if_pos h1, grp_fin]
      have := catG_grpR r.length 33 94 r (Nat.le_refl _) hs.tail (heads_of (fun s h => hb s (List.mem_cons_of_mem _ h)) hs.nonempty)
      unfold grp
      rw [this]; rfl
    | cons b t =>
      have h1 : finR ((b :: t) :: r) = false := rfl
      rw [h1]
      have hh : Heads 33 94 ((b :: t) :: r) := heads_of hb fun s h => by
        rcases List.mem_cons.1 h with rfl | h
        · simp
        · exact hs.nonempty s h
      have := catG_grpR _ 33 94 _ (Nat.le_refl _) hs hh
      unfold grp
      rw [this]; simp
theorem recon_inj {R Q : Rst} (hs : SortR R) (hb : BytesR R) (hs2 : SortR Q) (hb2 : BytesR Q) (hf : finR R = finR Q) (hg : grp R = grp Q) : R = Q := by
  rw [recon hs hb, recon hs2 hb2, hf, hg]
theorem grp_mem {R : Rst} {g : Nat × Rst} (h : g ∈ grp R) : 33 ≤ g.1 ∧ g.1 < 127 ∧ g.2 = afterL R g.1 ∧ g.2 ≠ [] := by
  unfold grp grpR at h
  obtain ⟨c, hc, h2⟩ := List.mem_filterMap.1 h
  have := List.mem_range'_1.1 hc
  split at h2
  · cases h2
  · injection h2 with h2; subst h2
    exact ⟨this.1, this.2, rfl, by assumption⟩
theorem grp_len (R : Rst) : (grp R).length ≤ 94 := by
  have := List.length_filterMap_le (fun c => if afterL R c = [] then none else some (c, afterL R c)) (List.range' 33 94)
  simpa [grp, grpR] using this
end Go.Proofs.YtocdljmdmiphnaaDoor
