/- An operation whose guard is undefined is not run. -/
import Derived.Test.YtocdljmdmiphnaaDoorRegionX
namespace Go.Proofs.YtocdljmdmiphnaaDoor
open Go.RowKit
theorem opOk_skip_undef {o : Oper} {ops : Array Oper} {A : Act} {j d : Nat} {want : Bool} {X Y : Prop} (hg : o.guard = some (j, want)) (hd : (ops[j]?).bind (·.dst) = some d) (h : A.tmps[d]?.getD undef = undef) (hY : Y) :
    (Region.wanted o (yielded ops A.tmps) = true → X) ∧ (Region.wanted o (yielded ops A.tmps) = false → Y) := by
  have hy : yielded ops A.tmps j = none := by
    unfold yielded
    rw [hd]
    simp only [Option.bind_some]
    cases hx : A.tmps[d]? with
    | none => rfl
    | some v => rw [hx] at h; simp only [Option.getD_some] at h; subst h; rfl
  have : Region.wanted o (yielded ops A.tmps) = false := by unfold Region.wanted; rw [hg]; simp only [hy]; rfl
  rw [this]; exact ⟨fun h => (by cases h), fun _ => hY⟩
end Go.Proofs.YtocdljmdmiphnaaDoor
/- A region that draws its order, with operations that write: what is told of the world hangs on which operations have run. -/
namespace Go.Proofs.YtocdljmdmiphnaaDoor
open Go.RowKit
set_option linter.unusedVariables false
set_option linter.unusedSimpArgs false

def upd (f : Nat → Bool) (i : Nat) : Nat → Bool := fun j => if j = i then true else f j
section
variable (P : Program) (ops : Array Oper) (V : Nat → Value → World → Prop) (X : Nat → World → World → Prop) (S : (Nat → Bool) → World → Prop) (ms : List Nat) (a0 : Act) (L : Nat)
/-- what is to be shown of operation i: ms: the operations that have run ahead of it -/
def OpOkS (i : Nat) (o : Oper) : Prop := ∀ a w f, a.tmps.size = a0.tmps.size → f i = false → (∀ j, (ms.getD i 0).testBit j = true → f j = true) → (∀ j, j < ms.length → (ms.getD j 0).testBit i = true → f j = false) → S f w →
  (∀ j, (ms.getD i 0).testBit j = true → V j (slotOf ops a j) w) →
  (∀ t, (ops.all fun o' => o'.dst != some t) = true → a.tmps.getD t undef = a0.tmps.getD t undef) →
  (∀ j d, j < ms.length → f j = false → (ops[j]?).bind (·.dst) = some d → a.tmps.getD d undef = a0.tmps.getD d undef) →
  (Region.wanted o (yielded ops a.tmps) = true → OpRes P a o w (fun v w' => V i v w' ∧ X i w w' ∧ S (upd f i) w')) ∧ (Region.wanted o (yielded ops a.tmps) = false → V i undef w ∧ S (upd f i) w)
def OpsOkS : Nat → List Oper → Prop
  | _, [] => True
  | i, o :: l => (if i = L then True else OpOkS P ops V X S ms a0 i o) ∧ OpsOkS (i + 1) l
def rvOkS (n L : Nat) : Bool :=
  ((List.range L).all fun i => match ops[i]? with
    | none => false
    | some o => (match o.dst with
      | none => false
      | some d => decide (d < n) && (List.range ops.size).all fun j => decide (i = j) || (match ops[j]? with | some o' => o'.dst != some d | none => true)) &&
      (o.after.all fun e => !Region.binds .any e || decide (e.on < i)) &&
      (List.range ops.size).all fun j => !(ms.getD i 0).testBit j || o.after.any fun e => Region.binds .any e && (e.on == j || (ms.getD e.on 0).testBit j)) &&
  ((List.range L).all fun i => decide (ms.getD i 0 < 2 ^ i)) && decide (ms.length = L) &&
  (decide (ops.size = L) || (decide (ops.size = L + 1) && match ops[L]? with
    | none => false
    | some o => ((List.range L).all fun j => o.after.any fun e => Region.binds .any e && (e.on == j || (ms.getD e.on 0).testBit j)) && o.after.all fun e => !Region.binds .any e || decide (e.on < L)))
structure RvAtS (listed : Array Bool) (a : Act) (w : World) : Prop where
  ls : listed.size = ops.size
  last : L < ops.size → listed.getD L true = false
  size : a.tmps.size = a0.tmps.size
  df : a.defers = a0.defers
  s : S (fun i => listed.getD i true) w
  closed : ∀ i o, i < L → listed.getD i true = true → ops[i]? = some o → ∀ e ∈ o.after, Region.binds .any e = true → listed.getD e.on true = true
  done : ∀ i, i < L → listed.getD i true = true → V i (slotOf ops a i) w
  base : ∀ t, (ops.all fun o' => o'.dst != some t) = true → a.tmps.getD t undef = a0.tmps.getD t undef
  und : ∀ j d, j < L → listed.getD j true = false → (ops[j]?).bind (·.dst) = some d → a.tmps.getD d undef = a0.tmps.getD d undef
end
section
variable {P : Program} {ops : Array Oper} {V : Nat → Value → World → Prop} {X : Nat → World → World → Prop} {S : (Nat → Bool) → World → Prop} {ms : List Nat} {a0 : Act} {Q : Exit → Act → World → Prop} {L : Nat}
theorem rvOkS_at {n : Nat} (h : rvOkS ops ms n L = true) {i : Nat} (hL : i < L) : ∃ o d, ops[i]? = some o ∧ o.dst = some d ∧ d < n ∧ (∀ j o', ops[j]? = some o' → i ≠ j → o'.dst ≠ some d) ∧ (∀ e ∈ o.after, Region.binds .any e = true → e.on < i) ∧
    ∀ j, j < ops.size → (ms.getD i 0).testBit j = true → ∃ e ∈ o.after, Region.binds .any e = true ∧ (e.on = j ∨ (ms.getD e.on 0).testBit j = true) := by
  unfold rvOkS at h
  simp only [Bool.and_eq_true] at h
  have h1 := (List.all_eq_true.1 h.1.1.1) i (by simpa using hL)
  cases ho : ops[i]? with
  | none => rw [ho] at h1; cases h1
  | some o =>
    rw [ho] at h1
    simp only [Bool.and_eq_true] at h1
    obtain ⟨⟨h2, h3⟩, h4⟩ := h1
    cases hd : o.dst with
    | none => rw [hd] at h2; cases h2
    | some d =>
      rw [hd] at h2
      simp only [Bool.and_eq_true, decide_eq_true_eq, List.all_eq_true] at h2
      refine ⟨o, d, rfl, hd, h2.1, fun j o' hj hne => ?_, fun e he hb => ?_, fun j hj hm => ?_⟩
      · have hjs : j < ops.size := (Array.getElem?_eq_some_iff.1 hj).1
        have := h2.2 j (by simpa using hjs)
        rw [hj] at this
        simp only [Bool.or_eq_true, decide_eq_true_eq, bne_iff_ne] at this
        exact this.resolve_left hne
      · rw [Array.all_eq_true'] at h3
        have := h3 e he
        rw [hb] at this
        simpa using this
      · have := (List.all_eq_true.1 h4) j (by simpa using hj)
        rw [hm] at this
        simp only [Bool.not_true, Bool.false_or, Array.any_eq_true', Bool.and_eq_true, Bool.or_eq_true, beq_iff_eq] at this
        obtain ⟨e, he, h5, h6⟩ := this
        exact ⟨e, he, h5, h6⟩
theorem rvOkS_ms {n : Nat} (h : rvOkS ops ms n L = true) {i j : Nat} (hL : i < L) (hb : (ms.getD i 0).testBit j = true) : j < i := by
  unfold rvOkS at h
  simp only [Bool.and_eq_true] at h
  have h1 := (List.all_eq_true.1 h.1.1.2) i (by simpa using hL)
  simp only [decide_eq_true_eq] at h1
  rcases Nat.lt_or_ge j i with h2 | h2
  · exact h2
  · have h3 : 2 ^ i ≤ 2 ^ j := Nat.pow_le_pow_right (by decide) h2
    rw [Nat.testBit_lt_two_pow (by omega)] at hb; cases hb
theorem rvOkS_len {n : Nat} (h : rvOkS ops ms n L = true) : ms.length = L := by
  unfold rvOkS at h
  simp only [Bool.and_eq_true, decide_eq_true_eq] at h
  exact h.1.2
theorem rvOkS_size {n : Nat} (h : rvOkS ops ms n L = true) : ops.size = L ∨ ops.size = L + 1 ∧ ∃ o, ops[L]? = some o ∧ (∀ j, j < L → ∃ e ∈ o.after, Region.binds .any e = true ∧ (e.on = j ∨ (ms.getD e.on 0).testBit j = true)) ∧ ∀ e ∈ o.after, Region.binds .any e = true → e.on < L := by
  unfold rvOkS at h
  simp only [Bool.and_eq_true, Bool.or_eq_true, decide_eq_true_eq] at h
  rcases h.2 with h1 | ⟨h1, h2⟩
  · exact .inl h1
  · refine .inr ⟨h1, ?_⟩
    cases ho : ops[L]? with
    | none => rw [ho] at h2; cases h2
    | some o =>
      rw [ho] at h2
      simp only [Bool.and_eq_true] at h2
      refine ⟨o, rfl, fun j hj => ?_, fun e he hb => ?_⟩
      · have := (List.all_eq_true.1 h2.1) j (by simpa using hj)
        rw [Array.any_eq_true'] at this
        obtain ⟨e, he, h3⟩ := this
        simp only [Bool.and_eq_true, Bool.or_eq_true, beq_iff_eq] at h3
        exact ⟨e, he, h3.1, h3.2⟩
      · have := (Array.all_eq_true'.1 h2.2) e he
        rw [hb] at this
        simpa using this
theorem opsOkS_at : ∀ (l : List Oper) (k : Nat), OpsOkS P ops V X S ms a0 L k l → ∀ i o, l[i]? = some o → k + i ≠ L → OpOkS P ops V X S ms a0 (k + i) o := by
  intro l
  induction l with
  | nil => intro k _ i o ho; simp at ho
  | cons x l ih =>
    intro k h i o ho hne
    cases i with
    | zero =>
      have : x = o := by simpa using ho
      subst this
      have h1 := h.1
      rw [if_neg (by omega)] at h1
      exact h1
    | succ i =>
      have e : k + (i + 1) = k + 1 + i := by omega
      rw [e]
      exact ih (k + 1) h.2 i o (by simpa using ho) (by omega)
/-- what hangs on listed ones is listed -/
theorem ms_listed {n : Nat} (hok : rvOkS ops ms n L = true) {listed : Array Bool} {a : Act} {w : World} (h : RvAtS ops V S a0 L listed a w) : ∀ i, i < L → (∀ o, ops[i]? = some o → ∀ e ∈ o.after, Region.binds .any e = true → listed.getD e.on true = true) →
    ∀ j, (ms.getD i 0).testBit j = true → listed.getD j true = true := by
  intro i
  induction i using Nat.strongRecOn with
  | _ i ih =>
    intro hi hd j hj
    obtain ⟨o, d, ho, _, _, _, hlt, hm⟩ := rvOkS_at hok hi
    have hji := rvOkS_ms hok hi hj
    have hsz : i < ops.size := (Array.getElem?_eq_some_iff.1 ho).1
    obtain ⟨e, he, hb, h1⟩ := hm j (by omega) hj
    rcases h1 with rfl | h1
    · exact hd o ho e he hb
    · have hei := hlt e he hb
      exact ih e.on hei (by omega) (fun o' ho' e' he' hb' => h.closed e.on o' (by omega) (hd o ho e he hb) ho' e' he' hb') j h1
theorem rvAtS_put {n : Nat} (hok : rvOkS ops ms n L = true) (hn : a0.tmps.size = n) {listed : Array Bool} {a : Act} {w w' : World} {i : Nat} {o : Oper} {v : Value}
    (h : RvAtS ops V S a0 L listed a w) (hiL : i < L) (ho : ops[i]? = some o) (hdeps : ∀ e ∈ o.after, Region.binds .any e = true → listed.getD e.on true = true) (hv : V i v w') (hx : ∀ j, j < L → j ≠ i → listed.getD j true = true → ∀ v, V j v w → V j v w') (hs : S (upd (fun i => listed.getD i true) i) w') :
    RvAtS ops V S a0 L (listed.setIfInBounds i true) (a.put o.dst v) w' := by
  obtain ⟨o2, d, ho2, hd, hdn, huniq, hdep, _⟩ := rvOkS_at hok hiL
  rw [ho] at ho2; cases ho2
  have hi : i < ops.size := (Array.getElem?_eq_some_iff.1 ho).1
  have hput : a.put o.dst v = { a with tmps := a.tmps.setIfInBounds d v } := by rw [hd]; rfl
  have hf : (fun j => (listed.setIfInBounds i true).getD j true) = upd (fun i => listed.getD i true) i := by
    funext j
    unfold upd
    by_cases e : j = i
    · subst e; rw [if_pos rfl]; exact getD_set_self (by rw [h.ls]; exact hi)
    · rw [if_neg e]; exact getD_set_ne (Ne.symm e)
  rw [hput]
  refine ⟨by simp [h.ls], fun hl => by rw [getD_set_ne (by omega)]; exact h.last hl, by simp [h.size], h.df, by rw [hf]; exact hs, fun j oj hjL hl hoj e he hb => ?_, fun j hj hl => ?_, fun t ht => ?_, fun j dj hj hl hdj => ?_⟩
  · by_cases e2 : i = j
    · subst e2
      rw [ho] at hoj; cases hoj
      by_cases e3 : i = e.on
      · rw [← e3]; exact getD_set_self (by rw [h.ls]; exact hi)
      · rw [getD_set_ne e3]; exact hdeps e he hb
    · rw [getD_set_ne e2] at hl
      by_cases e3 : i = e.on
      · rw [← e3]; exact getD_set_self (by rw [h.ls]; exact hi)
      · rw [getD_set_ne e3]; exact h.closed j oj hjL hl hoj e he hb
  · by_cases e : i = j
    · subst e
      have : slotOf ops { a with tmps := a.tmps.setIfInBounds d v } i = v := by
        unfold slotOf
        rw [ho]; simp only [hd]
        rw [Array.getD_eq_getD_getElem?, Array.getElem?_setIfInBounds_self, if_pos (by rw [h.size, hn]; exact hdn)]; rfl
      rw [this]; exact hv
    · rw [getD_set_ne e] at hl
      have : slotOf ops { a with tmps := a.tmps.setIfInBounds d v } j = slotOf ops a j := by
        unfold slotOf
        cases hoj : ops[j]? with
        | none => rfl
        | some o' =>
          simp only
          cases hdj : o'.dst with
          | none => rfl
          | some d' =>
            simp only
            have hne : d ≠ d' := fun e2 => huniq j o' hoj e (by rw [hdj, e2])
            rw [Array.getD_eq_getD_getElem?, Array.getElem?_setIfInBounds_ne hne, ← Array.getD_eq_getD_getElem?]
      rw [this]
      exact hx _ hj (Ne.symm e) hl _ (h.done j hj hl)
  · have hne : d ≠ t := fun e => by
      rw [Array.all_eq_true'] at ht
      have := ht o (Array.mem_of_getElem? ho)
      rw [hd, e] at this; simp at this
    show (a.tmps.setIfInBounds d v).getD t undef = _
    rw [Array.getD_eq_getD_getElem?, Array.getElem?_setIfInBounds_ne hne, ← Array.getD_eq_getD_getElem?]
    exact h.base t ht
  · have hij : i ≠ j := fun e => by
      subst e
      rw [getD_set_self (by rw [h.ls]; exact hi)] at hl; cases hl
    rw [getD_set_ne hij] at hl
    have hne : d ≠ dj := fun e => by
      subst e
      cases hoj : ops[j]? with
      | none => rw [hoj] at hdj; cases hdj
      | some o' =>
        rw [hoj] at hdj
        exact huniq j o' hoj hij hdj
    show (a.tmps.setIfInBounds d v).getD dj undef = _
    rw [Array.getD_eq_getD_getElem?, Array.getElem?_setIfInBounds_ne hne, ← Array.getD_eq_getD_getElem?]
    exact h.und j dj hj hl hdj
/-- nothing ready: all listed -/
theorem allS {n : Nat} (hok : rvOkS ops ms n L = true) {listed : Array Bool} (hl : listed.size = ops.size) (h : Region.ready .any ops listed = []) : ∀ i, i < L → listed.getD i true = true := by
  intro i
  induction i using Nat.strongRecOn with
  | _ i ih =>
    intro hi
    cases hb : listed.getD i true with
    | true => rfl
    | false =>
      obtain ⟨o, d, ho, hd, _, _, hdep, _⟩ := rvOkS_at hok hi
      have hsz : i < ops.size := (Array.getElem?_eq_some_iff.1 ho).1
      have : i ∈ Region.ready .any ops listed := ready_mem.2 ⟨hsz, hb, _, ho, fun e he hbe => by
        have h1 := hdep e he hbe
        exact getD_false_of hl (by omega) (ih e.on h1 (by omega))⟩
      rw [h] at this; cases this
theorem rvS_any (hV : ∀ i j v w w', i < L → j < L → i ≠ j → (ms.getD j 0).testBit i = false → V j v w → X i w w' → V j v w') {n : Nat} (hok : rvOkS ops ms n L = true) (hn : a0.tmps.size = n)
    (hop : OpsOkS P ops V X S ms a0 L 0 ops.toList)
    (hfin : ops.size = L → ∀ a w, a.tmps.size = a0.tmps.size → a.defers = a0.defers → (∀ f : Nat → Bool, (∀ i, i < L → f i = true) → S f w → (∀ i, i < L → V i (slotOf ops a i) w) → (∀ t, (ops.all fun o' => o'.dst != some t) = true → a.tmps.getD t undef = a0.tmps.getD t undef) → Q .normal a w))
    (hlast : ops.size ≠ L → ∀ a w, a.tmps.size = a0.tmps.size → a.defers = a0.defers → (∀ f : Nat → Bool, (∀ i, i < L → f i = true) → S f w → (∀ i, i < L → V i (slotOf ops a i) w) → (∀ t, (ops.all fun o' => o'.dst != some t) = true → a.tmps.getD t undef = a0.tmps.getD t undef) → wpOp P ops Q L (fun a' w' => Q .normal a' w') a w)) :
    ∀ (fuel : Nat) (listed : Array Bool) (a : Act) (w : World), RvAtS ops V S a0 L listed a w → cntU ops.size (fun i => listed.getD i true) ≤ fuel → wpAny P .any ops Q fuel listed a w := by
  have hs := rvOkS_size hok
  have hend : ∀ (listed : Array Bool) (a : Act) (w : World), RvAtS ops V S a0 L listed a w → Region.ready .any ops listed = [] → Q .normal a w := by
    intro listed a w h hr
    have hall := allS hok h.ls hr
    rcases hs with hs | ⟨hs, o, ho, hd, hd2⟩
    · exact hfin hs a w h.size h.df _ hall h.s (fun i hi => h.done i hi (hall i hi)) h.base
    · exfalso
      have hL := h.last (by omega)
      have : L ∈ Region.ready .any ops listed := ready_mem.2 ⟨by omega, hL, o, ho, fun e he hb => by
        have h1 := hd2 e he hb
        exact getD_false_of h.ls (by omega) (hall e.on h1)⟩
      rw [hr] at this; cases this
  intro fuel
  induction fuel with
  | zero =>
    intro listed a w h hc
    have hall := cntU_zero (f := fun i => listed.getD i true) (Nat.le_zero.1 hc)
    have hr : Region.ready .any ops listed = [] := by
      rw [List.eq_nil_iff_forall_not_mem]
      intro j hj
      obtain ⟨g1, g2, _⟩ := ready_mem.1 hj
      rw [hall j g1] at g2; cases g2
    exact ⟨hr, hend listed a w h hr⟩
  | succ fuel ih =>
    intro listed a w h hc
    refine ⟨fun hr => hend listed a w h hr, fun i hi => ?_⟩
    obtain ⟨h1, h2, o, ho, h3⟩ := ready_mem.1 hi
    by_cases hiL : i < L
    · have hlt : cntU ops.size (fun j => (listed.setIfInBounds i true).getD j true) ≤ fuel := by
        have := cntU_lt (f := fun j => listed.getD j true) (g := fun j => (listed.setIfInBounds i true).getD j true) (fun j hj => by
          by_cases e : i = j
          · subst e; exact getD_set_self (by rw [h.ls]; exact h1)
          · show (listed.setIfInBounds i true).getD j true = true
            rw [getD_set_ne e]; exact hj) (j := i) (getD_set_self (by rw [h.ls]; exact h1)) h2 ops.size h1
        omega
      obtain ⟨o2, d, ho2, hd, _, _, hdep, _⟩ := rvOkS_at hok hiL
      rw [ho] at ho2; cases ho2
      have hdl : ∀ e ∈ o.after, Region.binds .any e = true → listed.getD e.on true = true := fun e he hb => by
        have hlt2 := hdep e he hb
        exact getD_true_of h.ls (by omega) (h3 e he hb)
      have hms := ms_listed hok h i hiL (fun o' ho' e he hb => by rw [ho] at ho'; cases ho'; exact hdl e he hb)
      have hO := opsOkS_at _ _ hop i o (by rw [Array.getElem?_toList]; exact ho) (by omega)
      rw [Nat.zero_add] at hO
      have hdn : ∀ j, j < ms.length → (ms.getD j 0).testBit i = true → listed.getD j true = false := fun j hj hb => by
        rw [rvOkS_len hok] at hj
        cases hl : listed.getD j true with
        | false => rfl
        | true =>
          have := ms_listed hok h j hj (fun o' ho' e he hb' => h.closed j o' hj hl ho' e he hb') i hb
          rw [h2] at this; cases this
      have hO := hO a w _ h.size h2 hms hdn h.s (fun j hj => h.done j (by have := rvOkS_ms hok hiL hj; omega) (hms j hj)) h.base (fun j d hj hf => h.und j d (by rw [rvOkS_len hok] at hj; exact hj) hf)
      have hkeep : ∀ w', X i w w' → ∀ j, j < L → j ≠ i → listed.getD j true = true → ∀ v, V j v w → V j v w' := fun w' hx j hj hne hl v hv => by
        refine hV i j v w w' hiL hj (Ne.symm hne) ?_ hv hx
        cases hb : (ms.getD j 0).testBit i with
        | false => rfl
        | true =>
          have := ms_listed hok h j hj (fun o' ho' e he hb' => h.closed j o' hj hl ho' e he hb') i hb
          rw [h2] at this; cases this
      unfold wpOp
      rw [ho]
      simp only
      cases hw : Region.wanted o (yielded ops a.tmps) with
      | false =>
        rw [if_neg (by simp)]
        obtain ⟨hv, hs1⟩ := hO.2 hw
        exact ih _ _ _ (rvAtS_put hok hn h hiL ho hdl hv (fun _ _ _ _ _ h => h) hs1) hlt
      | true =>
        rw [if_pos rfl]
        refine .inl ?_
        rcases hO.1 hw with ⟨v, w', hr, hv, hx, hs1⟩ | ⟨g, args, w', hr, hC⟩
        · unfold Oper.wp
          rw [hr]
          exact ih _ _ _ (rvAtS_put hok hn h hiL ho hdl hv (hkeep w' hx) hs1) hlt
        · unfold Oper.wp
          rw [hr]
          refine hC.mono ?_
          rintro e w'' ⟨v, rfl, hv, hx, hs1⟩
          exact ih _ _ _ (rvAtS_put hok hn h hiL ho hdl hv (hkeep w'' hx) hs1) hlt
    · rcases hs with hs | ⟨hs, oL, hoL, hdeps, hltL⟩
      · omega
      · obtain rfl : i = L := by omega
        rw [ho] at hoL; cases hoL
        have hall : ∀ j, j < i → listed.getD j true = true := fun j hj => by
          obtain ⟨e, he, hb, h4⟩ := hdeps j hj
          have hel := hltL e he hb
          have hle : listed.getD e.on true = true := getD_true_of h.ls (by omega) (h3 e he hb)
          rcases h4 with rfl | h4
          · exact hle
          · exact ms_listed hok h e.on hel (fun o' ho' e' he' hb' => h.closed e.on o' hel hle ho' e' he' hb') j h4
        refine wpOp_mono (fun a' w' hq => wpAny_end ?_ hq fuel) (hlast (by omega) a w h.size h.df _ hall h.s (fun j hj => h.done j hj (hall j hj)) h.base)
        rw [List.eq_nil_iff_forall_not_mem]
        intro j hj
        obtain ⟨g1, g2, _⟩ := ready_mem.1 hj
        by_cases e : i = j
        · subst e; rw [getD_set_self (by rw [h.ls]; exact h1)] at g2; cases g2
        · rw [getD_set_ne e, hall j (by omega)] at g2; cases g2
/-- THE LAW -/
theorem wp_region_st {id : Nat} (hm : P.follows .mixedOrders = true) {w : World} (V : Nat → Value → World → Prop) (X : Nat → World → World → Prop) (S : (Nat → Bool) → World → Prop) (ms : List Nat) (n L : Nat) (hok : rvOkS ops ms n L = true) (hn : a0.tmps.size = n)
    (hV : ∀ i j v w w', i < L → j < L → i ≠ j → (ms.getD j 0).testBit i = false → V j v w → X i w w' → V j v w') (hS : ∀ f : Nat → Bool, (∀ i, i < L → f i = false) → S f { w with drawn := w.drawn + 1 })
    (hop : OpsOkS P ops V X S ms a0 L 0 ops.toList)
    (hfin : ops.size = L → ∀ a w, a.tmps.size = a0.tmps.size → a.defers = a0.defers → (∀ f : Nat → Bool, (∀ i, i < L → f i = true) → S f w → (∀ i, i < L → V i (slotOf ops a i) w) → (∀ t, (ops.all fun o' => o'.dst != some t) = true → a.tmps.getD t undef = a0.tmps.getD t undef) → Q .normal a w))
    (hlast : ops.size ≠ L → ∀ a w, a.tmps.size = a0.tmps.size → a.defers = a0.defers → (∀ f : Nat → Bool, (∀ i, i < L → f i = true) → S f w → (∀ i, i < L → V i (slotOf ops a i) w) → (∀ t, (ops.all fun o' => o'.dst != some t) = true → a.tmps.getD t undef = a0.tmps.getD t undef) → wpOp P ops Q L (fun a' w' => Q .normal a' w') a w)) :
    (Code.region id ops true).wp P Q a0 w := by
  have hs := rvOkS_size hok
  have hf : ∀ i, i < ops.size → (Array.replicate ops.size false).getD i true = false := fun i hi => by rw [Array.getD_eq_getD_getElem?, Array.getElem?_replicate, if_pos hi]; rfl
  have h0 : RvAtS ops V S a0 L (Array.replicate ops.size false) a0 { w with drawn := w.drawn + 1 } := by
    refine ⟨by simp, fun hl => hf L hl, rfl, rfl, hS _ fun i hi => hf i (by omega), fun i o hi h => ?_, fun i hi h => ?_, fun _ _ => rfl, fun _ _ _ _ _ => rfl⟩
    · rw [hf i (by omega)] at h; cases h
    · rw [hf i (by omega)] at h; cases h
  exact wp_region_any hm (rvS_any hV hok hn hop hfin hlast ops.size (Array.replicate ops.size false) a0 _ h0 (cntU_le _ _))
end
end Go.Proofs.YtocdljmdmiphnaaDoor
/- The effects of a region's operations, as a list. -/
namespace Go.Proofs.YtocdljmdmiphnaaDoor
open Go.RowKit
set_option linter.unusedVariables false
def Xs (l : List (World → World → Prop)) (i : Nat) : World → World → Prop := l.getD i Ext
/-- the predicates stay behind operation m -/
def StaysM (X : World → World → Prop) (m : Nat) (ms : List Nat) : Nat → List (Value → World → Prop) → Prop
  | _, [] => True
  | j, p :: l => (j ≠ m → (ms.getD j 0).testBit m = false → ∀ v w w', p v w → X w w' → p v w') ∧ StaysM X m ms (j + 1) l
theorem staysM_at {X : World → World → Prop} {m : Nat} {ms : List Nat} : ∀ (l : List (Value → World → Prop)) (k : Nat), StaysM X m ms k l → ∀ i p, l[i]? = some p → k + i ≠ m → (ms.getD (k + i) 0).testBit m = false → ∀ v w w', p v w → X w w' → p v w'
  | [], _, _, i, p, h => by simp at h
  | q :: l, k, h, 0, p, hp => by
    have : q = p := by simpa using hp
    subst this
    exact h.1
  | q :: l, k, h, i + 1, p, hp => by
    have e : k + (i + 1) = k + 1 + i := by omega
    rw [e]
    exact staysM_at l (k + 1) h.2 i p (by simpa using hp)
theorem staysM_all {X : World → World → Prop} {m : Nat} {ms : List Nat} {l : List (Value → World → Prop)} (h : StaysM X m ms 0 l) : ∀ j v w w', m ≠ j → (ms.getD j 0).testBit m = false → Vs l j v w → X w w' → Vs l j v w' := by
  intro j v w w' hne hb hv hx
  unfold Vs at *
  by_cases hj : j < l.length
  · rw [List.getD_eq_getElem?_getD, List.getElem?_eq_getElem hj] at hv ⊢
    exact staysM_at l 0 h j _ (List.getElem?_eq_getElem hj) (by omega) (by rw [Nat.zero_add]; exact hb) v w w' hv hx
  · rw [List.getD_eq_getElem?_getD, List.getElem?_eq_none (by omega)]; trivial
def XsOk (l : List (Value → World → Prop)) (ms : List Nat) : Nat → List (World → World → Prop) → Prop
  | _, [] => True
  | i, X :: r => (X = Ext ∨ ∀ j v w w', i ≠ j → (ms.getD j 0).testBit i = false → Vs l j v w → X w w' → Vs l j v w') ∧ XsOk l ms (i + 1) r
theorem xsOk_at {l : List (Value → World → Prop)} {ms : List Nat} : ∀ (r : List (World → World → Prop)) (k : Nat), XsOk l ms k r → ∀ i X, r[i]? = some X → X = Ext ∨ ∀ j v w w', k + i ≠ j → (ms.getD j 0).testBit (k + i) = false → Vs l j v w → X w w' → Vs l j v w'
  | [], _, _, i, X, h => by simp at h
  | q :: r, k, h, 0, X, hp => by
    have : q = X := by simpa using hp
    subst this
    exact h.1
  | q :: r, k, h, i + 1, X, hp => by
    have e : k + (i + 1) = k + 1 + i := by omega
    rw [e]
    exact xsOk_at r (k + 1) h.2 i X (by simpa using hp)
theorem xs_stays {l : List (Value → World → Prop)} {r : List (World → World → Prop)} {ms : List Nat} {L : Nat} (hx : ∀ i v w w', Vs l i v w → Ext w w' → Vs l i v w') (h : XsOk l ms 0 r) :
    ∀ i j v w w', i < L → j < L → i ≠ j → (ms.getD j 0).testBit i = false → Vs l j v w → Xs r i w w' → Vs l j v w' := by
  intro i j v w w' _ _ hne hb hv hX
  unfold Xs at hX
  by_cases hi : i < r.length
  · rw [List.getD_eq_getElem?_getD, List.getElem?_eq_getElem hi] at hX
    rcases xsOk_at r 0 h i _ (List.getElem?_eq_getElem hi) with h1 | h1
    · simp only [Option.getD_some] at hX
      rw [h1] at hX
      exact hx _ _ _ _ hv hX
    · rw [Nat.zero_add] at h1
      exact h1 j v w w' hne hb hv hX
  · rw [List.getD_eq_getElem?_getD, List.getElem?_eq_none (by omega)] at hX
    exact hx _ _ _ _ hv hX
end Go.Proofs.YtocdljmdmiphnaaDoor
