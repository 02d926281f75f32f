/- The region law with a middle operation that may write an own row, and with a last operation that hangs on all others. -/
import Derived.Test.YtocdljmdmiphnaaDoorRegion
import Derived.IntWalk
namespace Go.Proofs.YtocdljmdmiphnaaDoor
open Go.RowKit
set_option linter.unusedVariables false
set_option linter.unusedSimpArgs false

section
variable (P : Program) (ops : Array Oper) (V : Nat → Value → World → Prop) (S : Bool → World → Prop) (XM : World → World → Prop) (M : Nat) (a0 : Act)
/-- what is to be shown of operation i (not the middle one, not the last) -/
def OpOkX (i : Nat) (o : Oper) : Prop := ∀ a w b, a.tmps.size = a0.tmps.size → S b w →
  (∀ e ∈ o.after, Region.binds .any e = true → V e.on (slotOf ops a e.on) w) →
  (∀ t, (ops.all fun o' => o'.dst != some t) = true → a.tmps.getD t undef = a0.tmps.getD t undef) →
  (Region.wanted o (yielded ops a.tmps) = true → OpRes P a o w (fun v w' => V i v w' ∧ Ext w w')) ∧ (Region.wanted o (yielded ops a.tmps) = false → V i undef w)
/-- what is to be shown of the middle operation -/
def OpMid (o : Oper) : Prop := ∀ a w, a.tmps.size = a0.tmps.size → S false w →
  (∀ e ∈ o.after, Region.binds .any e = true → V e.on (slotOf ops a e.on) w) →
  (∀ t, (ops.all fun o' => o'.dst != some t) = true → a.tmps.getD t undef = a0.tmps.getD t undef) → Region.wanted o (yielded ops a.tmps) = true ∧
  OpRes P a o w (fun v w' => V M v w' ∧ XM w w' ∧ S true w')
def OpsOkX (L : Nat) : Nat → List Oper → Prop
  | _, [] => True
  | i, o :: l => (if i = M then OpMid P ops V S XM M a0 o else if i = L then True else OpOkX P ops V S a0 i o) ∧ OpsOkX L (i + 1) l
/-- all but the last operation have a slot of their own; the last hangs on all others -/
def rvOkX (n L : Nat) : Bool :=
  decide (ops.size = L + 1) && ((List.range L).all fun i => match ops[i]? with
    | none => true
    | some o => (match o.dst with
      | none => false
      | some d => decide (d < n) && (List.range ops.size).all fun j => decide (i = j) || (match ops[j]? with | some o' => o'.dst != some d | none => true)) &&
      o.after.all fun e => !Region.binds .any e || decide (e.on < i)) &&
  (match ops[L]? with
    | none => false
    | some o => ((List.range L).all fun j => o.after.any fun e => e.on == j && Region.binds .any e) && o.after.all fun e => !Region.binds .any e || decide (e.on < L))
structure RvAtX (L : Nat) (listed : Array Bool) (a : Act) (w : World) : Prop where
  ls : listed.size = ops.size
  last : listed.getD L true = false
  size : a.tmps.size = a0.tmps.size
  df : a.defers = a0.defers
  s : S (listed.getD M true) w
  done : ∀ i, i < L → listed.getD i true = true → V i (slotOf ops a i) w
  base : ∀ t, (ops.all fun o' => o'.dst != some t) = true → a.tmps.getD t undef = a0.tmps.getD t undef
end
section
variable {P : Program} {ops : Array Oper} {V : Nat → Value → World → Prop} {S : Bool → World → Prop} {XM : World → World → Prop} {M : Nat} {a0 : Act} {Q : Exit → Act → World → Prop}
theorem rvOkX_at {n L : Nat} (h : rvOkX ops n L = true) {i : Nat} {o : Oper} (hL : i < L) (ho : ops[i]? = some o) : ∃ d, o.dst = some d ∧ d < n ∧ (∀ j o', ops[j]? = some o' → i ≠ j → o'.dst ≠ some d) ∧ ∀ e ∈ o.after, Region.binds .any e = true → e.on < i := by
  unfold rvOkX at h
  simp only [Bool.and_eq_true] at h
  have h1 := (List.all_eq_true.1 h.1.2) i (by simpa using hL)
  rw [ho] at h1
  simp only [Bool.and_eq_true] at h1
  obtain ⟨h2, h3⟩ := h1
  cases hd : o.dst with
  | none => rw [hd] at h2; cases h2
  | some d =>
    rw [hd] at h2
    simp only [Bool.and_eq_true, decide_eq_true_eq, List.all_eq_true] at h2
    refine ⟨d, rfl, h2.1, fun j o' hj hne => ?_, fun e he hb => ?_⟩
    · have hjs : j < ops.size := (Array.getElem?_eq_some_iff.1 hj).1
      have := h2.2 j (by simpa using hjs)
      rw [hj] at this
      simp only [Bool.or_eq_true, decide_eq_true_eq, bne_iff_ne] at this
      exact this.resolve_left hne
    · rw [Array.all_eq_true'] at h3
      have := h3 e he
      rw [hb] at this
      simpa using this
theorem rvOkX_size {n L : Nat} (h : rvOkX ops n L = true) : ops.size = L + 1 := by
  unfold rvOkX at h
  simp only [Bool.and_eq_true, decide_eq_true_eq] at h
  exact h.1.1
theorem rvOkX_last {n L : Nat} (h : rvOkX ops n L = true) : ∃ o, ops[L]? = some o ∧ (∀ j, j < L → ∃ e ∈ o.after, e.on = j ∧ Region.binds .any e = true) ∧ ∀ e ∈ o.after, Region.binds .any e = true → e.on < L := by
  unfold rvOkX at h
  simp only [Bool.and_eq_true] at h
  cases ho : ops[L]? with
  | none => rw [ho] at h; cases h.2
  | some o =>
    rw [ho] at h
    simp only [Bool.and_eq_true] at h
    refine ⟨o, rfl, fun j hj => ?_, fun e he hb => ?_⟩
    · have := (List.all_eq_true.1 h.2.1) j (by simpa using hj)
      rw [Array.any_eq_true'] at this
      obtain ⟨e, he, h2⟩ := this
      simp only [Bool.and_eq_true, beq_iff_eq] at h2
      exact ⟨e, he, h2.1, h2.2⟩
    · have := (Array.all_eq_true'.1 h.2.2) e he
      rw [hb] at this
      simpa using this
theorem rvAtX_put {n L : Nat} (hok : rvOkX ops n L = true) (hn : a0.tmps.size = n) {listed : Array Bool} {a : Act} {w w' : World} {i : Nat} {o : Oper} {v : Value}
    (h : RvAtX ops V S M a0 L listed a w) (hiL : i < L) (ho : ops[i]? = some o) (hv : V i v w') (hx : ∀ j, j ≠ i → ∀ v, V j v w → V j v w') (hs : S ((listed.setIfInBounds i true).getD M true) w') : RvAtX ops V S M a0 L (listed.setIfInBounds i true) (a.put o.dst v) w' := by
  obtain ⟨d, hd, hdn, huniq, hdep⟩ := rvOkX_at hok hiL ho
  have hi : i < ops.size := (Array.getElem?_eq_some_iff.1 ho).1
  have hput : a.put o.dst v = { a with tmps := a.tmps.setIfInBounds d v } := by rw [hd]; rfl
  rw [hput]
  refine ⟨by simp [h.ls], by rw [getD_set_ne (by omega)]; exact h.last, by simp [h.size], h.df, hs, fun j hj hl => ?_, fun t ht => ?_⟩
  · by_cases e : i = j
    · subst e
      have : slotOf ops { a with tmps := a.tmps.setIfInBounds d v } i = v := by
        unfold slotOf
        rw [ho]; simp only [hd]
        rw [Array.getD_eq_getD_getElem?, Array.getElem?_setIfInBounds_self, if_pos (by rw [h.size, hn]; exact hdn)]; rfl
      rw [this]; exact hv
    · rw [getD_set_ne e] at hl
      have : slotOf ops { a with tmps := a.tmps.setIfInBounds d v } j = slotOf ops a j := by
        unfold slotOf
        cases hoj : ops[j]? with
        | none => rfl
        | some o' =>
          simp only
          cases hdj : o'.dst with
          | none => rfl
          | some d' =>
            simp only
            have hne : d ≠ d' := fun e2 => huniq j o' hoj e (by rw [hdj, e2])
            rw [Array.getD_eq_getD_getElem?, Array.getElem?_setIfInBounds_ne hne, ← Array.getD_eq_getD_getElem?]
      rw [this]
      exact hx _ (Ne.symm e) _ (h.done j hj hl)
  · have hne : d ≠ t := fun e => by
      rw [Array.all_eq_true'] at ht
      have := ht o (Array.mem_of_getElem? ho)
      rw [hd, e] at this; simp at this
    show (a.tmps.setIfInBounds d v).getD t undef = _
    rw [Array.getD_eq_getD_getElem?, Array.getElem?_setIfInBounds_ne hne, ← Array.getD_eq_getD_getElem?]
    exact h.base t ht
theorem getD_true_of {listed : Array Bool} {i n : Nat} (hs : listed.size = n) (hi : i < n) (h : listed.getD i false = true) : listed.getD i true = true := by
  rw [Array.getD_eq_getD_getElem?, Array.getElem?_eq_getElem (by omega)] at h ⊢
  exact h
theorem getD_false_of {listed : Array Bool} {i n : Nat} (hs : listed.size = n) (hi : i < n) (h : listed.getD i true = true) : listed.getD i false = true := by
  rw [Array.getD_eq_getD_getElem?, Array.getElem?_eq_getElem (by omega)] at h ⊢
  exact h
/-- as long as the last operation is unlisted, one is ready -/
theorem some_ready {n L : Nat} (hok : rvOkX ops n L = true) {listed : Array Bool} (hl : listed.size = ops.size) (hL : listed.getD L true = false) : Region.ready .any ops listed ≠ [] := by
  intro h
  have hs := rvOkX_size hok
  have hall : ∀ i, i < L → listed.getD i true = true := by
    intro i
    induction i using Nat.strongRecOn with
    | _ i ih =>
      intro hi
      cases hb : listed.getD i true with
      | true => rfl
      | false =>
        have ho : ops[i]? = some (ops[i]'(by omega)) := Array.getElem?_eq_getElem (by omega)
        obtain ⟨d, hd, _, _, hdep⟩ := rvOkX_at hok hi ho
        have : i ∈ Region.ready .any ops listed := ready_mem.2 ⟨by omega, hb, _, ho, fun e he hbe => by
          have h1 := hdep e he hbe
          exact getD_false_of hl (by omega) (ih e.on h1 (by omega))⟩
        rw [h] at this; cases this
  obtain ⟨o, ho, _, hdep⟩ := rvOkX_last hok
  have : L ∈ Region.ready .any ops listed := ready_mem.2 ⟨by omega, hL, o, ho, fun e he hbe => by
    have h1 := hdep e he hbe
    exact getD_false_of hl (by omega) (hall e.on h1)⟩
  rw [h] at this; cases this
theorem wpAny_end {listed : Array Bool} (h : Region.ready .any ops listed = []) {a : Act} {w : World} (hq : Q .normal a w) : ∀ fuel, wpAny P .any ops Q fuel listed a w
  | 0 => ⟨h, hq⟩
  | fuel + 1 => ⟨fun _ => hq, fun i hi => by rw [h] at hi; cases hi⟩
theorem opsOkX_at {L : Nat} : ∀ (l : List Oper) (k : Nat), OpsOkX P ops V S XM M a0 L k l → ∀ i o, l[i]? = some o → (if k + i = M then OpMid P ops V S XM M a0 o else if k + i = L then True else OpOkX P ops V S a0 (k + i) o) := by
  intro l
  induction l with
  | nil => intro k _ i o ho; simp at ho
  | cons x l ih =>
    intro k h i o ho
    cases i with
    | zero =>
      have : x = o := by simpa using ho
      subst this
      exact h.1
    | succ i =>
      have h2 := ih (k + 1) h.2 i o (by simpa using ho)
      have e : k + (i + 1) = k + 1 + i := by omega
      rw [e]; exact h2
theorem rvX_any (hVx : ∀ i v w w', V i v w → Ext w w' → V i v w') (hVm : ∀ i v w w', i ≠ M → V i v w → XM w w' → V i v w') (hSx : ∀ b w w', S b w → Ext w w' → S b w') {n L : Nat} (hok : rvOkX ops n L = true) (hn : a0.tmps.size = n) (hML : M < L)
    (hop : OpsOkX P ops V S XM M a0 L 0 ops.toList)
    (hlast : ∀ a w, a.tmps.size = a0.tmps.size → a.defers = a0.defers → S true w → (∀ i, i < L → V i (slotOf ops a i) w) → (∀ t, (ops.all fun o' => o'.dst != some t) = true → a.tmps.getD t undef = a0.tmps.getD t undef) → wpOp P ops Q L (fun a' w' => Q .normal a' w') a w) :
    ∀ (fuel : Nat) (listed : Array Bool) (a : Act) (w : World), RvAtX ops V S M a0 L listed a w → cntU ops.size (fun i => listed.getD i true) ≤ fuel → wpAny P .any ops Q fuel listed a w := by
  have hs := rvOkX_size hok
  intro fuel
  induction fuel with
  | zero =>
    intro listed a w h hc
    have hall := cntU_zero (f := fun i => listed.getD i true) (Nat.le_zero.1 hc)
    have := hall L (by omega)
    rw [h.last] at this; cases this
  | succ fuel ih =>
    intro listed a w h hc
    refine ⟨fun hr => absurd hr (some_ready hok h.ls h.last), fun i hi => ?_⟩
    obtain ⟨h1, h2, o, ho, h3⟩ := ready_mem.1 hi
    by_cases hiL : i < L
    · have hlt : cntU ops.size (fun j => (listed.setIfInBounds i true).getD j true) ≤ fuel := by
        have := cntU_lt (f := fun j => listed.getD j true) (g := fun j => (listed.setIfInBounds i true).getD j true) (fun j hj => by
          by_cases e : i = j
          · subst e; exact getD_set_self (by rw [h.ls]; exact h1)
          · show (listed.setIfInBounds i true).getD j true = true
            rw [getD_set_ne e]; exact hj) (j := i) (getD_set_self (by rw [h.ls]; exact h1)) h2 ops.size h1
        omega
      have hdeps : ∀ e ∈ o.after, Region.binds .any e = true → V e.on (slotOf ops a e.on) w := fun e he hb => by
        have hb2 := h3 e he hb
        obtain ⟨d, hd, _, _, hdep⟩ := rvOkX_at hok hiL ho
        have hlt2 := hdep e he hb
        exact h.done e.on (by omega) (getD_true_of h.ls (by omega) hb2)
      have hO := opsOkX_at _ _ hop i o (by rw [Array.getElem?_toList]; exact ho)
      rw [Nat.zero_add] at hO
      unfold wpOp
      rw [ho]
      simp only
      by_cases hiM : i = M
      · rw [if_pos hiM] at hO
        have hs0 := h.s
        rw [← hiM, h2] at hs0
        obtain ⟨hw, hO⟩ := hO a w h.size hs0 hdeps h.base
        rw [hw, if_pos rfl]
        refine .inl ?_
        have hst : ∀ w', S true w' → S ((listed.setIfInBounds i true).getD M true) w' := fun w' hh => by
          rw [← hiM, getD_set_self (by rw [h.ls]; exact h1)]; exact hh
        rcases hO with ⟨v, w', hr, hv, hx, hs1⟩ | ⟨f, args, w', hr, hC⟩
        · unfold Oper.wp
          rw [hr]
          exact ih _ _ _ (rvAtX_put hok hn h hiL ho (by rw [hiM]; exact hv) (fun j hj v hv => hVm _ _ _ _ (by omega) hv hx) (hst _ hs1)) hlt
        · unfold Oper.wp
          rw [hr]
          refine hC.mono ?_
          rintro e w'' ⟨v, rfl, hv, hx, hs1⟩
          exact ih _ _ _ (rvAtX_put hok hn h hiL ho (by rw [hiM]; exact hv) (fun j hj v hv => hVm _ _ _ _ (by omega) hv hx) (hst _ hs1)) hlt
      · rw [if_neg hiM, if_neg (by omega)] at hO
        have hO := hO a w _ h.size h.s hdeps h.base
        have hst : ∀ w', S (listed.getD M true) w' → S ((listed.setIfInBounds i true).getD M true) w' := fun w' hh => by
          rw [getD_set_ne hiM]; exact hh
        cases hw : Region.wanted o (yielded ops a.tmps) with
        | false =>
          rw [if_neg (by simp)]
          exact ih _ _ _ (rvAtX_put hok hn h hiL ho (hO.2 hw) (fun _ _ _ h => h) (hst _ h.s)) hlt
        | true =>
          rw [if_pos rfl]
          refine .inl ?_
          rcases hO.1 hw with ⟨v, w', hr, hv, hx⟩ | ⟨f, args, w', hr, hC⟩
          · unfold Oper.wp
            rw [hr]
            exact ih _ _ _ (rvAtX_put hok hn h hiL ho hv (fun j hj v hv => hVx _ _ _ _ hv hx) (hst _ (hSx _ _ _ h.s hx))) hlt
          · unfold Oper.wp
            rw [hr]
            refine hC.mono ?_
            rintro e w'' ⟨v, rfl, hv, hx⟩
            exact ih _ _ _ (rvAtX_put hok hn h hiL ho hv (fun j hj v hv => hVx _ _ _ _ hv hx) (hst _ (hSx _ _ _ h.s hx))) hlt
    · obtain rfl : i = L := by omega
      obtain ⟨o2, ho2, hdeps, _⟩ := rvOkX_last hok
      have hall : ∀ j, j < i → listed.getD j true = true := fun j hj => by
        obtain ⟨e, he, rfl, hb⟩ := hdeps j hj
        rw [ho] at ho2; cases ho2
        exact getD_true_of h.ls (by omega) (h3 e he hb)
      have hs1 := h.s
      rw [hall M hML] at hs1
      refine wpOp_mono (fun a' w' hq => wpAny_end ?_ hq fuel) (hlast a w h.size h.df hs1 (fun j hj => h.done j hj (hall j hj)) h.base)
      rw [List.eq_nil_iff_forall_not_mem]
      intro j hj
      obtain ⟨g1, g2, _⟩ := ready_mem.1 hj
      by_cases e : i = j
      · subst e; rw [getD_set_self (by rw [h.ls]; exact h1)] at g2; cases g2
      · rw [getD_set_ne e, hall j (by omega)] at g2; cases g2
/-- THE LAW: a middle operation M and a last operation L -/
theorem wp_region_mid {id : Nat} (hm : P.follows .mixedOrders = true) {w : World} (V : Nat → Value → World → Prop) (S : Bool → World → Prop) (XM : World → World → Prop) (n M L : Nat) (hok : rvOkX ops n L = true) (hn : a0.tmps.size = n) (hML : M < L)
    (hVx : ∀ i v w w', V i v w → Ext w w' → V i v w') (hVm : ∀ i v w w', i ≠ M → V i v w → XM w w' → V i v w') (hSx : ∀ b w w', S b w → Ext w w' → S b w') (hS : S false w)
    (hop : OpsOkX P ops V S XM M a0 L 0 ops.toList)
    (hlast : ∀ a w, a.tmps.size = a0.tmps.size → a.defers = a0.defers → S true w → (∀ i, i < L → V i (slotOf ops a i) w) → (∀ t, (ops.all fun o' => o'.dst != some t) = true → a.tmps.getD t undef = a0.tmps.getD t undef) → wpOp P ops Q L (fun a' w' => Q .normal a' w') a w) :
    (Code.region id ops true).wp P Q a0 w := by
  have hs := rvOkX_size hok
  have hx : Ext w { w with drawn := w.drawn + 1 } := ⟨rfl, rfl, rfl, Nat.le_refl _, fun _ _ => rfl⟩
  have h0 : RvAtX ops V S M a0 L (Array.replicate ops.size false) a0 { w with drawn := w.drawn + 1 } := by
    refine ⟨by simp, ?_, rfl, rfl, ?_, fun i hi h => ?_, fun _ _ => rfl⟩
    · rw [Array.getD_eq_getD_getElem?, Array.getElem?_replicate, if_pos (by omega)]; rfl
    · have : (Array.replicate ops.size false).getD M true = false := by rw [Array.getD_eq_getD_getElem?, Array.getElem?_replicate, if_pos (by omega)]; rfl
      rw [this]; exact hSx _ _ _ hS hx
    · rw [Array.getD_eq_getD_getElem?, Array.getElem?_replicate, if_pos (by omega)] at h
      cases h
  exact wp_region_any hm (rvX_any hVx hVm hSx hok hn hML hop hlast ops.size (Array.replicate ops.size false) a0 _ h0 (cntU_le _ _))
/-- the predicates stay behind the middle operation -/
def StaysL (X : World → World → Prop) (M : Nat) : Nat → List (Value → World → Prop) → Prop
  | _, [] => True
  | i, p :: l => (i ≠ M → ∀ v w w', p v w → X w w' → p v w') ∧ StaysL X M (i + 1) l
theorem staysL_at {X : World → World → Prop} {M : Nat} : ∀ (l : List (Value → World → Prop)) (k : Nat), StaysL X M k l → ∀ i p, l[i]? = some p → k + i ≠ M → ∀ v w w', p v w → X w w' → p v w'
  | [], _, _, i, p, h => by simp at h
  | q :: l, k, h, 0, p, hp => by
    have : q = p := by simpa using hp
    subst this
    exact h.1
  | q :: l, k, h, i + 1, p, hp => fun hne => staysL_at l (k + 1) h.2 i p (by simpa using hp) (by omega)
theorem staysL_all {X : World → World → Prop} {M : Nat} {l : List (Value → World → Prop)} (h : StaysL X M 0 l) : ∀ i v w w', i ≠ M → Vs l i v w → X w w' → Vs l i v w' := by
  intro i v w w' hne hv hx
  unfold Vs at *
  by_cases hi : i < l.length
  · rw [List.getD_eq_getElem?_getD, List.getElem?_eq_getElem hi] at hv ⊢
    exact staysL_at l 0 h i _ (List.getElem?_eq_getElem hi) (by omega) v w w' hv hx
  · rw [List.getD_eq_getElem?_getD, List.getElem?_eq_none (by omega)]; trivial
end
theorem wpOp_store {P : Program} {ops : Array Oper} {Q : Exit → Act → World → Prop} {L : Nat} {K : Act → World → Prop} {o : Oper} {A : Act} {W : World} {ty : TypeId} {p v : Operand} {ad : Addr} {a : Option Addr} {n c : Nat} {y : Value}
    (ho : ops[L]? = some o) (hg : o.guard = none) (hop : o.op = .store ty p v) (hd : o.dst = none) (hp : A.eval p = .pointer (some ad)) (hv : A.eval v = .slice a n c) (hf : W.frozen? ad = false) (hc : W.cell? ad = some y) (hsz : (sizeOf ty).run P W = .ok 1 W) (hK : K A (W.setCell ad (.slice a n c))) : wpOp P ops Q L K A W := by
  unfold wpOp
  rw [ho]
  have hw : Region.wanted o (yielded ops A.tmps) = true := by unfold Region.wanted; rw [hg]
  simp only [hw, if_pos]
  refine .inl ?_
  unfold Oper.wp execOp
  simp only [hop, hp, hv]
  simp [go_sem, hf, hc, hsz]
  rw [hd]
  exact hK
def dstsOf (ops : Array Oper) : List Nat := ops.toList.filterMap (·.dst)
theorem dsts_all {ops : Array Oper} {t : Nat} (h : t ∉ dstsOf ops) : (ops.all fun o' => o'.dst != some t) = true := by
  rw [Array.all_eq_true']
  intro o ho
  have : o.dst ≠ some t := fun e => h (List.mem_filterMap.2 ⟨o, by simpa using ho, e⟩)
  simpa using this
theorem getD_put {A : Act} {d t : Nat} {v : Value} : (A.put (some d) v).tmps.getD t undef = if d = t ∧ d < A.tmps.size then v else A.tmps.getD t undef := by
  simp only [Act.put]
  by_cases h : d = t
  · subst h
    by_cases h2 : d < A.tmps.size
    · rw [if_pos ⟨rfl, h2⟩, Array.getD_eq_getD_getElem?, Array.getElem?_setIfInBounds_self, if_pos h2]; rfl
    · rw [if_neg (by simp [h2]), Array.setIfInBounds_eq_of_size_le (by omega)]
  · rw [if_neg (by simp [h]), Array.getD_eq_getD_getElem?, Array.getElem?_setIfInBounds_ne h, ← Array.getD_eq_getD_getElem?]
theorem puts_size (x : Nat → Value) : ∀ (ds : List Nat) (a : Act), (ds.foldl (fun a d => a.put (some d) (x d)) a).tmps.size = a.tmps.size ∧ (ds.foldl (fun a d => a.put (some d) (x d)) a).defers = a.defers
  | [], a => ⟨rfl, rfl⟩
  | d :: ds, a => by
    have := puts_size x ds (a.put (some d) (x d))
    rw [List.foldl_cons]
    exact ⟨this.1.trans (by simp [Act.put]), this.2⟩
theorem puts_get (x : Nat → Value) : ∀ (ds : List Nat) (a : Act) (t : Nat), t < a.tmps.size → (ds.foldl (fun a d => a.put (some d) (x d)) a).tmps.getD t undef = if t ∈ ds then x t else a.tmps.getD t undef
  | [], a, t, _ => by simp
  | d :: ds, a, t, ht => by
    rw [List.foldl_cons, puts_get x ds _ t (by simpa [Act.put] using ht), getD_put]
    by_cases h1 : t ∈ ds
    · simp [h1]
    · by_cases h2 : d = t
      · subst h2; simp [h1, ht]
      · have h3 : ¬ t = d := fun e => h2 e.symm
        simp [h1, h2, h3]
theorem act_ext {A B : Act} (h1 : A.tmps.size = B.tmps.size) (h2 : A.defers = B.defers) (h3 : ∀ t, t < A.tmps.size → A.tmps.getD t undef = B.tmps.getD t undef) : A = B := by
  obtain ⟨ta, da⟩ := A
  obtain ⟨tb, db⟩ := B
  simp only at h1 h2 h3
  subst h2
  congr 1
  apply Array.ext h1
  intro i hi hi2
  have := h3 i hi
  rw [Array.getD_eq_getD_getElem?, Array.getD_eq_getD_getElem?, Array.getElem?_eq_getElem hi, Array.getElem?_eq_getElem hi2] at this
  simpa using this
/-- the frame behind a region: what was there, and what its operations put -/
theorem act_puts {A a0 : Act} {ops : Array Oper} (ds : List Nat) (hds : dstsOf ops = ds) (hsz : A.tmps.size = a0.tmps.size) (hdf : A.defers = a0.defers) (hb : ∀ t, (ops.all fun o' => o'.dst != some t) = true → A.tmps.getD t undef = a0.tmps.getD t undef) :
    ∃ x : Nat → Value, (∀ t, x t = A.tmps.getD t undef) ∧ A = ds.foldl (fun a d => a.put (some d) (x d)) a0 := by
  refine ⟨fun d => A.tmps.getD d undef, fun _ => rfl, ?_⟩
  have h := puts_size (fun d => A.tmps.getD d undef) ds a0
  refine act_ext (hsz.trans h.1.symm) (hdf.trans h.2.symm) fun t ht => ?_
  rw [puts_get _ _ _ _ (by omega)]
  by_cases hm : t ∈ ds
  · rw [if_pos hm]
  · rw [if_neg hm]
    exact hb t (dsts_all (by rw [hds]; exact hm))
theorem eval_tmp {A : Act} {t : Nat} {v : Value} (h : A.tmps.getD t undef = v) : A.eval (.tmp t) = v := by
  rw [Array.getD_eq_getD_getElem?] at h; simpa [go_sem, Act.eval] using h
end Go.Proofs.YtocdljmdmiphnaaDoor
