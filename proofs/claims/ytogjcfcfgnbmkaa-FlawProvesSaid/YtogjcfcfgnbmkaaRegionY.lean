/- The region law with predicates that may also speak of the slots of the operations that an operation hangs on. -/
import Derived.Test.YtogjcfcfgnbmkaaRegionX
namespace Go.Proofs.Ytogjcfcfgnbmkaa
open Go.RowKit
set_option linter.unusedVariables false
set_option linter.unusedSimpArgs false

/-- slot i is v, the others as in s -/
def updS (s : Nat → Value) (i : Nat) (v : Value) : Nat → Value := fun j => if j = i then v else s j
theorem updS_self (s : Nat → Value) (i : Nat) (v : Value) : updS s i v i = v := by simp [updS]
theorem updS_ne {s : Nat → Value} {i j : Nat} {v : Value} (h : j ≠ i) : updS s i v j = s j := by simp [updS, h]
section
variable (P : Program) (ops : Array Oper) (V : Nat → (Nat → Value) → World → Prop) (S : World → Prop) (a0 : Act)
/-- operation i hangs on operation k, through others perhaps -/
inductive DepT (ops : Array Oper) : Nat → Nat → Prop
  | base {i : Nat} {o : Oper} {e : Edge} (ho : ops[i]? = some o) (he : e ∈ o.after) (hb : Region.binds .any e = true) : DepT ops i e.on
  | trans {i k l : Nat} (h : DepT ops i k) (h2 : DepT ops k l) : DepT ops i l
/-- V i speaks of slot i and of those that operation i hangs on -/
def LocY : Prop := ∀ i s s' w, s i = s' i → (∀ k, DepT ops i k → s k = s' k) → V i s w → V i s' w
def OpOkY (i : Nat) (o : Oper) : Prop := ∀ a w, a.tmps.size = a0.tmps.size → S w →
  (∀ e ∈ o.after, Region.binds .any e = true → V e.on (slotOf ops a) w) →
  (∀ t, (ops.all fun o' => o'.dst != some t) = true → a.tmps.getD t undef = a0.tmps.getD t undef) → Region.wanted o (yielded ops a.tmps) = true ∧
  OpRes P a o w (fun v w' => V i (updS (slotOf ops a) i v) w' ∧ Ext w w')
def OpsOkY (L : Nat) : Nat → List Oper → Prop
  | _, [] => True
  | i, o :: l => (if i = L then True else OpOkY P ops V S a0 i o) ∧ OpsOkY L (i + 1) l
structure RvAtY (L : Nat) (listed : Array Bool) (a : Act) (w : World) : Prop where
  ls : listed.size = ops.size
  last : listed.getD L true = false
  size : a.tmps.size = a0.tmps.size
  df : a.defers = a0.defers
  s : S w
  cl : ∀ i o, i < L → listed.getD i true = true → ops[i]? = some o → ∀ e ∈ o.after, Region.binds .any e = true → listed.getD e.on true = true
  done : ∀ i, i < L → listed.getD i true = true → V i (slotOf ops a) w
  base : ∀ t, (ops.all fun o' => o'.dst != some t) = true → a.tmps.getD t undef = a0.tmps.getD t undef
end
section
variable {P : Program} {ops : Array Oper} {V : Nat → (Nat → Value) → World → Prop} {S : World → Prop} {a0 : Act} {Q : Exit → Act → World → Prop}
theorem slot_put {n L : Nat} (hok : rvOkX ops n L = true) {a : Act} {i : Nat} {o : Oper} {v : Value} (hsz : a.tmps.size = n) (hiL : i < L) (ho : ops[i]? = some o) : ∀ j, j < L → slotOf ops (a.put o.dst v) j = updS (slotOf ops a) i v j := by
  obtain ⟨d, hd, hdn, huniq, hdep⟩ := rvOkX_at hok hiL ho
  have hput : a.put o.dst v = { a with tmps := a.tmps.setIfInBounds d v } := by rw [hd]; rfl
  intro j hj
  rw [hput]
  by_cases e : j = i
  · subst e
    rw [updS_self]
    unfold slotOf
    rw [ho]; simp only [hd]
    rw [Array.getD_eq_getD_getElem?, Array.getElem?_setIfInBounds_self, if_pos (by rw [hsz]; exact hdn)]; rfl
  · rw [updS_ne e]
    unfold slotOf
    cases hoj : ops[j]? with
    | none => rfl
    | some o' =>
      simp only
      cases hdj : o'.dst with
      | none => rfl
      | some d' =>
        simp only
        have hne : d ≠ d' := fun e2 => huniq j o' hoj (fun e3 => e e3.symm) (by rw [hdj, e2])
        rw [Array.getD_eq_getD_getElem?, Array.getElem?_setIfInBounds_ne hne, ← Array.getD_eq_getD_getElem?]
theorem depT_lt {n L : Nat} (hok : rvOkX ops n L = true) {i k : Nat} (h : DepT ops i k) : i < L → k < i := by
  induction h with
  | base ho he hb => intro hi; obtain ⟨_, _, _, _, hdep⟩ := rvOkX_at hok hi ho; exact hdep _ he hb
  | trans _ _ ih1 ih2 => intro hi; have := ih1 hi; have := ih2 (by omega); omega
theorem depT_listed {n L : Nat} (hok : rvOkX ops n L = true) {listed : Array Bool} (cl : ∀ i o, i < L → listed.getD i true = true → ops[i]? = some o → ∀ e ∈ o.after, Region.binds .any e = true → listed.getD e.on true = true) {i k : Nat} (h : DepT ops i k) : i < L → listed.getD i true = true → listed.getD k true = true := by
  induction h with
  | base ho he hb => intro hi hl; exact cl _ _ hi hl ho _ he hb
  | trans h1 _ ih1 ih2 => intro hi hl; exact ih2 (by have := depT_lt hok h1 hi; omega) (ih1 hi hl)
theorem rvAtY_put {n L : Nat} (hloc : LocY ops V) (hok : rvOkX ops n L = true) (hn : a0.tmps.size = n) {listed : Array Bool} {a : Act} {w w' : World} {i : Nat} {o : Oper} {v : Value}
    (h : RvAtY ops V S a0 L listed a w) (hiL : i < L) (h2 : listed.getD i true = false) (ho : ops[i]? = some o) (hdl : ∀ e ∈ o.after, Region.binds .any e = true → listed.getD e.on true = true) (hv : V i (updS (slotOf ops a) i v) w') (hx : ∀ j s, V j s w → V j s w') (hs : S w') : RvAtY ops V S a0 L (listed.setIfInBounds i true) (a.put o.dst v) w' := by
  obtain ⟨d, hd, hdn, huniq, hdep⟩ := rvOkX_at hok hiL ho
  have hi : i < ops.size := (Array.getElem?_eq_some_iff.1 ho).1
  have hsl := slot_put (v := v) hok (h.size.trans hn) hiL ho
  have hput : a.put o.dst v = { a with tmps := a.tmps.setIfInBounds d v } := by rw [hd]; rfl
  have hli : ∀ j, listed.getD j true = true → (listed.setIfInBounds i true).getD j true = true := fun j hj => by
    by_cases e : i = j
    · subst e; exact getD_set_self (by rw [h.ls]; exact hi)
    · rw [getD_set_ne e]; exact hj
  refine ⟨by simp [h.ls], by rw [getD_set_ne (by omega)]; exact h.last, by rw [hput]; simp [h.size], by rw [hput]; exact h.df, hs, fun j oj hj hl hoj e he hb => ?_, fun j hj hl => ?_, fun t ht => ?_⟩
  · by_cases e2 : i = j
    · subst e2
      rw [ho] at hoj; cases hoj
      exact hli _ (hdl e he hb)
    · rw [getD_set_ne e2] at hl
      exact hli _ (h.cl j oj hj hl hoj e he hb)
  · by_cases e2 : i = j
    · subst e2
      exact hloc i _ _ w' (hsl i hj).symm (fun k hk => (hsl k (by have := depT_lt hok hk hj; omega)).symm) hv
    · rw [getD_set_ne e2] at hl
      refine hloc j (slotOf ops a) _ w' ?_ (fun k hk => ?_) (hx _ _ (h.done j hj hl))
      · rw [hsl j hj, updS_ne (fun e3 => e2 e3.symm)]
      · have hel := depT_listed hok h.cl hk hj hl
        have hlt := depT_lt hok hk hj
        rw [hsl k (by omega), updS_ne (fun e3 => by rw [e3, h2] at hel; cases hel)]
  · rw [hput]
    have hne : d ≠ t := fun e => by
      rw [Array.all_eq_true'] at ht
      have := ht o (Array.mem_of_getElem? ho)
      rw [hd, e] at this; simp at this
    show (a.tmps.setIfInBounds d v).getD t undef = _
    rw [Array.getD_eq_getD_getElem?, Array.getElem?_setIfInBounds_ne hne, ← Array.getD_eq_getD_getElem?]
    exact h.base t ht
theorem opsOkY_at {L : Nat} : ∀ (l : List Oper) (k : Nat), OpsOkY P ops V S a0 L k l → ∀ i o, l[i]? = some o → (if k + i = L then True else OpOkY P ops V S a0 (k + i) o) := by
  intro l
  induction l with
  | nil => intro k _ i o ho; simp at ho
  | cons x l ih =>
    intro k h i o ho
    cases i with
    | zero =>
      have : x = o := by simpa using ho
      subst this
      exact h.1
    | succ i =>
      have h2 := ih (k + 1) h.2 i o (by simpa using ho)
      have e : k + (i + 1) = k + 1 + i := by omega
      rw [e]; exact h2
theorem rvY_any (hloc : LocY ops V) (hVx : ∀ i s w w', V i s w → Ext w w' → V i s w') (hSx : ∀ w w', S w → Ext w w' → S w') {n L : Nat} (hok : rvOkX ops n L = true) (hn : a0.tmps.size = n)
    (hop : OpsOkY P ops V S a0 L 0 ops.toList)
    (hlast : ∀ a w, a.tmps.size = a0.tmps.size → a.defers = a0.defers → S w → (∀ i, i < L → V i (slotOf ops a) w) → (∀ t, (ops.all fun o' => o'.dst != some t) = true → a.tmps.getD t undef = a0.tmps.getD t undef) → wpOp P ops Q L (fun a' w' => Q .normal a' w') a w) :
    ∀ (fuel : Nat) (listed : Array Bool) (a : Act) (w : World), RvAtY ops V S a0 L listed a w → cntU ops.size (fun i => listed.getD i true) ≤ fuel → wpAny P .any ops Q fuel listed a w := by
  have hs := rvOkX_size hok
  intro fuel
  induction fuel with
  | zero =>
    intro listed a w h hc
    have hall := cntU_zero (f := fun i => listed.getD i true) (Nat.le_zero.1 hc)
    have := hall L (by omega)
    rw [h.last] at this; cases this
  | succ fuel ih =>
    intro listed a w h hc
    refine ⟨fun hr => absurd hr (some_ready hok h.ls h.last), fun i hi => ?_⟩
    obtain ⟨h1, h2, o, ho, h3⟩ := ready_mem.1 hi
    by_cases hiL : i < L
    · have hlt : cntU ops.size (fun j => (listed.setIfInBounds i true).getD j true) ≤ fuel := by
        have := cntU_lt (f := fun j => listed.getD j true) (g := fun j => (listed.setIfInBounds i true).getD j true) (fun j hj => by
          by_cases e : i = j
          · subst e; exact getD_set_self (by rw [h.ls]; exact h1)
          · show (listed.setIfInBounds i true).getD j true = true
            rw [getD_set_ne e]; exact hj) (j := i) (getD_set_self (by rw [h.ls]; exact h1)) h2 ops.size h1
        omega
      have hdl : ∀ e ∈ o.after, Region.binds .any e = true → listed.getD e.on true = true := fun e he hb => by
        obtain ⟨d, hd, _, _, hdep⟩ := rvOkX_at hok hiL ho
        have hlt2 := hdep e he hb
        exact getD_true_of h.ls (by omega) (h3 e he hb)
      have hdeps : ∀ e ∈ o.after, Region.binds .any e = true → V e.on (slotOf ops a) w := fun e he hb => by
        obtain ⟨d, hd, _, _, hdep⟩ := rvOkX_at hok hiL ho
        have hlt2 := hdep e he hb
        exact h.done e.on (by omega) (hdl e he hb)
      have hO := opsOkY_at _ _ hop i o (by rw [Array.getElem?_toList]; exact ho)
      rw [Nat.zero_add, if_neg (by omega)] at hO
      obtain ⟨hw, hO⟩ := hO a w h.size h.s hdeps h.base
      unfold wpOp
      rw [ho]
      simp only
      rw [hw, if_pos rfl]
      refine .inl ?_
      rcases hO with ⟨v, w', hr, hv, hx⟩ | ⟨f, args, w', hr, hC⟩
      · unfold Oper.wp
        rw [hr]
        exact ih _ _ _ (rvAtY_put hloc hok hn h hiL h2 ho hdl hv (fun j s hv => hVx _ _ _ _ hv hx) (hSx _ _ h.s hx)) hlt
      · unfold Oper.wp
        rw [hr]
        refine hC.mono ?_
        rintro e w'' ⟨v, rfl, hv, hx⟩
        exact ih _ _ _ (rvAtY_put hloc hok hn h hiL h2 ho hdl hv (fun j s hv => hVx _ _ _ _ hv hx) (hSx _ _ h.s hx)) hlt
    · obtain rfl : i = L := by omega
      obtain ⟨o2, ho2, hdeps, _⟩ := rvOkX_last hok
      have hall : ∀ j, j < i → listed.getD j true = true := fun j hj => by
        obtain ⟨e, he, rfl, hb⟩ := hdeps j hj
        rw [ho] at ho2; cases ho2
        exact getD_true_of h.ls (by omega) (h3 e he hb)
      refine wpOp_mono (fun a' w' hq => wpAny_end ?_ hq fuel) (hlast a w h.size h.df h.s (fun j hj => h.done j hj (hall j hj)) h.base)
      rw [List.eq_nil_iff_forall_not_mem]
      intro j hj
      obtain ⟨g1, g2, _⟩ := ready_mem.1 hj
      by_cases e : i = j
      · subst e; rw [getD_set_self (by rw [h.ls]; exact h1)] at g2; cases g2
      · rw [getD_set_ne e, hall j (by omega)] at g2; cases g2
/-- the predicates as a list -/
def VY (l : List ((Nat → Value) → World → Prop)) (i : Nat) (s : Nat → Value) (w : World) : Prop := (l.getD i fun _ _ => True) s w
theorem vy_stays {l : List ((Nat → Value) → World → Prop)} (h : ∀ p ∈ l, ∀ s w w', p s w → Ext w w' → p s w') : ∀ i s w w', VY l i s w → Ext w w' → VY l i s w' := by
  intro i s w w' hv hx
  unfold VY at *
  by_cases hi : i < l.length
  · rw [List.getD_eq_getElem?_getD, List.getElem?_eq_getElem hi] at hv ⊢
    exact h _ (List.getElem_mem hi) s w w' hv hx
  · rw [List.getD_eq_getElem?_getD, List.getElem?_eq_none (by omega)]; trivial
def LocL (ops : Array Oper) : Nat → List ((Nat → Value) → World → Prop) → Prop
  | _, [] => True
  | i, p :: l => (∀ s s' w, s i = s' i → (∀ k, DepT ops i k → s k = s' k) → p s w → p s' w) ∧ LocL ops (i + 1) l
theorem locL_at {ops : Array Oper} : ∀ (l : List ((Nat → Value) → World → Prop)) (k : Nat), LocL ops k l → ∀ i p, l[i]? = some p → ∀ s s' w, s (k + i) = s' (k + i) → (∀ j, DepT ops (k + i) j → s j = s' j) → p s w → p s' w
  | [], _, _, i, p, h => by simp at h
  | q :: l, k, h, 0, p, hp => by
    have : q = p := by simpa using hp
    subst this
    exact h.1
  | q :: l, k, h, i + 1, p, hp => by
    have e : k + (i + 1) = k + 1 + i := by omega
    rw [e]
    exact locL_at l (k + 1) h.2 i p (by simpa using hp)
theorem locL_all {ops : Array Oper} {l : List ((Nat → Value) → World → Prop)} (h : LocL ops 0 l) : LocY ops (VY l) := by
  intro i s s' w h1 h2 hv
  unfold VY at *
  by_cases hi : i < l.length
  · rw [List.getD_eq_getElem?_getD, List.getElem?_eq_getElem hi] at hv ⊢
    exact locL_at l 0 h i _ (List.getElem?_eq_getElem hi) s s' w (by rw [Nat.zero_add]; exact h1) (by rw [Nat.zero_add]; exact h2) hv
  · rw [List.getD_eq_getElem?_getD, List.getElem?_eq_none (by omega)]; trivial
/-- THE LAW -/
theorem wp_region_loc {id : Nat} (hm : P.follows .mixedOrders = true) {w : World} (V : Nat → (Nat → Value) → World → Prop) (S : World → Prop) (n L : Nat) (hok : rvOkX ops n L = true) (hn : a0.tmps.size = n) (hloc : LocY ops V)
    (hVx : ∀ i s w w', V i s w → Ext w w' → V i s w') (hSx : ∀ w w', S w → Ext w w' → S w') (hS : S w)
    (hop : OpsOkY P ops V S a0 L 0 ops.toList)
    (hlast : ∀ a w, a.tmps.size = a0.tmps.size → a.defers = a0.defers → S w → (∀ i, i < L → V i (slotOf ops a) w) → (∀ t, (ops.all fun o' => o'.dst != some t) = true → a.tmps.getD t undef = a0.tmps.getD t undef) → wpOp P ops Q L (fun a' w' => Q .normal a' w') a w) :
    (Code.region id ops true).wp P Q a0 w := by
  have hs := rvOkX_size hok
  have hx : Ext w { w with drawn := w.drawn + 1 } := ⟨rfl, rfl, rfl, Nat.le_refl _, fun _ _ => rfl⟩
  have hz : ∀ i, i < ops.size → (Array.replicate ops.size false).getD i true = false := fun i hi => by rw [Array.getD_eq_getD_getElem?, Array.getElem?_replicate, if_pos hi]; rfl
  have h0 : RvAtY ops V S a0 L (Array.replicate ops.size false) a0 { w with drawn := w.drawn + 1 } := by
    refine ⟨by simp, hz L (by omega), rfl, rfl, hSx _ _ hS hx, fun i o hi h => ?_, fun i hi h => ?_, fun _ _ => rfl⟩
    · rw [hz i (by omega)] at h; cases h
    · rw [hz i (by omega)] at h; cases h
  exact wp_region_any hm (rvY_any hloc hVx hSx hok hn hop hlast ops.size (Array.replicate ops.size false) a0 _ h0 (cntU_le _ _))
end
end Go.Proofs.Ytogjcfcfgnbmkaa
