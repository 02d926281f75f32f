/- A region that draws its order and holds calls: it is enough to say of each operation what its result is good for. -/
import Derived.Test.YtocdljmdmiphnaaDoorLib
import Derived.Orders
namespace Go.Proofs.YtocdljmdmiphnaaDoor
open Go.RowKit
set_option linter.unusedVariables false
set_option linter.unusedSimpArgs false

/-- w' is w with new blocks -/
def Ext (w w' : World) : Prop := Below w.heap.size w w'
theorem Ext.refl (w : World) : Ext w w := Below.refl _ _
theorem Ext.trans {a b c : World} (h : Ext a b) (h2 : Ext b c) : Ext a c := Below.trans h (h2.mono h.size)

def cntU : Nat → (Nat → Bool) → Nat
  | 0, _ => 0
  | n + 1, f => cntU n f + if f n then 0 else 1
theorem cntU_le (f : Nat → Bool) : ∀ n, cntU n f ≤ n
  | 0 => Nat.le_refl _
  | n + 1 => by have := cntU_le f n; simp only [cntU]; split <;> omega
theorem cntU_mono {f g : Nat → Bool} (h : ∀ i, f i = true → g i = true) : ∀ n, cntU n g ≤ cntU n f
  | 0 => Nat.le_refl _
  | n + 1 => by
    have := cntU_mono h n
    simp only [cntU]
    cases hf : f n with
    | false => split <;> simp <;> omega
    | true => rw [h n hf]; simp; exact this
theorem cntU_lt {f g : Nat → Bool} (h : ∀ i, f i = true → g i = true) {j : Nat} (hj : g j = true) (hf : f j = false) : ∀ n, j < n → cntU n g < cntU n f
  | n + 1, hn => by
    simp only [cntU]
    by_cases e : j = n
    · subst e
      have := cntU_mono h j
      rw [hj, hf]; simp; omega
    · have := cntU_lt h hj hf n (by omega)
      cases hfn : f n with
      | false => split <;> simp <;> omega
      | true => rw [h n hfn]; simp; exact this
theorem cntU_zero {f : Nat → Bool} : ∀ {n : Nat}, cntU n f = 0 → ∀ i, i < n → f i = true
  | n + 1, h, i, hi => by
    simp only [cntU] at h
    by_cases e : i = n
    · subst e; cases hf : f i with
      | true => rfl
      | false => rw [hf] at h; simp at h
    · exact cntU_zero (n := n) (by omega) i (by omega)

section
variable (P : Program) (ops : Array Oper) (V : Nat → Value → World → Prop) (S : World → Prop) (a0 : Act)

/-- the closed facts of a region: each operation has a slot of its own, below n, and hangs on earlier ones -/
def rvOk (n : Nat) : Bool :=
  (List.range ops.size).all fun i => match ops[i]? with
    | none => true
    | some o => (match o.dst with
      | none => false
      | some d => decide (d < n) && (List.range ops.size).all fun j => decide (i = j) || (match ops[j]? with | some o' => o'.dst != some d | none => true)) &&
      o.after.all fun e => !Region.binds .any e || decide (e.on < i)

/-- an operation, run: its result is as R says -/
def OpRes (a : Act) (o : Oper) (w : World) (R : Value → World → Prop) : Prop :=
  (∃ v w', (execOp a.eval o).run P w = .ok (.value v) w' ∧ R v w') ∨
  (∃ f args w', (execOp a.eval o).run P w = .ok (.enter f args) w' ∧ Calls P f args w' (fun e w'' => ∃ v, e = .returned v ∧ R v w''))

/-- the slot of operation j -/
def slotOf (a : Act) (j : Nat) : Value := match ops[j]? with | some o => (match o.dst with | some d => a.tmps.getD d undef | none => undef) | none => undef

/-- what is to be shown of operation i -/
def OpOk (i : Nat) (o : Oper) : Prop := ∀ a w, a.tmps.size = a0.tmps.size → S w →
  (∀ e ∈ o.after, Region.binds .any e = true → V e.on (slotOf ops a e.on) w) →
  (∀ t, (ops.all fun o' => o'.dst != some t) = true → a.tmps.getD t undef = a0.tmps.getD t undef) →
  (Region.wanted o (yielded ops a.tmps) = true → OpRes P a o w (fun v w' => V i v w' ∧ Ext w w')) ∧ (Region.wanted o (yielded ops a.tmps) = false → V i undef w)

structure RvAt (listed : Array Bool) (a : Act) (w : World) : Prop where
  ls : listed.size = ops.size
  size : a.tmps.size = a0.tmps.size
  df : a.defers = a0.defers
  s : S w
  done : ∀ i, i < ops.size → listed.getD i true = true → V i (slotOf ops a i) w
  base : ∀ t, (ops.all fun o' => o'.dst != some t) = true → a.tmps.getD t undef = a0.tmps.getD t undef
end

section
variable {P : Program} {ops : Array Oper} {V : Nat → Value → World → Prop} {S : World → Prop} {a0 : Act} {Q : Exit → Act → World → Prop}

theorem rvOk_at {n : Nat} (h : rvOk ops n = true) {i : Nat} {o : Oper} (ho : ops[i]? = some o) : ∃ d, o.dst = some d ∧ d < n ∧ (∀ j o', ops[j]? = some o' → i ≠ j → o'.dst ≠ some d) ∧ ∀ e ∈ o.after, Region.binds .any e = true → e.on < i := by
  have hi : i < ops.size := (Array.getElem?_eq_some_iff.1 ho).1
  unfold rvOk at h
  rw [List.all_eq_true] at h
  have h1 := h i (by simpa using hi)
  rw [ho] at h1
  simp only [Bool.and_eq_true] at h1
  obtain ⟨h2, h3⟩ := h1
  cases hd : o.dst with
  | none => rw [hd] at h2; cases h2
  | some d =>
    rw [hd] at h2
    simp only [Bool.and_eq_true, decide_eq_true_eq, List.all_eq_true] at h2
    refine ⟨d, rfl, h2.1, fun j o' hj hne => ?_, fun e he hb => ?_⟩
    · have hjs : j < ops.size := (Array.getElem?_eq_some_iff.1 hj).1
      have := h2.2 j (by simpa using hjs)
      rw [hj] at this
      simp only [Bool.or_eq_true, decide_eq_true_eq, bne_iff_ne] at this
      exact this.resolve_left hne
    · rw [Array.all_eq_true'] at h3
      have := h3 e he
      rw [hb] at this
      simpa using this

theorem ready_mem {md : Region.Mode} {listed : Array Bool} {i : Nat} : i ∈ Region.ready md ops listed ↔ i < ops.size ∧ listed.getD i true = false ∧ ∃ o, ops[i]? = some o ∧ ∀ e ∈ o.after, Region.binds md e = true → listed.getD e.on false = true := by
  unfold Region.ready
  rw [List.mem_filter, List.mem_range]
  constructor
  · rintro ⟨hi, h⟩
    simp only [Bool.and_eq_true, Bool.not_eq_true'] at h
    refine ⟨hi, h.1, ?_⟩
    cases ho : ops[i]? with
    | none => rw [ho] at h; simp at h
    | some o =>
      rw [ho] at h
      refine ⟨o, rfl, fun e he hb => ?_⟩
      have h2 := h.2
      simp only [Option.map_some, Option.getD_some, Array.all_eq_true', Bool.or_eq_true, Bool.not_eq_true'] at h2
      rcases h2 e he with h3 | h3
      · rw [hb] at h3; cases h3
      · exact h3
  · rintro ⟨hi, h1, o, ho, h2⟩
    refine ⟨hi, ?_⟩
    simp only [Bool.and_eq_true, Bool.not_eq_true']
    refine ⟨h1, ?_⟩
    rw [ho]
    simp only [Option.map_some, Option.getD_some, Array.all_eq_true', Bool.or_eq_true, Bool.not_eq_true']
    intro e he
    cases hb : Region.binds md e with
    | false => exact .inl rfl
    | true => exact .inr (h2 e he hb)

theorem all_done {n : Nat} (hok : rvOk ops n = true) {listed : Array Bool} (hl : listed.size = ops.size) (h : Region.ready .any ops listed = []) : ∀ i, i < ops.size → listed.getD i true = true := by
  intro i
  induction i using Nat.strongRecOn with
  | _ i ih =>
    intro hi
    cases hb : listed.getD i true with
    | true => rfl
    | false =>
      have ho : ops[i]? = some ops[i] := Array.getElem?_eq_getElem hi
      obtain ⟨d, hd, _, _, hdep⟩ := rvOk_at hok ho
      have : i ∈ Region.ready .any ops listed := ready_mem.2 ⟨hi, hb, _, ho, fun e he hbe => by
        have h1 := hdep e he hbe
        have h2 := ih e.on h1 (by omega)
        rw [Array.getD_eq_getD_getElem?, Array.getElem?_eq_getElem (by omega)] at h2 ⊢
        exact h2⟩
      rw [h] at this; cases this

theorem getD_set_self {listed : Array Bool} {i : Nat} (h : i < listed.size) : (listed.setIfInBounds i true).getD i true = true := by
  rw [Array.getD_eq_getD_getElem?, Array.getElem?_setIfInBounds_self]; simp [h]
theorem getD_set_ne {listed : Array Bool} {i j : Nat} (h : i ≠ j) : (listed.setIfInBounds i true).getD j true = listed.getD j true := by
  rw [Array.getD_eq_getD_getElem?, Array.getElem?_setIfInBounds_ne h, ← Array.getD_eq_getD_getElem?]

theorem rvAt_put (hVx : ∀ i v w w', V i v w → Ext w w' → V i v w') (hSx : ∀ w w', S w → Ext w w' → S w') {n : Nat} (hok : rvOk ops n = true) (hn : a0.tmps.size = n) {listed : Array Bool} {a : Act} {w w' : World} {i : Nat} {o : Oper} {v : Value}
    (h : RvAt ops V S a0 listed a w) (ho : ops[i]? = some o) (hv : V i v w') (hx : Ext w w') : RvAt ops V S a0 (listed.setIfInBounds i true) (a.put o.dst v) w' := by
  obtain ⟨d, hd, hdn, huniq, hdep⟩ := rvOk_at hok ho
  have hi : i < ops.size := (Array.getElem?_eq_some_iff.1 ho).1
  have hput : a.put o.dst v = { a with tmps := a.tmps.setIfInBounds d v } := by rw [hd]; rfl
  rw [hput]
  refine ⟨by simp [h.ls], by simp [h.size], h.df, hSx _ _ h.s hx, fun j hj hl => ?_, fun t ht => ?_⟩
  · by_cases e : i = j
    · subst e
      have : slotOf ops { a with tmps := a.tmps.setIfInBounds d v } i = v := by
        unfold slotOf
        rw [ho]; simp only [hd]
        rw [Array.getD_eq_getD_getElem?, Array.getElem?_setIfInBounds_self, if_pos (by rw [h.size, hn]; exact hdn)]; rfl
      rw [this]; exact hv
    · rw [getD_set_ne e] at hl
      have : slotOf ops { a with tmps := a.tmps.setIfInBounds d v } j = slotOf ops a j := by
        unfold slotOf
        cases hoj : ops[j]? with
        | none => rfl
        | some o' =>
          simp only
          cases hdj : o'.dst with
          | none => rfl
          | some d' =>
            simp only
            have hne : d ≠ d' := fun e2 => huniq j o' hoj e (by rw [hdj, e2])
            rw [Array.getD_eq_getD_getElem?, Array.getElem?_setIfInBounds_ne hne, ← Array.getD_eq_getD_getElem?]
      rw [this]
      exact hVx _ _ _ _ (h.done j hj hl) hx
  · have hne : d ≠ t := fun e => by
      rw [Array.all_eq_true'] at ht
      have := ht o (Array.mem_of_getElem? ho)
      rw [hd, e] at this; simp at this
    show (a.tmps.setIfInBounds d v).getD t undef = _
    rw [Array.getD_eq_getD_getElem?, Array.getElem?_setIfInBounds_ne hne, ← Array.getD_eq_getD_getElem?]
    exact h.base t ht

theorem rv_any (hVx : ∀ i v w w', V i v w → Ext w w' → V i v w') (hSx : ∀ w w', S w → Ext w w' → S w') {n : Nat} (hok : rvOk ops n = true) (hn : a0.tmps.size = n)
    (hop : ∀ i o, ops[i]? = some o → OpOk P ops V S a0 i o)
    (hfin : ∀ a w, a.tmps.size = a0.tmps.size → a.defers = a0.defers → S w → (∀ i, i < ops.size → V i (slotOf ops a i) w) → (∀ t, (ops.all fun o' => o'.dst != some t) = true → a.tmps.getD t undef = a0.tmps.getD t undef) → Q .normal a w) :
    ∀ (fuel : Nat) (listed : Array Bool) (a : Act) (w : World), RvAt ops V S a0 listed a w → cntU ops.size (fun i => listed.getD i true) ≤ fuel → wpAny P .any ops Q fuel listed a w := by
  have fin : ∀ listed a w, RvAt ops V S a0 listed a w → Region.ready .any ops listed = [] → Q .normal a w := fun listed a w h hr =>
    hfin a w h.size h.df h.s (fun i hi => h.done i hi (all_done hok h.ls hr i hi)) h.base
  intro fuel
  induction fuel with
  | zero =>
    intro listed a w h hc
    have hall := cntU_zero (f := fun i => listed.getD i true) (Nat.le_zero.1 hc)
    have hr : Region.ready .any ops listed = [] := by
      rw [List.eq_nil_iff_forall_not_mem]
      intro i hi
      obtain ⟨h1, h2, _⟩ := ready_mem.1 hi
      rw [hall i h1] at h2; cases h2
    exact ⟨hr, fin _ _ _ h hr⟩
  | succ fuel ih =>
    intro listed a w h hc
    refine ⟨fin _ _ _ h, fun i hi => ?_⟩
    obtain ⟨h1, h2, o, ho, h3⟩ := ready_mem.1 hi
    have hlt : cntU ops.size (fun j => (listed.setIfInBounds i true).getD j true) ≤ fuel := by
      have := cntU_lt (f := fun j => listed.getD j true) (g := fun j => (listed.setIfInBounds i true).getD j true) (fun j hj => by
        by_cases e : i = j
        · subst e; exact getD_set_self (by rw [h.ls]; exact h1)
        · show (listed.setIfInBounds i true).getD j true = true
          rw [getD_set_ne e]; exact hj) (j := i) (getD_set_self (by rw [h.ls]; exact h1)) h2 ops.size h1
      omega
    have hO := hop i o ho a w h.size h.s (fun e he hb => by
      have hb2 := h3 e he hb
      obtain ⟨d, hd, _, _, hdep⟩ := rvOk_at hok ho
      have hlt2 := hdep e he hb
      refine h.done e.on (by omega) ?_
      rw [Array.getD_eq_getD_getElem?, Array.getElem?_eq_getElem (by rw [h.ls]; omega)] at hb2 ⊢
      exact hb2) h.base
    unfold wpOp
    rw [ho]
    simp only
    cases hw : Region.wanted o (yielded ops a.tmps) with
    | false =>
      rw [if_neg (by simp)]
      exact ih _ _ _ (rvAt_put hVx hSx hok hn h ho (hO.2 hw) (Ext.refl _)) hlt
    | true =>
      rw [if_pos rfl]
      refine .inl ?_
      rcases hO.1 hw with ⟨v, w', hr, hv, hx⟩ | ⟨f, args, w', hr, hC⟩
      · unfold Oper.wp
        rw [hr]
        exact ih _ _ _ (rvAt_put hVx hSx hok hn h ho hv hx) hlt
      · unfold Oper.wp
        rw [hr]
        refine hC.mono ?_
        rintro e w'' ⟨v, rfl, hv, hx⟩
        exact ih _ _ _ (rvAt_put hVx hSx hok hn h ho hv hx) hlt

def OpsOk (P : Program) (ops : Array Oper) (V : Nat → Value → World → Prop) (S : World → Prop) (a0 : Act) : Nat → List Oper → Prop
  | _, [] => True
  | i, o :: l => OpOk P ops V S a0 i o ∧ OpsOk P ops V S a0 (i + 1) l
theorem opsOk_at : ∀ (l : List Oper) (k : Nat), OpsOk P ops V S a0 k l → ∀ i o, l[i]? = some o → OpOk P ops V S a0 (k + i) o := by
  intro l
  induction l with
  | nil => intro k _ i o ho; simp at ho
  | cons x l ih =>
    intro k h i o ho
    cases i with
    | zero =>
      have : x = o := by simpa using ho
      subst this
      exact h.1
    | succ i =>
      have h2 := ih (k + 1) h.2 i o (by simpa using ho)
      have e : k + (i + 1) = k + 1 + i := by omega
      rw [e]; exact h2
theorem opsOk_all (h : OpsOk P ops V S a0 0 ops.toList) : ∀ i o, ops[i]? = some o → OpOk P ops V S a0 i o := fun i o ho => by
  have := opsOk_at _ _ h i o (by rw [Array.getElem?_toList]; exact ho)
  rwa [Nat.zero_add] at this
/-- the predicates as a list -/
def Vs (l : List (Value → World → Prop)) (i : Nat) (v : Value) (w : World) : Prop := (l.getD i fun _ _ => True) v w
def Stays (p : Value → World → Prop) : Prop := ∀ v w w', p v w → Ext w w' → p v w'
theorem vs_stays {l : List (Value → World → Prop)} (h : ∀ p ∈ l, Stays p) : ∀ i v w w', Vs l i v w → Ext w w' → Vs l i v w' := by
  intro i v w w' hv hx
  unfold Vs at *
  by_cases hi : i < l.length
  · rw [List.getD_eq_getElem?_getD, List.getElem?_eq_getElem hi] at hv ⊢
    exact h _ (List.getElem_mem hi) v w w' hv hx
  · rw [List.getD_eq_getElem?_getD, List.getElem?_eq_none (by omega)]; trivial
theorem stays_const (c : Value) : Stays (fun v _ => v = c) := fun _ _ _ h _ => h
theorem stays_pure (p : Value → Prop) : Stays (fun v _ => p v) := fun _ _ _ h _ => h
theorem yield_of {ops : Array Oper} {A : Act} {j d : Nat} {b : Bool} (hd : (ops[j]?).bind (·.dst) = some d) (h : A.tmps[d]?.getD undef = .bool b) : yielded ops A.tmps j = some b := by
  unfold yielded
  rw [hd]
  simp only [Option.bind_some]
  cases hx : A.tmps[d]? with
  | none => rw [hx] at h; cases h
  | some v => rw [hx] at h; simp only [Option.getD_some] at h; subst h; rfl
theorem opOk_skip {o : Oper} {ops : Array Oper} {A : Act} {j d : Nat} {want b : Bool} {X Y : Prop} (hg : o.guard = some (j, want)) (hd : (ops[j]?).bind (·.dst) = some d) (h : A.tmps[d]?.getD undef = .bool b) (hne : (b == want) = false) (hY : Y) :
    (Region.wanted o (yielded ops A.tmps) = true → X) ∧ (Region.wanted o (yielded ops A.tmps) = false → Y) := by
  have : Region.wanted o (yielded ops A.tmps) = false := by
    unfold Region.wanted; rw [hg]; simp only [yield_of hd h]
    cases b <;> cases want <;> first | rfl | cases hne
  rw [this]; exact ⟨fun h => (by cases h), fun _ => hY⟩
theorem opOk_runG {o : Oper} {ops : Array Oper} {A : Act} {j d : Nat} {want b : Bool} {X Y : Prop} (hg : o.guard = some (j, want)) (hd : (ops[j]?).bind (·.dst) = some d) (h : A.tmps[d]?.getD undef = .bool b) (hne : (b == want) = true) (hX : X) :
    (Region.wanted o (yielded ops A.tmps) = true → X) ∧ (Region.wanted o (yielded ops A.tmps) = false → Y) := by
  have : Region.wanted o (yielded ops A.tmps) = true := by
    unfold Region.wanted; rw [hg]; simp only [yield_of hd h]
    cases b <;> cases want <;> first | rfl | cases hne
  rw [this]; exact ⟨fun _ => hX, fun h => (by cases h)⟩
theorem opOk_run {o : Oper} {ops : Array Oper} {A : Act} {X Y : Prop} (hg : o.guard = none) (hX : X) :
    (Region.wanted o (yielded ops A.tmps) = true → X) ∧ (Region.wanted o (yielded ops A.tmps) = false → Y) := by
  have : Region.wanted o (yielded ops A.tmps) = true := by unfold Region.wanted; rw [hg]
  rw [this]; exact ⟨fun _ => hX, fun h => (by cases h)⟩
/-- the frame, slot by slot -/
theorem act_form {A : Act} {n : Nat} (hsz : A.tmps.size = n) (hdf : A.defers = []) : A = ⟨((List.range n).map fun i => A.tmps.getD i undef).toArray, []⟩ := by
  obtain ⟨⟨l⟩, d⟩ := A
  simp only at hdf
  subst hdf
  congr 1
  apply congrArg Array.mk
  have hl : l.length = n := hsz
  apply List.ext_getElem
  · simp [hl]
  · intro i h1 h2
    simp only [List.getElem_map, List.getElem_range]
    show l[i] = (Array.mk l).getD i undef
    rw [Array.getD_eq_getD_getElem?]
    simp [h1]
/-- THE LAW -/
theorem wp_region_rv {id : Nat} (hm : P.follows .mixedOrders = true) {w : World} (V : Nat → Value → World → Prop) (S : World → Prop) (n : Nat) (hok : rvOk ops n = true) (hn : a0.tmps.size = n)
    (hVx : ∀ i v w w', V i v w → Ext w w' → V i v w') (hSx : ∀ w w', S w → Ext w w' → S w') (hS : S w)
    (hop : ∀ i o, ops[i]? = some o → OpOk P ops V S a0 i o)
    (hfin : ∀ a w, a.tmps.size = a0.tmps.size → a.defers = a0.defers → S w → (∀ i, i < ops.size → V i (slotOf ops a i) w) → (∀ t, (ops.all fun o' => o'.dst != some t) = true → a.tmps.getD t undef = a0.tmps.getD t undef) → Q .normal a w) :
    (Code.region id ops true).wp P Q a0 w := by
  have hx : Ext w { w with drawn := w.drawn + 1 } := ⟨rfl, rfl, rfl, Nat.le_refl _, fun _ _ => rfl⟩
  have h0 : RvAt ops V S a0 (Array.replicate ops.size false) a0 { w with drawn := w.drawn + 1 } := by
    refine ⟨by simp, rfl, rfl, hSx _ _ hS hx, fun i hi h => ?_, fun _ _ => rfl⟩
    rw [Array.getD_eq_getD_getElem?, Array.getElem?_replicate, if_pos hi] at h
    cases h
  exact wp_region_any hm (rv_any hVx hSx hok hn hop hfin ops.size (Array.replicate ops.size false) a0 _ h0 (cntU_le _ _))
end
end Go.Proofs.YtocdljmdmiphnaaDoor
