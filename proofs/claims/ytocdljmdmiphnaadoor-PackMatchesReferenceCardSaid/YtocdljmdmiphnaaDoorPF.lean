
/- A region that draws its order and in which one operation, a call, panics. -/
import Derived.Test.YtocdljmdmiphnaaDoorRegionZ
import Derived.Test.YtocdljmdmiphnaaDoorPE
namespace Go.Proofs.YtocdljmdmiphnaaDoor
open Go.RowKit
set_option linter.unusedVariables false
set_option linter.unusedSimpArgs false

/-- pre: the operations that may run ahead of the operation p; all others hang on one that is not among them -/
def stopOk (ops : Array Oper) (pre : List Nat) (p n : Nat) : Bool :=
  decide (p < ops.size) && !pre.contains p && (List.range ops.size).all fun i => match ops[i]? with
    | none => false
    | some o =>
      if pre.contains i then (match o.dst with
        | none => false
        | some d => decide (d < n) && pre.all fun j => decide (i = j) || (match ops[j]? with | some o' => o'.dst != some d | none => true)) && o.after.all fun e => !Region.binds .any e || (pre.contains e.on && decide (e.on < i))
      else if i = p then o.after.all fun e => !Region.binds .any e || (pre.contains e.on && decide (e.on < i))
      else o.after.any fun e => Region.binds .any e && !pre.contains e.on
section
variable {P : Program} {ops : Array Oper} {pre : List Nat} {p n : Nat} {V : Nat → Value → World → Prop} {S : World → Prop} {a0 : Act} {Q : Exit → Act → World → Prop}
structure StAt (ops : Array Oper) (pre : List Nat) (V : Nat → Value → World → Prop) (S : World → Prop) (a0 : Act) (listed : Array Bool) (a : Act) (w : World) : Prop where
  ls : listed.size = ops.size
  size : a.tmps.size = a0.tmps.size
  df : a.defers = a0.defers
  s : S w
  pr : ∀ i, i < ops.size → listed.getD i true = true → i ∈ pre
  done : ∀ i, i < ops.size → listed.getD i true = true → V i (slotOf ops a i) w
  base : ∀ t, (ops.all fun o' => o'.dst != some t) = true → a.tmps.getD t undef = a0.tmps.getD t undef
theorem stop_pre (h : stopOk ops pre p n = true) {i : Nat} {o : Oper} (ho : ops[i]? = some o) (hi : i ∈ pre) : ∃ d, o.dst = some d ∧ d < n ∧ (∀ j ∈ pre, ∀ o', ops[j]? = some o' → i ≠ j → o'.dst ≠ some d) ∧ ∀ e ∈ o.after, Region.binds .any e = true → e.on ∈ pre ∧ e.on < i := by
  have hsz : i < ops.size := (Array.getElem?_eq_some_iff.1 ho).1
  unfold stopOk at h
  simp only [Bool.and_eq_true] at h
  have h1 := (List.all_eq_true.1 h.2) i (by simpa using hsz)
  rw [ho] at h1
  simp only at h1
  rw [if_pos (by simpa using hi)] at h1
  simp only [Bool.and_eq_true] at h1
  obtain ⟨h2, h3⟩ := h1
  cases hd : o.dst with
  | none => rw [hd] at h2; cases h2
  | some d =>
    rw [hd] at h2
    simp only [Bool.and_eq_true, decide_eq_true_eq, List.all_eq_true] at h2
    refine ⟨d, rfl, h2.1, fun j hj o' hoj hne => ?_, fun e he hb => ?_⟩
    · have := h2.2 j hj
      rw [hoj] at this
      simp only [Bool.or_eq_true, decide_eq_true_eq, bne_iff_ne] at this
      exact this.resolve_left hne
    · rw [Array.all_eq_true'] at h3
      have := h3 e he
      rw [hb] at this
      simpa using this
theorem stop_p (h : stopOk ops pre p n = true) : p < ops.size ∧ p ∉ pre ∧ ∀ o, ops[p]? = some o → ∀ e ∈ o.after, Region.binds .any e = true → e.on ∈ pre ∧ e.on < p := by
  unfold stopOk at h
  simp only [Bool.and_eq_true] at h
  obtain ⟨⟨h1, h2⟩, h3⟩ := h
  have h1 : p < ops.size := by simpa using h1
  have h2 : p ∉ pre := by simpa using h2
  refine ⟨h1, h2, fun o ho e he hb => ?_⟩
  have h4 := (List.all_eq_true.1 h3) p (by simpa using h1)
  rw [ho] at h4
  simp only at h4
  rw [if_neg (by simpa using h2)] at h4
  simp only [if_true] at h4
  rw [Array.all_eq_true'] at h4
  have := h4 e he
  rw [hb] at this
  simpa using this
theorem stop_other (h : stopOk ops pre p n = true) {i : Nat} {o : Oper} (ho : ops[i]? = some o) (hi : i ∉ pre) (hp : i ≠ p) : ∃ e ∈ o.after, Region.binds .any e = true ∧ e.on ∉ pre := by
  have hsz : i < ops.size := (Array.getElem?_eq_some_iff.1 ho).1
  unfold stopOk at h
  simp only [Bool.and_eq_true] at h
  have h1 := (List.all_eq_true.1 h.2) i (by simpa using hsz)
  rw [ho] at h1
  simp only at h1
  rw [if_neg (by simpa using hi), if_neg hp] at h1
  rw [Array.any_eq_true'] at h1
  obtain ⟨e, he, h2⟩ := h1
  simp only [Bool.and_eq_true, Bool.not_eq_true'] at h2
  exact ⟨e, he, h2.1, by simpa using h2.2⟩
/-- something is ready -/
theorem stop_ready (hok : stopOk ops pre p n = true) {listed : Array Bool} (hls : listed.size = ops.size) (hpr : ∀ i, i < ops.size → listed.getD i true = true → i ∈ pre) : Region.ready .any ops listed ≠ [] := by
  intro h
  obtain ⟨hp1, hp2, hp3⟩ := stop_p hok
  have key : ∀ i, i ∈ pre → i < ops.size → listed.getD i true = true := by
    intro i
    induction i using Nat.strongRecOn with
    | _ i ih =>
      intro hi hsz
      cases hb : listed.getD i true with
      | true => rfl
      | false =>
        have ho : ops[i]? = some ops[i] := Array.getElem?_eq_getElem hsz
        obtain ⟨d, hd, _, _, hdep⟩ := stop_pre hok ho hi
        have : i ∈ Region.ready .any ops listed := ready_mem.2 ⟨hsz, hb, _, ho, fun e he hbe => by
          obtain ⟨h1, h2⟩ := hdep e he hbe
          have h3 := ih e.on h2 h1 (by omega)
          rw [Array.getD_eq_getD_getElem?, Array.getElem?_eq_getElem (by omega)] at h3 ⊢
          exact h3⟩
        rw [h] at this; cases this
  have hop : ops[p]? = some ops[p] := Array.getElem?_eq_getElem hp1
  have hbp : listed.getD p true = false := by
    cases hb : listed.getD p true with
    | false => rfl
    | true => exact absurd (hpr p hp1 hb) hp2
  have : p ∈ Region.ready .any ops listed := ready_mem.2 ⟨hp1, hbp, _, hop, fun e he hbe => by
    obtain ⟨h1, h2⟩ := hp3 _ hop e he hbe
    have h3 := key e.on h1 (by omega)
    rw [Array.getD_eq_getD_getElem?, Array.getElem?_eq_getElem (by omega)] at h3 ⊢
    exact h3⟩
  rw [h] at this; cases this
theorem stop_any (hVx : ∀ i v w w', V i v w → Ext w w' → V i v w') (hSx : ∀ w w', S w → Ext w w' → S w') (hok : stopOk ops pre p n = true) (hn : a0.tmps.size = n)
    (hop : ∀ i o, i ∈ pre → ops[i]? = some o → OpOk P ops V S a0 i o)
    (hpan : ∀ o a w, ops[p]? = some o → a.tmps.size = a0.tmps.size → a.defers = a0.defers → S w → (∀ e ∈ o.after, Region.binds .any e = true → V e.on (slotOf ops a e.on) w) → (∀ t, (ops.all fun o' => o'.dst != some t) = true → a.tmps.getD t undef = a0.tmps.getD t undef) →
      Region.wanted o (yielded ops a.tmps) = true ∧ ∃ f args w', (execOp a.eval o).run P w = .ok (.enter f args) w' ∧ Calls P f args w' (fun e w'' => ∃ ch, e = .panicked ch ∧ Q (.panic ch) a w'')) :
    ∀ (fuel : Nat) (listed : Array Bool) (a : Act) (w : World), StAt ops pre V S a0 listed a w → cntU ops.size (fun i => listed.getD i true) ≤ fuel → wpAny P .any ops Q fuel listed a w := by
  intro fuel
  induction fuel with
  | zero =>
    intro listed a w h hc
    obtain ⟨hp1, hp2, _⟩ := stop_p hok
    exact absurd (h.pr p hp1 (cntU_zero (f := fun i => listed.getD i true) (Nat.le_zero.1 hc) p hp1)) hp2
  | succ fuel ih =>
    intro listed a w h hc
    refine ⟨fun hr => absurd hr (stop_ready hok h.ls h.pr), fun i hi => ?_⟩
    obtain ⟨h1, h2, o, ho, h3⟩ := ready_mem.1 hi
    have hdn : ∀ e ∈ o.after, Region.binds .any e = true → e.on < ops.size → listed.getD e.on true = true := fun e he hb hlt => by
      have hb2 := h3 e he hb
      rw [Array.getD_eq_getD_getElem?, Array.getElem?_eq_getElem (by rw [h.ls]; omega)] at hb2 ⊢
      exact hb2
    by_cases hip : i ∈ pre
    · obtain ⟨d, hd, hdn2, huniq, hdep⟩ := stop_pre hok ho hip
      have hlt : cntU ops.size (fun j => (listed.setIfInBounds i true).getD j true) ≤ fuel := by
        have := cntU_lt (f := fun j => listed.getD j true) (g := fun j => (listed.setIfInBounds i true).getD j true) (fun j hj => by
          by_cases e : i = j
          · subst e; exact getD_set_self (by rw [h.ls]; exact h1)
          · show (listed.setIfInBounds i true).getD j true = true
            rw [getD_set_ne e]; exact hj) (j := i) (getD_set_self (by rw [h.ls]; exact h1)) h2 ops.size h1
        omega
      have hput : ∀ (v : Value) (w' : World), V i v w' → Ext w w' → StAt ops pre V S a0 (listed.setIfInBounds i true) (a.put o.dst v) w' := fun v w' hv hx => by
        have hpt : a.put o.dst v = { a with tmps := a.tmps.setIfInBounds d v } := by rw [hd]; rfl
        rw [hpt]
        refine ⟨by simp [h.ls], by simp [h.size], h.df, hSx _ _ h.s hx, fun j hj hl => ?_, fun j hj hl => ?_, fun t ht => ?_⟩
        · by_cases e : i = j
          · exact e ▸ hip
          · rw [getD_set_ne e] at hl; exact h.pr j hj hl
        · by_cases e : i = j
          · subst e
            have : slotOf ops { a with tmps := a.tmps.setIfInBounds d v } i = v := by
              unfold slotOf
              rw [ho]; simp only [hd]
              rw [Array.getD_eq_getD_getElem?, Array.getElem?_setIfInBounds_self, if_pos (by rw [h.size, hn]; exact hdn2)]; rfl
            rw [this]; exact hv
          · rw [getD_set_ne e] at hl
            have hjp := h.pr j hj hl
            have : slotOf ops { a with tmps := a.tmps.setIfInBounds d v } j = slotOf ops a j := by
              unfold slotOf
              cases hoj : ops[j]? with
              | none => rfl
              | some o' =>
                simp only
                cases hdj : o'.dst with
                | none => rfl
                | some d' =>
                  simp only
                  have hne : d ≠ d' := fun e2 => huniq j hjp o' hoj e (by rw [hdj, e2])
                  rw [Array.getD_eq_getD_getElem?, Array.getElem?_setIfInBounds_ne hne, ← Array.getD_eq_getD_getElem?]
            rw [this]
            exact hVx _ _ _ _ (h.done j hj hl) hx
        · have hne : d ≠ t := fun e => by
            rw [Array.all_eq_true'] at ht
            have := ht o (Array.mem_of_getElem? ho)
            rw [hd, e] at this; simp at this
          show (a.tmps.setIfInBounds d v).getD t undef = _
          rw [Array.getD_eq_getD_getElem?, Array.getElem?_setIfInBounds_ne hne, ← Array.getD_eq_getD_getElem?]
          exact h.base t ht
      have hO := hop i o hip ho a w h.size h.s (fun e he hb => by
        obtain ⟨_, hlt2⟩ := hdep e he hb
        exact h.done e.on (by omega) (hdn e he hb (by omega))) h.base
      unfold wpOp
      rw [ho]
      simp only
      cases hw : Region.wanted o (yielded ops a.tmps) with
      | false =>
        rw [if_neg (by simp)]
        exact ih _ _ _ (hput _ _ (hO.2 hw) (Ext.refl _)) hlt
      | true =>
        rw [if_pos rfl]
        refine .inl ?_
        rcases hO.1 hw with ⟨v, w', hr, hv, hx⟩ | ⟨f, args, w', hr, hC⟩
        · unfold Oper.wp
          rw [hr]
          exact ih _ _ _ (hput _ _ hv hx) hlt
        · unfold Oper.wp
          rw [hr]
          refine hC.mono ?_
          rintro e w'' ⟨v, rfl, hv, hx⟩
          exact ih _ _ _ (hput _ _ hv hx) hlt
    · by_cases hpi : i = p
      · subst hpi
        obtain ⟨hp1, hp2, hp3⟩ := stop_p hok
        obtain ⟨hw, f, args, w', hr, hC⟩ := hpan o a w ho h.size h.df h.s (fun e he hb => by
          obtain ⟨_, hlt2⟩ := hp3 _ ho e he hb
          exact h.done e.on (by omega) (hdn e he hb (by omega))) h.base
        unfold wpOp
        rw [ho]
        simp only
        rw [if_pos hw]
        refine .inl ?_
        unfold Oper.wp
        rw [hr]
        refine hC.mono ?_
        rintro e w'' ⟨ch, rfl, hq⟩
        exact hq
      · obtain ⟨e, he, hb, hne⟩ := stop_other hok ho hip hpi
        have hb2 := h3 e he hb
        refine absurd ?_ hne
        have hlt : e.on < listed.size := by
          rcases Nat.lt_or_ge e.on listed.size with h5 | h5
          · exact h5
          · rw [Array.getD_eq_getD_getElem?, Array.getElem?_eq_none h5] at hb2; cases hb2
        refine h.pr e.on (by rw [← h.ls]; exact hlt) ?_
        rw [Array.getD_eq_getD_getElem?, Array.getElem?_eq_getElem hlt] at hb2 ⊢
        exact hb2
/-- THE LAW -/
theorem wp_region_stop {id : Nat} (hm : P.follows .mixedOrders = true) {w : World} (V : Nat → Value → World → Prop) (S : World → Prop) (pre : List Nat) (p n : Nat) (hok : stopOk ops pre p n = true) (hn : a0.tmps.size = n)
    (hVx : ∀ i v w w', V i v w → Ext w w' → V i v w') (hSx : ∀ w w', S w → Ext w w' → S w') (hS : S w)
    (hop : ∀ i o, i ∈ pre → ops[i]? = some o → OpOk P ops V S a0 i o)
    (hpan : ∀ o a w, ops[p]? = some o → a.tmps.size = a0.tmps.size → a.defers = a0.defers → S w → (∀ e ∈ o.after, Region.binds .any e = true → V e.on (slotOf ops a e.on) w) → (∀ t, (ops.all fun o' => o'.dst != some t) = true → a.tmps.getD t undef = a0.tmps.getD t undef) →
      Region.wanted o (yielded ops a.tmps) = true ∧ ∃ f args w', (execOp a.eval o).run P w = .ok (.enter f args) w' ∧ Calls P f args w' (fun e w'' => ∃ ch, e = .panicked ch ∧ Q (.panic ch) a w'')) :
    (Code.region id ops true).wp P Q a0 w := by
  have hx : Ext w { w with drawn := w.drawn + 1 } := ⟨rfl, rfl, rfl, Nat.le_refl _, fun _ _ => rfl⟩
  have hrep : ∀ i, i < ops.size → (Array.replicate ops.size false).getD i true = true → False := fun i hi h => by
    rw [Array.getD_eq_getD_getElem?, Array.getElem?_replicate, if_pos hi] at h
    cases h
  have h0 : StAt ops pre V S a0 (Array.replicate ops.size false) a0 { w with drawn := w.drawn + 1 } :=
    ⟨by simp, rfl, rfl, hSx _ _ hS hx, fun i hi h => (hrep i hi h).elim, fun i hi h => (hrep i hi h).elim, fun _ _ => rfl⟩
  exact wp_region_any hm (stop_any hVx hSx hok hn hop hpan ops.size (Array.replicate ops.size false) a0 _ h0 (cntU_le _ _))
end
end Go.Proofs.YtocdljmdmiphnaaDoor
/- Pack: read. -/
namespace Go.Proofs.YtocdljmdmiphnaaDoor
open Go.RowKit Go.WideShapes
set_option linter.unusedVariables false
set_option linter.unusedSimpArgs false

def withC (D : List Nd) (o : Option (List Int × Wd)) : Option (List Nd × List Int) := match o with
  | none => none
  | some (c, _) => some (D, c)
theorem RS.dawg {wW w : World} {B gR : Nat} {bs : Wd} {vn : Value} {N : List NV} {D : List Nd} (h : RS wW B gR bs vn N D w) (hl : RdOk D) : ∃ a c, vn = .slice a D.length c ∧ D.length ≤ c ∧ DawgS w a D := by
  rcases h.own.blk with ⟨rfl, h0⟩ | ⟨g, c, rfl, h1, h2, h3⟩
  · have : D = [] := List.eq_nil_of_length_eq_zero (by rw [← h.len, h0]; rfl)
    subst this
    exact ⟨none, 0, rfl, Nat.le_refl _, DawgS.nil _ _⟩
  · have hn := h.len
    refine ⟨some ⟨g, 0, none⟩, c, by rw [hn], by omega, fun k hk => ?_⟩
    have hkN : k < N.length := by omega
    obtain ⟨hf, hr⟩ := h.arcs k hkN hk
    have c0 : w.cell? ⟨g, k * 2, none⟩ = some (.bool N[k].fin) := h.own.cell rowNode_ok (i := k) (j := 0) hkN (by decide)
    have c1 : w.cell? ⟨g, k * 2 + 1, none⟩ = some (.slice N[k].a N[k].n N[k].c) := h.own.cell rowNode_ok (i := k) (j := 1) hkN (by decide)
    obtain ⟨hA, hl2, _⟩ := hr.arcs
    have hk1 := (hl _ (List.getElem_mem hk)).1
    exact ⟨g, 0, rfl, h2, by rw [Nat.zero_add, c0, hf], N[k].a, N[k].c, by rw [Nat.zero_add, c1, hl2], by omega, hA⟩
/-- other blocks than the reader's change -/
theorem RS.keep {wW w w1 : World} {B gR : Nat} {bs : Wd} {vn : Value} {N : List NV} {D : List Nd} (h : RS wW B gR bs vn N D w)
    (hk : ∀ (q : Nat) (cs : Array Value) (t : TypeId), w.heap[q]? = some (Obj.cells cs t (0, 0)) → (t = 113 ∨ t = 53 ∨ t = 56) → w1.heap[q]? = w.heap[q]?) (hb : Below B w w1) : RS wW B gR bs vn N D w1 := by
  obtain ⟨ar, cr, hrep, h2⟩ := h.rr
  refine ⟨⟨ar, cr, (hk _ _ _ hrep (.inl rfl)).trans hrep, h2⟩, h.own.keep fun q hq => ?_, h.len, fun k k1 k2 => ⟨(h.arcs k k1 k2).1, (h.arcs k k1 k2).2.keep fun q hq => ?_⟩, h.bl.trans hb, h.hg⟩
  · obtain ⟨cs, hc⟩ := h.own.obj hq
    exact hk _ _ _ hc (.inr (.inl rfl))
  · obtain ⟨cs, hc⟩ := (h.arcs k k1 k2).2.obj hq
    exact hk _ _ _ hc (.inr (.inr rfl))
/-- the three cells of the results -/
structure C3 (s : Nat) (vc : Value) (w : World) : Prop where
  c1 : w.heap[s]? = some (.cells #[.slice none 0 0] 29 (0, 0))
  c2 : w.heap[s + 1]? = some (.cells #[vc] 31 (0, 0))
  c3 : w.heap[s + 2]? = some (.cells #[.bool false] 4 (0, 0))
theorem C3.keep {s : Nat} {vc : Value} {w w1 : World} (h : C3 s vc w) (hk : ∀ q, s ≤ q → q < s + 3 → w1.heap[q]? = w.heap[q]?) : C3 s vc w1 :=
  ⟨(hk s (by omega) (by omega)).trans h.c1, (hk (s + 1) (by omega) (by omega)).trans h.c2, (hk (s + 2) (by omega) (by omega)).trans h.c3⟩
def RdP (B : Nat) (o : Option (List Nd × List Int)) (e : Ending) (w' : World) : Prop := match o with
  | none => e = .returned (.tuple #[.slice none 0 0, .slice none 0 0, .bool false])
  | some (D, c) => ∃ aD cD aC cC, e = .returned (.tuple #[.slice aD D.length cD, .slice aC c.length cC, .bool true]) ∧ D.length ≤ cD ∧ c.length ≤ cC ∧ DawgS w' aD D ∧ OwnG rowInt w' B (.slice aC c.length cC) c ∧ CsOk D
theorem RdP.none {B : Nat} {o : Option (List Nd × List Int)} {e : Ending} {w' : World} (ho : o = Option.none) (he : e = .returned (.tuple #[.slice Option.none 0 0, .slice Option.none 0 0, .bool false])) : RdP B o e w' := by subst ho; exact he
def theDefer (s : Nat) : List Deferred := [{ target := Target.fn (Fn.func 59) #[.pointer (some ⟨s, 0, none⟩), .pointer (some ⟨s + 1, 0, none⟩), .pointer (some ⟨s + 1 + 1, 0, none⟩)], args := #[] }]
theorem C3.cells {s : Nat} {vc : Value} {w : World} (h : C3 s vc w) : w.cell? ⟨s, 0, none⟩ = some (.slice none 0 0) ∧ w.cell? ⟨s + 1, 0, none⟩ = some vc ∧ w.cell? ⟨s + 1 + 1, 0, none⟩ = some (.bool false) ∧ w.frozen? ⟨s, 0, none⟩ = false ∧ w.frozen? ⟨s + 1, 0, none⟩ = false ∧ w.frozen? ⟨s + 1 + 1, 0, none⟩ = false :=
  ⟨cells1 h.c1, cells1 h.c2, cells1 h.c3, by simp [World.frozen?, h.c1], by simp [World.frozen?, h.c2], by simp [World.frozen?, h.c3]⟩
theorem nilW_cells {s : Nat} {vc : Value} {w : World} (h : C3 s vc w) : (nilW s w).cell? ⟨s, 0, none⟩ = some (.slice none 0 0) ∧ (nilW s w).cell? ⟨s + 1, 0, none⟩ = some (.slice none 0 0) ∧ (nilW s w).cell? ⟨s + 1 + 1, 0, none⟩ = some (.bool false) := by
  obtain ⟨c1, c2, c3, f1, f2, f3⟩ := h.cells
  unfold nilW
  refine ⟨?_, ?_, ?_⟩ <;> simp [go_sem, c1, c2, c3, f1, f2, f3]
theorem nilW_below (s : Nat) (w : World) (B : Nat) (h : B ≤ s) : Below B w (nilW s w) :=
  ((((Below.refl B w).setCell (p := ⟨s, 0, none⟩) h _).setCell (p := ⟨s + 1, 0, none⟩) (by show B ≤ s + 1; omega) _).setCell (p := ⟨s + 2, 0, none⟩) (by show B ≤ s + 2; omega) _)
theorem door_panicked {s : Nat} {vc pv : Value} {u : TypeId} {w : World} {tmps : Array Value} {R : Ending → World → Prop} (h : C3 s vc w)
    (t2 : tmps.getD 2 undef = .pointer (some ⟨s, 0, none⟩)) (t3 : tmps.getD 3 undef = .pointer (some ⟨s + 1, 0, none⟩)) (t4 : tmps.getD 4 undef = .pointer (some ⟨s + 1 + 1, 0, none⟩))
    (hR : R (.returned (.tuple #[.slice none 0 0, .slice none 0 0, .bool false])) (nilW s w)) :
    bodyPostD Tryd.prog Tryd.f46 R (Exit.panic [{ v := .iface u pv, recovered := false }]) { tmps := tmps, defers := theDefer s } w := by
  obtain ⟨n1, n2, n3⟩ := nilW_cells h
  show Leaves _ _ _ _ (theDefer s) _ _
  unfold theDefer
  refine leaves_cons (f := 59) (args := #[.pointer (some ⟨s, 0, none⟩), .pointer (some ⟨s + 1, 0, none⟩), .pointer (some ⟨s + 1 + 1, 0, none⟩)]) (by simp) (by simp [go_sem]) ?_
  refine (catch_panicking s _ _ _ u pv [] w h.c1 h.c2 h.c3).mono ?_
  rintro e u' w'' ⟨rfl, rfl, rfl⟩
  rw [Array.getD_eq_getD_getElem?] at t2 t3 t4
  simp [Leaves, settle, results, Tryd.results46, go_sem, t2, t3, t4, n1, n2, n3]
  exact hR
theorem door_returned {s : Nat} {v1 v2 v3 : Value} {w : World} {tmps : Array Value} {R : Ending → World → Prop} (h1 : w.cell? ⟨s, 0, none⟩ = some v1) (h2 : w.cell? ⟨s + 1, 0, none⟩ = some v2) (h3 : w.cell? ⟨s + 1 + 1, 0, none⟩ = some v3)
    (t2 : tmps.getD 2 undef = .pointer (some ⟨s, 0, none⟩)) (t3 : tmps.getD 3 undef = .pointer (some ⟨s + 1, 0, none⟩)) (t4 : tmps.getD 4 undef = .pointer (some ⟨s + 1 + 1, 0, none⟩))
    (hR : R (.returned (.tuple #[v1, v2, v3])) w) :
    bodyPostD Tryd.prog Tryd.f46 R Exit.ret { tmps := tmps, defers := theDefer s } w := by
  show Leaves _ _ _ _ (theDefer s) _ _
  unfold theDefer
  refine leaves_cons (f := 59) (args := #[.pointer (some ⟨s, 0, none⟩), .pointer (some ⟨s + 1, 0, none⟩), .pointer (some ⟨s + 1 + 1, 0, none⟩)]) (by simp) (by simp [go_sem]) ?_
  refine (catch_idle ⟨s, 0, none⟩ ⟨s + 1, 0, none⟩ ⟨s + 1 + 1, 0, none⟩ w).mono ?_
  rintro e u' w'' ⟨rfl, rfl, rfl⟩
  rw [Array.getD_eq_getD_getElem?] at t2 t3 t4
  simp [Leaves, settle, results, Tryd.results46, go_sem, t2, t3, t4, h1, h2, h3]
  exact hR
/-! ### the counts -/
theorem rdNums_stop {ok : Nat → Bool} {k : Nat} {bs : Wd} (h : rdNums ok k bs = none) : ∀ j, rdNums ok (k + j) bs = none
  | 0 => h
  | j + 1 => by rw [← Nat.add_assoc, rdNums_snoc, rdNums_stop h j]
theorem rdNums_step {ok : Nat → Bool} {k x : Nat} {bs b1 b2 : Wd} {c : List Int} (h : rdNums ok k bs = some (c, b1)) (h2 : rdNum ok b1 = some (x, b2)) : rdNums ok (k + 1) bs = some (c ++ [(x : Int)], b2) := by rw [rdNums_snoc, h]; simp only; rw [h2]
theorem rdNums_no {ok : Nat → Bool} {k : Nat} {bs b1 : Wd} {c : List Int} (h : rdNums ok k bs = some (c, b1)) (h2 : rdNum ok b1 = none) {m : Nat} (hm : k < m) : rdNums ok m bs = none := by
  have h3 : rdNums ok (k + 1) bs = none := by rw [rdNums_snoc, h]; simp only; rw [h2]
  have := rdNums_stop h3 (m - (k + 1))
  rwa [show k + 1 + (m - (k + 1)) = m by omega] at this
theorem rdNums_length {ok : Nat → Bool} : ∀ {k : Nat} {bs b1 : Wd} {c : List Int}, rdNums ok k bs = some (c, b1) → c.length = k
  | 0, bs, b1, c, h => by rw [rdNums] at h; cases h; rfl
  | k + 1, bs, b1, c, h => by
    rw [rdNums] at h
    cases h2 : rdNum ok bs with
    | none => rw [h2] at h; cases h
    | some q =>
      obtain ⟨x, b2⟩ := q
      rw [h2] at h
      simp only at h
      cases h3 : rdNums ok k b2 with
      | none => rw [h3] at h; cases h
      | some q2 =>
        obtain ⟨c2, b3⟩ := q2
        rw [h3] at h
        cases h
        rw [List.length_cons, rdNums_length h3]
/-- what was read behind the cells was there ahead of them -/
theorem BytS.home {w w3 : World} {a : Option Addr} {l : Wd} {vc : Value} (h : BytS w3 a l) (hc : C3 w.heap.size (.slice none 0 0) w3) (hb : Below w.heap.size w w3) (hz : w3.heap.size = w.heap.size + 3) : BytS w a l := fun k hk => by
  obtain ⟨b, o, ha, h1, h2⟩ := h k hk
  have key : ∀ x t, w3.heap[b]? = some (.cells #[x] t (0, 0)) → (∀ y, x ≠ .int .u8 y) → False := fun x t hx hne => by
    simp only [World.cell?, hx] at h2
    cases hj : o + k with
    | zero => rw [hj] at h2; simp at h2; exact hne _ h2
    | succ j => rw [hj] at h2; simp at h2
  by_cases hlt : b < w.heap.size
  · exact ⟨b, o, ha, hlt, (hb.cell (p := ⟨b, o + k, none⟩) hlt).symm.trans h2⟩
  · rcases (show b = w.heap.size ∨ b = w.heap.size + 1 ∨ b = w.heap.size + 2 by omega) with e | e | e
    · exact (key _ _ (by rw [e]; exact hc.c1) (fun y h => by cases h)).elim
    · exact (key _ _ (by rw [e]; exact hc.c2) (fun y h => by cases h)).elim
    · exact (key _ _ (by rw [e]; exact hc.c3) (fun y h => by cases h)).elim
theorem RS.home {w w3 w5 : World} {gR : Nat} {bs : Wd} {vn : Value} {N : List NV} {D : List Nd} (h : RS w3 (w.heap.size + 3) gR bs vn N D w5) (hc : C3 w.heap.size (.slice none 0 0) w3) (hb : Below w.heap.size w w3) (hz : w3.heap.size = w.heap.size + 3) : RS w w.heap.size gR bs vn N D w5 := by
  obtain ⟨ar, cr, hrep, hby, hcr⟩ := h.rr
  exact ⟨⟨ar, cr, hrep, hby.home (vc := .slice none 0 0) hc hb hz, hcr⟩, h.own.mono (by omega), h.len, fun k h1 h2 => ⟨(h.arcs k h1 h2).1, (h.arcs k h1 h2).2.mono (by omega)⟩, hb.trans (h.bl.mono (by omega)), by have := h.hg; omega⟩
/-- inside the loop over the counts -/
structure ReL (wW : World) (s gR : Nat) (vn : Value) (N : List NV) (D : List Nd) (bj : Wd) (v : Value) (c : List Int) (w : World) : Prop where
  rs : RS wW s gR bj vn N D w
  c3 : C3 s v w
  own : OwnG rowInt w s v c
  hg : gR = s + 3
section
variable {wW w w1 : World} {s gR : Nat} {vn v va : Value} {N : List NV} {D : List Nd} {bj b1 : Wd} {c : List Int} {x : Int}
theorem ReL.go (h : ReL wW s gR vn N D bj v c w) (hx : Ext w w1) : ReL wW s gR vn N D bj v c w1 := by
  have hlt : ∀ q, q < s + 3 → q < w.heap.size := fun q hq => by have := h.rs.rr.size; have := h.hg; omega
  exact ⟨h.rs.go hx, h.c3.keep fun q h1 h2 => Below.block hx q (hlt q h2), h.own.later hx (Nat.le_refl _), h.hg⟩
theorem ReL.num (h : ReL wW s gR vn N D bj v c w) (hr : RRep wW w1 gR b1 vn) (hg : w.grownBy w1 (some gR)) : ReL wW s gR vn N D b1 v c w1 := by
  have hlt : ∀ q, q < s + 3 → q < w.heap.size := fun q hq => by have := h.rs.rr.size; have := h.hg; omega
  refine ⟨h.rs.rest hr hg, h.c3.keep fun q h1 h2 => hg.block q (hlt q h2) (fun e => ?_), h.own.grown hg fun q hq e => ?_, h.hg⟩
  · injection e with e; have := h.hg; omega
  · obtain ⟨cs, hc⟩ := h.own.obj hq
    injection e with e
    exact h.rs.rr.ne hc (by decide) e
/-- behind the append -/
structure ReA (wW : World) (s gR : Nat) (vn : Value) (N : List NV) (D : List Nd) (bj : Wd) (v va : Value) (c : List Int) (w : World) : Prop where
  rs : RS wW s gR bj vn N D w
  c3 : C3 s v w
  own : OwnG rowInt w s va c
  hg : gR = s + 3
theorem ReA.stays : Stays (fun va w => ReA wW s gR vn N D bj v va c w) := fun va w w1 h hx => by
  have hlt : ∀ q, q < s + 3 → q < w.heap.size := fun q hq => by have := h.rs.rr.size; have := h.hg; omega
  exact ⟨h.rs.go hx, h.c3.keep fun q h1 h2 => Below.block hx q (hlt q h2), h.own.later hx (Nat.le_refl _), h.hg⟩
theorem ReL.app (h : ReL wW s gR vn N D bj v c w) (ho : OwnG rowInt w1 s va (c ++ [x])) (hg : w.grownBy w1 v.ownBlock) : ReA wW s gR vn N D bj v va (c ++ [x]) w1 := by
  have hlt : ∀ q, q < s + 3 → q < w.heap.size := fun q hq => by have := h.rs.rr.size; have := h.hg; omega
  have hne : ∀ (q : Nat) (cs : Array Value) (t : TypeId), w.heap[q]? = some (Obj.cells cs t (0, 0)) → t ≠ 3 → w1.heap[q]? = w.heap[q]? := fun q cs t hq ht => by
    refine hg.block q (Array.getElem?_eq_some_iff.1 hq).1 fun e => ?_
    obtain ⟨c2, h2⟩ := h.own.obj e.symm
    rw [hq] at h2
    injection h2 with h2
    injection h2 with _ h3
    exact ht h3
  refine ⟨h.rs.keep (fun q cs t hq ht => hne q cs t hq ?_) (below_grown hg h.rs.size h.own.ge), h.c3.keep fun q h1 h2 => ?_, ho, h.hg⟩
  · rcases ht with rfl | rfl | rfl <;> decide
  · rcases (show q = s ∨ q = s + 1 ∨ q = s + 2 by omega) with rfl | rfl | rfl
    · exact hne _ _ _ h.c3.c1 (by decide)
    · exact hne _ _ _ h.c3.c2 (by decide)
    · exact hne _ _ _ h.c3.c3 (by decide)
theorem ReA.store (h : ReA wW s gR vn N D bj v va c w) : ReL wW s gR vn N D bj va c (w.setCell ⟨s + 1, 0, none⟩ va) := by
  have hne : ∀ q, q ≠ s + 1 → (w.setCell ⟨s + 1, 0, none⟩ va).heap[q]? = w.heap[q]? := fun q hq => Below.heap_setCell _ _ _ _ hq
  have hty : ∀ (q : Nat) (cs : Array Value) (t : TypeId), w.heap[q]? = some (Obj.cells cs t (0, 0)) → t ≠ 31 → (w.setCell ⟨s + 1, 0, none⟩ va).heap[q]? = w.heap[q]? := fun q cs t hq ht => hne q fun e => by
    rw [e, h.c3.c2] at hq
    injection hq with hq
    injection hq with _ h3
    exact ht h3.symm
  refine ⟨h.rs.keep (fun q cs t hq ht => hty q cs t hq ?_) ((Below.refl _ _).setCell (p := ⟨s + 1, 0, none⟩) (by show s ≤ s + 1; omega) _), ⟨(hne s (by omega)).trans h.c3.c1, ?_, (hne (s + 2) (by omega)).trans h.c3.c3⟩, h.own.keep fun q hq => ?_, h.hg⟩
  · rcases ht with rfl | rfl | rfl <;> decide
  · exact set_one h.c3.c2 rfl
  · obtain ⟨cs, hc⟩ := h.own.obj hq
    exact hty _ _ _ hc (by decide)
/-- the results are stored -/
theorem ReL.fin (h : ReL wW s gR vn N D bj v c w) (x y z : Value) :
    RS wW s gR bj vn N D (((w.setCell ⟨s, 0, none⟩ x).setCell ⟨s + 1, 0, none⟩ y).setCell ⟨s + 1 + 1, 0, none⟩ z) ∧ OwnG rowInt (((w.setCell ⟨s, 0, none⟩ x).setCell ⟨s + 1, 0, none⟩ y).setCell ⟨s + 1 + 1, 0, none⟩ z) s v c ∧
    (((w.setCell ⟨s, 0, none⟩ x).setCell ⟨s + 1, 0, none⟩ y).setCell ⟨s + 1 + 1, 0, none⟩ z).cell? ⟨s, 0, none⟩ = some x ∧
    (((w.setCell ⟨s, 0, none⟩ x).setCell ⟨s + 1, 0, none⟩ y).setCell ⟨s + 1 + 1, 0, none⟩ z).cell? ⟨s + 1, 0, none⟩ = some y ∧
    (((w.setCell ⟨s, 0, none⟩ x).setCell ⟨s + 1, 0, none⟩ y).setCell ⟨s + 1 + 1, 0, none⟩ z).cell? ⟨s + 1 + 1, 0, none⟩ = some z := by
  obtain ⟨c1, c2, c3, f1, f2, f3⟩ := h.c3.cells
  have hne : ∀ q, q ≠ s → q ≠ s + 1 → q ≠ s + 1 + 1 → (((w.setCell ⟨s, 0, none⟩ x).setCell ⟨s + 1, 0, none⟩ y).setCell ⟨s + 1 + 1, 0, none⟩ z).heap[q]? = w.heap[q]? := fun q h1 h2 h3 => by
    rw [Below.heap_setCell _ _ _ _ h3, Below.heap_setCell _ _ _ _ h2, Below.heap_setCell _ _ _ _ h1]
  have hty : ∀ (q : Nat) (cs : Array Value) (t : TypeId), w.heap[q]? = some (Obj.cells cs t (0, 0)) → t ≠ 31 → t ≠ 4 → t ≠ 29 → (((w.setCell ⟨s, 0, none⟩ x).setCell ⟨s + 1, 0, none⟩ y).setCell ⟨s + 1 + 1, 0, none⟩ z).heap[q]? = w.heap[q]? := fun q cs t hq h1 h2 h3 => hne q
    (fun e => by rw [e, h.c3.c1] at hq; injection hq with hq; injection hq with _ h4; exact h3 h4.symm)
    (fun e => by rw [e, h.c3.c2] at hq; injection hq with hq; injection hq with _ h4; exact h1 h4.symm)
    (fun e => by rw [e, h.c3.c3] at hq; injection hq with hq; injection hq with _ h4; exact h2 h4.symm)
  refine ⟨h.rs.keep (fun q cs t hq ht => hty q cs t hq ?_ ?_ ?_) ((((Below.refl _ _).setCell (p := ⟨s, 0, none⟩) (Nat.le_refl _) _).setCell (p := ⟨s + 1, 0, none⟩) (by show s ≤ s + 1; omega) _).setCell (p := ⟨s + 1 + 1, 0, none⟩) (by show s ≤ s + 1 + 1; omega) _), h.own.keep fun q hq => ?_, ?_, ?_, ?_⟩
  · rcases ht with rfl | rfl | rfl <;> decide
  · rcases ht with rfl | rfl | rfl <;> decide
  · rcases ht with rfl | rfl | rfl <;> decide
  · obtain ⟨cs, hc⟩ := h.own.obj hq
    exact hty _ _ _ hc (by decide) (by decide) (by decide)
  · simp [go_sem, c1, c2, c3]
  · simp [go_sem, c1, c2, c3]
  · simp [go_sem, c1, c2, c3]
end
def ReT (wW : World) (s gR : Nat) (vn : Value) (N : List NV) (D : List Nd) (bj r : Wd) (v : Value) (c : List Int) (b1 b2 : Bool) (w : World) : Prop := match b2 with
  | true => True
  | false => ReL wW s gR vn N D (match b1 with | true => r | false => bj) v c w
theorem ReT.ext {wW : World} {s gR : Nat} {vn : Value} {N : List NV} {D : List Nd} {bj r : Wd} {v : Value} {c : List Int} : ∀ (b1 b2 : Bool) (w w' : World), ReT wW s gR vn N D bj r v c b1 b2 w → Ext w w' → ReT wW s gR vn N D bj r v c b1 b2 w'
  | _, true, _, _, _, _ => trivial
  | _, false, _, _, h, hx => ReL.go h hx
theorem ReT.ld {wW w : World} {s gR : Nat} {vn : Value} {N : List NV} {D : List Nd} {bj r : Wd} {v : Value} {c : List Int} {b1 : Bool} (h : ReT wW s gR vn N D bj r v c b1 false w) : w.cell? ⟨s + 1, 0, none⟩ = some v := (ReL.c3 h).cells.2.1
def RowI1 (v0 : Value) (x : Int) (v : Value) (w : World) : Prop := ∃ g, v = .slice (some ⟨g, 0, none⟩) 1 1 ∧ w.heap[g]? = some (.cells #[.int .i64 x] 3 (0, 0)) ∧ v0.ownBlock ≠ some g
theorem rowI1_stays (v0 : Value) (x : Int) : Stays (RowI1 v0 x) := by
  rintro v w w' ⟨g, rfl, h, hn⟩ hx
  exact ⟨g, rfl, (Below.block hx g (Array.getElem?_eq_some_iff.1 h).1).trans h, hn⟩
theorem rowI1_grown (v0 : Value) (x : Int) : ∀ v w w', RowI1 v0 x v w → w.grownBy w' v0.ownBlock → RowI1 v0 x v w' := by
  rintro v w w' ⟨g, rfl, h, hn⟩ hx
  exact ⟨g, rfl, (hx.block g (Array.getElem?_eq_some_iff.1 h).1 (fun e => hn e.symm)).trans h, hn⟩
set_option maxHeartbeats 6400000 in
set_option maxRecDepth 100000 in
theorem read_any (bs : Wd) (n : Nat) (a : Option Addr) (cap : Nat) (w : World) (hB : BytS w a bs) (hn : n = bs.length) (hcap : n ≤ cap) (hl : n ≤ 20000) (hT : Tab w) :
    Calls Tryd.prog 46 #[.slice a n cap] w fun e w' => RdP w.heap.size (readF okP okT bs) e w' ∧ Below w.heap.size w w' := by
  have hmf : ∀ (fn : Fn) (first cap : Array Value) (w : World), (Instr.makeFunc fn first cap).run Tryd.prog w = .ok (.func fn first cap) w := fun _ _ _ _ => rfl
  have HB := Lib.hid hB; have HN := Lib.hid hn; have HT := Lib.hid hT
  clear hB hn hT
  go_enter_defers Tryd.func46, Tryd.ntmps46
  go_wp2_with fail
  obtain ⟨w3, hw3⟩ : ∃ w3, ((w.alloc (.cells #[.slice none 0 0] 29)).alloc (.cells #[.slice none 0 0] 31)).alloc (.cells #[.bool false] 4) = w3 := ⟨_, rfl⟩
  have hz3 : w3.heap.size = w.heap.size + 3 := by rw [← hw3]; simp only [World.size_alloc]
  have h03 : Below w.heap.size w w3 := by
    rw [← hw3]
    exact (((Below.refl _ w).alloc (Nat.le_refl _) _).alloc (by simp only [World.size_alloc]; omega) _).alloc (by simp only [World.size_alloc]; omega) _
  have hc3 : C3 w.heap.size (.slice none 0 0) w3 := by
    rw [← hw3]
    refine ⟨?_, ?_, ?_⟩
    · refine skip (by simp only [World.size_alloc]; omega) (skip (by simp only [World.size_alloc]; omega) (heap_alloc_new _ _))
    · have h := skip (o := Obj.cells #[.bool false] 4) (by simp only [World.size_alloc]; omega) (heap_alloc_new (w.alloc (.cells #[.slice none 0 0] 29)) (.cells #[.slice none 0 0] 31))
      simp only [World.size_alloc] at h
      exact h
    · have h := heap_alloc_new ((w.alloc (.cells #[.slice none 0 0] 29)).alloc (.cells #[.slice none 0 0] 31)) (.cells #[.bool false] 4)
      simp only [World.size_alloc] at h
      exact h
  have H03 := Lib.hid h03; have HC3 := Lib.hid hc3
  have hst : RS w3 (w.heap.size + 3) (w.heap.size + 3) bs (.slice none 0 0) [] [] (w3.alloc (.cells #[.slice a n cap, .slice none 0 0] 113)) :=
    ⟨⟨a, cap, by rw [← HN.out]; have h := heap_alloc_new w3 (.cells #[.slice a n cap, .slice none 0 0] 113); rw [hz3] at h; exact h, HB.out.go h03, by rw [← HN.out]; exact hcap⟩, OwnG.nil _ _ _, rfl, fun k h1 => absurd h1 (Nat.not_lt_zero k), (Below.refl _ w3).alloc (by omega) _, Nat.le_refl _⟩
  have h34 : Below (w.heap.size + 3) w3 (w3.alloc (.cells #[.slice a n cap, .slice none 0 0] 113)) := hst.bl
  obtain ⟨w4, hw4⟩ : ∃ w4, w3.alloc (.cells #[.slice a n cap, .slice none 0 0] 113) = w4 := ⟨_, rfl⟩
  rw [hw4] at hst h34
  rw [hw3, hw4]
  have HZ3 := Lib.hid hz3
  clear hw3 hw4 h03 hc3
  have HCALL := Lib.hid (rdform_any w3 (w.heap.size + 3) (w.heap.size + 3) (by omega) (Nat.le_refl _) 21 0 bs _ [] [] w4 rfl (by have := HN.out; simp; omega) hst)
  clear hst hz3
  refine HCALL.out.mono ?_
  clear HCALL
  intro e w5 hp
  cases hq : rdNode okP okT 21 bs 0 with
  | none =>
    have HR : Hid (readF okP okT bs = none) := by show _ = _; unfold readF; rw [hq]
    replace hp : e = dmgE ∧ Below (w.heap.size + 3) w3 w5 := by
      have h := hp
      simp only [List.length_nil] at h
      rw [hq] at h; exact h
    obtain ⟨rfl, hb5⟩ := hp
    have HC5 := Lib.hid (HC3.out.keep (w1 := w5) fun q h1 h2 => hb5.block q h2)
    have HB5 : Hid (Below w.heap.size w w5) := Lib.hid (H03.out.trans (hb5.mono (by omega)))
    clear hq hb5
    exact door_panicked HC5.out rfl rfl rfl ⟨RdP.none HR.out rfl, HB5.out.trans (nilW_below _ _ _ (Nat.le_refl _))⟩
  | some p =>
    obtain ⟨b1, D⟩ := p
    have hok : RdOk D := rdNode_ok _ _ _ _ _ (by have := HN.out; omega) hq
    have hlen := rdNode_len _ _ _ _ _ hq
    have HRF : Hid (readF okP okT bs = if validF D = true then withC D (rdNums okP (wordsF D).length b1) else none) := by
      show _ = _
      unfold readF
      rw [hq]
      rfl
    obtain ⟨rfl, vn, N, hrs, hfr, hnr, -⟩ : FormP w3 w4 (w.heap.size + 3) (w.heap.size + 3) (.slice none 0 0) [] [] (some (b1, D)) e w5 := by
      have h := hp
      simp only [List.length_nil] at h
      rw [hq] at h; exact h
    rw [List.nil_append, List.nil_append] at hrs
    have hc5 : C3 w.heap.size (.slice none 0 0) w5 := HC3.out.keep fun q h1 h2 => hrs.bl.block q h2
    have hrs5 := hrs.home HC3.out H03.out HZ3.out
    obtain ⟨aD, cD, hvn, hcD, hdw⟩ := hrs5.dawg hok
    subst hvn
    have hT5 := HT.out.go hrs5.bl
    obtain ⟨nD, hnD⟩ : ∃ nD, nD = D.length := ⟨_, rfl⟩
    have hnD5 : nD ≤ 20000 := by have := HN.out; omega
    have HND := Lib.hid hnD
    have HOK := Lib.hid hok
    have hl0 : OwnG rowInt w5 w.heap.size (.slice none 0 0) [] := OwnG.nil _ _ _
    have HL : Hid (ReL w w.heap.size (w.heap.size + 3) (.slice aD nD cD) N D b1 (.slice none 0 0) [] w5) := by rw [hnD]; exact ⟨hrs5, hc5, hl0, rfl⟩
    have HDW := Lib.hid hdw; have HTT := Lib.hid hT5; have HCD := Lib.hid hcD
    obtain ⟨ar5, cr5, hrep5, -, -⟩ := id HL.out.rs.rr
    obtain ⟨c0, c1⟩ := cells2 hrep5
    clear hp hq hlen hrs hfr hnr hc5 hrs5 hdw hT5 hok hl0 hrep5 hnD hcD
    by_cases hv : validF D = true
    · rw [if_pos hv] at HRF
      go_wp2_with fail
      refine (valid_n D nD aD cD w5 HND.out HDW.out (by omega) HOK.out.csOk HTT.out).mono ?_
      rintro e w6 ⟨he, hb⟩
      rw [hv] at he
      subst he
      replace HL := Lib.hid (HL.out.go hb); replace HDW := Lib.hid (HDW.out.go hb)
      clear hb hv HTT c0 c1
      obtain ⟨ar6, cr6, hrep6, -, -⟩ := id HL.out.rs.rr
      obtain ⟨c0, c1⟩ := cells2 hrep6
      clear hrep6
      go_wp2_with fail
      rw [show nD = D.length from HND.out]
      refine (words_any D aD cD w6 HDW.out (by have := HND.out; omega) HOK.out.csOk).mono ?_
      rintro e w7 ⟨a7, c7, he, hss7, hc7, hb⟩
      replace HL := Lib.hid (HL.out.go hb); replace HDW := Lib.hid (HDW.out.go hb)
      have hwl := wordsF_len D
      obtain ⟨L, hL⟩ : ∃ L, (wordsF D).length = L := ⟨_, rfl⟩
      rw [hL] at HRF hwl he
      subst he
      clear hb hss7 hc7 c0 c1 hL
      go_wp2
      go_loopw [26] (fun q wr => ∃ (k : Nat) (bj : Wd) (v : Value) (c : List Int), k ≤ L ∧ q = .int .i64 (k : Int) ∧ ReL w w.heap.size (w.heap.size + 3) (.slice aD nD cD) N D bj v c wr ∧ rdNums okP k b1 = some (c, bj)) (fun q _ => L - (intOf q).toNat)
      case atStart => exact ⟨0, b1, _, [], Nat.zero_le _, rfl, HL.out, rfl⟩
      case round =>
        clear HL HDW
        obtain ⟨k, bj, v, c, hk, rfl, hl, hrd⟩ := hrel
        have HL := Lib.hid hl; have HRD := Lib.hid hrd
        obtain ⟨va, vc, hva, -, -⟩ := hl.own.form
        subst hva
        have hck := rdNums_length hrd
        have HCK := Lib.hid hck
        have hc200 : c.length ≤ 200 := by omega
        by_cases hlt : k < L
        · cases hq : rdNum okP bj with
          | none =>
            have HR : Hid (readF okP okT bs = none) := by show _ = _; rw [HRF.out, rdNums_no hrd hq hlt]; rfl
            have HQ := Lib.hid hq
            clear hl hrd hck hq
            go_upto_region 8 with fail
            refine wp_region_stop (by kernel_rfl) (Vs [fun _ _ => True, fun v _ => v = .pointer (some ⟨w.heap.size + 1 + 1 + 1, 0, none⟩)]) (fun W => ReL w w.heap.size (w.heap.size + 3) (.slice aD nD cD) N D bj (.slice va c.length vc) c W) [0, 1] 2 39 (by kernel_rfl) rfl ?hVx ?hSx ?hS ?hop ?hpan
            case hVx => exact vs_stays (by simp only [List.mem_cons, List.not_mem_nil, or_false, forall_eq_or_imp, forall_eq]; exact ⟨fun _ _ _ _ _ => trivial, stays_const _⟩)
            case hSx => exact fun W W' h hx => h.go hx
            case hS => exact HL.out
            case hop =>
              intro i o hi ho
              simp only [List.mem_cons, List.not_mem_nil, or_false] at hi
              rcases hi with rfl | rfl
              · injection ho with ho
                subst ho
                intro A W hsz hS hdep hbase
                have h3 : A.tmps.getD 3 undef = .pointer (some ⟨w.heap.size + 1, 0, none⟩) := hbase 3 (by kernel_rfl)
                have h31 := hS.c3.cells.2.1
                rw [Array.getD_eq_getD_getElem?] at h3
                refine opOk_run rfl (.inl ⟨.slice va c.length vc, W, ?_, trivial, Ext.refl _⟩); clear hsz hS hbase hdep; simp [go_sem, Act.eval, h3, h31]
              · injection ho with ho
                subst ho
                intro A W hsz hS hdep hbase
                have h5 : A.tmps.getD 5 undef = .pointer (some ⟨w.heap.size + 1 + 1 + 1, 0, none⟩) := hbase 5 (by kernel_rfl)
                rw [Array.getD_eq_getD_getElem?] at h5
                refine opOk_run rfl (.inl ⟨_, W, ?_, rfl, Ext.refl _⟩); clear hsz hS hbase hdep; simp [go_sem, Act.eval, h5]
            case hpan =>
              intro o A W ho hsz hdf hS hdep hbase
              injection ho with ho
              subst ho
              have h29 : A.tmps.getD 29 undef = .pointer (some ⟨w.heap.size + 1 + 1 + 1, 0, none⟩) := hdep ⟨1, .data⟩ (by simp) rfl
              have t2 := hbase 2 (by kernel_rfl)
              have t3 := hbase 3 (by kernel_rfl)
              have t4 := hbase 4 (by kernel_rfl)
              rw [Array.getD_eq_getD_getElem?] at h29
              refine ⟨rfl, 61, #[.pointer (some ⟨w.heap.size + 1 + 1 + 1, 0, none⟩)], W, (by clear hsz hS hbase hdep; simp [go_sem, Act.eval, h29]), ?_⟩
              refine (rnum_any w w.heap.size (w.heap.size + 3) bj _ W (Nat.le_refl _) (by omega) hS.rs.bl hS.rs.rr).mono ?_
              rintro e w8 hp
              obtain ⟨rfl, hg⟩ := numP_no hp HQ.out
              refine ⟨_, rfl, ?_⟩
              have hc8 : C3 w.heap.size (.slice va c.length vc) w8 := hS.c3.keep fun q h1 h2 => hg.block q (by have := hS.rs.rr.size; omega) fun e => by injection e with e; omega
              obtain ⟨T, ds⟩ := A
              simp only at hdf
              subst hdf
              exact door_panicked hc8 t2 t3 t4 ⟨RdP.none HR.out rfl, (hS.rs.below hg).trans (nilW_below _ _ _ (Nat.le_refl _))⟩
          | some p =>
            obtain ⟨x, r⟩ := p
            have HS := Lib.hid (rdNums_step hrd hq)
            have HQ := Lib.hid hq
            have hx := rdNum_le hq
            clear hl hrd hck hq
            go_upto_region 8 with fail
            refine wp_region_st (by kernel_rfl) (Vs [fun v _ => v = .slice va c.length vc, fun v _ => v = .pointer (some ⟨w.heap.size + 1 + 1 + 1, 0, none⟩), fun v _ => v = .int .i64 (x : Int), RowI1 (.slice va c.length vc) (x : Int), fun va' w9 => ReA w w.heap.size (w.heap.size + 3) (.slice aD nD cD) N D r (.slice va c.length vc) va' (c ++ [(x : Int)]) w9]) (Xs [Ext, Ext, (fun _ _ => True), Ext, (fun w w' => w.grownBy w' (Value.slice va c.length vc).ownBlock)]) (fun fL => (fun b1 b2 W => ReT w w.heap.size (w.heap.size + 3) (.slice aD nD cD) N D bj r (.slice va c.length vc) c b1 b2 W) (fL 2) (fL 4)) [0, 0, 2, 6, 15] 39 5 (by kernel_rfl) rfl ?hV ?hS ?hop ?hfin ?hlast
            case hV =>
              refine xs_stays (vs_stays (by simp only [List.mem_cons, List.not_mem_nil, or_false, forall_eq_or_imp, forall_eq]; exact ⟨stays_const _, stays_const _, stays_const _, rowI1_stays _ _, ReA.stays⟩)) ?_
              exact ⟨.inl rfl, .inl rfl, .inr (staysM_all ⟨fun _ _ => fun _ _ _ h _ => h, fun _ _ => fun _ _ _ h _ => h, fun h => absurd rfl h, fun _ h => absurd h (by decide), fun _ h => absurd h (by decide), trivial⟩), .inl rfl, .inr (staysM_all ⟨fun _ _ => fun _ _ _ h _ => h, fun _ _ => fun _ _ _ h _ => h, fun _ _ => fun _ _ _ h _ => h, fun _ _ => rowI1_grown _ _, fun h => absurd rfl h, trivial⟩), trivial⟩
            case hS =>
              intro fL hf
              show (fun b1 b2 W => ReT w w.heap.size (w.heap.size + 3) (.slice aD nD cD) N D bj r (.slice va c.length vc) c b1 b2 W) (fL 2) (fL 4) _
              rw [hf 2 (by decide), hf 4 (by decide)]
              exact ReT.ext false false _ _ HL.out ⟨rfl, rfl, rfl, Nat.le_refl _, fun _ _ => rfl⟩
            case hop =>
              refine ⟨?c0, ?_, ?c2, ?c3, ?c4, ?_, trivial⟩
              all_goals first | rw [if_neg (by decide)] | rw [if_pos (by decide)]
              all_goals try exact True.intro
              all_goals try intro ac W fL hsz hfi hms hdn hS0 hdep hbase hund
              all_goals try have hS : (fun b1 b2 W => ReT w w.heap.size (w.heap.size + 3) (.slice aD nD cD) N D bj r (.slice va c.length vc) c b1 b2 W) (fL 2) (fL 4) W := hS0
              all_goals try (have hfl2 : fL 2 = true := hms 2 (by decide); rw [hfl2] at hS)
              all_goals try (have hfl2 : fL 2 = false := (by first | exact hfi | exact hdn 2 (by decide) (by decide)); rw [hfl2] at hS)
              all_goals try (have hfl4 : fL 4 = true := hms 4 (by decide); rw [hfl4] at hS)
              all_goals try (have hfl4 : fL 4 = false := (by first | exact hfi | exact hdn 4 (by decide) (by decide)); rw [hfl4] at hS)
              all_goals try (have h5 : ac.tmps.getD 5 undef = .pointer (some ⟨w.heap.size + 1 + 1 + 1, 0, none⟩) := hbase 5 (by kernel_rfl); have hh5 := h5; rw [Array.getD_eq_getD_getElem?] at hh5)
              all_goals try (have h3 : ac.tmps.getD 3 undef = .pointer (some ⟨w.heap.size + 1, 0, none⟩) := hbase 3 (by kernel_rfl); have hh3 := h3; rw [Array.getD_eq_getD_getElem?] at hh3)
              all_goals try (have d28 : ac.tmps.getD 28 undef = .slice va c.length vc := hdep 0 (by decide); have dd28 := d28; rw [Array.getD_eq_getD_getElem?] at dd28)
              all_goals try (have d29 : ac.tmps.getD 29 undef = .pointer (some ⟨w.heap.size + 1 + 1 + 1, 0, none⟩) := hdep 1 (by decide); have dd29 := d29; rw [Array.getD_eq_getD_getElem?] at dd29)
              all_goals try (have d30 : ac.tmps.getD 30 undef = .int .i64 (x : Int) := hdep 2 (by decide); have dd30 := d30; rw [Array.getD_eq_getD_getElem?] at dd30)
              all_goals try have d31 : (RowI1 (.slice va c.length vc) (x : Int)) (ac.tmps.getD 31 undef) W := hdep 3 (by decide)
              all_goals try clear hbase hdep hms hdn hund
              case c0 =>
                have hld := ReT.ld hS
                refine opOk_run rfl (.inl ⟨.slice va c.length vc, W, ?_, rfl, Ext.refl _, hS0⟩)
                clear hsz hS hS0 hfi; simp [go_sem, Act.eval, *]
              case c2 =>
                have hlr : ReL w w.heap.size (w.heap.size + 3) (.slice aD nD cD) N D bj (.slice va c.length vc) c W := hS
                refine opOk_run rfl (.inr ⟨61, #[.pointer (some ⟨w.heap.size + 1 + 1 + 1, 0, none⟩)], W, by (clear hsz hS hS0 hfi hlr; simp [go_sem, Act.eval, *]), ?_⟩)
                refine (rnum_any w w.heap.size (w.heap.size + 3) bj _ W (Nat.le_refl _) (by omega) hlr.rs.bl hlr.rs.rr).mono ?_
                rintro e w8 hp
                obtain ⟨rfl, hr8, hg8⟩ := numP_yes hp HQ.out
                refine ⟨_, rfl, rfl, trivial, ?_⟩
                have hl8 := hlr.num hr8 hg8
                show ReT w w.heap.size (w.heap.size + 3) (.slice aD nD cD) N D bj r (.slice va c.length vc) c (upd fL 2 2) (upd fL 2 4) w8
                rw [show upd fL 2 2 = true from if_pos rfl, show upd fL 2 4 = fL 4 from if_neg (by decide), hfl4]
                exact hl8
              case c3 =>
                have hlr : ReL w w.heap.size (w.heap.size + 3) (.slice aD nD cD) N D r (.slice va c.length vc) c W := hS
                have hne : (Value.slice va c.length vc).ownBlock ≠ some W.heap.size := fun e => by
                  have := hlr.own.lt _ e; omega
                refine opOk_run rfl (.inl ⟨.slice (some ⟨W.heap.size, 0, none⟩) 1 1, W.alloc (.cells #[.int .i64 (x : Int)] 3), ?_, ⟨_, rfl, heap_alloc_new _ _, hne⟩, (Below.refl _ _).alloc (Nat.le_refl _) _, (show (fun b1 b2 W => ReT w w.heap.size (w.heap.size + 3) (.slice aD nD cD) N D bj r (.slice va c.length vc) c b1 b2 W) ((upd fL 3) 2) ((upd fL 3) 4) _ by
                  rw [show upd fL 3 2 = fL 2 from if_neg (by decide), show upd fL 3 4 = fL 4 from if_neg (by decide)]
                  exact ReT.ext _ _ _ _ hS0 ((Below.refl _ _).alloc (Nat.le_refl _) _))⟩)
                clear hsz hS hS0 hfi hlr; simp [go_sem, Act.eval, *]
              case c4 =>
                have hlr : ReL w w.heap.size (w.heap.size + 3) (.slice aD nD cD) N D r (.slice va c.length vc) c W := hS
                obtain ⟨g62, e62, hg62, hn62⟩ := d31
                refine opOk_run rfl ((opres_append_g rowInt_ok (.tmp 28) (.tmp 31) rfl (eval_tmp d28) hlr.own ⟨g62, 0, none⟩ 1 [(x : Int)] (eval_tmp e62) (cells_built hg62) (by simp only [List.length_singleton]; omega) hlr.rs.size).mono ?_)
                rintro va' w' ⟨ho, hgr, hat⟩
                refine ⟨hlr.app ho hgr, hgr, ?_⟩
                show ReT w w.heap.size (w.heap.size + 3) (.slice aD nD cD) N D bj r (.slice va c.length vc) c (upd fL 4 2) (upd fL 4 4) w'
                rw [show upd fL 4 4 = true from if_pos rfl]
                trivial
              all_goals (refine opOk_run rfl (.inl ⟨_, W, ?_, rfl, Ext.refl _, hS0⟩); clear hsz hS hS0 hfi; simp [go_sem, Act.eval, *]; done)
            case hfin =>
              intro h; exact absurd h (by decide)
            case hlast =>
              intro _ ac W hsz hdf fL hf hS0 hv hbase
              have hS : (fun b1 b2 W => ReT w w.heap.size (w.heap.size + 3) (.slice aD nD cD) N D bj r (.slice va c.length vc) c b1 b2 W) (fL 2) (fL 4) W := hS0
              clear hS0
              rw [hf 2 (by decide), hf 4 (by decide)] at hS
              have hst : ac.tmps.getD 3 undef = .pointer (some ⟨w.heap.size + 1, 0, none⟩) := hbase 3 (by kernel_rfl)
              have hnv : ReA w w.heap.size (w.heap.size + 3) (.slice aD nD cD) N D r (.slice va c.length vc) (ac.tmps.getD 32 undef) (c ++ [(x : Int)]) W := hv 4 (by decide)
              obtain ⟨ya, yc, hya, -, -⟩ := hnv.own.form
              rw [hya] at hnv
              refine wpOp_store rfl rfl rfl rfl (eval_tmp hst) (eval_tmp hya) hnv.c3.cells.2.2.2.2.1 hnv.c3.cells.2.1 (by kernel_rfl) ?_
              have hl2 := hnv.store
              obtain ⟨wz2, hwz2⟩ : ∃ wz2, W.setCell ⟨w.heap.size + 1, 0, none⟩ (.slice ya (c ++ [(x : Int)]).length yc) = wz2 := ⟨_, rfl⟩
              rw [hwz2] at hl2 ⊢
              have HLN := Lib.hid hl2
              clear hS hnv hwz2 hst hl2
              obtain ⟨sx, hsx, hsA⟩ := act_puts [28, 29, 30, 31, 32] (by kernel_rfl) hsz hdf hbase
              clear hya
              rw [hsA]
              simp only [List.foldl]
              simp only [Act.put, List.setIfInBounds_toArray, List.set_cons_succ, List.set_cons_zero]
              clear hsA hsx hv hbase hsz hdf hf
              go_wp2
              go_roundw
              case rel => exact ⟨k + 1, r, _, _, by omega, by go_num, HLN.out, HS.out⟩
              case measure => simp [intOf]; omega
        · have hkL : k = L := by omega
          have HR : Hid (readF okP okT bs = some (D, c)) := by show _ = _; rw [HRF.out, ← hkL, hrd]; rfl
          clear hrd hck
          obtain ⟨ar5, cr5, hrep5, -, -⟩ := id hl.rs.rr
          obtain ⟨c0, c1⟩ := cells2 hrep5
          obtain ⟨s1, s2, s3, f1, f2, f3⟩ := hl.c3.cells
          clear hl hkL hrep5
          go_upto_region 10 with fail
          go_region
          go_wp2
          obtain ⟨hrs9, hown9, h1, h2, h3⟩ := HL.out.fin (.slice aD nD cD) (.slice va c.length vc) (.bool true)
          obtain ⟨w9, hw9⟩ : ∃ w9, ((wr.setCell ⟨w.heap.size, 0, none⟩ (.slice aD nD cD)).setCell ⟨w.heap.size + 1, 0, none⟩ (.slice va c.length vc)).setCell ⟨w.heap.size + 1 + 1, 0, none⟩ (.bool true) = w9 := ⟨_, rfl⟩
          rw [hw9] at hrs9 hown9 h1 h2 h3 ⊢
          have hx : Ext w9 w9.drew := ⟨rfl, rfl, rfl, Nat.le_refl _, fun _ _ => rfl⟩
          obtain ⟨a', c', e, hc', hdw⟩ := (hrs9.go hx).dawg HOK.out
          injection e with e1 e2 e3
          subst e1 e3
          obtain ⟨hint, -, hlc⟩ := (hown9.later hx (Nat.le_refl _)).ints
          refine door_returned h1 h2 h3 rfl rfl rfl ⟨?_, (hrs9.go hx).bl⟩
          show RdP w.heap.size (readF okP okT bs) _ _
          rw [HR.out]
          exact ⟨aD, cD, va, vc, by rw [HND.out], hc', hlc, hdw, hown9.later hx (Nat.le_refl _), HOK.out.csOk⟩
    · have HR : Hid (readF okP okT bs = none) := by show _ = _; rw [HRF.out, if_neg hv]
      have hv' : validF D = false := by simpa using hv
      go_wp2_with fail
      refine (valid_n D nD aD cD w5 HND.out HDW.out (by omega) HOK.out.csOk HTT.out).mono ?_
      rintro e w6 ⟨he, hb⟩
      rw [hv'] at he
      subst he
      replace HL := Lib.hid (HL.out.go hb)
      clear hb hv hv' HTT c0 c1 HDW
      go_wp2
      exact door_panicked HL.out.c3 rfl rfl rfl ⟨RdP.none HR.out rfl, HL.out.rs.bl.trans (nilW_below _ _ _ (Nat.le_refl _))⟩
end Go.Proofs.YtocdljmdmiphnaaDoor
/- Pack: Unpack. -/
namespace Go.Proofs.YtocdljmdmiphnaaDoor
open Go.RowKit Go.WideShapes
set_option linter.unusedVariables false
set_option linter.unusedSimpArgs false

/-! ### plain -/
theorem rdArcs_size {okN : Nat → Bool} {rec : Wd → Nat → Option (Wd × List Nd)} (hr : ∀ bs n r nw, rec bs n = some (r, nw) → r.length + sizeN nw ≤ bs.length) : ∀ k bs n r X nw, rdArcs okN rec k bs n = some (r, X, nw) → r.length + sizeN nw + 2 * X.length ≤ bs.length
  | 0, bs, n, r, X, nw, h => by rw [rdArcs] at h; cases h; simp [sizeN]
  | k + 1, [], n, r, X, nw, h => by rw [rdArcs] at h; cases h
  | k + 1, c :: bs, n, r, X, nw, h => by
    rw [rdArcs] at h
    cases hq : rdNum okN bs with
    | none => rw [hq] at h; cases h
    | some p =>
      obtain ⟨t, b1⟩ := p
      have hl := rdNum_len hq
      rw [hq] at h
      simp only at h
      split at h
      · cases hq2 : rec b1 n with
        | none => rw [hq2] at h; cases h
        | some p2 =>
          obtain ⟨b2, nw1⟩ := p2
          have h2 := hr _ _ _ _ hq2
          rw [hq2] at h
          simp only at h
          cases hq3 : rdArcs okN rec k b2 (n + nw1.length) with
          | none => rw [hq3] at h; cases h
          | some p3 =>
            obtain ⟨b3, X3, nw3⟩ := p3
            have h3 := rdArcs_size hr k _ _ _ _ _ hq3
            rw [hq3] at h
            cases h
            rw [sizeN_app]
            simp only [List.length_cons]
            omega
      · cases hq3 : rdArcs okN rec k b1 n with
        | none => rw [hq3] at h; cases h
        | some p3 =>
          obtain ⟨b3, X3, nw3⟩ := p3
          have h3 := rdArcs_size hr k _ _ _ _ _ hq3
          rw [hq3] at h
          cases h
          simp only [List.length_cons]
          omega
theorem rdNode_size {okN okK : Nat → Bool} : ∀ m bs n r nw, rdNode okN okK m bs n = some (r, nw) → r.length + sizeN nw ≤ bs.length
  | 0, bs, n, r, nw, h => by rw [rdNode] at h; cases h
  | m + 1, bs, n, r, nw, h => by
    rw [rdNode] at h
    cases hq : rdNum okN bs with
    | none => rw [hq] at h; cases h
    | some p =>
      obtain ⟨k, b1⟩ := p
      have hl := rdNum_len hq
      rw [hq] at h
      simp only at h
      split at h
      · cases hq2 : rdArcs okN (rdNode okN okK m) (k / 2) b1 (n + 1) with
        | none => rw [hq2] at h; cases h
        | some p2 =>
          obtain ⟨b2, X, nw2⟩ := p2
          have h2 := rdArcs_size (rdNode_size m) _ _ _ _ _ _ hq2
          rw [hq2] at h
          cases h
          have e : ∀ (f : Bool) (l : List Nd), sizeN (⟨f, X⟩ :: l) = 1 + 2 * X.length + sizeN l := fun _ _ => rfl
          rw [e]
          omega
      · cases h
theorem readF_some {okN okK : Nat → Bool} {bs : Wd} {D : List Nd} {c : List Int} (h : readF okN okK bs = some (D, c)) : validF D = true ∧ sizeN D ≤ bs.length ∧ c.length = (wordsF D).length := by
  unfold readF at h
  cases hq : rdNode okN okK 21 bs 0 with
  | none => rw [hq] at h; cases h
  | some p =>
    obtain ⟨b1, E⟩ := p
    have h1 := rdNode_size _ _ _ _ _ hq
    rw [hq] at h
    simp only at h
    split at h
    · rename_i hv
      cases hq2 : rdNums okN (wordsF E).length b1 with
      | none => rw [hq2] at h; cases h
      | some p2 =>
        obtain ⟨c2, b2⟩ := p2
        have h2 := rdNums_length hq2
        rw [hq2] at h
        cases h
        exact ⟨hv, by omega, h2⟩
    · cases h
theorem isPack_of {b : Wd} {D : List Nd} {c : List Int} (hv : validF D = true) (hc : cntD (wordsF D).length c = true) (hb : packB D c = b) : IsPack b D c := by
  obtain ⟨L, hd, e, hw⟩ := valid_dict hv
  rw [hw] at hc
  exact ⟨L, hd, e, cntD_iff.1 hc, hb.symm⟩
theorem isPack_cnt {b : Wd} {D : List Nd} {c : List Int} (h : IsPack b D c) : validF D = true ∧ cntD (wordsF D).length c = true ∧ packB D c = b := by
  obtain ⟨L, hd, rfl, hc, hb⟩ := h
  exact ⟨valid_of hd, by rw [words_of hd]; exact cntD_iff.2 hc, hb.symm⟩
/-! ### parts of a slice of bytes -/
theorem slice_low_u8 (a : Option Addr) (n cap k : Nat) (hk : k ≤ cap) (w : World) :
    (Instr.slice 24 (.slice a n cap) none (some (.int .i64 (k : Int))) none).run Tryd.prog w = .ok (.slice a k cap) w := by
  have h0 : (0 : Int) ≤ (k : Int) := by omega
  have h1 : (k : Int) ≤ (cap : Int) := by omega
  cases a with
  | none => simp [go_sem, Instr.slice, Instr.sliceBounds, Instr.sliceBound, asIntOf, h0, h1]; intro h; omega
  | some a => simp [go_sem, Instr.slice, Instr.sliceBounds, Instr.sliceBound, asIntOf, h0, h1]; intro h; omega
theorem slice_high_u8 (b o n cap k : Nat) (hk : k ≤ n) (hn : n ≤ cap) : ∃ o', (k < n → o' = o + k) ∧ ∀ w : World,
    (Instr.slice 24 (.slice (some ⟨b, o, none⟩) n cap) (some (.int .i64 (k : Int))) none none).run Tryd.prog w = .ok (.slice (some ⟨b, o', none⟩) (n - k) (cap - k)) w := by
  have h0 : (0 : Int) ≤ (k : Int) := by omega
  have h1 : (k : Int) ≤ (n : Int) := by omega
  have h2 : (n : Int) ≤ (cap : Int) := by omega
  refine ⟨if cap = k then o else o + k, fun h => if_neg (by omega), fun w => ?_⟩
  simp [go_sem, Instr.slice, Instr.sliceBounds, Instr.sliceBound, asIntOf, h0, h1, h2, Addr.add, hk]
  by_cases e : cap = k
  · simp [e]
  · by_cases e0 : k = 0
    · simp [e0]
    · simp [e, e0]
theorem BytS.take {w : World} {a : Option Addr} {l : Wd} (h : BytS w a l) (k : Nat) : BytS w a (l.take k) := fun j hj => by
  rw [List.length_take] at hj
  obtain ⟨b, o, ha, h1, h2⟩ := h j (by omega)
  exact ⟨b, o, ha, h1, by rw [List.getElem_take]; exact h2⟩
theorem BytS.drop {w : World} {b o o' : Nat} {l : Wd} {k : Nat} (h : BytS w (some ⟨b, o, none⟩) l) (ho : k < l.length → o' = o + k) : BytS w (some ⟨b, o', none⟩) (l.drop k) := fun j hj => by
  rw [List.length_drop] at hj
  obtain ⟨b1, o1, e, h1, h2⟩ := h (k + j) (by omega)
  injection e with e
  injection e with e1 e2
  subst e1 e2
  refine ⟨b, o', rfl, h1, ?_⟩
  rw [List.getElem_drop, ho (by omega), Nat.add_assoc]
  exact h2
theorem BytS.later {w w1 : World} {B : Nat} {a : Option Addr} {l : Wd} (h : BytS w a l) (hb : Below B w w1) (hB : w.heap.size ≤ B) : BytS w1 a l := h.go (hb.mono hB)
/-- the answer of Unpack -/
def UnpP (B : Nat) (o : Option (List Nd × List Int)) (e : Ending) (w' : World) : Prop := match o with
  | none => e = .returned (.tuple #[.slice none 0 0, .slice none 0 0, .int .i64 100])
  | some (D, c) => ∃ aD cD aC cC, e = .returned (.tuple #[.slice aD D.length cD, .slice aC c.length cC, .int .i64 0]) ∧ D.length ≤ cD ∧ c.length ≤ cC ∧ DawgS w' aD D ∧ OwnG rowInt w' B (.slice aC c.length cC) c
theorem UnpP.none {B : Nat} {o : Option (List Nd × List Int)} {e : Ending} {w' : World} (ho : o = Option.none) (he : e = .returned (.tuple #[.slice Option.none 0 0, .slice Option.none 0 0, .int .i64 100])) : UnpP B o e w' := by subst ho; exact he
theorem RdP_none {B : Nat} {o : Option (List Nd × List Int)} {e : Ending} {w' : World} (h : RdP B o e w') (ho : o = none) : e = .returned (.tuple #[.slice none 0 0, .slice none 0 0, .bool false]) := by subst ho; exact h
theorem RdP_some {B : Nat} {o : Option (List Nd × List Int)} {e : Ending} {w' : World} {D : List Nd} {c : List Int} (h : RdP B o e w') (ho : o = some (D, c)) : ∃ aD cD aC cC, e = .returned (.tuple #[.slice aD D.length cD, .slice aC c.length cC, .bool true]) ∧ D.length ≤ cD ∧ c.length ≤ cC ∧ DawgS w' aD D ∧ OwnG rowInt w' B (.slice aC c.length cC) c ∧ CsOk D := by subst ho; exact h
theorem okP_le (k : Nat) (h : k ≤ 1073741824) : okP k = true := decide_eq_true h
def SumRow (l : Wd) (v : Value) (w : World) : Prop := ∃ g, v = .slice (some ⟨g, 0, none⟩) 4 4 ∧ BytS w (some ⟨g, 0, none⟩) (sumB l)
theorem sumRow_stays (l : Wd) : Stays (SumRow l) := by
  rintro v w w' ⟨g, rfl, h⟩ hx
  exact ⟨g, rfl, h.go hx⟩
set_option maxHeartbeats 6400000 in
set_option maxRecDepth 100000 in
theorem unpack_any (bs : Wd) (n : Nat) (a : Option Addr) (cap : Nat) (w : World) (hB : BytS w a bs) (hn : n = bs.length) (hcap : n ≤ cap) (hl : n ≤ 20000) (hT : Tab w) :
    Calls Tryd.prog 23 #[.slice a n cap] w fun e w' => UnpP w.heap.size (unpF bs) e w' ∧ Below w.heap.size w w' := by
  have HB := Lib.hid hB; have HN := Lib.hid hn; have HT := Lib.hid hT
  have hs0 := Since.refl w
  have HS := Lib.hid hs0
  clear hB hn hT hs0
  by_cases h4 : n < 4
  · have HR : Hid (unpF bs = none) := Lib.hid (no_sum fun h => by have := HN.out; omega)
    have hsub : IntKind.i64.wrap ((n : Int) - 4) = (n : Int) - 4 := IntWalk.i64_in _ (by omega)
    have hneg : (n : Int) - 4 < 0 := by omega
    go_enter Tryd.func23, Tryd.ntmps23
    go_upto_region 2 with fail
    refine wp_region_st (by kernel_rfl) (Vs [fun v _ => v = .int .i64 ((n : Int) - 4), fun v _ => v = .bool true, fun v _ => v = .bool true, fun v _ => v = undef, fun v _ => v = undef, fun v _ => v = undef, fun v _ => v = undef, fun v _ => v = undef, fun v _ => v = undef, fun v _ => v = undef, fun v _ => v = undef, fun v _ => v = undef, fun v _ => v = .bool true]) (Xs [Ext, Ext, Ext, Ext, Ext, Ext, Ext, Ext, Ext, Ext, Ext, Ext, Ext]) (fun fL => (fun W => Below w.heap.size w W) ) [0, 1, 3, 7, 7, 31, 63, 7, 7, 391, 1023, 2047, 4095] 53 13 (by kernel_rfl) rfl ?hV ?hS ?hop ?hfin ?hlast
    case hV =>
      refine xs_stays (vs_stays (by simp only [List.mem_cons, List.not_mem_nil, or_false, forall_eq_or_imp, forall_eq]; exact ⟨stays_const _, stays_const _, stays_const _, stays_const _, stays_const _, stays_const _, stays_const _, stays_const _, stays_const _, stays_const _, stays_const _, stays_const _, stays_const _⟩)) ?_
      exact ⟨.inl rfl, .inl rfl, .inl rfl, .inl rfl, .inl rfl, .inl rfl, .inl rfl, .inl rfl, .inl rfl, .inl rfl, .inl rfl, .inl rfl, .inl rfl, trivial⟩
    case hS =>
      intro fL hf
      show (fun W => Below w.heap.size w W)  _
      exact (Below.refl _ w).drew
    case hop =>
      refine ⟨?_, ?_, ?_, ?c3, ?c4, ?c5, ?c6, ?c7, ?c8, ?c9, ?c10, ?c11, ?_, trivial⟩
      all_goals first | rw [if_neg (by decide)] | rw [if_pos (by decide)]
      all_goals try intro ac W fL hsz hfi hms hdn hS0 hdep hbase hund
      all_goals try have hS : (fun W => Below w.heap.size w W)  W := hS0
      all_goals try (have h5 : ac.tmps.getD 5 undef = .int .i64 ((n : Int) - 4) := hbase 5 (by kernel_rfl); have hh5 := h5; rw [Array.getD_eq_getD_getElem?] at hh5)
      all_goals try (have h0 : ac.tmps.getD 0 undef = .slice a n cap := hbase 0 (by kernel_rfl); have hh0 := h0; rw [Array.getD_eq_getD_getElem?] at hh0)
      all_goals try (have d14 : ac.tmps.getD 14 undef = .int .i64 ((n : Int) - 4) := hdep 0 (by decide); have dd14 := d14; rw [Array.getD_eq_getD_getElem?] at dd14)
      all_goals try (have d15 : ac.tmps.getD 15 undef = .bool true := hdep 1 (by decide); have dd15 := d15; rw [Array.getD_eq_getD_getElem?] at dd15)
      all_goals try (have d16 : ac.tmps.getD 16 undef = .bool true := hdep 2 (by decide); have dd16 := d16; rw [Array.getD_eq_getD_getElem?] at dd16)
      all_goals try (have d17 : ac.tmps.getD 17 undef = undef := hdep 3 (by decide); have dd17 := d17; rw [Array.getD_eq_getD_getElem?] at dd17)
      all_goals try (have d18 : ac.tmps.getD 18 undef = undef := hdep 4 (by decide); have dd18 := d18; rw [Array.getD_eq_getD_getElem?] at dd18)
      all_goals try (have d19 : ac.tmps.getD 19 undef = undef := hdep 5 (by decide); have dd19 := d19; rw [Array.getD_eq_getD_getElem?] at dd19)
      all_goals try (have d20 : ac.tmps.getD 20 undef = undef := hdep 6 (by decide); have dd20 := d20; rw [Array.getD_eq_getD_getElem?] at dd20)
      all_goals try (have d21 : ac.tmps.getD 21 undef = undef := hdep 7 (by decide); have dd21 := d21; rw [Array.getD_eq_getD_getElem?] at dd21)
      all_goals try (have d22 : ac.tmps.getD 22 undef = undef := hdep 8 (by decide); have dd22 := d22; rw [Array.getD_eq_getD_getElem?] at dd22)
      all_goals try (have d23 : ac.tmps.getD 23 undef = undef := hdep 9 (by decide); have dd23 := d23; rw [Array.getD_eq_getD_getElem?] at dd23)
      all_goals try (have d24 : ac.tmps.getD 24 undef = undef := hdep 10 (by decide); have dd24 := d24; rw [Array.getD_eq_getD_getElem?] at dd24)
      all_goals try (have d25 : ac.tmps.getD 25 undef = undef := hdep 11 (by decide); have dd25 := d25; rw [Array.getD_eq_getD_getElem?] at dd25)
      all_goals try clear hbase hdep hms hdn hund
      case c3 => exact opOk_skip (j := 2) (d := 16) (b := true) rfl (by kernel_rfl) dd16 rfl ⟨rfl, hS0⟩
      case c4 => exact opOk_skip (j := 2) (d := 16) (b := true) rfl (by kernel_rfl) dd16 rfl ⟨rfl, hS0⟩
      case c5 => exact opOk_skip (j := 2) (d := 16) (b := true) rfl (by kernel_rfl) dd16 rfl ⟨rfl, hS0⟩
      case c6 => exact opOk_skip (j := 2) (d := 16) (b := true) rfl (by kernel_rfl) dd16 rfl ⟨rfl, hS0⟩
      case c7 => exact opOk_skip (j := 2) (d := 16) (b := true) rfl (by kernel_rfl) dd16 rfl ⟨rfl, hS0⟩
      case c8 => exact opOk_skip (j := 2) (d := 16) (b := true) rfl (by kernel_rfl) dd16 rfl ⟨rfl, hS0⟩
      case c9 => exact opOk_skip (j := 2) (d := 16) (b := true) rfl (by kernel_rfl) dd16 rfl ⟨rfl, hS0⟩
      case c10 => exact opOk_skip (j := 2) (d := 16) (b := true) rfl (by kernel_rfl) dd16 rfl ⟨rfl, hS0⟩
      case c11 => exact opOk_skip (j := 2) (d := 16) (b := true) rfl (by kernel_rfl) dd16 rfl ⟨rfl, hS0⟩
      all_goals (refine opOk_run rfl (.inl ⟨_, W, ?_, rfl, Ext.refl _, hS0⟩); clear hsz hS hS0 hfi; simp [go_sem, Act.eval, *]; done)
    case hlast =>
      intro h; exact absurd rfl h
    case hfin =>
      intro _ ac W hsz hdf fL hf hS0 hv hbase
      have hS : (fun W => Below w.heap.size w W)  W := hS0
      clear hS0
      obtain ⟨sx, hsx, hsA⟩ := act_puts [14, 15, 16, 17, 18, 19, 20, 21, 22, 23, 24, 25, 26] (by kernel_rfl) hsz hdf hbase
      have e26 : sx 26 = .bool true := (hsx 26).trans (hv 12 (by decide))
      rw [hsA]
      simp only [List.foldl]
      rw [e26]
      clear e26
      simp only [Act.put, List.setIfInBounds_toArray, List.set_cons_succ, List.set_cons_zero]
      clear hsA hsx hv hbase hsz hdf hf
      have HX := Lib.hid hS
      clear hS
      go_wp2
      (try simp only [Exit.inBlock, Exit.then]); refine bodyPost_ret (results_tmp3 rfl _ _ _) rfl ?_
      exact ⟨UnpP.none HR.out rfl, HX.out⟩
  · obtain ⟨k, hk⟩ : ∃ k, n = k + 4 := ⟨n - 4, by omega⟩
    have hk2 : bs.length - 4 = k := by have := HN.out; omega
    have hsub : IntKind.i64.wrap ((n : Int) - 4) = (k : Int) := by rw [IntWalk.i64_in _ (by omega)]; omega
    obtain ⟨b0, o0, ha, hb0, -⟩ := HB.out.at (k := 0) (by have := HN.out; omega)
    subst ha
    obtain ⟨o', ho', hhigh⟩ := slice_high_u8 b0 o0 n cap k (by omega) hcap
    have hlow := slice_low_u8 (some ⟨b0, o0, none⟩) n cap k (by omega)
    have hn4 : n - k = 4 := by omega
    rw [hn4] at hhigh
    have HTK := Lib.hid (HB.out.take k)
    have HDR := Lib.hid (HB.out.drop (k := k) (o' := o') fun h => ho' (by omega))
    have hkl : (bs.take k).length = k := by rw [List.length_take]; have := HN.out; omega
    have hdl : (bs.drop k).length = 4 := by rw [List.length_drop]; have := HN.out; omega
    have HKL := Lib.hid hkl; have HDL := Lib.hid hdl; have HK2 := Lib.hid hk2
    have hk0 : ¬ (k : Int) < 0 := by omega
    have hkc : k ≤ cap := by omega
    have hk20 : k ≤ 20000 := by omega
    have HKN := Lib.hid hk
    clear ho' hkl hdl hk2 h4 hn4 hk
    by_cases hsum : sumB (bs.take k) = bs.drop k
    · have HSD := Lib.hid (decide_eq_true hsum)
      clear hsum
      go_enter Tryd.func23, Tryd.ntmps23
      go_upto_region 2 with fail
      refine wp_region_st (by kernel_rfl) (Vs [fun v _ => v = .int .i64 (k : Int), fun v _ => v = .bool false, fun v _ => v = .bool false, fun v _ => v = .slice (some ⟨b0, o0, none⟩) n cap, fun v _ => v = .int .i64 (k : Int), fun v _ => v = .slice (some ⟨b0, o0, none⟩) k cap, SumRow (bs.take k), fun v _ => v = .slice (some ⟨b0, o0, none⟩) n cap, fun v _ => v = .int .i64 (k : Int), fun v _ => v = .slice (some ⟨b0, o', none⟩) 4 (cap - k), fun v _ => v = .bool true, fun v _ => v = .bool false, fun v _ => v = .bool false]) (Xs [Ext, Ext, Ext, Ext, Ext, Ext, Ext, Ext, Ext, Ext, Ext, Ext, Ext]) (fun fL => (fun W => Below w.heap.size w W) ) [0, 1, 3, 7, 7, 31, 63, 7, 7, 391, 1023, 2047, 4095] 53 13 (by kernel_rfl) rfl ?hV ?hS ?hop ?hfin ?hlast
      case hV =>
        refine xs_stays (vs_stays (by simp only [List.mem_cons, List.not_mem_nil, or_false, forall_eq_or_imp, forall_eq]; exact ⟨stays_const _, stays_const _, stays_const _, stays_const _, stays_const _, stays_const _, sumRow_stays _, stays_const _, stays_const _, stays_const _, stays_const _, stays_const _, stays_const _⟩)) ?_
        exact ⟨.inl rfl, .inl rfl, .inl rfl, .inl rfl, .inl rfl, .inl rfl, .inl rfl, .inl rfl, .inl rfl, .inl rfl, .inl rfl, .inl rfl, .inl rfl, trivial⟩
      case hS =>
        intro fL hf
        show (fun W => Below w.heap.size w W)  _
        exact (Below.refl _ w).drew
      case hop =>
        refine ⟨?_, ?_, ?_, ?c3, ?c4, ?c5, ?c6, ?c7, ?c8, ?c9, ?c10, ?c11, ?_, trivial⟩
        all_goals first | rw [if_neg (by decide)] | rw [if_pos (by decide)]
        all_goals try intro ac W fL hsz hfi hms hdn hS0 hdep hbase hund
        all_goals try have hS : (fun W => Below w.heap.size w W)  W := hS0
        all_goals try (have h5 : ac.tmps.getD 5 undef = .int .i64 (k : Int) := hbase 5 (by kernel_rfl); have hh5 := h5; rw [Array.getD_eq_getD_getElem?] at hh5)
        all_goals try (have h0 : ac.tmps.getD 0 undef = .slice (some ⟨b0, o0, none⟩) n cap := hbase 0 (by kernel_rfl); have hh0 := h0; rw [Array.getD_eq_getD_getElem?] at hh0)
        all_goals try (have d14 : ac.tmps.getD 14 undef = .int .i64 (k : Int) := hdep 0 (by decide); have dd14 := d14; rw [Array.getD_eq_getD_getElem?] at dd14)
        all_goals try (have d15 : ac.tmps.getD 15 undef = .bool false := hdep 1 (by decide); have dd15 := d15; rw [Array.getD_eq_getD_getElem?] at dd15)
        all_goals try (have d16 : ac.tmps.getD 16 undef = .bool false := hdep 2 (by decide); have dd16 := d16; rw [Array.getD_eq_getD_getElem?] at dd16)
        all_goals try (have d17 : ac.tmps.getD 17 undef = .slice (some ⟨b0, o0, none⟩) n cap := hdep 3 (by decide); have dd17 := d17; rw [Array.getD_eq_getD_getElem?] at dd17)
        all_goals try (have d18 : ac.tmps.getD 18 undef = .int .i64 (k : Int) := hdep 4 (by decide); have dd18 := d18; rw [Array.getD_eq_getD_getElem?] at dd18)
        all_goals try (have d19 : ac.tmps.getD 19 undef = .slice (some ⟨b0, o0, none⟩) k cap := hdep 5 (by decide); have dd19 := d19; rw [Array.getD_eq_getD_getElem?] at dd19)
        all_goals try have d20 : (SumRow (bs.take k)) (ac.tmps.getD 20 undef) W := hdep 6 (by decide)
        all_goals try (have d21 : ac.tmps.getD 21 undef = .slice (some ⟨b0, o0, none⟩) n cap := hdep 7 (by decide); have dd21 := d21; rw [Array.getD_eq_getD_getElem?] at dd21)
        all_goals try (have d22 : ac.tmps.getD 22 undef = .int .i64 (k : Int) := hdep 8 (by decide); have dd22 := d22; rw [Array.getD_eq_getD_getElem?] at dd22)
        all_goals try (have d23 : ac.tmps.getD 23 undef = .slice (some ⟨b0, o', none⟩) 4 (cap - k) := hdep 9 (by decide); have dd23 := d23; rw [Array.getD_eq_getD_getElem?] at dd23)
        all_goals try (have d24 : ac.tmps.getD 24 undef = .bool true := hdep 10 (by decide); have dd24 := d24; rw [Array.getD_eq_getD_getElem?] at dd24)
        all_goals try (have d25 : ac.tmps.getD 25 undef = .bool false := hdep 11 (by decide); have dd25 := d25; rw [Array.getD_eq_getD_getElem?] at dd25)
        all_goals try clear hbase hdep hms hdn hund
        case c3 => refine opOk_runG (j := 2) (d := 16) (b := false) rfl (by kernel_rfl) dd16 rfl (.inl ⟨_, W, ?_, rfl, Ext.refl _, hS0⟩); clear hsz hS hS0 hfi; simp [go_sem, Act.eval, *]
        case c4 => refine opOk_runG (j := 2) (d := 16) (b := false) rfl (by kernel_rfl) dd16 rfl (.inl ⟨_, W, ?_, rfl, Ext.refl _, hS0⟩); clear hsz hS hS0 hfi; simp [go_sem, Act.eval, *]
        case c5 => refine opOk_runG (j := 2) (d := 16) (b := false) rfl (by kernel_rfl) dd16 rfl (.inl ⟨_, W, ?_, rfl, Ext.refl _, hS0⟩); clear hsz hS hS0 hfi; simp [go_sem, Act.eval, *]
        case c6 =>
          refine opOk_runG (j := 2) (d := 16) (b := false) rfl (by kernel_rfl) dd16 rfl (.inr ⟨35, #[.slice (some ⟨b0, o0, none⟩) k cap], W, by (clear hsz hS hS0 hfi; simp [go_sem, Act.eval, *]), ?_⟩)
          refine (sum_any (bs.take k) k _ cap W (HTK.out.go hS) HKL.out.symm (by omega)).mono ?_
          rintro e w8 ⟨g, rfl, ho8, hb8⟩
          exact ⟨_, rfl, ⟨g, rfl, ho8.byts.1⟩, hb8, Below.trans hS (Below.mono hb8 hS.size)⟩
        case c7 => refine opOk_runG (j := 2) (d := 16) (b := false) rfl (by kernel_rfl) dd16 rfl (.inl ⟨_, W, ?_, rfl, Ext.refl _, hS0⟩); clear hsz hS hS0 hfi; simp [go_sem, Act.eval, *]
        case c8 => refine opOk_runG (j := 2) (d := 16) (b := false) rfl (by kernel_rfl) dd16 rfl (.inl ⟨_, W, ?_, rfl, Ext.refl _, hS0⟩); clear hsz hS hS0 hfi; simp [go_sem, Act.eval, *]
        case c9 => refine opOk_runG (j := 2) (d := 16) (b := false) rfl (by kernel_rfl) dd16 rfl (.inl ⟨_, W, ?_, rfl, Ext.refl _, hS0⟩); clear hsz hS hS0 hfi; simp [go_sem, Act.eval, *]
        case c10 =>
          obtain ⟨g, e20, hg20⟩ := d20
          have dd20 := e20
          rw [Array.getD_eq_getD_getElem?] at dd20
          refine opOk_runG (j := 2) (d := 16) (b := false) rfl (by kernel_rfl) dd16 rfl (.inr ⟨45, #[.slice (some ⟨g, 0, none⟩) 4 4, .slice (some ⟨b0, o', none⟩) 4 (cap - k)], W, by (clear hsz hS hS0 hfi hg20; simp [go_sem, Act.eval, *]), ?_⟩)
          refine (equalB_any _ _ 4 4 _ _ 4 (cap - k) W hg20 (HDR.out.go hS) (sumB_len _).symm HDL.out.symm (by omega) (by omega)).mono ?_
          rintro e w8 ⟨he, hb8⟩
          rw [HSD.out] at he
          exact ⟨_, he, rfl, hb8, Below.trans hS (Below.mono hb8 hS.size)⟩
        case c11 => refine opOk_runG (j := 2) (d := 16) (b := false) rfl (by kernel_rfl) dd16 rfl (.inl ⟨_, W, ?_, rfl, Ext.refl _, hS0⟩); clear hsz hS hS0 hfi; simp [go_sem, Act.eval, *]
        all_goals (refine opOk_run rfl (.inl ⟨_, W, ?_, rfl, Ext.refl _, hS0⟩); clear hsz hS hS0 hfi; simp [go_sem, Act.eval, *]; done)
      case hlast =>
        intro h; exact absurd rfl h
      case hfin =>
        intro _ ac W hsz hdf fL hf hS0 hv hbase
        have hS : (fun W => Below w.heap.size w W)  W := hS0
        clear hS0
        obtain ⟨sx, hsx, hsA⟩ := act_puts [14, 15, 16, 17, 18, 19, 20, 21, 22, 23, 24, 25, 26] (by kernel_rfl) hsz hdf hbase
        have e26 : sx 26 = .bool false := (hsx 26).trans (hv 12 (by decide))
        rw [hsA]
        simp only [List.foldl]
        rw [e26]
        clear e26
        simp only [Act.put, List.setIfInBounds_toArray, List.set_cons_succ, List.set_cons_zero]
        clear hsA hsx hv hbase hsz hdf hf
        have HS1 : Hid (Since w W) := Lib.hid ⟨hS⟩
        clear hS
        obtain ⟨w1, hw1⟩ : ∃ w1, W = w1 := ⟨_, rfl⟩
        subst hw1
        go_wp2_with fail
        refine (read_any (bs.take k) k _ cap _ (HTK.out.go HS1.out.out) HKL.out.symm hkc hk20 (HT.out.go HS1.out.out)).mono ?_
        intro e w2 hp2
        obtain ⟨hp, hb⟩ := hp2
        have HS2 := Lib.hid (HS1.out.go hb)
        cases hq : readF okP okT (bs.take k) with
        | none =>
          have HR : Hid (unpF bs = none) := Lib.hid (no_read okP_le (fun _ _ => rfl) (by rw [HK2.out]; exact hq))
          obtain rfl := RdP_none hp hq
          clear hp hq hb
          go_wp2
          (try simp only [Exit.inBlock, Exit.then]); refine bodyPost_ret (results_tmp3 rfl _ _ _) rfl ?_
          exact ⟨UnpP.none HR.out rfl, HS2.out.out⟩
        | some p =>
          obtain ⟨D, c⟩ := p
          obtain ⟨aD, cD, aC, cC, rfl, hcD, hcC, hdw, hown, hcs⟩ := RdP_some hp hq
          have hint := hown.ints.1
          have HOC := Lib.hid (hown.mono HS1.out.out.size)
          obtain ⟨hv, hsz, hcl⟩ := readF_some hq
          have HNO := Lib.hid (fun hne => no_again okP_le (fun _ _ => rfl) (b := bs) (D := D) (c := c) (by rw [HK2.out]; exact hq) hne)
          have hszD : sizeN D ≤ 20000 := by have := HKL.out; omega
          have hlD := (sizeN_M D).2
          have hlc := wordsF_len D
          obtain ⟨nD, hnD⟩ : ∃ nD, D.length = nD := ⟨_, rfl⟩
          obtain ⟨nC, hnC⟩ : ∃ nC, c.length = nC := ⟨_, rfl⟩
          rw [hnD] at hcD hlD ⊢
          rw [hnC] at hcC hcl ⊢
          have hnD20 : nD ≤ 20000 := by omega
          have hnC20 : nC ≤ 20000 := by omega
          have HND := Lib.hid hnD; have HNC := Lib.hid hnC; have HV := Lib.hid hv; have HDW := Lib.hid hdw; have HIN := Lib.hid hint; have HCS := Lib.hid hcs; have HSZ := Lib.hid hszD
          clear hp hq hb hdw hint hown hcs hnD hnC hv hszD hsz hlD hcl hlc
          go_wp2_with fail
          refine (pack_any D nD cD aD c nC cC aC w2 HDW.out HND.out.symm HSZ.out HCS.out HIN.out HNC.out.symm (by omega) (HT.out.go HS2.out.out)).mono ?_
          rintro e w3 ⟨hr, hb3⟩
          have HSW := Lib.hid (HS2.out.go hb3)
          have HB3 := Lib.hid hb3
          clear hb3
          rcases hr with ⟨h1, he⟩ | ⟨h1, h2, he⟩ | ⟨h1, h2, v3, he, ho⟩
          · exact absurd (HV.out.symm.trans h1) (by decide)
          · have HR : Hid (unpF bs = none) := Lib.hid (HNO.out fun h => by have := (isPack_cnt h).2.1; rw [h2] at this; cases this)
            subst he
            clear h1 h2
            go_wp2
            (try simp only [Exit.inBlock, Exit.then]); refine bodyPost_ret (results_tmp3 rfl _ _ _) rfl ?_
            exact ⟨UnpP.none HR.out rfl, HSW.out.out⟩

          · have HCT := Lib.hid h2
            obtain ⟨a9, c9, rfl, -, -⟩ := ho.form
            obtain ⟨n9, hn9'⟩ : ∃ n9, (packB D c).length = n9 := ⟨_, rfl⟩
            rw [hn9'] at ho he
            subst he
            have HOWN := Lib.hid ho; have HN9 := Lib.hid hn9'.symm
            have hn9 : n9 ≤ 9223372036854775807 := by
              obtain ⟨_, _, e, h5, h6⟩ := ho.form
              unfold maxLen at h6
              have := HN9.out
              omega
            clear ho hn9' h1 h2
            by_cases heq : packB D c = bs
            · have HR : Hid (unpF bs = some (D, c)) := Lib.hid (unpF_yes (isPack_of HV.out HCT.out heq))
              have HEQ := Lib.hid (decide_eq_true heq)
              clear heq
              go_wp2_with fail
              refine (equalB_any _ _ n9 n a9 _ c9 cap w3 HOWN.out.byts.1 (HB.out.go HSW.out.out) HN9.out HN.out hn9 (by omega)).mono ?_
              rintro e w8 ⟨he, hb8⟩
              rw [HEQ.out] at he
              subst he
              replace HSW := Lib.hid (HSW.out.go hb8)
              have HX3 := Lib.hid (HB3.out.trans (Below.mono hb8 HB3.out.size))
              clear hb8
              go_wp2
              (try simp only [Exit.inBlock, Exit.then]); refine bodyPost_ret (results_tmp3 rfl _ _ _) rfl ?_
              refine ⟨?_, HSW.out.out⟩
              rw [HR.out]
              exact ⟨aD, cD, aC, cC, (by rw [HND.out, HNC.out]; rfl), by rw [HND.out]; exact hcD, by rw [HNC.out]; exact hcC, HDW.out.later HX3.out (Nat.le_refl _), HOC.out.later HX3.out (Nat.le_refl _)⟩

            · have HR : Hid (unpF bs = none) := Lib.hid (HNO.out fun h => heq (isPack_cnt h).2.2)
              have HEQ := Lib.hid (decide_eq_false heq)
              clear heq
              go_wp2_with fail
              refine (equalB_any _ _ n9 n a9 _ c9 cap w3 HOWN.out.byts.1 (HB.out.go HSW.out.out) HN9.out HN.out hn9 (by omega)).mono ?_
              rintro e w8 ⟨he, hb8⟩
              rw [HEQ.out] at he
              subst he
              replace HSW := Lib.hid (HSW.out.go hb8)
              have HX3 := Lib.hid (HB3.out.trans (Below.mono hb8 HB3.out.size))
              clear hb8
              go_wp2
              (try simp only [Exit.inBlock, Exit.then]); refine bodyPost_ret (results_tmp3 rfl _ _ _) rfl ?_
              exact ⟨UnpP.none HR.out rfl, HSW.out.out⟩
    · have HR : Hid (unpF bs = none) := Lib.hid (no_sum fun h => hsum (by have := h.2; rwa [HK2.out] at this))
      have HSD := Lib.hid (decide_eq_false hsum)
      clear hsum
      go_enter Tryd.func23, Tryd.ntmps23
      go_upto_region 2 with fail
      refine wp_region_st (by kernel_rfl) (Vs [fun v _ => v = .int .i64 (k : Int), fun v _ => v = .bool false, fun v _ => v = .bool false, fun v _ => v = .slice (some ⟨b0, o0, none⟩) n cap, fun v _ => v = .int .i64 (k : Int), fun v _ => v = .slice (some ⟨b0, o0, none⟩) k cap, SumRow (bs.take k), fun v _ => v = .slice (some ⟨b0, o0, none⟩) n cap, fun v _ => v = .int .i64 (k : Int), fun v _ => v = .slice (some ⟨b0, o', none⟩) 4 (cap - k), fun v _ => v = .bool false, fun v _ => v = .bool true, fun v _ => v = .bool true]) (Xs [Ext, Ext, Ext, Ext, Ext, Ext, Ext, Ext, Ext, Ext, Ext, Ext, Ext]) (fun fL => (fun W => Below w.heap.size w W) ) [0, 1, 3, 7, 7, 31, 63, 7, 7, 391, 1023, 2047, 4095] 53 13 (by kernel_rfl) rfl ?hV ?hS ?hop ?hfin ?hlast
      case hV =>
        refine xs_stays (vs_stays (by simp only [List.mem_cons, List.not_mem_nil, or_false, forall_eq_or_imp, forall_eq]; exact ⟨stays_const _, stays_const _, stays_const _, stays_const _, stays_const _, stays_const _, sumRow_stays _, stays_const _, stays_const _, stays_const _, stays_const _, stays_const _, stays_const _⟩)) ?_
        exact ⟨.inl rfl, .inl rfl, .inl rfl, .inl rfl, .inl rfl, .inl rfl, .inl rfl, .inl rfl, .inl rfl, .inl rfl, .inl rfl, .inl rfl, .inl rfl, trivial⟩
      case hS =>
        intro fL hf
        show (fun W => Below w.heap.size w W)  _
        exact (Below.refl _ w).drew
      case hop =>
        refine ⟨?_, ?_, ?_, ?c3, ?c4, ?c5, ?c6, ?c7, ?c8, ?c9, ?c10, ?c11, ?_, trivial⟩
        all_goals first | rw [if_neg (by decide)] | rw [if_pos (by decide)]
        all_goals try intro ac W fL hsz hfi hms hdn hS0 hdep hbase hund
        all_goals try have hS : (fun W => Below w.heap.size w W)  W := hS0
        all_goals try (have h5 : ac.tmps.getD 5 undef = .int .i64 (k : Int) := hbase 5 (by kernel_rfl); have hh5 := h5; rw [Array.getD_eq_getD_getElem?] at hh5)
        all_goals try (have h0 : ac.tmps.getD 0 undef = .slice (some ⟨b0, o0, none⟩) n cap := hbase 0 (by kernel_rfl); have hh0 := h0; rw [Array.getD_eq_getD_getElem?] at hh0)
        all_goals try (have d14 : ac.tmps.getD 14 undef = .int .i64 (k : Int) := hdep 0 (by decide); have dd14 := d14; rw [Array.getD_eq_getD_getElem?] at dd14)
        all_goals try (have d15 : ac.tmps.getD 15 undef = .bool false := hdep 1 (by decide); have dd15 := d15; rw [Array.getD_eq_getD_getElem?] at dd15)
        all_goals try (have d16 : ac.tmps.getD 16 undef = .bool false := hdep 2 (by decide); have dd16 := d16; rw [Array.getD_eq_getD_getElem?] at dd16)
        all_goals try (have d17 : ac.tmps.getD 17 undef = .slice (some ⟨b0, o0, none⟩) n cap := hdep 3 (by decide); have dd17 := d17; rw [Array.getD_eq_getD_getElem?] at dd17)
        all_goals try (have d18 : ac.tmps.getD 18 undef = .int .i64 (k : Int) := hdep 4 (by decide); have dd18 := d18; rw [Array.getD_eq_getD_getElem?] at dd18)
        all_goals try (have d19 : ac.tmps.getD 19 undef = .slice (some ⟨b0, o0, none⟩) k cap := hdep 5 (by decide); have dd19 := d19; rw [Array.getD_eq_getD_getElem?] at dd19)
        all_goals try have d20 : (SumRow (bs.take k)) (ac.tmps.getD 20 undef) W := hdep 6 (by decide)
        all_goals try (have d21 : ac.tmps.getD 21 undef = .slice (some ⟨b0, o0, none⟩) n cap := hdep 7 (by decide); have dd21 := d21; rw [Array.getD_eq_getD_getElem?] at dd21)
        all_goals try (have d22 : ac.tmps.getD 22 undef = .int .i64 (k : Int) := hdep 8 (by decide); have dd22 := d22; rw [Array.getD_eq_getD_getElem?] at dd22)
        all_goals try (have d23 : ac.tmps.getD 23 undef = .slice (some ⟨b0, o', none⟩) 4 (cap - k) := hdep 9 (by decide); have dd23 := d23; rw [Array.getD_eq_getD_getElem?] at dd23)
        all_goals try (have d24 : ac.tmps.getD 24 undef = .bool false := hdep 10 (by decide); have dd24 := d24; rw [Array.getD_eq_getD_getElem?] at dd24)
        all_goals try (have d25 : ac.tmps.getD 25 undef = .bool true := hdep 11 (by decide); have dd25 := d25; rw [Array.getD_eq_getD_getElem?] at dd25)
        all_goals try clear hbase hdep hms hdn hund
        case c3 => refine opOk_runG (j := 2) (d := 16) (b := false) rfl (by kernel_rfl) dd16 rfl (.inl ⟨_, W, ?_, rfl, Ext.refl _, hS0⟩); clear hsz hS hS0 hfi; simp [go_sem, Act.eval, *]
        case c4 => refine opOk_runG (j := 2) (d := 16) (b := false) rfl (by kernel_rfl) dd16 rfl (.inl ⟨_, W, ?_, rfl, Ext.refl _, hS0⟩); clear hsz hS hS0 hfi; simp [go_sem, Act.eval, *]
        case c5 => refine opOk_runG (j := 2) (d := 16) (b := false) rfl (by kernel_rfl) dd16 rfl (.inl ⟨_, W, ?_, rfl, Ext.refl _, hS0⟩); clear hsz hS hS0 hfi; simp [go_sem, Act.eval, *]
        case c6 =>
          refine opOk_runG (j := 2) (d := 16) (b := false) rfl (by kernel_rfl) dd16 rfl (.inr ⟨35, #[.slice (some ⟨b0, o0, none⟩) k cap], W, by (clear hsz hS hS0 hfi; simp [go_sem, Act.eval, *]), ?_⟩)
          refine (sum_any (bs.take k) k _ cap W (HTK.out.go hS) HKL.out.symm (by omega)).mono ?_
          rintro e w8 ⟨g, rfl, ho8, hb8⟩
          exact ⟨_, rfl, ⟨g, rfl, ho8.byts.1⟩, hb8, Below.trans hS (Below.mono hb8 hS.size)⟩
        case c7 => refine opOk_runG (j := 2) (d := 16) (b := false) rfl (by kernel_rfl) dd16 rfl (.inl ⟨_, W, ?_, rfl, Ext.refl _, hS0⟩); clear hsz hS hS0 hfi; simp [go_sem, Act.eval, *]
        case c8 => refine opOk_runG (j := 2) (d := 16) (b := false) rfl (by kernel_rfl) dd16 rfl (.inl ⟨_, W, ?_, rfl, Ext.refl _, hS0⟩); clear hsz hS hS0 hfi; simp [go_sem, Act.eval, *]
        case c9 => refine opOk_runG (j := 2) (d := 16) (b := false) rfl (by kernel_rfl) dd16 rfl (.inl ⟨_, W, ?_, rfl, Ext.refl _, hS0⟩); clear hsz hS hS0 hfi; simp [go_sem, Act.eval, *]
        case c10 =>
          obtain ⟨g, e20, hg20⟩ := d20
          have dd20 := e20
          rw [Array.getD_eq_getD_getElem?] at dd20
          refine opOk_runG (j := 2) (d := 16) (b := false) rfl (by kernel_rfl) dd16 rfl (.inr ⟨45, #[.slice (some ⟨g, 0, none⟩) 4 4, .slice (some ⟨b0, o', none⟩) 4 (cap - k)], W, by (clear hsz hS hS0 hfi hg20; simp [go_sem, Act.eval, *]), ?_⟩)
          refine (equalB_any _ _ 4 4 _ _ 4 (cap - k) W hg20 (HDR.out.go hS) (sumB_len _).symm HDL.out.symm (by omega) (by omega)).mono ?_
          rintro e w8 ⟨he, hb8⟩
          rw [HSD.out] at he
          exact ⟨_, he, rfl, hb8, Below.trans hS (Below.mono hb8 hS.size)⟩
        case c11 => refine opOk_runG (j := 2) (d := 16) (b := false) rfl (by kernel_rfl) dd16 rfl (.inl ⟨_, W, ?_, rfl, Ext.refl _, hS0⟩); clear hsz hS hS0 hfi; simp [go_sem, Act.eval, *]
        all_goals (refine opOk_run rfl (.inl ⟨_, W, ?_, rfl, Ext.refl _, hS0⟩); clear hsz hS hS0 hfi; simp [go_sem, Act.eval, *]; done)
      case hlast =>
        intro h; exact absurd rfl h
      case hfin =>
        intro _ ac W hsz hdf fL hf hS0 hv hbase
        have hS : (fun W => Below w.heap.size w W)  W := hS0
        clear hS0
        obtain ⟨sx, hsx, hsA⟩ := act_puts [14, 15, 16, 17, 18, 19, 20, 21, 22, 23, 24, 25, 26] (by kernel_rfl) hsz hdf hbase
        have e26 : sx 26 = .bool true := (hsx 26).trans (hv 12 (by decide))
        rw [hsA]
        simp only [List.foldl]
        rw [e26]
        clear e26
        simp only [Act.put, List.setIfInBounds_toArray, List.set_cons_succ, List.set_cons_zero]
        clear hsA hsx hv hbase hsz hdf hf
        have HX := Lib.hid hS
        clear hS
        go_wp2
        (try simp only [Exit.inBlock, Exit.then]); refine bodyPost_ret (results_tmp3 rfl _ _ _) rfl ?_
        exact ⟨UnpP.none HR.out rfl, HX.out⟩
end Go.Proofs.YtocdljmdmiphnaaDoor
