/- Reference 02's Made: rows of rules that may begin behind the first rule of a full row. -/
import Derived.Test.YtogjcfcfgnbmkaaBase
namespace Go.Proofs.Ytogjcfcfgnbmkaa
open Go.RowKit
set_option linter.unusedVariables false
set_option linter.unusedSimpArgs false

/-- the rules R: a row of the call's own, or what follows the first rule of a full one -/
def RowP (w : World) (B : Nat) (v : Value) (R : List Rl) : Prop :=
  OwnR w B v R ∨ ∃ (g : Nat) (r0 : Rl), v = .slice (some ⟨g, 5, none⟩) R.length R.length ∧ B ≤ g ∧ w.heap[g]? = some (.cells (rcells (r0 :: R)).toArray 29 (0, 0))
section
variable {w w1 : World} {B C : Nat} {v : Value} {R : List Rl}
theorem RowP.below (h : RowP w B v R) (hb : Below C w w1) (hv : ∀ g, v.ownBlock = some g → g < C) : RowP w1 B v R := by
  refine h.imp (fun h => h.below hb hv) ?_
  rintro ⟨g, r0, rfl, h1, h2⟩
  exact ⟨g, r0, rfl, h1, (hb.block g (hv g rfl)).trans h2⟩
theorem RowP.ge (h : RowP w B v R) : ∀ g, v.ownBlock = some g → B ≤ g := by
  rcases h with h | ⟨g, r0, rfl, h1, h2⟩
  · exact h.ge
  · intro q hq; cases hq; exact h1
theorem RowP.lt (h : RowP w B v R) : ∀ g, v.ownBlock = some g → g < w.heap.size := by
  rcases h with h | ⟨g, r0, rfl, h1, h2⟩
  · exact h.lt
  · intro q hq; cases hq; exact (Array.getElem?_eq_some_iff.1 h2).1
theorem rowp_cells {g : Nat} {r0 : Rl} (h2 : w.heap[g]? = some (.cells (rcells (r0 :: R)).toArray 29 (0, 0))) : ∀ j u, (rcells R)[j]? = some u → w.cell? ((⟨g, 5, none⟩ : Addr).add j) = some u := by
  intro j u hj
  rw [Addr.add_lit, cell_of_row w g (5 + j) _ _ (0, 0) h2, List.getElem?_toArray]
  rw [show rcells (r0 :: R) = r0.cells ++ rcells R by simp [rcells], List.getElem?_append_right (by simp [Rl.cells])]
  rw [← hj]; congr 1; simp [Rl.cells]
theorem RowP.rules (h : RowP w B v R) : ∃ a c, v = .slice a R.length c ∧ RulS w a R ∧ R.length ≤ c := by
  rcases h with h | ⟨g, r0, rfl, h1, h2⟩
  · exact h.rules
  · refine ⟨_, _, rfl, .inr ⟨g, 5, rfl, (Array.getElem?_eq_some_iff.1 h2).1, fun i hi => ?_⟩, Nat.le_refl _⟩
    have hc : ∀ j, j < 5 → w.cell? ⟨g, 5 + i * 5 + j, none⟩ = R[i].cells[j]? := fun j hj => by
      have hg := rcells_get (R := R) hi hj
      cases hq : R[i].cells[j]? with
      | none => simp [Rl.cells] at hq; omega
      | some u =>
        rw [hq] at hg
        have := rowp_cells h2 (i * 5 + j) u hg
        rw [Addr.add_lit] at this
        rw [Nat.add_assoc]
        exact this
    exact ⟨hc 0 (by omega), hc 1 (by omega), hc 2 (by omega), hc 3 (by omega), hc 4 (by omega)⟩
theorem RowP.set {g i : Nat} {u : Value} (h : RowP w B v R) (hg : g < B) : RowP (w.setCell ⟨g, i, none⟩ u) B v R := by
  refine h.imp (fun h => h.set hg) ?_
  rintro ⟨b, r0, rfl, h1, h2⟩
  refine ⟨b, r0, rfl, h1, ?_⟩
  rw [Below.heap_setCell _ _ _ _ (by show b ≠ g; omega)]; exact h2
end
/-- append of one rule -/
theorem opres_rowp {A : Act} {W : World} {o : Oper} {s x : Operand} {B : Nat} {v u : Value} {R : List Rl} {r : Rl}
    (ho : o.op = .call { callee := .builtin .append, args := #[s, x], argTypes := #[31, 31] }) (hs : A.eval s = v) (hown : RowP W B v R) (hx : A.eval x = u) (hu : RowOne v r u W) (hl : R.length < 1000) (hB : B ≤ W.heap.size) :
    OpRes Try.prog A o W (fun v' w' => OwnR w' B v' (R ++ [r]) ∧ W.grownBy w' v.ownBlock) := by
  rcases hown with hown | ⟨g0, r0, hv0, h1, h2⟩
  · exact opres_rule ho hs hown hx hu hl hB
  · obtain ⟨i0, hi, hz0, hz1, hz2⟩ := info_parts A_info_rule
    obtain ⟨g, hv, hg, hne⟩ := hu
    have h63 : R.length + 1 ≤ maxLen := by unfold maxLen; omega
    have hr := run_append_grow (P := Try.prog) W 31 o.type 29 i0 _ Try.underlying31 hi hz0 ⟨g0, 5, none⟩ R.length R.length (rcells R) (by rw [hz1]; exact rcells_len R) (rowp_cells h2) ⟨g, 0, none⟩ 1 1 r.cells (by rw [hz1]; rfl) (rule_cells_at hg) (by omega) (by omega) (growslice_fits (by omega) (by rw [hz2]; omega))
    obtain ⟨v', w', hv', hw', hr⟩ : ∃ v' w', v' = _ ∧ w' = _ ∧ (Builtin.append_ #[31, 31] o.type #[.slice (some ⟨g0, 5, none⟩) R.length R.length, .slice (some ⟨g, 0, none⟩) 1 1]).run Try.prog W = .ok v' w' := ⟨_, _, rfl, rfl, hr⟩
    refine .inl ⟨v', w', ?_, ?_, ?_⟩
    · unfold execOp
      simp only [ho, resolve, invoke, builtin, Sem.run_bind, Sem.run_pure, Result.andThen_ok, List.map_toArray, List.map_cons, List.map_nil, hs, hx, hv, hv0, hr]
    · subst hv' hw'
      have e : rcells R ++ r.cells = rcells (R ++ [r]) := by simp [rcells]
      have e2 : (R ++ [r]).length = R.length + 1 := by simp
      have hge := grownCap_ge W (R.length + 1) R.length 29
      refine ⟨by rw [rcells_len], .inr ⟨W.heap.size, _, _, by rw [e2], hB, heap_alloc_new W.drew _, by rw [e2]; exact hge, grownCap_le_maxLen W (R.length + 1) R.length _ h63, ?_, ?_⟩⟩
      · simp only [Array.size_append, List.size_toArray, size_zeroCells, rcells_len]
        have : r.cells.length = 5 := rfl
        rw [this]
        simp [Value.cells]
        omega
      · simp only [Array.toList_append, List.append_assoc]
        rw [← List.append_assoc, e, ← rcells_len]
        exact List.take_left
    · subst hw'
      exact ⟨rfl, rfl, rfl, by simp, fun k hk _ => Below.heap_alloc W.drew _ k hk⟩
end Go.Proofs.Ytogjcfcfgnbmkaa
