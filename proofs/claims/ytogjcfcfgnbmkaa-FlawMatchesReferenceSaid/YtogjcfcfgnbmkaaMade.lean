/- Contract of reference 04: Made: a valid scheme of at most 5 modes and 12 rules. -/
import Derived.Test.YtogjcfcfgnbmkaaNext2
import Derived.Test.YtogjcfcfgnbmkaaRef2
import Derived.Test.YtogjcfcfgnbmkaaOpen
import Derived.Test.YtogjcfcfgnbmkaaRegionX
namespace Go.Proofs.Ytogjcfcfgnbmkaa
open Go.RowKit
set_option linter.unusedVariables false
set_option linter.unusedSimpArgs false

def Rl.cells (r : Rl) : List Value := [.int .i64 r.frm, .int .i64 r.dst, .string r.inp, .string r.out, .int .i64 r.cost]
def rcells (R : List Rl) : List Value := R.flatMap Rl.cells
theorem rcells_len (R : List Rl) : (rcells R).length = R.length * 5 := by
  induction R with
  | nil => rfl
  | cons r R ih => rw [rcells, List.flatMap_cons, List.length_append]; have : (R.flatMap Rl.cells).length = R.length * 5 := ih; rw [this]; simp [Rl.cells]; omega
theorem rcells_get : ∀ {R : List Rl} {i j : Nat} (hi : i < R.length) (hj : j < 5), (rcells R)[i * 5 + j]? = R[i].cells[j]?
  | r :: R, 0, j, _, hj => by
    rw [rcells, List.flatMap_cons, Nat.zero_mul, Nat.zero_add, List.getElem?_append_left (by simp [Rl.cells]; omega)]; rfl
  | r :: R, i + 1, j, hi, hj => by
    rw [rcells, List.flatMap_cons, List.getElem?_append_right (by simp [Rl.cells]; omega)]
    have : (i + 1) * 5 + j - r.cells.length = i * 5 + j := by simp [Rl.cells]; omega
    rw [this]
    exact rcells_get (R := R) (by simpa using hi) hj
/-- the rules R lie in a row of their own from block B on (or the slice is nil) -/
def OwnR (w : World) (B : Nat) (v : Value) (R : List Rl) : Prop := w.ownsRow B 29 5 v R.length (rcells R)
theorem OwnR.rules {w : World} {B : Nat} {v : Value} {R : List Rl} (h : OwnR w B v R) : ∃ a c, v = .slice a R.length c ∧ RulS w a R ∧ R.length ≤ c := by
  rcases id h.2 with ⟨rfl, h0⟩ | ⟨g, cap, cur, rfl, h1, h2, h3, h4⟩
  · obtain rfl : R = [] := List.eq_nil_of_length_eq_zero h0
    exact ⟨none, 0, rfl, .inl rfl, Nat.le_refl _⟩
  · refine ⟨some ⟨g, 0, none⟩, cap, rfl, .inr ⟨g, 0, rfl, (Array.getElem?_eq_some_iff.1 h2).1, fun i hi => ?_⟩, h3⟩
    have hc : ∀ j, j < 5 → w.cell? ⟨g, 0 + i * 5 + j, none⟩ = R[i].cells[j]? := fun j hj => by
      have hg := rcells_get (R := R) hi hj
      cases hq : R[i].cells[j]? with
      | none => simp [Rl.cells] at hq; omega
      | some u =>
        rw [hq] at hg
        have := World.ownsRow.cells (g := g) h rfl (i * 5 + j) u hg
        rw [Addr.add_lit] at this
        rw [Nat.zero_add] at this ⊢
        exact this
    exact ⟨hc 0 (by omega), hc 1 (by omega), hc 2 (by omega), hc 3 (by omega), hc 4 (by omega)⟩
theorem OwnR.below {w w1 : World} {B C : Nat} {v : Value} {R : List Rl} (h : OwnR w B v R) (hb : Below C w w1) (hv : ∀ g, v.ownBlock = some g → g < C) : OwnR w1 B v R := by
  refine ⟨h.1, h.2.imp id ?_⟩
  rintro ⟨g, cap, cur, rfl, h1, h2, h3⟩
  exact ⟨g, cap, cur, rfl, h1, (hb.block g (hv g rfl)).trans h2, h3⟩
theorem OwnR.ge {w : World} {B : Nat} {v : Value} {R : List Rl} (h : OwnR w B v R) : ∀ g, v.ownBlock = some g → B ≤ g := by
  intro g hg
  rcases h.2 with ⟨rfl, _⟩ | ⟨g', cap, cur, rfl, h1, h2, h3⟩
  · cases hg
  · cases hg; exact h1
theorem OwnR.lt {w : World} {B : Nat} {v : Value} {R : List Rl} (h : OwnR w B v R) : ∀ g, v.ownBlock = some g → g < w.heap.size := by
  intro g hg
  rcases h.2 with ⟨rfl, _⟩ | ⟨g', cap, cur, rfl, h1, h2, h3⟩
  · cases hg
  · cases hg; exact (Array.getElem?_eq_some_iff.1 h2).1
/-- without the last rule -/
theorem OwnR.drop {w : World} {B : Nat} {a : Option Addr} {n c : Nat} {R : List Rl} {r : Rl} (h : OwnR w B (.slice a n c) (R ++ [r])) : OwnR w B (.slice a R.length c) R := by
  refine ⟨by rw [rcells_len], .inr ?_⟩
  rcases h.2 with ⟨he, h0⟩ | ⟨g, cap, cur, he, h1, h2, h3, h4, h5, h6⟩
  · simp at h0
  · injection he with e1 e2 e3
    subst e1 e3
    refine ⟨g, c, cur, rfl, h1, h2, by simp at h3; omega, h4, h5, ?_⟩
    have : rcells (R ++ [r]) = rcells R ++ r.cells := by simp [rcells]
    rw [this] at h6
    have h7 := congrArg (List.take (R.length * 5)) h6
    have e7 : List.take (R.length * 5) (rcells R) = rcells R := List.take_of_length_le (by rw [rcells_len]; omega)
    rw [List.take_take, List.take_append_of_le_length (by rw [rcells_len]; omega), e7, show min (R.length * 5) ((R ++ [r]).length * 5) = R.length * 5 by rw [List.length_append]; omega] at h7
    exact h7


/-- the scheme that is being built in block g; the string tables in blocks ga and ga + 1; its rules in a row of their own behind them -/
structure MS (w M0 : World) (g ga : Nat) (T6 T4 : Array Value) (mo ac : Int) (v : Value) (R : List Rl) (wr : World) : Prop where
  rep : wr.heap[g]? = some (.cells #[.int .i64 mo, .int .u8 ac, v] 33 (0, 0))
  own : OwnR wr (ga + 2) v R
  s6 : wr.heap[ga]? = some (.cells T6 9 (0, 0))
  s4 : wr.heap[ga + 1]? = some (.cells T4 9 (0, 0))
  bl : Below (w.heap.size + 2) M0 wr
  gm : w.heap.size + 2 ≤ g
  gg : g < ga
  gs : ga + 2 ≤ wr.heap.size
/-- the same without the row -/
structure MS0 (w M0 : World) (g ga : Nat) (T6 T4 : Array Value) (mo ac : Int) (v : Value) (wr : World) : Prop where
  rep : wr.heap[g]? = some (.cells #[.int .i64 mo, .int .u8 ac, v] 33 (0, 0))
  s6 : wr.heap[ga]? = some (.cells T6 9 (0, 0))
  s4 : wr.heap[ga + 1]? = some (.cells T4 9 (0, 0))
  bl : Below (w.heap.size + 2) M0 wr
  gm : w.heap.size + 2 ≤ g
  gg : g < ga
  gs : ga + 2 ≤ wr.heap.size
/-- a row of one rule, made by buildSlice; apart from the row of v0 -/
def RowOne (v0 : Value) (r : Rl) (v : Value) (W : World) : Prop := ∃ g, v = .slice (some ⟨g, 0, none⟩) 1 1 ∧ W.heap[g]? = some (.cells #[.int .i64 r.frm, .int .i64 r.dst, .string r.inp, .string r.out, .int .i64 r.cost] 29 (0, 0)) ∧ v0.ownBlock ≠ some g
theorem rowOne_stays (v0 : Value) (r : Rl) : Stays (RowOne v0 r) := by
  rintro v w w' ⟨g, hv, hg, hne⟩ hx
  exact ⟨g, hv, (Below.block hx g (Array.getElem?_eq_some_iff.1 hg).1).trans hg, hne⟩
theorem rowOne_grown (v0 : Value) (r : Rl) : ∀ v w w', RowOne v0 r v w → World.grownBy w w' v0.ownBlock → RowOne v0 r v w' := by
  rintro v w w' ⟨g, hv, hg, hne⟩ hx
  exact ⟨g, hv, (hx.block g (Array.getElem?_eq_some_iff.1 hg).1 (fun e => hne e.symm)).trans hg, hne⟩
theorem ownR_stays (B : Nat) (R : List Rl) : Stays (fun v W => OwnR W B v R) := fun v w w' h hx => h.below hx h.lt
theorem A_info_rule : (Try.prog.info? 29).map (fun i => (i.zero, i.size, i.bytes)) = some (some (.agg #[.int .i64 0, .int .i64 0, .string ⟨#[]⟩, .string ⟨#[]⟩, .int .i64 0]), 5, 56) := by kernel_rfl
section
variable {w M0 : World} {g ga : Nat} {T6 T4 : Array Value} {mo ac : Int} {v : Value} {R : List Rl} {wr w1 : World}
theorem MS.toMS0 (h : MS w M0 g ga T6 T4 mo ac v R wr) : MS0 w M0 g ga T6 T4 mo ac v wr := ⟨h.rep, h.s6, h.s4, h.bl, h.gm, h.gg, h.gs⟩
theorem MS0.below (h : MS0 w M0 g ga T6 T4 mo ac v wr) (hb : Below wr.heap.size wr w1) : MS0 w M0 g ga T6 T4 mo ac v w1 := by
  have h1 := h.gm; have h2 := h.gg; have h3 := h.gs; have h4 := hb.size
  exact ⟨(hb.block g (by omega)).trans h.rep, (hb.block ga (by omega)).trans h.s6, (hb.block (ga + 1) (by omega)).trans h.s4, h.bl.trans (hb.mono (by omega)), h1, h2, by omega⟩
theorem MS0.cells (h : MS0 w M0 g ga T6 T4 mo ac v wr) : wr.cell? ⟨g, 0, none⟩ = some (.int .i64 mo) ∧ wr.cell? ⟨g, 1, none⟩ = some (.int .u8 ac) ∧ wr.cell? ⟨g, 2, none⟩ = some v := cells3 h.rep
theorem MS0.t6 (h : MS0 w M0 g ga T6 T4 mo ac v wr) (i : Nat) : wr.cell? ⟨ga, i, none⟩ = T6[i]? := cell_of_row wr ga i _ _ (0, 0) h.s6
theorem MS0.t4 (h : MS0 w M0 g ga T6 T4 mo ac v wr) (i : Nat) : wr.cell? ⟨ga + 1, i, none⟩ = T4[i]? := cell_of_row wr (ga + 1) i _ _ (0, 0) h.s4
end
section
variable {w M0 : World} {g ga : Nat} {T6 T4 : Array Value} {mo ac : Int} {v : Value} {R : List Rl} {wr w1 : World}
theorem MS.below (h : MS w M0 g ga T6 T4 mo ac v R wr) (hb : Below wr.heap.size wr w1) : MS w M0 g ga T6 T4 mo ac v R w1 := by
  have h1 := h.gm; have h2 := h.gg; have h3 := h.gs; have h4 := hb.size
  exact ⟨(hb.block g (by omega)).trans h.rep, h.own.below hb h.own.lt, (hb.block ga (by omega)).trans h.s6, (hb.block (ga + 1) (by omega)).trans h.s4, h.bl.trans (hb.mono (by omega)), h1, h2, by omega⟩
theorem MS.cells (h : MS w M0 g ga T6 T4 mo ac v R wr) : wr.cell? ⟨g, 0, none⟩ = some (.int .i64 mo) ∧ wr.cell? ⟨g, 1, none⟩ = some (.int .u8 ac) ∧ wr.cell? ⟨g, 2, none⟩ = some v := cells3 h.rep
theorem MS.free (h : MS w M0 g ga T6 T4 mo ac v R wr) (i : Nat) : wr.frozen? ⟨g, i, none⟩ = false := by simp [World.frozen?, h.rep]
theorem MS.t6 (h : MS w M0 g ga T6 T4 mo ac v R wr) (i : Nat) : wr.cell? ⟨ga, i, none⟩ = T6[i]? := cell_of_row wr ga i _ _ (0, 0) h.s6
theorem MS.t4 (h : MS w M0 g ga T6 T4 mo ac v R wr) (i : Nat) : wr.cell? ⟨ga + 1, i, none⟩ = T4[i]? := cell_of_row wr (ga + 1) i _ _ (0, 0) h.s4
theorem OwnR.set {g i : Nat} {u : Value} {B : Nat} (h : OwnR wr B v R) (hg : g < B) : OwnR (wr.setCell ⟨g, i, none⟩ u) B v R := by
  refine ⟨h.1, h.2.imp id ?_⟩
  rintro ⟨b, cap, cur, rfl, h1, h2, h3⟩
  refine ⟨b, cap, cur, rfl, h1, ?_, h3⟩
  rw [Below.heap_setCell _ _ _ _ (by show b ≠ g; omega)]; exact h2
/-- the rules are another row: behind an append, or cut -/
theorem MS.store {v' : Value} {R' : List Rl} {row : Option Nat} (h : MS w M0 g ga T6 T4 mo ac v R wr) (hg : wr.grownBy w1 row) (hr : ∀ k, row = some k → ga + 2 ≤ k) (ho : OwnR w1 (ga + 2) v' R') :
    MS w M0 g ga T6 T4 mo ac v' R' (w1.setCell ⟨g, 2, none⟩ v') := by
  have h1 := h.gm; have h2 := h.gg; have h3 := h.gs
  have hb : Below (ga + 2) wr w1 := (Below.refl _ wr).grown hg h3 hr
  have hrep := (hb.block g (by omega)).trans h.rep
  refine ⟨set_one hrep rfl, ho.set (by omega), ?_, ?_, (h.bl.trans (hb.mono (by omega))).setCell h1 _, h1, h2, by have := hb.size; rw [World.size_setCell]; omega⟩
  · rw [Below.heap_setCell _ _ _ _ (by show ga ≠ g; omega)]; exact (hb.block ga (by omega)).trans h.s6
  · rw [Below.heap_setCell _ _ _ _ (by show ga + 1 ≠ g; omega)]; exact (hb.block (ga + 1) (by omega)).trans h.s4
end
section
variable {w M0 : World} {g ga : Nat} {T6 T4 : Array Value} {mo ac : Int} {v v' : Value} {R' : List Rl} {wr w1 : World} {row : Option Nat}
theorem MS0.grown (h : MS0 w M0 g ga T6 T4 mo ac v wr) (hg : wr.grownBy w1 row) (hr : ∀ k, row = some k → ga + 2 ≤ k) : MS0 w M0 g ga T6 T4 mo ac v w1 := by
  have h1 := h.gm; have h2 := h.gg; have h3 := h.gs
  have hb : Below (ga + 2) wr w1 := (Below.refl _ wr).grown hg h3 hr
  exact ⟨(hb.block g (by omega)).trans h.rep, (hb.block ga (by omega)).trans h.s6, (hb.block (ga + 1) (by omega)).trans h.s4, h.bl.trans (hb.mono (by omega)), h1, h2, by have := hb.size; omega⟩
theorem MS0.put (h : MS0 w M0 g ga T6 T4 mo ac v wr) (ho : OwnR wr (ga + 2) v' R') : MS w M0 g ga T6 T4 mo ac v' R' (wr.setCell ⟨g, 2, none⟩ v') := by
  have h1 := h.gm; have h2 := h.gg; have h3 := h.gs
  refine ⟨set_one h.rep rfl, ho.set (by omega), ?_, ?_, h.bl.setCell h1 _, h1, h2, by rw [World.size_setCell]; omega⟩
  · rw [Below.heap_setCell _ _ _ _ (by show ga ≠ g; omega)]; exact h.s6
  · rw [Below.heap_setCell _ _ _ _ (by show ga + 1 ≠ g; omega)]; exact h.s4
end
theorem OpRes.mono {P : Program} {a : Act} {o : Oper} {w : World} {R S : Value → World → Prop} (h : OpRes P a o w R) (hs : ∀ v w', R v w' → S v w') : OpRes P a o w S := by
  rcases h with ⟨v, w', h1, h2⟩ | ⟨f, args, w', h1, h2⟩
  · exact .inl ⟨v, w', h1, hs _ _ h2⟩
  · exact .inr ⟨f, args, w', h1, h2.mono fun e w'' ⟨v, he, hv⟩ => ⟨v, he, hs _ _ hv⟩⟩
theorem rule_cells_at {W : World} {g : Nat} {r : Rl} {t : TypeId} (h : W.heap[g]? = some (.cells #[.int .i64 r.frm, .int .i64 r.dst, .string r.inp, .string r.out, .int .i64 r.cost] t (0, 0))) : ∀ j u, r.cells[j]? = some u → W.cell? ((⟨g, 0, none⟩ : Addr).add j) = some u := by
  intro j u hj
  have hc := cell_of_row W g j _ _ (0, 0) h
  have e : (⟨g, 0, none⟩ : Addr).add j = ⟨g, j, none⟩ := by rw [Addr.add_lit, Nat.zero_add]
  rw [e, hc]
  simpa [Rl.cells] using hj
theorem rl_one (r : Rl) : ∀ u ∈ r.cells, u.oneCell' = true := by
  intro u hu
  simp only [Rl.cells, List.mem_cons, List.not_mem_nil, or_false] at hu
  rcases hu with rfl | rfl | rfl | rfl | rfl <;> rfl
/-- append of one rule to a row of rules -/
theorem opres_rule {A : Act} {W : World} {o : Oper} {s x : Operand} {B : Nat} {v u : Value} {R : List Rl} {r : Rl}
    (ho : o.op = .call { callee := .builtin .append, args := #[s, x], argTypes := #[31, 31] }) (hs : A.eval s = v) (hown : OwnR W B v R) (hx : A.eval x = u) (hu : RowOne v r u W) (hl : R.length < 1000) (hB : B ≤ W.heap.size) :
    OpRes Try.prog A o W (fun v' w' => OwnR w' B v' (R ++ [r]) ∧ W.grownBy w' v.ownBlock) := by
  obtain ⟨i0, hi, hz0, hz1, hz2⟩ := info_parts A_info_rule
  obtain ⟨g, hv, hg, hne⟩ := hu
  obtain ⟨v', w', hr, h1, h2, h3⟩ := run_append_own (P := Try.prog) (w := W) B 31 o.type 29 i0 _ 5 56 Try.underlying31 hi hz0 hz1 hz2 rfl (by decide) v R.length (rcells R) hown ⟨g, 0, none⟩ 1 1 r.cells rfl (rule_cells_at hg) (rl_one r) (by unfold maxLen; omega) (by omega) hB
  refine .inl ⟨v', w', ?_, ?_, h2⟩
  · unfold execOp
    simp only [ho, resolve, invoke, builtin, Sem.run_bind, Sem.run_pure, Result.andThen_ok, List.map_toArray, List.map_cons, List.map_nil, hs, hx, hv, hr]
  · have e : rcells R ++ r.cells = rcells (R ++ [r]) := by simp [rcells]
    have e2 : (R ++ [r]).length = R.length + 1 := by simp
    unfold OwnR
    rw [e2, ← e]
    exact h1
theorem idx_rows (a : Option Addr) (b o len cap k : Nat) (ha : a = some ⟨b, o, none⟩) (hk : k < len) (w : World) :
    (Instr.indexAt 22 (.slice a len cap) (.int .i64 (k : Int))).run Try.prog w = .ok (.pointer (some ⟨b, o + k * 3, none⟩)) w := by
  subst ha
  have h0 : (0 : Int) ≤ (k : Int) := by omega
  have h1 : (k : Int) < (len : Int) := by omega
  simp [go_sem, h0, h1]
/-- what a rule of a made scheme takes and puts out: few letters, none of them a z in front -/
def InOk (t : ByteArray) : Prop := t.size ≤ 2 ∧ t.data.toList.head? ≠ some 122
def RlOk (r : Rl) : Prop := InOk r.inp ∧ r.out.size ≤ 1
theorem rlOk_snoc {R : List Rl} {r : Rl} (h : ∀ q ∈ R, RlOk q) (hr : RlOk r) : ∀ q ∈ R ++ [r], RlOk q := by
  intro q hq
  rcases List.mem_append.1 hq with h1 | h1
  · exact h q h1
  · obtain rfl : q = r := by simpa using h1
    exact hr
theorem validTo_app {mo ac : Int} {R : List Rl} {r : Rl} (h : validTo ⟨mo, ac, R⟩ R.length) : validTo ⟨mo, ac, R ++ [r]⟩ R.length := by
  intro i hi hk
  have := h i hk hk
  simp only at this ⊢
  rw [List.getElem_append_left hk, List.take_append_of_le_length (by omega)]
  exact this
theorem OwnR.ruls {w : World} {B : Nat} {b : Option Addr} {n c : Nat} {R : List Rl} (h : OwnR w B (.slice b n c) R) : RulS w b R ∧ n = R.length ∧ R.length ≤ c := by
  obtain ⟨a, c', he, h1, h2⟩ := h.rules
  injection he with e1 e2 e3
  subst e1 e3
  exact ⟨h1, e2, h2⟩
theorem str6 (i : Nat) (h : i < 6) : ∃ t, (#[.string ⟨#[]⟩, .string ⟨#[97]⟩, .string ⟨#[98]⟩, .string ⟨#[]⟩, .string ⟨#[99]⟩, .string ⟨#[97, 98]⟩] : Array Value)[i]? = some (.string t) ∧ InOk t := by
  rcases (show i = 0 ∨ i = 1 ∨ i = 2 ∨ i = 3 ∨ i = 4 ∨ i = 5 by omega) with rfl | rfl | rfl | rfl | rfl | rfl <;> exact ⟨_, rfl, by decide, by decide⟩
theorem str4 (i : Nat) (h : i < 4) : ∃ t, (#[.string ⟨#[]⟩, .string ⟨#[97]⟩, .string ⟨#[66]⟩, .string ⟨#[49]⟩] : Array Value)[i]? = some (.string t) ∧ t.size ≤ 1 := by
  rcases (show i = 0 ∨ i = 1 ∨ i = 2 ∨ i = 3 by omega) with rfl | rfl | rfl | rfl <;> exact ⟨_, rfl, by decide⟩
theorem and_le (A c : Int) (h1 : 0 ≤ A) (h2 : A ≤ 255) (h3 : 0 ≤ c) (h4 : c ≤ 255) : 0 ≤ bits .and .u8 A c ∧ bits .and .u8 A c ≤ c := by
  rw [u8_and A c h1 (by omega) h3 (by omega)]
  have := Nat.and_le_right (n := A.toNat) (m := c.toNat)
  omega
/-- what a made scheme is good for -/
def MadePost (w : World) (e : Ending) (w' : World) : Prop :=
  ∃ (S : Sch) (b : Option Addr) (c : Nat), e = .returned (.agg #[.int .i64 S.modes, .int .u8 S.acc, .slice b S.rules.length c]) ∧ validB S = true ∧ 1 ≤ S.modes ∧ S.modes ≤ 5 ∧ 1 ≤ S.acc ∧ S.acc ≤ 255 ∧ S.rules.length ≤ 12 ∧ (∀ r ∈ S.rules, RlOk r) ∧ OwnR w' w.heap.size (.slice b S.rules.length c) S.rules ∧ Below w.heap.size w w'
theorem OwnR.mono {w : World} {B C : Nat} {v : Value} {R : List Rl} (h : OwnR w B v R) (hC : C ≤ B) : OwnR w C v R :=
  ⟨h.1, h.2.imp id fun ⟨g, cap, cur, hv, hg, h2⟩ => ⟨g, cap, cur, hv, Nat.le_trans hC hg, h2⟩⟩
theorem made_end {w w' : World} {B n c : Nat} {mo ac : Int} {b : Option Addr} {R : List Rl} (hn : n = R.length) (h0 : 1 ≤ ac) (h1 : ac < 2 ^ mo.toNat) (h2 : ac ≤ 255) (hm0 : 1 ≤ mo) (hm1 : mo ≤ 5) (hl : R.length ≤ 12) (hv : validTo ⟨mo, ac, R⟩ R.length) (hok : ∀ r ∈ R, RlOk r) (ho : OwnR w' (B + 2) (.slice b n c) R) (hB : Below w.heap.size w w') (hBB : w.heap.size ≤ B + 2 := by omega) : MadePost w (.returned (.agg #[.int .i64 mo, .int .u8 ac, .slice b n c])) w' := by
  subst hn
  refine ⟨⟨mo, ac, R⟩, b, c, rfl, ?_, hm0, hm1, h0, h2, hl, hok, ho.mono hBB, hB⟩
  have hh : headB ⟨mo, ac, R⟩ = true := by
    unfold headB
    simp only [Bool.and_eq_true, decide_eq_true_eq]
    exact ⟨hm0, by omega, by omega, h0, h1⟩
  simp only [validB, decide_eq_true_eq]
  exact ⟨hh, hv⟩
def modesF (M : Int) : Int := 1 + M % 5
set_option maxHeartbeats 1600000 in
set_option maxRecDepth 100000 in
theorem made_any (M A : Int) (a : Option Addr) (len cap : Nat) (w : World) (hM0 : 0 ≤ M) (hM1 : M ≤ 255) (hA0 : 0 ≤ A) (hA1 : A ≤ 255) (Z : Nat → Nat → Int) (hZ : IsRows .u8 3 w a len Z) :
    Calls Try.prog 11 #[.agg #[.int .u8 M, .int .u8 A, .slice a len cap]] w (MadePost w) := by
  go_enter Try.func11, Try.ntmps11
  go_upto_region 2 with fail
  go_cut [] (fun wx => ∃ wz : World, wz = wx ∧ ∃ ac : Int, 0 ≤ ac ∧ ac < 2 ^ (modesF M).toNat ∧ Below (w.heap.size + 2) ((w.alloc (.cells #[.int .u8 M, .int .u8 A, .slice a len cap] 24)).alloc (.cells #[.int .i64 0, .int .u8 0, .slice none 0 0] 33)) wz ∧ wz.heap[w.heap.size + 1 + 1]? = some (.cells #[.int .i64 (1 + M % 5), .int .u8 ac, .slice none 0 0] 33 (0, 0)))
  case first =>
    rcases (show M % 5 = 0 ∨ M % 5 = 1 ∨ M % 5 = 2 ∨ M % 5 = 3 ∨ M % 5 = 4 by omega) with h5 | h5 | h5 | h5 | h5
    · go_region
      go_wp2_with fail
      go_meet
      refine ⟨_, rfl, bits .and .u8 A 1, (and_le A 1 hA0 hA1 (by omega) (by omega)).1, ?_, ?_, ?_⟩
      · have h1 := (and_le A 1 hA0 hA1 (by omega) (by omega)).2
        have h2 : (2 : Int) ^ (modesF M).toNat = 2 := by unfold modesF; rw [h5]; rfl
        omega
      · exact ((Below.refl _ _).alloc (by simp) _).trans (below_drewN _ 1)
      · rw [h5]
        have := heap_alloc_new ((w.alloc (.cells #[.int .u8 M, .int .u8 A, .slice a len cap] 24)).alloc (.cells #[.int .i64 0, .int .u8 0, .slice none 0 0] 33)) (.cells #[.int .i64 1, .int .u8 (bits .and .u8 A 1), .slice none 0 0] 33)
        simp only [World.size_alloc] at this
        exact this
    · go_region
      go_wp2_with fail
      go_meet
      refine ⟨_, rfl, bits .and .u8 A 3, (and_le A 3 hA0 hA1 (by omega) (by omega)).1, ?_, ?_, ?_⟩
      · have h1 := (and_le A 3 hA0 hA1 (by omega) (by omega)).2
        have h2 : (2 : Int) ^ (modesF M).toNat = 4 := by unfold modesF; rw [h5]; rfl
        omega
      · exact ((Below.refl _ _).alloc (by simp) _).trans (below_drewN _ 1)
      · rw [h5]
        have := heap_alloc_new ((w.alloc (.cells #[.int .u8 M, .int .u8 A, .slice a len cap] 24)).alloc (.cells #[.int .i64 0, .int .u8 0, .slice none 0 0] 33)) (.cells #[.int .i64 2, .int .u8 (bits .and .u8 A 3), .slice none 0 0] 33)
        simp only [World.size_alloc] at this
        exact this
    · go_region
      go_wp2_with fail
      go_meet
      refine ⟨_, rfl, A % 8, by omega, ?_, ?_, ?_⟩
      · have h1 : A % 8 ≤ 7 := by omega
        have h2 : (2 : Int) ^ (modesF M).toNat = 8 := by unfold modesF; rw [h5]; rfl
        omega
      · exact ((Below.refl _ _).alloc (by simp) _).trans (below_drewN _ 1)
      · rw [h5]
        have := heap_alloc_new ((w.alloc (.cells #[.int .u8 M, .int .u8 A, .slice a len cap] 24)).alloc (.cells #[.int .i64 0, .int .u8 0, .slice none 0 0] 33)) (.cells #[.int .i64 3, .int .u8 (A % 8), .slice none 0 0] 33)
        simp only [World.size_alloc] at this
        exact this
    · go_region
      go_wp2_with fail
      go_meet
      refine ⟨_, rfl, A % 16, by omega, ?_, ?_, ?_⟩
      · have h1 : A % 16 ≤ 15 := by omega
        have h2 : (2 : Int) ^ (modesF M).toNat = 16 := by unfold modesF; rw [h5]; rfl
        omega
      · exact ((Below.refl _ _).alloc (by simp) _).trans (below_drewN _ 1)
      · rw [h5]
        have := heap_alloc_new ((w.alloc (.cells #[.int .u8 M, .int .u8 A, .slice a len cap] 24)).alloc (.cells #[.int .i64 0, .int .u8 0, .slice none 0 0] 33)) (.cells #[.int .i64 4, .int .u8 (A % 16), .slice none 0 0] 33)
        simp only [World.size_alloc] at this
        exact this
    · go_region
      go_wp2_with fail
      go_meet
      refine ⟨_, rfl, A % 32, by omega, ?_, ?_, ?_⟩
      · have h1 : A % 32 ≤ 31 := by omega
        have h2 : (2 : Int) ^ (modesF M).toNat = 32 := by unfold modesF; rw [h5]; rfl
        omega
      · exact ((Below.refl _ _).alloc (by simp) _).trans (below_drewN _ 1)
      · rw [h5]
        have := heap_alloc_new ((w.alloc (.cells #[.int .u8 M, .int .u8 A, .slice a len cap] 24)).alloc (.cells #[.int .i64 0, .int .u8 0, .slice none 0 0] 33)) (.cells #[.int .i64 5, .int .u8 (A % 32), .slice none 0 0] 33)
        simp only [World.size_alloc] at this
        exact this
  case rest =>
    obtain ⟨w1, rfl, ac, hac0, hac1, hb1, hg1⟩ := hcut
    have hm : (2 : Int) ^ (modesF M).toNat ≤ 32 := by
      rcases (show M % 5 = 0 ∨ M % 5 = 1 ∨ M % 5 = 2 ∨ M % 5 = 3 ∨ M % 5 = 4 by omega) with h5 | h5 | h5 | h5 | h5 <;> (unfold modesF; rw [h5]; decide)
    have hm1 : (1 : Int) < (2 : Int) ^ (modesF M).toNat := by
      rcases (show M % 5 = 0 ∨ M % 5 = 1 ∨ M % 5 = 2 ∨ M % 5 = 3 ∨ M % 5 = 4 by omega) with h5 | h5 | h5 | h5 | h5 <;> (unfold modesF; rw [h5]; decide)
    obtain ⟨d0, d1, d2⟩ := cells3 hg1
    have df : ∀ i, w1.frozen? ⟨w.heap.size + 1 + 1, i, none⟩ = false := fun i => by simp [World.frozen?, hg1]
    have HG1 := Lib.hid hg1
    have HP := Lib.hid (And.intro hm (And.intro hm1 hac1))
    clear hg1 hm hm1 hac1
    go_upto_if 24 with fail
    go_cut [] (fun wx => ∃ wz : World, wz = wx ∧ ∃ ac : Int, 1 ≤ ac ∧ ac < 2 ^ (modesF M).toNat ∧ ac ≤ 255 ∧ Below (w.heap.size + 2) ((w.alloc (.cells #[.int .u8 M, .int .u8 A, .slice a len cap] 24)).alloc (.cells #[.int .i64 0, .int .u8 0, .slice none 0 0] 33)) wz ∧ wz.heap[w.heap.size + 1 + 1]? = some (.cells #[.int .i64 (1 + M % 5), .int .u8 ac, .slice none 0 0] 33 (0, 0)))
    case first =>
      by_cases h : ac = 0
      · have hz : (ac == 0) = true := by simp [h]
        clear h
        go_wp2_with fail
        go_meet
        exact ⟨_, rfl, 1, by omega, HP.out.2.1, by omega, hb1.setCell (by show _ ≤ w.heap.size + 1 + 1; omega) _, set_one HG1.out rfl⟩
      · have hz : (ac == 0) = false := by simp [h]
        have h1 : 1 ≤ ac := by omega
        clear h
        go_wp2_with fail
        go_meet
        exact ⟨_, rfl, ac, h1, HP.out.2.2, by have := HP.out.1; have := HP.out.2.2; omega, hb1, HG1.out⟩
    case rest =>
      clear d0 d1 d2 df hb1
      obtain ⟨w2, rfl, ac2, hc0, hc1, hc2, hb2, hg2⟩ := hcut
      have HG2 := Lib.hid hg2
      have HMS0 : Hid (MS w ((w.alloc (.cells #[.int .u8 M, .int .u8 A, .slice a len cap] 24)).alloc (.cells #[.int .i64 0, .int .u8 0, .slice none 0 0] 33)) (w.heap.size + 1 + 1) w2.heap.size #[.string ⟨#[]⟩, .string ⟨#[97]⟩, .string ⟨#[98]⟩, .string ⟨#[]⟩, .string ⟨#[99]⟩, .string ⟨#[97, 98]⟩] #[.string ⟨#[]⟩, .string ⟨#[97]⟩, .string ⟨#[66]⟩, .string ⟨#[49]⟩] (1 + M % 5) ac2 (.slice none 0 0) [] ((w2.alloc (.cells #[.string ⟨#[]⟩, .string ⟨#[97]⟩, .string ⟨#[98]⟩, .string ⟨#[]⟩, .string ⟨#[99]⟩, .string ⟨#[97, 98]⟩] 9)).alloc (.cells #[.string ⟨#[]⟩, .string ⟨#[97]⟩, .string ⟨#[66]⟩, .string ⟨#[49]⟩] 9))) := by
        have hlt : w.heap.size + 1 + 1 < w2.heap.size := (Array.getElem?_eq_some_iff.1 hg2).1
        have h6 := heap_alloc_new w2 (.cells #[.string ⟨#[]⟩, .string ⟨#[97]⟩, .string ⟨#[98]⟩, .string ⟨#[]⟩, .string ⟨#[99]⟩, .string ⟨#[97, 98]⟩] 9)
        have h4 := heap_alloc_new (w2.alloc (.cells #[.string ⟨#[]⟩, .string ⟨#[97]⟩, .string ⟨#[98]⟩, .string ⟨#[]⟩, .string ⟨#[99]⟩, .string ⟨#[97, 98]⟩] 9)) (.cells #[.string ⟨#[]⟩, .string ⟨#[97]⟩, .string ⟨#[66]⟩, .string ⟨#[49]⟩] 9)
        refine ⟨?_, ⟨rfl, .inl ⟨rfl, rfl⟩⟩, ?_, ?_, (hb2.alloc (by have := hb2.size; omega) _).alloc (by simp only [World.size_alloc]; omega) _, by omega, hlt, by simp only [World.size_alloc]; omega⟩
        · rw [Below.heap_alloc _ _ _ (by simp only [World.size_alloc]; omega), Below.heap_alloc _ _ _ hlt]; exact hg2
        · rw [Below.heap_alloc _ _ _ (by simp only [World.size_alloc]; omega)]; exact h6
        · simpa only [World.size_alloc] using h4
      clear hg2 hb2
      go_wp2_with fail
      go_loopw [6] (fun i wr => ∃ (k : Nat) (R : List Rl) (b : Option Addr) (n c : Nat), k ≤ 12 ∧ k ≤ len ∧ i = .int .i64 k ∧ n = R.length ∧ R.length ≤ k ∧ validTo ⟨1 + M % 5, ac2, R⟩ R.length ∧ (∀ r ∈ R, RlOk r) ∧ MS w ((w.alloc (.cells #[.int .u8 M, .int .u8 A, .slice a len cap] 24)).alloc (.cells #[.int .i64 0, .int .u8 0, .slice none 0 0] 33)) (w.heap.size + 1 + 1) w2.heap.size #[.string ⟨#[]⟩, .string ⟨#[97]⟩, .string ⟨#[98]⟩, .string ⟨#[]⟩, .string ⟨#[99]⟩, .string ⟨#[97, 98]⟩] #[.string ⟨#[]⟩, .string ⟨#[97]⟩, .string ⟨#[66]⟩, .string ⟨#[49]⟩] (1 + M % 5) ac2 (.slice b n c) R wr) (fun i _ => len - (intOf i).toNat)
      case atStart => exact ⟨0, [], none, 0, 0, by omega, by omega, rfl, rfl, by simp, fun i h => absurd h (by simp), fun r h => absurd h (by simp), HMS0.out⟩
      case round =>
        obtain ⟨k, R, b, n, c, hk, hkl, rfl, hn, hRk, hval, hok, hms⟩ := hrel
        have HOK := Lib.hid hok
        clear hok
        have HN := Lib.hid hn; have HV := Lib.hid hval; have HMS := Lib.hid hms
        have hB : Below w.heap.size w wr := (show Below w.heap.size w ((w.alloc (.cells #[.int .u8 M, .int .u8 A, .slice a len cap] 24)).alloc (.cells #[.int .i64 0, .int .u8 0, .slice none 0 0] 33)) by go_grown).trans (hms.bl.mono (by omega))
        obtain ⟨hz, hc, hf⟩ := bcellB hms.bl rfl
        simp only [World.size_alloc] at hz
        obtain ⟨d0, d1, d2⟩ := hms.cells
        have hgs := hms.gs
        have hgg := hms.gg
        clear hn hval hms
        by_cases hlt : k < len
        · by_cases h12 : k < 12
          · have h12I : (k : Int) < 12 := by omega
            rcases hZ with h0 | ⟨bz, oz, haz, hl63, hbz, hcz⟩
            · omega
            have hidz := idx_rows a bz oz len cap k haz hlt
            obtain ⟨z0, y0⟩ := hcz k hlt 0 (by omega)
            obtain ⟨z1, y1⟩ := hcz k hlt 1 (by omega)
            obtain ⟨z2, y2⟩ := hcz k hlt 2 (by omega)
            obtain ⟨u0, v0⟩ := bounds_u8 y0
            obtain ⟨u1, v1⟩ := bounds_u8 y1
            obtain ⟨u2, v2⟩ := bounds_u8 y2
            have HAZ := Lib.hid haz
            rw [Nat.add_zero] at z0
            clear haz hcz y0 y1 y2
            go_upto_region 11 with fail
            obtain ⟨t6, ht6, o6⟩ : ∃ t, (#[.string ⟨#[]⟩, .string ⟨#[97]⟩, .string ⟨#[98]⟩, .string ⟨#[]⟩, .string ⟨#[99]⟩, .string ⟨#[97, 98]⟩] : Array Value)[(Z k 2 % 6).toNat]? = some (.string t) ∧ InOk t := str6 _ (by omega)
            obtain ⟨t4, ht4, o4⟩ : ∃ t, (#[.string ⟨#[]⟩, .string ⟨#[97]⟩, .string ⟨#[66]⟩, .string ⟨#[49]⟩] : Array Value)[(Z k 2 / 6 % 4).toNat]? = some (.string t) ∧ t.size ≤ 1 := str4 _ (by omega)
            have q6 := (HMS.out.t6 (Z k 2 % 6).toNat).trans ht6
            have q4 := (HMS.out.t4 (Z k 2 / 6 % 4).toNat).trans ht4
            have m1 : 1 ≤ 1 + M % 5 := by omega
            have m5 : 1 + M % 5 ≤ 5 := by omega
            have e1 : 0 ≤ Z k 2 % 6 := by omega
            have e2 : Z k 2 % 6 < 6 := by omega
            have e3 : 0 ≤ Z k 2 / 6 % 4 := by omega
            have e4 : Z k 2 / 6 % 4 < 4 := by omega
            obtain ⟨rl, hrl⟩ : ∃ r : Rl, r = ⟨Z k 0 % (1 + M % 5), Z k 1 % (1 + M % 5), t6, t4, Z k 2 / 24⟩ := ⟨_, rfl⟩
            have HRL := Lib.hid hrl
            have HRLO : Hid (RlOk rl) := by show RlOk _; rw [hrl]; exact ⟨o6, o4⟩
            clear hrl o6 o4
            have f0 : IntKind.i64.wrap (Z k 0) = Z k 0 := IntWalk.i64_in _ (by omega)
            have f1 : IntKind.i64.wrap (Z k 1) = Z k 1 := IntWalk.i64_in _ (by omega)
            have fne : ¬ (1 + M % 5 = 0) := by omega
            have g0 : (Z k 0).tmod (1 + M % 5) = Z k 0 % (1 + M % 5) := Int.tmod_eq_emod_of_nonneg u0
            have g1 : (Z k 1).tmod (1 + M % 5) = Z k 1 % (1 + M % 5) := Int.tmod_eq_emod_of_nonneg u1
            have g2 : (Z k 2).tmod 6 = Z k 2 % 6 := Int.tmod_eq_emod_of_nonneg u2
            have g3 : (Z k 2).tdiv 6 = Z k 2 / 6 := Int.tdiv_eq_ediv_of_nonneg u2
            have g4 : (Z k 2 / 6).tmod 4 = Z k 2 / 6 % 4 := Int.tmod_eq_emod_of_nonneg (by omega)
            have g5 : (Z k 2).tdiv 24 = Z k 2 / 24 := Int.tdiv_eq_ediv_of_nonneg u2
            have f6 : IntKind.i64.wrap (Z k 2 / 6) = Z k 2 / 6 := IntWalk.i64_in _ (by omega)
            have f24 : IntKind.i64.wrap (Z k 2 / 24) = Z k 2 / 24 := IntWalk.i64_in _ (by omega)
            refine wp_region_mid (by kernel_rfl) (Vs [fun v _ => v = .pointer (some ⟨w.heap.size + 1 + 1, 2, none⟩), fun v _ => v = .slice b n c, fun v _ => v = .pointer (some ⟨w.heap.size, 2, none⟩), fun v _ => v = .slice a len cap, fun v _ => v = .int .i64 (k : Int), fun v _ => v = .pointer (some ⟨bz, oz + k * 3, none⟩), fun v _ => v = .pointer (some ⟨bz, oz + k * 3, none⟩), fun v _ => v = .int .u8 (Z k 0), fun v _ => v = .int .i64 (Z k 0), fun v _ => v = .pointer (some ⟨w.heap.size + 1 + 1, 0, none⟩), fun v _ => v = .int .i64 (1 + M % 5), fun v _ => v = .int .i64 (Z k 0 % (1 + M % 5)), fun v _ => v = .pointer (some ⟨w.heap.size, 2, none⟩), fun v _ => v = .slice a len cap, fun v _ => v = .int .i64 (k : Int), fun v _ => v = .pointer (some ⟨bz, oz + k * 3, none⟩), fun v _ => v = .pointer (some ⟨bz, oz + k * 3 + 1, none⟩), fun v _ => v = .int .u8 (Z k 1), fun v _ => v = .int .i64 (Z k 1), fun v _ => v = .pointer (some ⟨w.heap.size + 1 + 1, 0, none⟩), fun v _ => v = .int .i64 (1 + M % 5), fun v _ => v = .int .i64 (Z k 1 % (1 + M % 5)), fun v _ => v = .slice (some ⟨w2.heap.size, 0, none⟩) 6 6, fun v _ => v = .int .i64 (Z k 2), fun v _ => v = .int .i64 (Z k 2 % 6), fun v _ => v = .pointer (some ⟨w2.heap.size, (Z k 2 % 6).toNat, none⟩), fun v _ => v = .string t6, fun v _ => v = .slice (some ⟨w2.heap.size + 1, 0, none⟩) 4 4, fun v _ => v = .int .i64 (Z k 2), fun v _ => v = .int .i64 (Z k 2 / 6), fun v _ => v = .int .i64 (Z k 2 / 6 % 4), fun v _ => v = .pointer (some ⟨w2.heap.size + 1, (Z k 2 / 6 % 4).toNat, none⟩), fun v _ => v = .string t4, fun v _ => v = .int .i64 (Z k 2), fun v _ => v = .int .i64 (Z k 2 / 24), fun v _ => v = .agg #[.int .i64 (Z k 0 % (1 + M % 5)), .int .i64 (Z k 1 % (1 + M % 5)), .string t6, .string t4, .int .i64 (Z k 2 / 24)], RowOne (Value.slice b n c) rl, fun v W => OwnR W (w2.heap.size + 2) v (R ++ [rl]), fun v _ => v = .pointer (some ⟨w.heap.size + 1 + 1, 2, none⟩)]) (fun bo W => MS0 w ((w.alloc (.cells #[.int .u8 M, .int .u8 A, .slice a len cap] 24)).alloc (.cells #[.int .i64 0, .int .u8 0, .slice none 0 0] 33)) (w.heap.size + 1 + 1) w2.heap.size #[.string ⟨#[]⟩, .string ⟨#[97]⟩, .string ⟨#[98]⟩, .string ⟨#[]⟩, .string ⟨#[99]⟩, .string ⟨#[97, 98]⟩] #[.string ⟨#[]⟩, .string ⟨#[97]⟩, .string ⟨#[66]⟩, .string ⟨#[49]⟩] (1 + M % 5) ac2 (.slice b n c) W ∧ (bo = false → OwnR W (w2.heap.size + 2) (.slice b n c) R) ∧ ∀ g, (Value.slice b n c).ownBlock = some g → g < W.heap.size) (fun W W' => W.grownBy W' (Value.slice b n c).ownBlock) 101 37 39 (by kernel_rfl) rfl (by omega) ?hVx ?hVm ?hSx ?hS ?hop ?hlast
            case hVx => exact vs_stays (by simp only [List.mem_cons, List.not_mem_nil, or_false, forall_eq_or_imp, forall_eq]; exact ⟨stays_const _, stays_const _, stays_const _, stays_const _, stays_const _, stays_const _, stays_const _, stays_const _, stays_const _, stays_const _, stays_const _, stays_const _, stays_const _, stays_const _, stays_const _, stays_const _, stays_const _, stays_const _, stays_const _, stays_const _, stays_const _, stays_const _, stays_const _, stays_const _, stays_const _, stays_const _, stays_const _, stays_const _, stays_const _, stays_const _, stays_const _, stays_const _, stays_const _, stays_const _, stays_const _, stays_const _, rowOne_stays _ _, ownR_stays _ _, stays_const _⟩)
            case hVm => exact staysL_all ⟨fun _ => fun _ _ _ h _ => h, fun _ => fun _ _ _ h _ => h, fun _ => fun _ _ _ h _ => h, fun _ => fun _ _ _ h _ => h, fun _ => fun _ _ _ h _ => h, fun _ => fun _ _ _ h _ => h, fun _ => fun _ _ _ h _ => h, fun _ => fun _ _ _ h _ => h, fun _ => fun _ _ _ h _ => h, fun _ => fun _ _ _ h _ => h, fun _ => fun _ _ _ h _ => h, fun _ => fun _ _ _ h _ => h, fun _ => fun _ _ _ h _ => h, fun _ => fun _ _ _ h _ => h, fun _ => fun _ _ _ h _ => h, fun _ => fun _ _ _ h _ => h, fun _ => fun _ _ _ h _ => h, fun _ => fun _ _ _ h _ => h, fun _ => fun _ _ _ h _ => h, fun _ => fun _ _ _ h _ => h, fun _ => fun _ _ _ h _ => h, fun _ => fun _ _ _ h _ => h, fun _ => fun _ _ _ h _ => h, fun _ => fun _ _ _ h _ => h, fun _ => fun _ _ _ h _ => h, fun _ => fun _ _ _ h _ => h, fun _ => fun _ _ _ h _ => h, fun _ => fun _ _ _ h _ => h, fun _ => fun _ _ _ h _ => h, fun _ => fun _ _ _ h _ => h, fun _ => fun _ _ _ h _ => h, fun _ => fun _ _ _ h _ => h, fun _ => fun _ _ _ h _ => h, fun _ => fun _ _ _ h _ => h, fun _ => fun _ _ _ h _ => h, fun _ => fun _ _ _ h _ => h, fun _ => rowOne_grown _ _, fun h => absurd rfl h, fun _ => fun _ _ _ h _ => h, trivial⟩
            case hSx => exact fun bo W W' h hx => ⟨h.1.below hx, fun e => (h.2.1 e).below hx (h.2.1 e).lt, fun g hg => Nat.lt_of_lt_of_le (h.2.2 g hg) hx.size⟩
            case hS => exact ⟨HMS.out.toMS0, fun _ => HMS.out.own, HMS.out.own.lt⟩
            case hop =>
              refine ⟨?_, ?_, ?_, ?_, ?_, ?_, ?_, ?_, ?_, ?_, ?_, ?_, ?_, ?_, ?_, ?_, ?_, ?_, ?_, ?_, ?_, ?_, ?_, ?_, ?_, ?_, ?_, ?_, ?_, ?_, ?_, ?_, ?_, ?_, ?_, ?_, ?_, ?_, ?_, ?_, trivial⟩
              all_goals first | rw [if_neg (by decide), if_neg (by decide)] | rw [if_neg (by decide), if_pos (by decide)] | rw [if_pos (by decide)]
              all_goals first | trivial | skip
              all_goals first
                | (intro A W bo hsz hS hdep hbase
                   have hms := hS.1
                   obtain ⟨hzW, hcW, hfW⟩ := bcellB hms.bl rfl
                   simp only [World.size_alloc] at hzW
                   obtain ⟨d0', d1', d2'⟩ := hms.cells
                   have q6' := (hms.t6 (Z k 2 % 6).toNat).trans ht6
                   have q4' := (hms.t4 (Z k 2 / 6 % 4).toNat).trans ht4
                   have h1 : A.tmps.getD 1 undef = .pointer (some ⟨w.heap.size, 0, none⟩) := hbase 1 (by kernel_rfl)
                   have h3 : A.tmps.getD 3 undef = .pointer (some ⟨w.heap.size + 1 + 1, 0, none⟩) := hbase 3 (by kernel_rfl)
                   have h4 : A.tmps.getD 4 undef = .slice (some ⟨w2.heap.size, 0, none⟩) 6 6 := hbase 4 (by kernel_rfl)
                   have h5 : A.tmps.getD 5 undef = .slice (some ⟨w2.heap.size + 1, 0, none⟩) 4 4 := hbase 5 (by kernel_rfl)
                   have h6 : A.tmps.getD 6 undef = .int .i64 (k : Int) := hbase 6 (by kernel_rfl)
                   have h7 : A.tmps.getD 7 undef = .int .i64 (Z k 2) := hbase 7 (by kernel_rfl)
                   clear hbase hms
                   simp [slotOf, Region.binds, Vs] at hdep
                   refine opOk_run rfl (.inl ⟨_, W, ?_, rfl, Ext.refl _⟩); clear hsz hS; simp [go_sem, Act.eval, *]; done)
                | skip
              · intro A W bo hsz hS hdep hbase
                simp [slotOf, Region.binds, Vs] at hdep
                have hne := hS.2.2
                refine opOk_run rfl (.inl ⟨.slice (some ⟨W.heap.size, 0, none⟩) 1 1, W.alloc (.cells #[.int .i64 rl.frm, .int .i64 rl.dst, .string rl.inp, .string rl.out, .int .i64 rl.cost] 29), ?_, ⟨W.heap.size, rfl, heap_alloc_new _ _, fun e => absurd (hne _ e) (Nat.lt_irrefl _)⟩, (Below.refl _ _).alloc (Nat.le_refl _) _⟩)
                have hrl := HRL.out
                subst hrl
                clear hsz hS hne hbase; simp [go_sem, Act.eval, *]
              · intro A W hsz hS hdep hbase
                have hown := hS.2.1 rfl
                have h47 : A.tmps.getD 47 undef = .slice b n c := hdep ⟨1, .data⟩ (by simp) rfl
                have h82 : RowOne (.slice b n c) rl (A.tmps.getD 82 undef) W := hdep ⟨36, .data⟩ (by simp) rfl
                refine ⟨rfl, (opres_rule rfl (eval_tmp h47) hown rfl (by rw [eval_tmp rfl]; exact h82) (by omega) hS.1.gs).mono fun v w' h => ⟨h.1, h.2, hS.1.grown h.2 hown.ge, fun e => (by cases e), fun g hg => Nat.lt_of_lt_of_le (hown.lt g hg) h.2.size⟩⟩
            case hlast =>
              intro A1 W hsz hdf hS hv hbase
              have h84 : A1.tmps.getD 84 undef = .pointer (some ⟨w.heap.size + 1 + 1, 2, none⟩) := hv 38 (by decide)
              have hown : OwnR W (w2.heap.size + 2) (A1.tmps.getD 83 undef) (R ++ [rl]) := hv 37 (by decide)
              obtain ⟨R', hR'⟩ : ∃ R', R' = R ++ [rl] := ⟨_, rfl⟩
              rw [← hR'] at hown
              obtain ⟨b', c', h83, hrs, hcp⟩ := hown.rules
              rw [h83] at hown
              obtain ⟨e0, e1, e2⟩ := hS.1.cells
              refine wpOp_store rfl rfl rfl rfl (eval_tmp h84) (eval_tmp h83) (by simp [World.frozen?, hS.1.rep]) e2 (by kernel_rfl) ?_
              have HMS' := Lib.hid (hS.1.put hown)
              obtain ⟨x, hx, hA⟩ := act_puts [46, 47, 48, 49, 50, 51, 52, 53, 54, 55, 56, 57, 58, 59, 60, 61, 62, 63, 64, 65, 66, 67, 68, 69, 70, 71, 72, 73, 74, 75, 76, 77, 78, 79, 80, 81, 82, 83, 84] (by kernel_rfl) hsz hdf hbase
              obtain ⟨w4, hw4⟩ : ∃ w4, w4 = W.setCell ⟨w.heap.size + 1 + 1, 2, none⟩ (.slice b' R'.length c') := ⟨_, rfl⟩
              rw [← hw4] at HMS' ⊢
              rw [hA]
              simp only [List.foldl]
              have HLen : Hid (R'.length = R.length + 1) := by show _ = _; rw [hR']; simp
              have HR' := Lib.hid hR'
              have hRl : (R'.length : Int) - 1 = (R.length : Int) := by have := HLen.out; omega
              have hR1 : 1 ≤ (R'.length : Int) := by have := HLen.out; omega
              have hR64 : (R'.length : Int) ≤ 64 := by have := HLen.out; omega
              have hB4 : Below w.heap.size w w4 := (show Below w.heap.size w ((w.alloc (.cells #[.int .u8 M, .int .u8 A, .slice a len cap] 24)).alloc (.cells #[.int .i64 0, .int .u8 0, .slice none 0 0] 33)) by go_grown).trans (HMS'.out.bl.mono (by omega))
              clear hz hc hf d0 d1 d2 hA hx hw4 e0 e1 e2 h83 hown hrs hv hbase hS hsz hdf h84 hR' q6 q4 hB z0 z1 z2
              obtain ⟨hz, hc, hf⟩ := bcellB HMS'.out.bl rfl
              simp only [World.size_alloc] at hz
              obtain ⟨d0, d1, d2⟩ := HMS'.out.cells
              have df := HMS'.out.free
              have hgs4 := HMS'.out.gs
              have hRlt : R.length < R'.length := by have := HLen.out; omega
              have HVN : Hid (validTo ⟨1 + M % 5, ac2, R'⟩ R.length) := by have := validTo_app (r := rl) HV.out; rw [← HR'.out] at this; exact this
              obtain ⟨gd, hgd⟩ : ∃ gd, goodAt ⟨1 + M % 5, ac2, R'⟩ R'[R.length] (R'.take R.length) = gd := ⟨_, rfl⟩
              have HGD := Lib.hid hgd
              clear hgd
              cases gd with
              | true =>
                go_wp2_with (first
                  | (go_at_call 32; refine (rright_any ⟨1 + M % 5, ac2, R'⟩ b' c' R.length _ HMS'.out.own.ruls.1 (by have := HLen.out; show R'.length ≤ _; omega) hRlt m1 (by show 1 + M % 5 ≤ 8; omega)).mono ?_; rintro e w5 ⟨he, hb⟩; rw [HGD.out] at he; subst he; have HMS5 := Lib.hid (HMS'.out.below hb); clear hb)
                  | fail)
                go_roundw
                case rel => exact ⟨k + 1, R', b', R'.length, c', by omega, by omega, by go_num, rfl, by have := HLen.out; omega, by rw [HLen.out]; exact validTo_snoc hRlt HVN.out HGD.out, by rw [HR'.out]; exact rlOk_snoc HOK.out HRLO.out, HMS5.out⟩
                case measure => simp [intOf]; omega
              | false =>
                have hsl := slice_low b' R'.length c' R.length (by have := HMS'.out.own.ruls.2.2; omega)
                have HDR : Hid (∀ W, OwnR W (w2.heap.size + 2) (.slice b' R'.length c') R' → OwnR W (w2.heap.size + 2) (.slice b' R.length c') R) := fun W h => by rw [HR'.out] at h; exact h.drop
                go_wp2_with (first
                  | (go_at_call 32; refine (rright_any ⟨1 + M % 5, ac2, R'⟩ b' c' R.length _ HMS'.out.own.ruls.1 (by have := HLen.out; show R'.length ≤ _; omega) hRlt m1 (by show 1 + M % 5 ≤ 8; omega)).mono ?_; rintro e w5 ⟨he, hb⟩; rw [HGD.out] at he; subst he; have HMS5 := Lib.hid (HMS'.out.below hb); clear hz hc hf d0 d1 d2 df; obtain ⟨hz, hc, hf⟩ := bcellB HMS5.out.bl rfl; obtain ⟨d0, d1, d2⟩ := HMS5.out.cells; have df := HMS5.out.free; clear hb)
                  | fail)
                go_roundw
                case rel => exact ⟨k + 1, R, b', R.length, c', by omega, by omega, by go_num, rfl, by omega, HV.out, HOK.out, HMS5.out.toMS0.put (HDR.out _ HMS5.out.own)⟩
                case measure => simp [intOf]; omega
          · obtain rfl : k = 12 := by omega
            go_wp2_with fail
            have hrb : wr.heap[w.heap.size + 1]? = some (.cells #[.int .i64 0, .int .u8 0, .slice none 0 0] 33 (0, 0)) := by
              refine (HMS.out.bl.block (w.heap.size + 1) (by omega)).trans ?_
              have := heap_alloc_new (w.alloc (.cells #[.int .u8 M, .int .u8 A, .slice a len cap] 24)) (.cells #[.int .i64 0, .int .u8 0, .slice none 0 0] 33)
              simpa only [World.size_alloc] using this
            obtain ⟨r0, r1, r2⟩ := cells3 (set3 (a := .int .i64 (1 + M % 5)) (b := .int .u8 ac2) (c := .slice b n c) hrb)
            have hn := HN.out
            refine bodyPost_ret (v := .agg #[.int .i64 (1 + M % 5), .int .u8 ac2, .slice b n c]) (by simp [results, Try.results11, go_sem, r0, r1, r2]) rfl (made_end hn hc0 hc1 hc2 (by omega) (by omega) (by omega) HV.out HOK.out (((HMS.out.own.set (by omega)).set (by omega)).set (by omega)) ?_)
            exact ((hB.setCell (by simp) _).setCell (by simp) _).setCell (by simp) _
        · go_wp2_with fail
          have hrb : wr.heap[w.heap.size + 1]? = some (.cells #[.int .i64 0, .int .u8 0, .slice none 0 0] 33 (0, 0)) := by
            refine (HMS.out.bl.block (w.heap.size + 1) (by omega)).trans ?_
            have := heap_alloc_new (w.alloc (.cells #[.int .u8 M, .int .u8 A, .slice a len cap] 24)) (.cells #[.int .i64 0, .int .u8 0, .slice none 0 0] 33)
            simpa only [World.size_alloc] using this
          obtain ⟨r0, r1, r2⟩ := cells3 (set3 (a := .int .i64 (1 + M % 5)) (b := .int .u8 ac2) (c := .slice b n c) hrb)
          have hn := HN.out
          refine bodyPost_ret (v := .agg #[.int .i64 (1 + M % 5), .int .u8 ac2, .slice b n c]) (by simp [results, Try.results11, go_sem, r0, r1, r2]) rfl (made_end hn hc0 hc1 hc2 (by omega) (by omega) (by omega) HV.out HOK.out (((HMS.out.own.set (by omega)).set (by omega)).set (by omega)) ?_)
          exact ((hB.setCell (by simp) _).setCell (by simp) _).setCell (by simp) _
end Go.Proofs.Ytogjcfcfgnbmkaa
