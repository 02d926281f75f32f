/- append([]T{}, xs...): a copy of a row. -/
import Derived.Test.YtogjcfcfgnbmkaaLawB
namespace Go.Proofs.Ytogjcfcfgnbmkaa
open Go.RowKit
set_option linter.unusedVariables false
set_option linter.unusedSimpArgs false

theorem run_append_empty {P : Program} {W : World} (base : Nat) (t ty e : TypeId) (i : TypeInfo) (z : Value) (size bytes : Nat) (ht : P.underlying t = some (.slice e)) (hi : P.info? e = some i) (hz : i.zero = some z)
    (hsize : i.size = size) (hby : i.bytes = bytes) (hzs : z.cells.size = size) (hsz : 0 < size) (g : Nat) (hg : W.heap[g]? = some (.cells #[] e (0, 0))) (hbg : base ≤ g)
    (v : Value) (m : Nat) (news : List Value) (B : Nat) (hown : W.ownsRow B e size v m news) (h1 : ∀ u ∈ news, u.oneCell' = true) (h63 : m ≤ maxLen) (hbytes : m * bytes ≤ 140737488355328) :
    ∃ v' w', (Builtin.append_ #[t, t] ty #[.slice (some ⟨g, 0, none⟩) 0 0, v]).run P W = .ok v' w' ∧ w'.ownsRow base e size v' m news ∧ Ext W w' := by
  have hgl : g < W.heap.size := (Array.getElem?_eq_some_iff.1 hg).1
  have he : W.ownsRow base e size (.slice (some ⟨g, 0, none⟩) 0 0) 0 [] := ⟨by simp, .inr ⟨g, 0, #[], rfl, hbg, hg, Nat.le_refl _, Nat.zero_le _, by simp, by simp⟩⟩
  rcases id hown.2 with ⟨rfl, rfl⟩ | ⟨g', cap, cur, rfl, h3, h4, h5, h6, h7, h8⟩
  · have hn : news = [] := List.eq_nil_of_length_eq_zero (by simpa using hown.1)
    subst hn
    exact ⟨_, W, run_append_owned_none (P := P) (w := W) base t ty e i size ht hi _ 0 [] he, he, Ext.refl _⟩
  · have hc := hown.cells (g := g') rfl
    by_cases hm : m = 0
    · subst hm
      have hn : news = [] := List.eq_nil_of_length_eq_zero (by simpa using hown.1)
      subst hn
      refine ⟨.slice (some ⟨g, 0, none⟩) 0 0, W, ?_, he, Ext.refl _⟩
      simp [Builtin.append_, run_underlying ht, sizeOf, typeInfo, hi, Builtin.lenOf, Builtin.firstCells, storeCells, loadCells, loadCellsFrom]
    · obtain ⟨v', w', hr, ho, _, _⟩ := run_append_own (P := P) (w := W) base t ty e i z size bytes ht hi hz hsize hby hzs hsz (.slice (some ⟨g, 0, none⟩) 0 0) 0 [] he ⟨g', 0, none⟩ m cap news hown.1 hc h1 (by omega) (by rw [Nat.zero_add]; exact hbytes) (by omega)
      have hr2 := run_append_grow (P := P) (w := W) t ty e i z ht hi hz ⟨g, 0, none⟩ 0 0 [] (by simp) (by simp) ⟨g', 0, none⟩ m cap news (by rw [hsize]; exact hown.1) hc (by omega) (by simp only [maxLen] at h63; omega) (growslice_fits (by omega) (by rw [hby, Nat.zero_add]; exact hbytes))
      rw [hr2] at hr
      injection hr with e1 e2
      rw [Nat.zero_add, List.nil_append] at ho
      refine ⟨v', w', by rw [hr2]; simp [← e1, ← e2], ho, ?_⟩
      rw [← e2]
      exact ((Below.refl _ W).drew).alloc (by exact Nat.le_refl _) _
theorem rcells_one (R : List Rl) : ∀ u ∈ rcells R, u.oneCell' = true := by
  intro u hu
  obtain ⟨r, hr, h2⟩ := List.mem_flatMap.1 hu
  exact rl_one r u h2
/-- a copy of a row of rules -/
theorem opres_copy_rules {A : Act} {W : World} {o : Oper} {s x : Operand} {B g : Nat} {v : Value} {R : List Rl}
    (ho : o.op = .call { callee := .builtin .append, args := #[s, x], argTypes := #[31, 31] }) (hs : A.eval s = .slice (some ⟨g, 0, none⟩) 0 0) (hg : W.heap[g]? = some (.cells #[] 29 (0, 0))) (hx : A.eval x = v) (hown : OwnR W B v R) (hl : R.length < 1000) :
    OpRes Try.prog A o W (fun v' w' => OwnR w' g v' R ∧ Ext W w') := by
  obtain ⟨i0, hi, hz0, hz1, hz2⟩ := info_parts A_info_rule
  obtain ⟨v', w', hr, h1, h2⟩ := run_append_empty (P := Try.prog) g 31 o.type 29 i0 _ 5 56 Try.underlying31 hi hz0 hz1 hz2 rfl (by decide) g hg (Nat.le_refl _) v R.length (rcells R) B hown (rcells_one R) (by unfold maxLen; omega) (by omega)
  refine .inl ⟨v', w', ?_, h1, h2⟩
  unfold execOp
  simp only [ho, resolve, invoke, builtin, Sem.run_bind, Sem.run_pure, Result.andThen_ok, List.map_toArray, List.map_cons, List.map_nil, hs, hx, hr]
/-- a copy of a row of numbers -/
theorem opres_copy_ch {A : Act} {W : World} {o : Oper} {s x : Operand} {B g : Nat} {v : Value} {xs : List Nat}
    (ho : o.op = .call { callee := .builtin .append, args := #[s, x], argTypes := #[38, 38] }) (hs : A.eval s = .slice (some ⟨g, 0, none⟩) 0 0) (hg : W.heap[g]? = some (.cells #[] 3 (0, 0))) (hx : A.eval x = v) (hown : Ch W B v xs) (hl : xs.length < 1000) :
    OpRes Try.prog A o W (fun v' w' => Ch w' g v' xs ∧ Ext W w') := by
  obtain ⟨i0, hi, hz0, hz1, hz2⟩ := info_parts info_int
  obtain ⟨v', w', hr, h1, h2⟩ := run_append_empty (P := Try.prog) g 38 o.type 3 i0 _ 1 8 Try.underlying38 hi hz0 hz1 hz2 rfl (by decide) g hg (Nat.le_refl _) v xs.length (nats xs) B hown (by intro u hu; simp only [nats, List.mem_map] at hu; obtain ⟨n, _, rfl⟩ := hu; rfl) (by unfold maxLen; omega) (by omega)
  refine .inl ⟨v', w', ?_, h1, h2⟩
  unfold execOp
  simp only [ho, resolve, invoke, builtin, Sem.run_bind, Sem.run_pure, Result.andThen_ok, List.map_toArray, List.map_cons, List.map_nil, hs, hx, hr]
/-- a new empty row, of whatever type, from block B on -/
def RowE (B : Nat) (e : TypeId) (v : Value) (W : World) : Prop := ∃ g, v = .slice (some ⟨g, 0, none⟩) 0 0 ∧ W.heap[g]? = some (.cells #[] e (0, 0)) ∧ B ≤ g
theorem rowE_stays (B : Nat) (e : TypeId) : Stays (RowE B e) := by
  rintro v w w' ⟨g, hv, hg, hB⟩ hx
  exact ⟨g, hv, (Below.block hx g (Array.getElem?_eq_some_iff.1 hg).1).trans hg, hB⟩
/-- a row of rules of the call's own, in slice form -/
def RowR (B : Nat) (R : List Rl) (v : Value) (W : World) : Prop := ∃ a n c, v = .slice a n c ∧ OwnR W B (.slice a n c) R
theorem rowR_stays (B : Nat) (R : List Rl) : Stays (RowR B R) := by
  rintro v w w' ⟨a, n, c, hv, ho⟩ hx
  exact ⟨a, n, c, hv, ho.below hx ho.lt⟩
def SchR (B : Nat) (S : Sch) (v : Value) (W : World) : Prop := ∃ a n c, v = .agg #[.int .i64 S.modes, .int .u8 S.acc, .slice a n c] ∧ OwnR W B (.slice a n c) S.rules
theorem schR_stays (B : Nat) (S : Sch) : Stays (SchR B S) := by
  rintro v w w' ⟨a, n, c, hv, ho⟩ hx
  exact ⟨a, n, c, hv, ho.below hx ho.lt⟩
/-- a new block of three cells -/
def New3 (B : Nat) (x y z : Value) (t : TypeId) (v : Value) (W : World) : Prop := ∃ g, v = .pointer (some ⟨g, 0, none⟩) ∧ W.heap[g]? = some (.cells #[x, y, z] t (0, 0)) ∧ B ≤ g
theorem new3_stays (B : Nat) (x y z : Value) (t : TypeId) : Stays (New3 B x y z t) := by
  rintro v w w' ⟨g, hv, hg, hB⟩ hx
  exact ⟨g, hv, (Below.block hx g (Array.getElem?_eq_some_iff.1 hg).1).trans hg, hB⟩
theorem wpOp_store_sch {P : Program} {ops : Array Oper} {Q : Exit → Act → World → Prop} {L : Nat} {K : Act → World → Prop} {o : Oper} {A : Act} {W : World} {ty t : TypeId} {p v : Operand} {g : Nat} {x' y' z' : Value} {n m : Int} {a : Option Addr} {k c : Nat}
    (ho : ops[L]? = some o) (hg : o.guard = none) (hop : o.op = .store ty p v) (hd : o.dst = none) (hp : A.eval p = .pointer (some ⟨g, 0, none⟩)) (hv : A.eval v = .agg #[.int .i64 n, .int .u8 m, .slice a k c]) (hr : W.heap[g]? = some (.cells #[x', y', z'] t (0, 0))) (hsz : (sizeOf ty).run P W = .ok 3 W)
    (hK : K A (((W.setCell ⟨g, 0, none⟩ (.int .i64 n)).setCell ⟨g, 1, none⟩ (.int .u8 m)).setCell ⟨g, 2, none⟩ (.slice a k c))) : wpOp P ops Q L K A W := by
  unfold wpOp
  rw [ho]
  have hw : Region.wanted o (yielded ops A.tmps) = true := by unfold Region.wanted; rw [hg]
  simp only [hw, if_pos]
  refine .inl ?_
  unfold Oper.wp execOp
  obtain ⟨c0, c1, c2⟩ := cells3 hr
  have hf : ∀ i, W.frozen? ⟨g, i, none⟩ = false := fun i => by simp [World.frozen?, hr]
  simp only [hop, hp, hv]
  simp [go_sem, hf, c0, c1, c2, hsz]
  rw [hd]
  exact hK
theorem wpOp_store_rep {P : Program} {ops : Array Oper} {Q : Exit → Act → World → Prop} {L : Nat} {K : Act → World → Prop} {o : Oper} {A : Act} {W : World} {ty t : TypeId} {p v : Operand} {g : Nat} {x' y' z' : Value} {a1 a2 a3 : Option Addr} {n1 c1 n2 c2 n3 c3 : Nat}
    (ho : ops[L]? = some o) (hg : o.guard = none) (hop : o.op = .store ty p v) (hd : o.dst = none) (hp : A.eval p = .pointer (some ⟨g, 0, none⟩)) (hv : A.eval v = .agg #[.slice a1 n1 c1, .slice a2 n2 c2, .slice a3 n3 c3]) (hr : W.heap[g]? = some (.cells #[x', y', z'] t (0, 0))) (hsz : (sizeOf ty).run P W = .ok 3 W)
    (hK : K A (((W.setCell ⟨g, 0, none⟩ (.slice a1 n1 c1)).setCell ⟨g, 1, none⟩ (.slice a2 n2 c2)).setCell ⟨g, 2, none⟩ (.slice a3 n3 c3))) : wpOp P ops Q L K A W := by
  unfold wpOp
  rw [ho]
  have hw : Region.wanted o (yielded ops A.tmps) = true := by unfold Region.wanted; rw [hg]
  simp only [hw, if_pos]
  refine .inl ?_
  unfold Oper.wp execOp
  obtain ⟨c0, c1, c2⟩ := cells3 hr
  have hf : ∀ i, W.frozen? ⟨g, i, none⟩ = false := fun i => by simp [World.frozen?, hr]
  simp only [hop, hp, hv]
  simp [go_sem, hf, c0, c1, c2, hsz]
  rw [hd]
  exact hK
/-- a scheme in block gt whose rules lie in a row of the call's own, from block B0 on -/
structure TX0 (wl : World) (B0 gt : Nat) (mo ac : Int) (v : Value) (wr : World) : Prop where
  bl : Below B0 wl wr
  rep : wr.heap[gt]? = some (.cells #[.int .i64 mo, .int .u8 ac, v] 33 (0, 0))
  ge : B0 ≤ gt
structure TX (wl : World) (B0 gt : Nat) (mo ac : Int) (v : Value) (T : List Rl) (wr : World) : Prop extends TX0 wl B0 gt mo ac v wr where
  own : OwnR wr B0 v T
section
variable {wl : World} {B0 gt : Nat} {mo ac : Int} {v v' : Value} {T T' : List Rl} {wr w1 : World} {row : Option Nat}
theorem TX0.gs (h : TX0 wl B0 gt mo ac v wr) : gt < wr.heap.size := (Array.getElem?_eq_some_iff.1 h.rep).1
theorem TX0.below (h : TX0 wl B0 gt mo ac v wr) (hb : Below wr.heap.size wr w1) : TX0 wl B0 gt mo ac v w1 :=
  ⟨h.bl.trans (hb.mono (Nat.le_trans h.ge (Nat.le_of_lt h.gs))), (hb.block gt h.gs).trans h.rep, h.ge⟩
theorem TX.below (h : TX wl B0 gt mo ac v T wr) (hb : Below wr.heap.size wr w1) : TX wl B0 gt mo ac v T w1 := ⟨h.toTX0.below hb, h.own.below hb h.own.lt⟩
theorem TX0.cells (h : TX0 wl B0 gt mo ac v wr) : wr.cell? ⟨gt, 0, none⟩ = some (.int .i64 mo) ∧ wr.cell? ⟨gt, 1, none⟩ = some (.int .u8 ac) ∧ wr.cell? ⟨gt, 2, none⟩ = some v := cells3 h.rep
theorem TX0.free (h : TX0 wl B0 gt mo ac v wr) (i : Nat) : wr.frozen? ⟨gt, i, none⟩ = false := by simp [World.frozen?, h.rep]
theorem OwnR.ne_of {B : Nat} {cs : Array Value} (h : OwnR wr B v T) (hr : wr.heap[gt]? = some (.cells cs 33 (0, 0))) : ∀ q, v.ownBlock = some q → q ≠ gt := by
  intro q hq e
  subst e
  rcases h.2 with ⟨rfl, _⟩ | ⟨g', cap, cur, rfl, h1, h2, h3⟩
  · cases hq
  · cases hq
    rw [hr] at h2
    injection h2 with h2
    injection h2 with _ h2 _
    exact absurd h2 (by decide)
theorem TX0.grown (h : TX0 wl B0 gt mo ac v wr) (hg : wr.grownBy w1 row) (hr : ∀ k, row = some k → B0 ≤ k) (hn : ∀ k, row = some k → k ≠ gt) : TX0 wl B0 gt mo ac v w1 :=
  ⟨h.bl.grown hg (Nat.le_trans h.ge (Nat.le_of_lt h.gs)) hr, (hg.block gt h.gs (fun e => hn gt e.symm rfl)).trans h.rep, h.ge⟩
theorem TX0.put (h : TX0 wl B0 gt mo ac v wr) (ho : OwnR wr B0 v' T') : TX wl B0 gt mo ac v' T' (wr.setCell ⟨gt, 2, none⟩ v') := by
  refine ⟨⟨h.bl.setCell h.ge _, set_one h.rep rfl, h.ge⟩, ?_⟩
  have hne := ho.ne_of h.rep
  refine ⟨ho.1, ho.2.imp id ?_⟩
  rintro ⟨b, cap, cur, rfl, h1, h2, h3⟩
  refine ⟨b, cap, cur, rfl, h1, ?_, h3⟩
  rw [Below.heap_setCell _ _ _ _ (hne b rfl)]; exact h2
theorem TX.rebase {wl2 : World} (h : TX wl B0 gt mo ac v T wr) (hb : Below B0 wl2 wl) : TX wl2 B0 gt mo ac v T wr := ⟨⟨hb.trans h.bl, h.rep, h.ge⟩, h.own⟩
theorem TX0.here (h : TX0 wl B0 gt mo ac v wr) : TX0 wr B0 gt mo ac v wr := ⟨Below.refl _ _, h.rep, h.ge⟩
theorem tx_new {g : Nat} {x y z : Value} {S : Sch} {a : Option Addr} {n c : Nat} (hb : Below B0 wl wr) (hr : wr.heap[g]? = some (.cells #[x, y, z] 33 (0, 0))) (hg : B0 ≤ g) (ho : OwnR wr B0 (.slice a n c) S.rules) :
    TX wl B0 g S.modes S.acc (.slice a n c) S.rules (((wr.setCell ⟨g, 0, none⟩ (.int .i64 S.modes)).setCell ⟨g, 1, none⟩ (.int .u8 S.acc)).setCell ⟨g, 2, none⟩ (.slice a n c)) := by
  refine ⟨⟨((hb.setCell hg _).setCell hg _).setCell hg _, set3 hr, hg⟩, ?_⟩
  have hne := ho.ne_of hr
  refine ⟨ho.1, ho.2.imp id ?_⟩
  rintro ⟨b, cap, cur, he, h1, h2, h3⟩
  refine ⟨b, cap, cur, he, h1, ?_, h3⟩
  have hb2 : b ≠ g := hne b (by rw [he]; rfl)
  rw [Below.heap_setCell _ _ _ _ hb2, Below.heap_setCell _ _ _ _ hb2, Below.heap_setCell _ _ _ _ hb2]; exact h2
end
theorem wpList_append_rule {w : World} {ops : Array Oper} {rest : List Oper} {o : Oper} {a : Act} {Q : Exit → Act → World → Prop} (hgd : o.guard = none) (s x : Operand)
    (ho : o.op = .call { callee := .builtin .append, args := #[s, x], argTypes := #[31, 31] }) (B : Nat) (v : Value) (R : List Rl) (r : Rl) (hs : a.eval s = v) (hown : OwnR w B v R) (g : Nat) (hx : a.eval x = .slice (some ⟨g, 0, none⟩) 1 1)
    (hg : w.heap[g]? = some (.cells #[.int .i64 r.frm, .int .i64 r.dst, .string r.inp, .string r.out, .int .i64 r.cost] 29 (0, 0))) (hl : R.length < 1000) (hB : B ≤ w.heap.size)
    (h : ∀ v' w', OwnR w' B v' (R ++ [r]) → w.grownBy w' v.ownBlock → wpList Try.prog ops Q rest (a.put o.dst v') w') : wpList Try.prog ops Q (o :: rest) a w := by
  obtain ⟨i0, hi, hz0, hz1, hz2⟩ := info_parts A_info_rule
  refine wpList_append_own w hgd s x 31 ho B 29 i0 _ 5 56 Try.underlying31 hi hz0 hz1 hz2 rfl (by decide) v R.length (rcells R) hs hown ⟨g, 0, none⟩ 1 1 r.cells hx rfl (rule_cells_at hg) (rl_one r) (by unfold maxLen; omega) (by omega) hB ?_
  intro v' w' h1 h2 _
  refine h v' w' ?_ h2
  have e : rcells R ++ r.cells = rcells (R ++ [r]) := by simp [rcells]
  have e2 : (R ++ [r]).length = R.length + 1 := by simp
  unfold OwnR
  rw [e2, ← e]
  exact h1
end Go.Proofs.Ytogjcfcfgnbmkaa
