/- What the laws share: the made scheme in a block of its own. -/
import Derived.Test.YtogjcfcfgnbmkaaMade
import Derived.Test.YtogjcfcfgnbmkaaSanity
import Derived.Test.YtogjcfcfgnbmkaaPlainA
namespace Go.Proofs.Ytogjcfcfgnbmkaa
open Go.RowKit
set_option linter.unusedVariables false
set_option linter.unusedSimpArgs false

theorem isRows_later {k : IntKind} {m : Nat} {w w1 : World} {a : Option Addr} {len : Nat} {Z : Nat → Nat → Int} {B : Nat} (h : IsRows k m w a len Z) (hb : Below B w w1) (hB : w.heap.size ≤ B) : IsRows k m w1 a len Z := by
  rcases h with h | ⟨b, o, ha, hl, hlt, hr⟩
  · exact .inl h
  · exact .inr ⟨b, o, ha, hl, Nat.lt_of_lt_of_le hlt hb.size, fun i hi j hj => ⟨(hb.cell (p := ⟨b, _, none⟩) (Nat.lt_of_lt_of_le hlt hB)).trans (hr i hi j hj).1, (hr i hi j hj).2⟩⟩
/-- a scheme in block g -/
structure LW (w M0 : World) (g : Nat) (S : Sch) (b : Option Addr) (c : Nat) (wr : World) : Prop where
  rep : wr.heap[g]? = some (.cells #[.int .i64 S.modes, .int .u8 S.acc, .slice b S.rules.length c] 33 (0, 0))
  own : OwnR wr w.heap.size (.slice b S.rules.length c) S.rules
  bl : Below (w.heap.size + 1) M0 wr
  gm : w.heap.size + 1 ≤ g
  gs : g < wr.heap.size
  ol : ∀ q, (Value.slice b S.rules.length c).ownBlock = some q → q < g
section
variable {w M0 : World} {g C : Nat} {S : Sch} {b : Option Addr} {c : Nat} {wr w1 : World}
theorem LW.belowC (h : LW w M0 g S b c wr) (hb : Below C wr w1) (hC : g < C) : LW w M0 g S b c w1 :=
  ⟨(hb.block g hC).trans h.rep, h.own.below hb (fun q hq => Nat.lt_trans (h.ol q hq) hC), h.bl.trans (hb.mono (by have := h.gm; omega)), h.gm, Nat.lt_of_lt_of_le h.gs hb.size, h.ol⟩
theorem LW.below (h : LW w M0 g S b c wr) (hb : Below wr.heap.size wr w1) : LW w M0 g S b c w1 :=
  ⟨(hb.block g h.gs).trans h.rep, h.own.below hb h.own.lt, h.bl.trans (hb.mono (by have := h.gm; have := h.gs; omega)), h.gm, Nat.lt_of_lt_of_le h.gs hb.size, h.ol⟩
theorem LW.cells (h : LW w M0 g S b c wr) : wr.cell? ⟨g, 0, none⟩ = some (.int .i64 S.modes) ∧ wr.cell? ⟨g, 1, none⟩ = some (.int .u8 S.acc) ∧ wr.cell? ⟨g, 2, none⟩ = some (.slice b S.rules.length c) := cells3 h.rep
theorem LW.rul (h : LW w M0 g S b c wr) : RulS wr b S.rules := h.own.ruls.1
theorem LW.cap (h : LW w M0 g S b c wr) : S.rules.length ≤ c := h.own.ruls.2.2
theorem lw_new {w2 : World} (ho : OwnR w2 w.heap.size (.slice b S.rules.length c) S.rules) (hb : Below (w.heap.size + 1) M0 w2) (hs : w.heap.size + 1 ≤ w2.heap.size) :
    LW w M0 w2.heap.size S b c (w2.alloc (.cells #[.int .i64 S.modes, .int .u8 S.acc, .slice b S.rules.length c] 33)) :=
  ⟨heap_alloc_new _ _, ho.below ((Below.refl _ _).alloc (Nat.le_refl _) _) ho.lt, hb.alloc hs _, hs, by simp only [World.size_alloc]; omega, ho.lt⟩
end
/-- a scheme that is being built in block gt, its rules in a row of their own behind it; all older blocks as in wl -/
structure TS0 (wl : World) (gt : Nat) (mo ac : Int) (v : Value) (wr : World) : Prop where
  bl : Below gt wl wr
  rep : wr.heap[gt]? = some (.cells #[.int .i64 mo, .int .u8 ac, v] 33 (0, 0))
  gs : gt < wr.heap.size
structure TS (wl : World) (gt : Nat) (mo ac : Int) (v : Value) (T : List Rl) (wr : World) : Prop extends TS0 wl gt mo ac v wr where
  own : OwnR wr (gt + 1) v T
section
variable {wl : World} {gt : Nat} {mo ac : Int} {v v' : Value} {T T' : List Rl} {wr w1 : World} {row : Option Nat}
theorem TS0.below (h : TS0 wl gt mo ac v wr) (hb : Below wr.heap.size wr w1) : TS0 wl gt mo ac v w1 :=
  ⟨h.bl.trans (hb.mono (Nat.le_of_lt h.gs)), (hb.block gt h.gs).trans h.rep, Nat.lt_of_lt_of_le h.gs hb.size⟩
theorem TS.below (h : TS wl gt mo ac v T wr) (hb : Below wr.heap.size wr w1) : TS wl gt mo ac v T w1 := ⟨h.toTS0.below hb, h.own.below hb h.own.lt⟩
theorem TS.rebase {wl2 : World} (h : TS wl gt mo ac v T wr) (hb : Below gt wl2 wl) : TS wl2 gt mo ac v T wr := ⟨⟨hb.trans h.bl, h.rep, h.gs⟩, h.own⟩
theorem TS0.here (h : TS0 wl gt mo ac v wr) : TS0 wr gt mo ac v wr := ⟨Below.refl _ _, h.rep, h.gs⟩
theorem TS0.cells (h : TS0 wl gt mo ac v wr) : wr.cell? ⟨gt, 0, none⟩ = some (.int .i64 mo) ∧ wr.cell? ⟨gt, 1, none⟩ = some (.int .u8 ac) ∧ wr.cell? ⟨gt, 2, none⟩ = some v := cells3 h.rep
theorem TS0.free (h : TS0 wl gt mo ac v wr) (i : Nat) : wr.frozen? ⟨gt, i, none⟩ = false := by simp [World.frozen?, h.rep]
theorem TS0.grown (h : TS0 wl gt mo ac v wr) (hg : wr.grownBy w1 row) (hr : ∀ k, row = some k → gt + 1 ≤ k) : TS0 wl gt mo ac v w1 := by
  have h3 := h.gs
  have hb : Below (gt + 1) wr w1 := (Below.refl _ wr).grown hg h3 hr
  exact ⟨h.bl.trans (hb.mono (by omega)), (hb.block gt (by omega)).trans h.rep, by have := hb.size; omega⟩
theorem TS0.put (h : TS0 wl gt mo ac v wr) (ho : OwnR wr (gt + 1) v' T') : TS wl gt mo ac v' T' (wr.setCell ⟨gt, 2, none⟩ v') :=
  ⟨⟨h.bl.setCell (Nat.le_refl _) _, set_one h.rep rfl, by rw [World.size_setCell]; exact h.gs⟩, ho.set (by omega)⟩
end
theorem rep_field0 (a1 a2 a3 : Option Addr) (n1 c1 n2 c2 n3 c3 : Nat) (W : World) : (Instr.field 40 (.agg #[.slice a1 n1 c1, .slice a2 n2 c2, .slice a3 n3 c3]) 0).run Try.prog W = .ok (.slice a1 n1 c1) W := by kernel_rfl
theorem rep_field1 (a1 a2 a3 : Option Addr) (n1 c1 n2 c2 n3 c3 : Nat) (W : World) : (Instr.field 40 (.agg #[.slice a1 n1 c1, .slice a2 n2 c2, .slice a3 n3 c3]) 1).run Try.prog W = .ok (.slice a2 n2 c2) W := by kernel_rfl
theorem rep_field2 (a1 a2 a3 : Option Addr) (n1 c1 n2 c2 n3 c3 : Nat) (W : World) : (Instr.field 40 (.agg #[.slice a1 n1 c1, .slice a2 n2 c2, .slice a3 n3 c3]) 2).run Try.prog W = .ok (.slice a3 n3 c3) W := by kernel_rfl
theorem slice_low_ints (a : Option Addr) (n cap k : Nat) (hk : k ≤ cap) (w : World) :
    (Instr.slice 38 (.slice a n cap) none (some (.int .i64 (k : Int))) none).run Try.prog w = .ok (.slice a k cap) w := by
  have h0 : (0 : Int) ≤ (k : Int) := by omega
  have h1 : (k : Int) ≤ (cap : Int) := by omega
  cases a with
  | none => simp [go_sem, Instr.slice, Instr.sliceBounds, Instr.sliceBound, asIntOf, h0, h1]; intro h; omega
  | some a => simp [go_sem, Instr.slice, Instr.sliceBounds, Instr.sliceBound, asIntOf, h0, h1]; intro h; omega
theorem opOk_skip_undef {o : Oper} {ops : Array Oper} {A : Act} {j d : Nat} {want : Bool} {X Y : Prop} (hg : o.guard = some (j, want)) (hd : (ops[j]?).bind (·.dst) = some d) (h : A.tmps[d]?.getD undef = undef) (hY : Y) :
    (Region.wanted o (yielded ops A.tmps) = true → X) ∧ (Region.wanted o (yielded ops A.tmps) = false → Y) := by
  have hy : yielded ops A.tmps j = none := by
    unfold yielded
    rw [hd]
    simp only [Option.bind_some]
    cases hx : A.tmps[d]? with
    | none => rfl
    | some v => rw [hx] at h; simp only [Option.getD_some] at h; subst h; rfl
  have : Region.wanted o (yielded ops A.tmps) = false := by unfold Region.wanted; rw [hg]; simp only [hy]; rfl
  rw [this]; exact ⟨fun h => (by cases h), fun _ => hY⟩
theorem idx_mask (gl mm t : Nat) (ht : t < mm) (w : World) : (Instr.indexAt 56 (.slice (some ⟨gl, 0, none⟩) mm mm) (.int .i64 (t : Int))).run Try.prog w = .ok (.pointer (some ⟨gl, t, none⟩)) w := by
  have h0 : (0 : Int) ≤ (t : Int) := by omega
  have h1 : (t : Int) < (mm : Int) := by omega
  simp [go_sem, h0, h1]
theorem slS_take {W : World} {a : Option Addr} {xs : List Int} (h : SlS W a xs) (n : Nat) : SlS W a (xs.take n) := fun k hk => by
  have hk2 : k < xs.length := by rw [List.length_take] at hk; omega
  obtain ⟨b, o, h1, h2, h3⟩ := h k hk2
  refine ⟨b, o, h1, h2, ?_⟩
  rw [List.getElem_take]; exact h3
theorem ints_take (l : List Nat) (n : Nat) : ints (l.take n) = (ints l).take n := by simp [ints]
end Go.Proofs.Ytogjcfcfgnbmkaa
