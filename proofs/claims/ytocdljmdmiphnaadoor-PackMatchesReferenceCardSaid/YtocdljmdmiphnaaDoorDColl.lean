
/- dawg.collect. -/
import Derived.Test.YtocdljmdmiphnaaDoorDAll
import Derived.RangeFuncBox
import Derived.Maps.AppendAt
namespace Go.Proofs.YtocdljmdmiphnaaDoor
open Go.RowKit Go.WideShapes
set_option linter.unusedVariables false
set_option linter.unusedSimpArgs false
attribute [local go_sem] Oper.semAt_some

def colOk (l : List (ByteArray × Bool)) : Prop := (∀ x ∈ l, x.2 = true) ∧ l.length ≤ 200
theorem colOk.pre {l m : List (ByteArray × Bool)} (h : colOk l) (hp : m <+: l) : colOk m := ⟨fun x hx => h.1 x (hp.subset hx), Nat.le_trans hp.length_le h.2⟩
def fstS (l : List (ByteArray × Bool)) : List ByteArray := l.map Prod.fst
def colI (w : World) (pre : List (ByteArray × Bool)) (W : World) : Prop :=
  (((colOk pre ∧ Boxed W w.heap.size 26 (.slice none 0 0)) ∧ Boxed W (w.heap.size + 1) 4 (.bool false)) ∧ (∃ v, Boxed W (w.heap.size + 1 + 1) 26 v ∧ OwnG rowStr W w.heap.size v (fstS pre) ∧ True)) ∧ Below w.heap.size w W
def colX (w : World) (c : Code) (pre : List (ByteArray × Bool)) (W : World) : Prop :=
  (((c = .ret ∧ ¬ colOk pre) ∧ Boxed W w.heap.size 26 (.slice none 0 0)) ∧ Boxed W (w.heap.size + 1) 4 (.bool false)) ∧ Below w.heap.size w W
theorem colI_own (w : World) (B : Nat) (hB : w.heap.size ≤ B) : OwnFrom B (colI w) :=
  OwnFrom.and (OwnFrom.and (OwnFrom.and (OwnFrom.and (ownFrom_pure _ _) (Own.from (boxed_own _ _ (fun _ => .slice none 0 0)) _)) (Own.from (boxed_own _ _ (fun _ => .bool false)) _))
    (Own.from (holdsRow_own w.heap.size (w.heap.size + 1 + 1) 26 9 1 (fun pre => (fstS pre).length) (fun pre => (fstS pre).flatMap rowStr.enc) (fun _ _ => True)) _)) (ownFrom_below (Nat.le_refl _) hB)
theorem colX_own (w : World) (B : Nat) (hB : w.heap.size ≤ B) (c : Code) : OwnFrom B (colX w c) :=
  OwnFrom.and (OwnFrom.and (OwnFrom.and (ownFrom_pure _ _) (Own.from (boxed_own _ _ (fun _ => .slice none 0 0)) _)) (Own.from (boxed_own _ _ (fun _ => .bool false)) _)) (ownFrom_below (Nat.le_refl _) hB)
theorem kp_app {W w1 : World} {n₀ B : Nat} {v v' : Value} {k : Nat} {xs : List Value} {tmp : Obj} (hv : Boxed W B 26 v) (hrow : W.ownsRow n₀ 9 1 v k xs) (hgrow : (W.alloc tmp).grownBy w1 v.ownBlock) (hb : Below n₀ W (w1.setCell ⟨B, 0, none⟩ v')) : Kp n₀ W (w1.setCell ⟨B, 0, none⟩ v') := by
  refine ⟨hb, fun q cs t fz hq h1 h2 h3 => ?_⟩
  have hqB : q ≠ B := fun e => by
    subst e
    have h4 : W.heap[q]? = _ := hv
    rw [hq] at h4; injection h4 with h4; injection h4 with _ h5; exact h2 h5
  have hlt := (Array.getElem?_eq_some_iff.1 hq).1
  rw [Below.heap_setCell _ _ _ _ hqB, hgrow.block q (by rw [World.size_alloc]; omega) ?_]
  · exact Below.heap_alloc _ _ _ hlt
  · intro e
    rcases hrow.2 with ⟨rfl, _⟩ | ⟨g, cap, cur, rfl, _, hgb, _⟩
    · cases e
    · injection e with e
      rw [e] at hq
      rw [show W.heap[g]? = some (.cells cs t fz) from hq] at hgb
      injection hgb with hgb; injection hgb with _ h5; exact h1 h5
/-- what collect answers -/
def colP (l : List (ByteArray × Bool)) (w : World) (e : Ending) (w' : World) : Prop :=
  (colOk l ∧ ∃ v, e = .returned (.tuple #[v, .bool true]) ∧ OwnG rowStr w' w.heap.size v (fstS l) ∧ Below w.heap.size w w') ∨ (¬ colOk l ∧ e = .returned (.tuple #[.slice none 0 0, .bool false]) ∧ Below w.heap.size w w')
set_option maxHeartbeats 2000000 in
set_option maxRecDepth 100000 in
theorem collect_any (D : List Nd) (a : Option Addr) (c : Nat) (w : World) (hD : DawgS w a D) (hDl : D.length ≤ 9223372036854775807) (hC : CsOk D) :
    Calls Tryd.prog 49 #[.slice a D.length c] w (colP (visitL D 22 0 []).1 w) := by
  obtain ⟨i0, hi, hz0, hz1, hz2⟩ := info_parts rowStr_ok.info
  obtain ⟨LL, hLL⟩ : ∃ LL, (visitL D 22 0 []).1 = LL := ⟨_, rfl⟩
  refine (callsIn_wide (n := 9)).1 ?_
  refine callsIn_of_wp_marks Tryd.func49 rfl trivial ?_ rfl
  simp only [Tryd.ntmps49, List.size_toArray, List.length_cons, List.length_nil, Nat.reduceAdd, Nat.reduceSub, Array.replicate_succ, Array.replicate_zero, List.push_toArray, List.append_toArray, List.nil_append, List.cons_append]
  have hfn : Fence.wide.fn 63 := trivial
  gi_wp2_with (gi_at_call 63; refine (callsIn_wide.2 (all_any _ _ _ _)).mono ?_; rintro e w' ⟨rfl, rfl⟩)
  obtain ⟨w4, hw4⟩ : ∃ w4, (((w.alloc (Obj.cells #[Value.slice none 0 0] 26)).alloc (Obj.cells #[Value.bool false] 4)).alloc (Obj.cells #[Value.slice none 0 0] 26)).alloc (Obj.cells #[.slice a D.length c] 29) = w4 := ⟨_, rfl⟩
  have hB0 : Below w.heap.size w w4 := by
    rw [← hw4]
    exact ((((Below.refl _ w).alloc (Nat.le_refl _) _).alloc (by simp only [World.size_alloc]; omega) _).alloc (by simp only [World.size_alloc]; omega) _).alloc (by simp only [World.size_alloc]; omega) _
  have hs4 : w4.heap.size = w.heap.size + 4 := by rw [← hw4]; simp only [World.size_alloc]
  have b2 : Boxed w4 w.heap.size 26 (.slice none 0 0) := by
    rw [← hw4]; exact (((Boxed.new w _ _).alloc _).alloc _).alloc _
  have b3 : Boxed w4 (w.heap.size + 1) 4 (.bool false) := by
    rw [← hw4]
    have h := Boxed.new (w.alloc (Obj.cells #[Value.slice none 0 0] 26)) 4 (.bool false)
    rw [World.size_alloc] at h
    exact (h.alloc _).alloc _
  have b4 : Boxed w4 (w.heap.size + 1 + 1) 26 (.slice none 0 0) := by
    rw [← hw4]
    have h := Boxed.new ((w.alloc (Obj.cells #[Value.slice none 0 0] 26)).alloc (Obj.cells #[Value.bool false] 4)) 26 (.slice none 0 0)
    simp only [World.size_alloc] at h
    exact h.alloc _
  have b5 : Boxed w4 (w.heap.size + 1 + 1 + 1) 29 (.slice a D.length c) := by
    rw [← hw4]
    have h := Boxed.new (((w.alloc (Obj.cells #[Value.slice none 0 0] 26)).alloc (Obj.cells #[Value.bool false] 4)).alloc (Obj.cells #[Value.slice none 0 0] 26)) 29 (.slice a D.length c)
    simp only [World.size_alloc] at h
    exact h
  rw [hw4]
  clear hw4
  refine wpIn_rangeFunc_ownF (w0 := w4) rfl (by omega) (gf := 75) (lb := #[.pointer (some ⟨w.heap.size + 1 + 1 + 1, 0, none⟩)]) rfl trivial (enters_of Tryd.func75 (by kernel_rfl) rfl)
    (all1_stops 8 (w.heap.size + 1 + 1 + 1) w.heap.size a c D w w4 (Nat.le_refl _) (by omega) hB0 b5 hD hDl hC) (fun h k => h.trans k) (Kp.obj (by omega)) (Below.refl _ _) (fun _ => rfl)
    (colI w) (colX w) (colI_own w _ (by omega)) (fun c => colX_own w _ (by omega) c) ⟨⟨⟨⟨⟨fun x hx => by (cases hx), by simp⟩, b2⟩, b3⟩, _, b4, OwnG.nil rowStr _ _, trivial⟩, hB0⟩
    (fun x => { tmps := #[.slice a D.length c, undef, .pointer (some ⟨w.heap.size, 0, none⟩), .pointer (some ⟨w.heap.size + 1, 0, none⟩), .pointer (some ⟨w.heap.size + 1 + 1, 0, none⟩), .string x.1, .bool x.2, .slice a D.length c, .func (.func 75) #[] #[.pointer (some ⟨w.heap.size + 1 + 1 + 1, 0, none⟩)], .string x.1, .bool x.2, undef, undef, undef, undef, undef, undef, undef, undef, undef, undef, undef, undef], defers := [] }) ?assign ?body ?done ?stop
  case assign =>
    intro l x W K hK
    gi_wp2
    exact hK
  case body =>
    rintro l pre ⟨s, ok⟩ W ⟨⟨⟨⟨hok, hb2⟩, hb3⟩, v, hv, hrow, -⟩, hB⟩ -
    have hws : w.heap.size ≤ W.heap.size := hB.size
    have e1 := hb2.cell; have e2 := hb2.frozen; have e3 := hb3.cell; have e4 := hb3.frozen; have e5 := hv.cell; have e6 := hv.frozen
    have hleave : ∀ ac, ¬ colOk (pre ++ [(s, ok)]) → ownPostK (Kp w.heap.size) (colI w) (colX w) (pre ++ [(s, ok)]) W Exit.ret ac ((W.setCell ⟨w.heap.size, 0, none⟩ (.slice none 0 0)).setCell ⟨w.heap.size + 1, 0, none⟩ (.bool false)) := fun ac hno => by
      refine ⟨(KeepsOthers.setCell _ _ _).trans (KeepsOthers.setCell _ _ _), ⟨⟨⟨rfl, hno⟩, ?_⟩, ?_⟩, ?_⟩
      · exact (hb2.set _).kept (grownBy_setCell' _ _ _) (by simp)
      · exact (hb3.kept (grownBy_setCell' _ _ _) (by simp)).set _
      · exact (hB.setCell (p := ⟨w.heap.size, 0, none⟩) (Nat.le_refl _) _).setCell (p := ⟨w.heap.size + 1, 0, none⟩) (by show w.heap.size ≤ w.heap.size + 1; omega) _
    obtain ⟨a0, c0, rfl, -, -⟩ := hrow.form
    have HPL : Hid ((fstS pre).length = pre.length) := by show _ = _; simp [fstS]
    cases ok with
    | false =>
      gi_wp2
      exact hleave _ (fun h => by have := h.1 (s, false) (by simp); cases this)
    | true =>
      by_cases h200 : pre.length = 200
      · have HH := Lib.hid h200
        have h2 : (((fstS pre).length : Int) == 200) = true := by rw [HPL.out, h200]; rfl
        clear h200
        gi_wp2
        exact hleave _ (fun h => by have := h.2; have := HH.out; simp at *; omega)
      · have h2 : (((fstS pre).length : Int) == 200) = false := by rw [HPL.out]; simp; omega
        have hle : (fstS pre).length < 200 := by rw [HPL.out]; have := hok.2; omega
        clear h200
        gi_wp2_with (first
          | (gi_at_builtin; refine wpListIn_append_own _ rfl _ _ 26 rfl w.heap.size 9 i0 (.string ⟨#[]⟩) 1 16 Tryd.underlying26 hi hz0 hz1 hz2 rfl (by decide) _ _ _ rfl (hrow.alloc _) ⟨W.heap.size, 0, none⟩ 1 1 [.string s] rfl rfl (cell_one_new _ _ _) (by simp [Value.oneCell']) (by unfold maxLen; omega) (by omega) (by simp; omega) ?_; intro v' w3 hown' hg3 hnil3
             have hown2 : OwnG rowStr w3 w.heap.size v' (fstS pre ++ [s]) := by unfold OwnG; rw [List.length_append, List.flatMap_append]; exact hown'
             have hg3' : (W.alloc (.cells #[.string s] 9)).grownBy w3 (Value.slice a0 (fstS pre).length c0).ownBlock := hg3
             obtain ⟨g1, c1, rfl⟩ := ownsRow_succ hown'
             obtain ⟨p1, p2, p3, p4, p5⟩ := Boxed.appended hv (by decide) hrow hws (by omega) hown2 hg3'
             have q1 := p1.cell; have q2 := p1.frozen
             have r2 := (((hb2.alloc (.cells #[.string s] 9)).kept hg3' (hb2.not_row (by decide) hrow)).kept (grownBy_setCell' w3 (w.heap.size + 1 + 1) (.slice (some ⟨g1, 0, none⟩) ((fstS pre).length + 1) c1)) (by simp; omega))
             have r3 := (((hb3.alloc (.cells #[.string s] 9)).kept hg3' (hb3.not_row (by decide) hrow)).kept (grownBy_setCell' w3 (w.heap.size + 1 + 1) (.slice (some ⟨g1, 0, none⟩) ((fstS pre).length + 1) c1)) (by simp))
             have r4 := kp_app hv hrow hg3' p5
             have HR := Lib.hid (And.intro p2 (And.intro p3 (And.intro p4 (And.intro p5 (And.intro r2 (And.intro r3 r4))))))
             clear p1 p2 p3 p4 p5 r2 r3 r4 hg3' hg3 hnil3 hown2 hown'))
        obtain ⟨p2, p3, p4, p5, r2, r3, r4⟩ := HR.out
        have hfs : fstS (pre ++ [(s, true)]) = fstS pre ++ [s] := by simp [fstS]
        refine ⟨p4, r4, ⟨⟨⟨⟨fun x hx => ?_, ?_⟩, r2⟩, r3⟩, _, p2, ?_, trivial⟩, hB.trans p5⟩
        · rcases List.mem_append.1 hx with hx | hx
          · exact hok.1 x hx
          · obtain rfl := List.mem_singleton.1 hx; rfl
        · have := HPL.out; simp; omega
        · rw [hfs]; exact p3
  case done =>
    rintro D' ys W hD' rfl ⟨⟨⟨⟨hok, hb2⟩, hb3⟩, v, hv, hrow, -⟩, hB⟩ hK
    rw [hLL] at hok hrow
    obtain ⟨a0, c0, rfl, -, -⟩ := hrow.form
    have hws : w.heap.size ≤ W.heap.size := hB.size
    have e1 := hb2.cell; have e2 := hb2.frozen; have e3 := hb3.cell; have e4 := hb3.frozen; have e5 := hv.cell; have e6 := hv.frozen
    gi_wp2
    obtain ⟨W2, hW2⟩ : ∃ W2, (W.setCell ⟨w.heap.size, 0, none⟩ (.slice a0 (fstS LL).length c0)).setCell ⟨w.heap.size + 1, 0, none⟩ (.bool true) = W2 := ⟨_, rfl⟩
    have hK2 : W2.heap[D']? = some (.deferred (some [])) := by
      rw [← hW2]; exact ((KeepsOthers.setCell W _ _).trans (KeepsOthers.setCell _ _ _)).same D' _ hK rfl
    have r2 : Boxed W2 w.heap.size 26 (.slice a0 (fstS LL).length c0) := by
      rw [← hW2]; exact (hb2.set _).kept (grownBy_setCell' _ _ _) (by simp)
    have r3 : Boxed W2 (w.heap.size + 1) 4 (.bool true) := by
      rw [← hW2]; exact (hb3.kept (grownBy_setCell' _ _ _) (by simp)).set _
    have hB2 : Below w.heap.size w W2 := by
      rw [← hW2]; exact (hB.setCell (p := ⟨w.heap.size, 0, none⟩) (Nat.le_refl _) _).setCell (p := ⟨w.heap.size + 1, 0, none⟩) (by show w.heap.size ≤ w.heap.size + 1; omega) _
    have hr1 : OwnG rowStr (W.setCell ⟨w.heap.size, 0, none⟩ (.slice a0 (fstS LL).length c0)) w.heap.size (.slice a0 (fstS LL).length c0) (fstS LL) := hrow.grown (grownBy_setCell' _ _ _) fun q hq => fun e => by
      have := hb2.not_row (e := 9) (by decide) hrow; injection e with e; exact this (by rw [hq, e])
    have hr2 : OwnG rowStr W2 w.heap.size (.slice a0 (fstS LL).length c0) (fstS LL) := by
      rw [← hW2]
      refine hr1.grown (grownBy_setCell' _ _ _) fun q hq => fun e => ?_
      have := hb3.not_row (e := 9) (by decide) hrow; injection e with e; exact this (by rw [hq, e])
    have hr3 : OwnG rowStr (W2.putObj D' (.deferred none)) w.heap.size (.slice a0 (fstS LL).length c0) (fstS LL) := ownsRow_putObj hr2 _ hK2 rfl
    rw [hW2]
    clear hW2
    refine ⟨by simp, .inl ⟨_, _, rfl, run_takeDeferred hK2, ?_⟩⟩
    have f2 := (r2.kept (grownBy_putObj' W2 D' (.deferred none)) (fun e => by injection e with e; omega)).cell
    have f3 := (r3.kept (grownBy_putObj' W2 D' (.deferred none)) (fun e => by injection e with e; omega)).cell
    refine ⟨.tuple #[.slice a0 (fstS LL).length c0, .bool true], by simp [results, Tryd.f49, go_sem, f2, f3], by rw [hLL]; exact .inl ⟨hok, _, rfl, hr3, hB2.trans (belowK_b (w := w) (Nat.le_refl _) W2 D' _ _ (by omega) hK2 rfl rfl)⟩⟩
  case stop =>
    rintro D' c' pre W hD' hpre ⟨⟨⟨⟨rfl, hno⟩, hb2⟩, hb3⟩, hB⟩ hK
    gi_wp2
    refine ⟨by simp, .inl ⟨_, _, rfl, run_takeDeferred hK, ?_⟩⟩
    have f2 := (hb2.kept (grownBy_putObj' W D' (.deferred none)) (fun e => by injection e with e; omega)).cell
    have f3 := (hb3.kept (grownBy_putObj' W D' (.deferred none)) (fun e => by injection e with e; omega)).cell
    refine ⟨.tuple #[.slice none 0 0, .bool false], by simp [results, Tryd.f49, go_sem, f2, f3], .inr ⟨fun h => hno (h.pre hpre), rfl, hB.trans (belowK_b (w := w) (Nat.le_refl _) W D' _ _ (by omega) hK rfl rfl)⟩⟩
end Go.Proofs.YtocdljmdmiphnaaDoor
