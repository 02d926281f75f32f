/- The walk of FlawProves: true. -/
import Derived.Test.YtogjcfcfgnbmkaaAppE
import Derived.Test.YtogjcfcfgnbmkaaViews
import Derived.Test.YtogjcfcfgnbmkaaPlainC
import Derived.Test.YtogjcfcfgnbmkaaRefE
import Derived.Test.YtogjcfcfgnbmkaaRegionY
import Derived.Deep.CutBlock
namespace Go.Proofs.Ytogjcfcfgnbmkaa
open Go.RowKit
set_option linter.unusedVariables false
set_option linter.unusedSimpArgs false

/-- a row of numbers of the call's own, in slice form -/
def RowC (B : Nat) (xs : List Nat) (v : Value) (W : World) : Prop := ∃ a n c, v = .slice a n c ∧ Ch W B (.slice a n c) xs
theorem rowC_stays (B : Nat) (xs : List Nat) : Stays (RowC B xs) := by
  rintro v w w' ⟨a, n, c, hv, ho⟩ hx
  exact ⟨a, n, c, hv, ho.below hx ho.lt⟩
def RepC (B : Nat) (D T E : List Nat) (v : Value) (W : World) : Prop := ∃ a1 n1 c1 a2 n2 c2 a3 n3 c3, v = .agg #[.slice a1 n1 c1, .slice a2 n2 c2, .slice a3 n3 c3] ∧ Ch W B (.slice a1 n1 c1) D ∧ Ch W B (.slice a2 n2 c2) T ∧ Ch W B (.slice a3 n3 c3) E
theorem repC_stays (B : Nat) (D T E : List Nat) : Stays (RepC B D T E) := by
  rintro v w w' ⟨a1, n1, c1, a2, n2, c2, a3, n3, c3, hv, h1, h2, h3⟩ hx
  exact ⟨a1, n1, c1, a2, n2, c2, a3, n3, c3, hv, h1.below hx h1.lt, h2.below hx h2.lt, h3.below hx h3.lt⟩
set_option maxRecDepth 100000 in
/-- a copy of a row of numbers; it is new, unless it is empty -/
theorem opres_copy_new {A : Act} {W : World} {o : Oper} {s x : Operand} {B g : Nat} {v : Value} {xs : List Nat}
    (ho : o.op = .call { callee := .builtin .append, args := #[s, x], argTypes := #[38, 38] }) (hs : A.eval s = .slice (some ⟨g, 0, none⟩) 0 0) (hg : W.heap[g]? = some (.cells #[] 3 (0, 0))) (hx : A.eval x = v) (hown : Ch W B v xs) (hl : xs.length < 1000) :
    OpRes Try.prog A o W (fun v' w' => Ch w' g v' xs ∧ ((xs ≠ [] → ∀ q, v'.ownBlock = some q → W.heap.size ≤ q) ∧ (xs = [] → v' = .slice (some ⟨g, 0, none⟩) 0 0)) ∧ Ext W w') := by
  obtain ⟨i0, hi, hz0, hz1, hz2⟩ := info_parts info_int
  have h1 : ∀ u ∈ nats xs, u.oneCell' = true := by intro u hu; simp only [nats, List.mem_map] at hu; obtain ⟨n, _, rfl⟩ := hu; rfl
  obtain ⟨v', w', hr, h1, h2⟩ := run_append_empty (P := Try.prog) g 38 o.type 3 i0 _ 1 8 Try.underlying38 hi hz0 hz1 hz2 rfl (by decide) g hg (Nat.le_refl _) v xs.length (nats xs) B hown h1 (by unfold maxLen; omega) (by omega)
  have hnew : (xs ≠ [] → ∀ q, v'.ownBlock = some q → W.heap.size ≤ q) ∧ (xs = [] → v' = .slice (some ⟨g, 0, none⟩) 0 0) := by
    have he : W.ownsRow g 3 1 (.slice (some ⟨g, 0, none⟩) 0 0) 0 [] := ⟨by simp, .inr ⟨g, 0, #[], rfl, Nat.le_refl _, hg, Nat.le_refl _, Nat.zero_le _, by simp, by simp⟩⟩
    rcases id hown.2 with ⟨rfl, h0⟩ | ⟨g', cap, cur, rfl, h3, h4, h5, h6, h7, h8⟩
    · refine ⟨fun hx0 => absurd (List.eq_nil_of_length_eq_zero h0) hx0, fun _ => ?_⟩
      have hr2 := run_append_owned_none (P := Try.prog) (w := W) g 38 o.type 3 i0 1 Try.underlying38 hi _ 0 [] he
      rw [hr2] at hr
      injection hr with e1 e2
      exact e1.symm
    · refine ⟨fun hx0 => ?_, fun hx0 => ?_⟩
      · have hpos : 0 < xs.length := List.length_pos_iff.2 hx0
        have hr2 := run_append_grow (P := Try.prog) (w := W) 38 o.type 3 i0 _ Try.underlying38 hi hz0 ⟨g, 0, none⟩ 0 0 [] (by simp) (by simp) ⟨g', 0, none⟩ xs.length cap (nats xs) (by rw [hz1]; exact hown.1) (hown.cells (g := g') rfl) (by omega) (by omega) (growslice_fits (by omega) (by rw [hz2, Nat.zero_add]; omega))
        rw [hr2] at hr
        injection hr with e1 e2
        intro q hq
        rw [← e1] at hq
        injection hq with hq
        simp only at hq
        omega
      · subst hx0
        have hr2 : (Builtin.append_ #[38, 38] o.type #[.slice (some ⟨g, 0, none⟩) 0 0, .slice (some ⟨g', 0, none⟩) 0 cap]).run Try.prog W = .ok (.slice (some ⟨g, 0, none⟩) 0 0) W := by
          simp [Builtin.append_, run_underlying Try.underlying38, sizeOf, typeInfo, hi, Builtin.lenOf, Builtin.firstCells, storeCells, loadCells, loadCellsFrom]
        have hr3 : (Builtin.append_ #[38, 38] o.type #[.slice (some ⟨g, 0, none⟩) 0 0, .slice (some ⟨g', 0, none⟩) 0 cap]).run Try.prog W = .ok v' w' := hr
        rw [hr2] at hr3
        injection hr3 with e1 e2
        exact e1.symm
  refine .inl ⟨v', w', ?_, h1, hnew, h2⟩
  unfold execOp
  simp only [ho, resolve, invoke, builtin, Sem.run_bind, Sem.run_pure, Result.andThen_ok, List.map_toArray, List.map_cons, List.map_nil, hs, hx, hr]
def FndAt (D T E : List Int) (v : Value) (W : World) : Prop := ∃ a1 c1 a2 c2 a3 c3, v = .agg #[.slice a1 D.length c1, .slice a2 T.length c2, .slice a3 E.length c3] ∧ SlS W a1 D ∧ SlS W a2 T ∧ SlS W a3 E
theorem fnd_stays (D T E : List Int) : Stays (FndAt D T E) := by
  rintro v w w' ⟨a1, c1, a2, c2, a3, c3, hv, h1, h2, h3⟩ hx
  exact ⟨a1, c1, a2, c2, a3, c3, hv, h1.later hx (Nat.le_refl _), h2.later hx (Nat.le_refl _), h3.later hx (Nat.le_refl _)⟩
theorem fnd_of {W : World} {B : Nat} {v1 v2 v3 : Value} {D T E : List Nat} (h1 : Ch W B v1 D) (h2 : Ch W B v2 T) (h3 : Ch W B v3 E) : FndAt (ints D) (ints T) (ints E) (.agg #[v1, v2, v3]) W := by
  obtain ⟨a1, c1, rfl, -, s1⟩ := h1.sl
  obtain ⟨a2, c2, rfl, -, s2⟩ := h2.sl
  obtain ⟨a3, c3, rfl, -, s3⟩ := h3.sl
  exact ⟨a1, c1, a2, c2, a3, c3, by rw [ints_len, ints_len, ints_len], s1, s2, s3⟩
def LtB (v v' : Value) : Prop := ∀ q q', v.ownBlock = some q → v'.ownBlock = some q' → q < q'
/-- a row of numbers reads as a list behind a store into a report -/
theorem sls_own {W : World} {B : Nat} {a : Option Addr} {n c : Nat} {zs : List Int} (h : W.ownsRow B 3 1 (.slice a n c) zs.length (zs.map (Value.int .i64))) {gc i : Nat} {cs : Array Value} {u : Value} (hr : W.heap[gc]? = some (.cells cs 40 (0, 0))) : SlS (W.setCell ⟨gc, i, none⟩ u) a zs ∧ n = zs.length := by
  rcases id h.2 with ⟨he, h0⟩ | ⟨g, cap, cur, he, h3, h4, h5, h6, h7, h8⟩
  · injection he with e1 e2 e3
    exact ⟨fun k hk => absurd hk (by omega), by omega⟩
  · injection he with e1 e2 e3
    subst e1 e2
    refine ⟨fun k hk => ⟨g, 0, rfl, ?_, ?_⟩, rfl⟩
    · rw [World.size_setCell]; exact (Array.getElem?_eq_some_iff.1 h4).1
    · have hne : g ≠ gc := by
        rintro rfl
        rw [hr] at h4
        injection h4 with h4
        injection h4 with _ h4 _
        exact absurd h4 (by decide)
      have hc := h.cells (g := g) rfl k (.int .i64 zs[k]) (by simp [hk])
      rw [Addr.add_lit, Nat.zero_add] at hc
      rw [Nat.zero_add, ← hc]
      exact World.cell?_of_block (Below.heap_setCell _ _ _ _ hne)
theorem nats_ints (xs : List Nat) : nats xs = (ints xs).map (Value.int .i64) := by simp [nats, ints]
/-- the other rows, behind an append to one -/
theorem sls_keep {W w1 : World} {B : Nat} {a : Option Addr} {n c : Nat} {xs : List Nat} {row : Option Nat} {o : Obj} (h : Ch W B (.slice a n c) xs) (hg : (W.alloc o).grownBy w1 row) (hne : xs ≠ [] → ∀ q, (Value.slice a n c).ownBlock = some q → some q ≠ row) {gc i : Nat} {cs : Array Value} {u : Value} (hr : w1.heap[gc]? = some (.cells cs 40 (0, 0))) : SlS (w1.setCell ⟨gc, i, none⟩ u) a (ints xs) ∧ n = (ints xs).length := by
  have hn : n = xs.length := h.sls.2
  by_cases hx : xs = []
  · subst hx
    exact ⟨fun k hk => absurd hk (by simp [ints]), by rw [hn]; simp [ints]⟩
  · have h2 : Ch w1 B (.slice a n c) xs := by
      refine h.same fun q hq => ?_
      have hlt := h.lt q hq
      rw [hg.block q (by simp only [World.size_alloc]; omega) (hne hx q hq), Below.heap_alloc _ _ _ hlt]
    have h3 : w1.ownsRow B 3 1 (.slice a n c) (ints xs).length ((ints xs).map (Value.int .i64)) := by rw [ints_len, ← nats_ints]; exact h2
    exact sls_own h3 hr
/-- the block that a row of numbers lies in is no report -/
theorem ch_ne {W : World} {B g : Nat} {v : Value} {xs : List Nat} {cs : Array Value} (h : Ch W B v xs) (hr : W.heap[g]? = some (.cells cs 40 (0, 0))) : ∀ q, v.ownBlock = some q → q ≠ g := by
  intro q hq e
  subst e
  obtain ⟨cs', h2⟩ := h.own hq
  rw [hr] at h2
  injection h2 with h2
  injection h2 with _ h2 _
  exact absurd h2 (by decide)
theorem ch_set_rep {W : World} {B g i : Nat} {v u : Value} {xs : List Nat} {cs : Array Value} (h : Ch W B v xs) (hr : W.heap[g]? = some (.cells cs 40 (0, 0))) : Ch (W.setCell ⟨g, i, none⟩ u) B v xs := by
  refine h.same fun q hq => ?_
  rw [Below.heap_setCell _ _ _ _ (ch_ne h hr q hq)]
theorem ch_set3_rep {W : World} {B g : Nat} {v u1 u2 u3 : Value} {xs : List Nat} {cs : Array Value} (h : Ch W B v xs) (hr : W.heap[g]? = some (.cells cs 40 (0, 0))) : Ch (((W.setCell ⟨g, 0, none⟩ u1).setCell ⟨g, 1, none⟩ u2).setCell ⟨g, 2, none⟩ u3) B v xs := by
  refine h.same fun q hq => ?_
  have hne := ch_ne h hr q hq
  rw [Below.heap_setCell _ _ _ _ hne, Below.heap_setCell _ _ _ _ hne, Below.heap_setCell _ _ _ _ hne]
theorem rowE_set3 {W : World} {B g : Nat} {v u1 u2 u3 : Value} {cs : Array Value} (h : RowE B 3 v W) (hr : W.heap[g]? = some (.cells cs 40 (0, 0))) : RowE B 3 v (((W.setCell ⟨g, 0, none⟩ u1).setCell ⟨g, 1, none⟩ u2).setCell ⟨g, 2, none⟩ u3) := by
  obtain ⟨q, hv, hq, hB⟩ := h
  have hne : q ≠ g := by
    rintro rfl
    rw [hr] at hq
    injection hq with hq
    injection hq with _ hq _
    exact absurd hq (by decide)
  exact ⟨q, hv, by rw [Below.heap_setCell _ _ _ _ hne, Below.heap_setCell _ _ _ _ hne, Below.heap_setCell _ _ _ _ hne]; exact hq, hB⟩
/-- a row of at least one number lies in no empty block -/
theorem ch_apart {W : World} {B : Nat} {v v' : Value} {xs ys : List Nat} (h : Ch W B v xs) (hx : xs ≠ []) (h1 : ys ≠ [] → LtB v v' ∨ LtB v' v) (h2 : ys = [] → RowE B 3 v' W) : ∀ q, v.ownBlock = some q → some q ≠ v'.ownBlock := by
  intro q hq e
  by_cases hy : ys = []
  · obtain ⟨g, hv, hg, _⟩ := h2 hy
    rw [hv] at e
    injection e with e
    simp only at e
    subst e
    rcases h.2 with ⟨rfl, _⟩ | ⟨g', cap, cur, rfl, _, h4, h5, _, h7, _⟩
    · cases hq
    · injection hq with hq
      simp only at hq
      subst hq
      rw [hg] at h4
      injection h4 with h4
      injection h4 with h4 _ _
      have h9 : cur.size = 0 := by rw [← h4]; rfl
      have h10 : 0 < xs.length := List.length_pos_iff.2 hx
      omega
  · rcases h1 hy with h1 | h1
    · exact Nat.lt_irrefl _ (h1 q q hq e.symm)
    · exact Nat.lt_irrefl _ (h1 q q e.symm hq)
theorem owns_form {W : World} {B n : Nat} {v : Value} {xs : List Value} (h : W.ownsRow B 3 1 v n xs) : ∃ b c, v = .slice b n c := by
  rcases h.2 with ⟨rfl, rfl⟩ | ⟨g, cap, cur, rfl, _⟩
  · exact ⟨none, 0, rfl⟩
  · exact ⟨_, _, rfl⟩
/-- the changed report -/
def ChgOk (wa : World) (gc : Nat) (ws : World) : Prop := ∃ (D T E : List Int) (b1 b2 b3 : Option Addr) (k1 k2 k3 : Nat), D.length ≤ 100 ∧ T.length ≤ 100 ∧ E.length ≤ 100 ∧ SlS ws b1 D ∧ SlS ws b2 T ∧ SlS ws b3 E ∧ ws.heap[gc]? = some (.cells #[.slice b1 D.length k1, .slice b2 T.length k2, .slice b3 E.length k3] 40 (0, 0)) ∧ Below wa.heap.size wa ws
theorem chg_of {wa ws : World} {gc : Nat} {D T E : List Int} {b1 b2 b3 : Option Addr} {m1 m2 m3 k1 k2 k3 : Nat} (h1 : SlS ws b1 D ∧ m1 = D.length) (h2 : SlS ws b2 T ∧ m2 = T.length) (h3 : SlS ws b3 E ∧ m3 = E.length) (l1 : D.length ≤ 100) (l2 : T.length ≤ 100) (l3 : E.length ≤ 100) (hr : ws.heap[gc]? = some (.cells #[.slice b1 m1 k1, .slice b2 m2 k2, .slice b3 m3 k3] 40 (0, 0))) (hb : Below wa.heap.size wa ws) : ChgOk wa gc ws := by
  obtain ⟨h1, rfl⟩ := h1
  obtain ⟨h2, rfl⟩ := h2
  obtain ⟨h3, rfl⟩ := h3
  exact ⟨D, T, E, b1, b2, b3, k1, k2, k3, l1, l2, l3, h1, h2, h3, hr, hb⟩
set_option maxHeartbeats 6400000 in
set_option maxRecDepth 100000 in
theorem flawProves_any (M A : Int) (a : Option Addr) (len cap : Nat) (Z : Nat → Nat → Int) (x0 x1 x2 : Int) (w : World) (hM0 : 0 ≤ M) (hM1 : M ≤ 255) (hA0 : 0 ≤ A) (hA1 : A ≤ 255) (hZ : IsRows .u8 3 w a len Z) (hx00 : -128 ≤ x0) (hx01 : x0 ≤ 127) (hx10 : -128 ≤ x1) (hx11 : x1 ≤ 127) (hx20 : -128 ≤ x2) (hx21 : x2 ≤ 127) :
    Calls Try.prog 4 #[.agg #[.int .u8 M, .int .u8 A, .slice a len cap], .agg #[.int .i8 x0, .int .i8 x1, .int .i8 x2]] w fun e w' => e = .returned (.bool true) ∧ Below w.heap.size w w' := by
  have HZ := Lib.hid hZ; clear hZ
  go_enter Try.func4, Try.ntmps4
  go_wp2_with fail
  refine (sanity_any _).mono ?_
  rintro e w1 ⟨rfl, hb⟩
  obtain ⟨hz, hc, hf⟩ := bcell hb (by first | (simp only [World.size_alloc]; rfl) | rfl)
  have hB := below_call (B := w.heap.size) (w := w) (by go_grown) hb (Nat.le_refl _)
  have HAL1 : Hid (Below (w.heap.size + 1) (w.alloc (.cells #[.int .u8 M, .int .u8 A, .slice a len cap] 24)) w1) := ((Below.refl _ _).alloc (by simp) (.cells #[.int .i8 x0, .int .i8 x1, .int .i8 x2] 46)).trans (hb.mono (by simp only [World.size_alloc]; omega))
  have HWB1 : Hid (w1.heap[w.heap.size + 1]? = some (.cells #[.int .i8 x0, .int .i8 x1, .int .i8 x2] 46 (0, 0))) := (hb.block (w.heap.size + 1) (by simp only [World.size_alloc]; omega)).trans (by have := heap_alloc_new (w.alloc (.cells #[.int .u8 M, .int .u8 A, .slice a len cap] 24)) (.cells #[.int .i8 x0, .int .i8 x1, .int .i8 x2] 46); simpa only [World.size_alloc] using this)
  clear hb
  go_wp2_with fail
  refine (made_any M A a len cap _ hM0 hM1 hA0 hA1 Z (isRows_later HZ.out hB (Nat.le_refl _))).mono ?_
  rintro e w2 ⟨S, b, c, rfl, hv, hm1, hm5, ha0, ha1, hl12, -, hown, hb⟩
  have HFit := Lib.hid (fit_of hv (by omega) ha1)
  have HV := Lib.hid hv
  have HF : Hid (findF S = ⟨deadF S S.rules.length, stuckF S, endF S⟩) := by show _ = _; rw [findF, if_pos hv]
  have hB2 := hB.trans (hb.mono hB.size)
  have HLW0 := Lib.hid (lw_new (M0 := (w.alloc (.cells #[.int .u8 M, .int .u8 A, .slice a len cap] 24))) (hown.mono hB.size) (HAL1.out.trans (hb.mono (by omega))) (by have := hb.size; omega))
  have hl63 : S.rules.length ≤ 9223372036854775807 := by omega
  have HWB2 := Lib.hid ((hb.block (w.heap.size + 1) (by omega)).trans HWB1.out)
  have hwz2 : w.heap.size + 1 < w2.heap.size := by have := hb.size; omega
  clear hc hf hv hown hb hB
  obtain ⟨hz2, hc, hf⟩ := bcellB HLW0.out.bl rfl
  have hz3 : w.heap.size + 1 ≤ w2.heap.size := HLW0.out.gm
  go_wp2_with fail
  refine (rfind_any S b c _ HLW0.out.rul (by omega) ha1 hl63 (fun _ => HFit.out)).mono ?_
  rintro e w4 ⟨v1, v2, v3, rfl, hc1, hc2, hc3, hb⟩
  rw [rfind_eq (fun _ => HFit.out), HF.out] at hc1 hc2 hc3
  obtain ⟨ad, nd, cd, rfl⟩ := hc1.form
  obtain ⟨as', ns, cs, rfl⟩ := hc2.form
  obtain ⟨ae, ne, ce, rfl⟩ := hc3.form
  obtain ⟨DD, hDD⟩ : ∃ DD, deadF S S.rules.length = DD := ⟨_, rfl⟩
  obtain ⟨TT, hTT⟩ : ∃ TT, stuckF S = TT := ⟨_, rfl⟩
  obtain ⟨EE, hEE⟩ : ∃ EE, endF S = EE := ⟨_, rfl⟩
  have hDl : DD.length ≤ 12 := by rw [← hDD]; have := deadF_len S S.rules.length; omega
  have hTl : TT.length ≤ 8 := by rw [← hTT]; exact stuckF_len HFit.out
  have hEl : EE.length ≤ 8 := by rw [← hEE]; exact endF_len HFit.out
  have hd1 : Ch w4 0 (.slice ad nd cd) DD := by rw [← hDD]; exact hc1.mono (Nat.zero_le _)
  have hd2 : Ch w4 0 (.slice as' ns cs) TT := by rw [← hTT]; exact hc2.mono (Nat.zero_le _)
  have hd3 : Ch w4 0 (.slice ae ne ce) EE := by rw [← hEE]; exact hc3.mono (Nat.zero_le _)
  obtain ⟨wa, hwa⟩ : ∃ wa, wa = w4.alloc (.cells #[.slice ad nd cd, .slice as' ns cs, .slice ae ne ce] 40) := ⟨_, rfl⟩
  have hba : Below w4.heap.size w4 wa := by rw [hwa]; exact (Below.refl _ _).alloc (Nat.le_refl _) _
  have hwas : wa.heap.size = w4.heap.size + 1 := by rw [hwa]; simp
  have HREPa : Hid (wa.heap[w4.heap.size]? = some (.cells #[.slice ad nd cd, .slice as' ns cs, .slice ae ne ce] 40 (0, 0))) := by show _ = _; rw [hwa]; exact heap_alloc_new _ _
  have HD1 := Lib.hid (hd1.below hba hd1.lt)
  have HD2 := Lib.hid (hd2.below hba hd2.lt)
  have HD3 := Lib.hid (hd3.below hba hd3.lt)
  have hb0a : Below (w2.heap.size + 1) (w2.alloc (.cells #[.int .i64 S.modes, .int .u8 S.acc, .slice b S.rules.length c] 33)) wa := (hb.mono (by simp)).trans (hba.mono (by have := HLW0.out.below hb; exact this.gs))
  have HLWa := Lib.hid (HLW0.out.below (by simpa only [World.size_alloc] using hb0a))
  have hBa : Below w.heap.size w wa := hB2.trans (((Below.refl _ w2).alloc hB2.size _).trans (hb0a.mono (by have := hB2.size; omega)))
  have HWBa : Hid (wa.heap[w.heap.size + 1]? = some (.cells #[.int .i8 x0, .int .i8 x1, .int .i8 x2] 46 (0, 0))) := (hb0a.block _ (by omega)).trans ((Below.heap_alloc w2 _ _ hwz2).trans HWB2.out)
  have HWA := Lib.hid hwa
  have hw24 : w2.heap.size < w4.heap.size := (HLW0.out.below hb).gs
  have HDD := Lib.hid hDD; have HTT := Lib.hid hTT; have HEE := Lib.hid hEE
  clear hwa hba hd1 hd2 hd3 hc1 hc2 hc3 hDD hTT hEE hb hb0a hc hf hz2
  go_upto_region 4 with fail
  rw [← HWA.out]
  refine wp_region_loc (by kernel_rfl) (VY [fun s W => RowE wa.heap.size 3 (s 0) W, fun s _ => s 1 = .pointer (some ⟨w4.heap.size, 0, none⟩), fun s _ => s 2 = .slice ad nd cd, fun s W => RowC wa.heap.size DD (s 3) W, fun s W => RowE wa.heap.size 3 (s 4) W, fun s _ => s 5 = .pointer (some ⟨w4.heap.size, 1, none⟩), fun s _ => s 6 = .slice as' ns cs, fun s W => RowC wa.heap.size DD (s 3) W ∧ RowC wa.heap.size TT (s 7) W ∧ (TT ≠ [] → LtB (s 3) (s 7)) ∧ (TT = [] → RowE wa.heap.size 3 (s 7) W), fun s W => RowE wa.heap.size 3 (s 8) W, fun s _ => s 9 = .pointer (some ⟨w4.heap.size, 2, none⟩), fun s _ => s 10 = .slice ae ne ce, fun s W => RowC wa.heap.size EE (s 11) W ∧ (EE ≠ [] → LtB (s 3) (s 11) ∧ LtB (s 7) (s 11)) ∧ (EE = [] → RowE wa.heap.size 3 (s 11) W), fun s _ => ∃ a1 n1 c1 a2 n2 c2 a3 n3 c3, s 12 = .agg #[.slice a1 n1 c1, .slice a2 n2 c2, .slice a3 n3 c3] ∧ s 3 = .slice a1 n1 c1 ∧ s 7 = .slice a2 n2 c2 ∧ s 11 = .slice a3 n3 c3, fun s W => New3 wa.heap.size (.slice none 0 0) (.slice none 0 0) (.slice none 0 0) 40 (s 13) W]) (fun W => Below wa.heap.size wa W) 88 14 (by kernel_rfl) rfl ?hloc ?hVx ?hSx ?hS ?hop ?hlast
  case hloc =>
    refine locL_all ⟨?_, ?_, ?_, ?_, ?_, ?_, ?_, ?_, ?_, ?_, ?_, ?_, ?_, ?_, trivial⟩
    · exact fun s s' w h1 h2 h => by (have h1' : s 0 = s' 0 := h1); dsimp only at h ⊢; rw [← h1']; exact h
    · exact fun s s' w h1 h2 h => by (have h1' : s 1 = s' 1 := h1); dsimp only at h ⊢; rw [← h1']; exact h
    · exact fun s s' w h1 h2 h => by (have h1' : s 2 = s' 2 := h1); dsimp only at h ⊢; rw [← h1']; exact h
    · exact fun s s' w h1 h2 h => by (have h1' : s 3 = s' 3 := h1); dsimp only at h ⊢; rw [← h1']; exact h
    · exact fun s s' w h1 h2 h => by (have h1' : s 4 = s' 4 := h1); dsimp only at h ⊢; rw [← h1']; exact h
    · exact fun s s' w h1 h2 h => by (have h1' : s 5 = s' 5 := h1); dsimp only at h ⊢; rw [← h1']; exact h
    · exact fun s s' w h1 h2 h => by (have h1' : s 6 = s' 6 := h1); dsimp only at h ⊢; rw [← h1']; exact h
    · exact fun s s' w h1 h2 h => by (have h1' : s 7 = s' 7 := h1); (have h3' : s 3 = s' 3 := h2 3 (.base (e := ⟨3, .chain⟩) rfl (by simp) rfl)); dsimp only at h ⊢; rw [← h1', ← h3']; exact h
    · exact fun s s' w h1 h2 h => by (have h1' : s 8 = s' 8 := h1); dsimp only at h ⊢; rw [← h1']; exact h
    · exact fun s s' w h1 h2 h => by (have h1' : s 9 = s' 9 := h1); dsimp only at h ⊢; rw [← h1']; exact h
    · exact fun s s' w h1 h2 h => by (have h1' : s 10 = s' 10 := h1); dsimp only at h ⊢; rw [← h1']; exact h
    · exact fun s s' w h1 h2 h => by (have h1' : s 11 = s' 11 := h1); (have h7' : s 7 = s' 7 := h2 7 (.base (e := ⟨7, .chain⟩) rfl (by simp) rfl)); (have h3' : s 3 = s' 3 := h2 3 (.trans (.base (e := ⟨7, .chain⟩) rfl (by simp) rfl) (.base (e := ⟨3, .chain⟩) rfl (by simp) rfl))); dsimp only at h ⊢; rw [← h1', ← h7', ← h3']; exact h
    · exact fun s s' w h1 h2 h => by (have h1' : s 12 = s' 12 := h1); (have h3' : s 3 = s' 3 := h2 3 (.base (e := ⟨3, .data⟩) rfl (by simp) rfl)); (have h7' : s 7 = s' 7 := h2 7 (.base (e := ⟨7, .data⟩) rfl (by simp) rfl)); (have h11' : s 11 = s' 11 := h2 11 (.base (e := ⟨11, .data⟩) rfl (by simp) rfl)); dsimp only at h ⊢; rw [← h1', ← h3', ← h7', ← h11']; exact h
    · exact fun s s' w h1 h2 h => by (have h1' : s 13 = s' 13 := h1); dsimp only at h ⊢; rw [← h1']; exact h
  case hVx =>
    refine vy_stays ?_
    simp only [List.mem_cons, List.not_mem_nil, or_false, forall_eq_or_imp, forall_eq]
    exact ⟨fun s w w' h hx => rowE_stays _ _ _ _ _ h hx, fun s w w' h hx => h, fun s w w' h hx => h, fun s w w' h hx => rowC_stays _ _ _ _ _ h hx, fun s w w' h hx => rowE_stays _ _ _ _ _ h hx, fun s w w' h hx => h, fun s w w' h hx => h, fun s w w' h hx => ⟨rowC_stays _ _ _ _ _ h.1 hx, rowC_stays _ _ _ _ _ h.2.1 hx, h.2.2.1, fun e => rowE_stays _ _ _ _ _ (h.2.2.2 e) hx⟩, fun s w w' h hx => rowE_stays _ _ _ _ _ h hx, fun s w w' h hx => h, fun s w w' h hx => h, fun s w w' h hx => ⟨rowC_stays _ _ _ _ _ h.1 hx, h.2.1, fun e => rowE_stays _ _ _ _ _ (h.2.2 e) hx⟩, fun s w w' h hx => h, fun s w w' h hx => new3_stays _ _ _ _ _ _ _ _ h hx⟩
  case hSx => exact fun W W' h hx => h.trans (Below.mono hx h.size)
  case hS => exact Below.refl _ _
  case hop =>
    refine ⟨?_, ?_, ?_, ?_, ?_, ?_, ?_, ?_, ?_, ?_, ?_, ?_, ?_, ?_, ?_, trivial⟩
    all_goals first | rw [if_neg (by decide)] | rw [if_pos (by decide)]
    · intro A W hsz hS hdep hbase
      have h7 : A.tmps.getD 7 undef = .pointer (some ⟨w4.heap.size, 0, none⟩) := hbase 7 (by kernel_rfl)
      obtain ⟨r0', r1', r2'⟩ := cells3 ((hS.block w4.heap.size (by omega)).trans HREPa.out)
      refine ⟨rfl, ?_⟩
      refine .inl ⟨.slice (some ⟨W.heap.size, 0, none⟩) 0 0, W.alloc (.cells #[] 3), ?_, ?_, (Below.refl _ _).alloc (Nat.le_refl _) _⟩
      · clear hsz hS hdep hbase; simp [go_sem, Act.eval, *]
      · show RowE _ _ (updS _ 0 _ 0) _
        rw [updS_self]
        exact ⟨W.heap.size, rfl, heap_alloc_new _ _, hS.size⟩
    · intro A W hsz hS hdep hbase
      have h7 : A.tmps.getD 7 undef = .pointer (some ⟨w4.heap.size, 0, none⟩) := hbase 7 (by kernel_rfl)
      obtain ⟨r0', r1', r2'⟩ := cells3 ((hS.block w4.heap.size (by omega)).trans HREPa.out)
      refine ⟨rfl, ?_⟩
      refine .inl ⟨.pointer (some ⟨w4.heap.size, 0, none⟩), W, ?_, updS_self _ _ _, Ext.refl _⟩
      simp [slotOf, Region.binds, VY] at hdep
      clear hsz hS hbase; simp [go_sem, Act.eval, *]
    · intro A W hsz hS hdep hbase
      have h7 : A.tmps.getD 7 undef = .pointer (some ⟨w4.heap.size, 0, none⟩) := hbase 7 (by kernel_rfl)
      obtain ⟨r0', r1', r2'⟩ := cells3 ((hS.block w4.heap.size (by omega)).trans HREPa.out)
      refine ⟨rfl, ?_⟩
      refine .inl ⟨.slice ad nd cd, W, ?_, updS_self _ _ _, Ext.refl _⟩
      simp [slotOf, Region.binds, VY] at hdep
      clear hsz hS hbase; simp [go_sem, Act.eval, *]
    · intro A W hsz hS hdep hbase
      have h7 : A.tmps.getD 7 undef = .pointer (some ⟨w4.heap.size, 0, none⟩) := hbase 7 (by kernel_rfl)
      obtain ⟨r0', r1', r2'⟩ := cells3 ((hS.block w4.heap.size (by omega)).trans HREPa.out)
      refine ⟨rfl, ?_⟩
      have hb4 : RowE wa.heap.size 3 (A.tmps.getD 15 undef) W := hdep ⟨0, .data⟩ (by simp) rfl
      have hb6 : A.tmps.getD 17 undef = .slice ad nd cd := hdep ⟨2, .data⟩ (by simp) rfl
      obtain ⟨g4, e4, hg4, hB4⟩ := hb4
      refine (opres_copy_new rfl (eval_tmp e4) hg4 (eval_tmp hb6) (HD1.out.below hS HD1.out.lt) (by omega)).mono fun v w' h => ⟨?_, h.2.2⟩
      have hrow : RowC wa.heap.size DD v w' := by
        obtain ⟨a9, n9, c9, e9⟩ := h.1.form
        refine ⟨a9, n9, c9, e9, ?_⟩
        have h9 := h.1
        rw [e9] at h9
        exact h9.mono hB4
      show RowC _ _ (updS _ 3 v 3) w'
      rw [updS_self]
      exact hrow
    · intro A W hsz hS hdep hbase
      have h7 : A.tmps.getD 7 undef = .pointer (some ⟨w4.heap.size, 0, none⟩) := hbase 7 (by kernel_rfl)
      obtain ⟨r0', r1', r2'⟩ := cells3 ((hS.block w4.heap.size (by omega)).trans HREPa.out)
      refine ⟨rfl, ?_⟩
      refine .inl ⟨.slice (some ⟨W.heap.size, 0, none⟩) 0 0, W.alloc (.cells #[] 3), ?_, ?_, (Below.refl _ _).alloc (Nat.le_refl _) _⟩
      · clear hsz hS hdep hbase; simp [go_sem, Act.eval, *]
      · show RowE _ _ (updS _ 4 _ 4) _
        rw [updS_self]
        exact ⟨W.heap.size, rfl, heap_alloc_new _ _, hS.size⟩
    · intro A W hsz hS hdep hbase
      have h7 : A.tmps.getD 7 undef = .pointer (some ⟨w4.heap.size, 0, none⟩) := hbase 7 (by kernel_rfl)
      obtain ⟨r0', r1', r2'⟩ := cells3 ((hS.block w4.heap.size (by omega)).trans HREPa.out)
      refine ⟨rfl, ?_⟩
      refine .inl ⟨.pointer (some ⟨w4.heap.size, 1, none⟩), W, ?_, updS_self _ _ _, Ext.refl _⟩
      simp [slotOf, Region.binds, VY] at hdep
      clear hsz hS hbase; simp [go_sem, Act.eval, *]
    · intro A W hsz hS hdep hbase
      have h7 : A.tmps.getD 7 undef = .pointer (some ⟨w4.heap.size, 0, none⟩) := hbase 7 (by kernel_rfl)
      obtain ⟨r0', r1', r2'⟩ := cells3 ((hS.block w4.heap.size (by omega)).trans HREPa.out)
      refine ⟨rfl, ?_⟩
      refine .inl ⟨.slice as' ns cs, W, ?_, updS_self _ _ _, Ext.refl _⟩
      simp [slotOf, Region.binds, VY] at hdep
      clear hsz hS hbase; simp [go_sem, Act.eval, *]
    · intro A W hsz hS hdep hbase
      have h7 : A.tmps.getD 7 undef = .pointer (some ⟨w4.heap.size, 0, none⟩) := hbase 7 (by kernel_rfl)
      obtain ⟨r0', r1', r2'⟩ := cells3 ((hS.block w4.heap.size (by omega)).trans HREPa.out)
      refine ⟨rfl, ?_⟩
      have hb4 : RowE wa.heap.size 3 (A.tmps.getD 19 undef) W := hdep ⟨4, .data⟩ (by simp) rfl
      have hb6 : A.tmps.getD 21 undef = .slice as' ns cs := hdep ⟨6, .data⟩ (by simp) rfl
      have kp : RowC wa.heap.size DD (slotOf _ A 3) W := hdep ⟨3, .chain⟩ (by simp) rfl
      obtain ⟨ap, np, cp, ep, kp⟩ := kp
      obtain ⟨g4, e4, hg4, hB4⟩ := hb4
      refine (opres_copy_new rfl (eval_tmp e4) hg4 (eval_tmp hb6) (HD2.out.below hS HD2.out.lt) (by omega)).mono fun v w' h => ⟨?_, h.2.2⟩
      have hrow : RowC wa.heap.size TT v w' := by
        obtain ⟨a9, n9, c9, e9⟩ := h.1.form
        refine ⟨a9, n9, c9, e9, ?_⟩
        have h9 := h.1
        rw [e9] at h9
        exact h9.mono hB4
      show RowC _ _ (updS _ 7 v 3) w' ∧ RowC _ _ (updS _ 7 v 7) w' ∧ (_ → LtB (updS _ 7 v 3) (updS _ 7 v 7)) ∧ (_ → RowE _ _ (updS _ 7 v 7) w')
      rw [updS_ne (by decide), updS_self]
      refine ⟨⟨ap, np, cp, ep, kp.below h.2.2 kp.lt⟩, hrow, fun hx q q' hq hq' => ?_, fun hx => ⟨g4, h.2.1.2 hx, (Below.block h.2.2 g4 (Array.getElem?_eq_some_iff.1 hg4).1).trans hg4, hB4⟩⟩
      rw [ep] at hq
      exact Nat.lt_of_lt_of_le (kp.lt q hq) (h.2.1.1 hx q' hq')
    · intro A W hsz hS hdep hbase
      have h7 : A.tmps.getD 7 undef = .pointer (some ⟨w4.heap.size, 0, none⟩) := hbase 7 (by kernel_rfl)
      obtain ⟨r0', r1', r2'⟩ := cells3 ((hS.block w4.heap.size (by omega)).trans HREPa.out)
      refine ⟨rfl, ?_⟩
      refine .inl ⟨.slice (some ⟨W.heap.size, 0, none⟩) 0 0, W.alloc (.cells #[] 3), ?_, ?_, (Below.refl _ _).alloc (Nat.le_refl _) _⟩
      · clear hsz hS hdep hbase; simp [go_sem, Act.eval, *]
      · show RowE _ _ (updS _ 8 _ 8) _
        rw [updS_self]
        exact ⟨W.heap.size, rfl, heap_alloc_new _ _, hS.size⟩
    · intro A W hsz hS hdep hbase
      have h7 : A.tmps.getD 7 undef = .pointer (some ⟨w4.heap.size, 0, none⟩) := hbase 7 (by kernel_rfl)
      obtain ⟨r0', r1', r2'⟩ := cells3 ((hS.block w4.heap.size (by omega)).trans HREPa.out)
      refine ⟨rfl, ?_⟩
      refine .inl ⟨.pointer (some ⟨w4.heap.size, 2, none⟩), W, ?_, updS_self _ _ _, Ext.refl _⟩
      simp [slotOf, Region.binds, VY] at hdep
      clear hsz hS hbase; simp [go_sem, Act.eval, *]
    · intro A W hsz hS hdep hbase
      have h7 : A.tmps.getD 7 undef = .pointer (some ⟨w4.heap.size, 0, none⟩) := hbase 7 (by kernel_rfl)
      obtain ⟨r0', r1', r2'⟩ := cells3 ((hS.block w4.heap.size (by omega)).trans HREPa.out)
      refine ⟨rfl, ?_⟩
      refine .inl ⟨.slice ae ne ce, W, ?_, updS_self _ _ _, Ext.refl _⟩
      simp [slotOf, Region.binds, VY] at hdep
      clear hsz hS hbase; simp [go_sem, Act.eval, *]
    · intro A W hsz hS hdep hbase
      have h7 : A.tmps.getD 7 undef = .pointer (some ⟨w4.heap.size, 0, none⟩) := hbase 7 (by kernel_rfl)
      obtain ⟨r0', r1', r2'⟩ := cells3 ((hS.block w4.heap.size (by omega)).trans HREPa.out)
      refine ⟨rfl, ?_⟩
      have hb4 : RowE wa.heap.size 3 (A.tmps.getD 23 undef) W := hdep ⟨8, .data⟩ (by simp) rfl
      have hb6 : A.tmps.getD 25 undef = .slice ae ne ce := hdep ⟨10, .data⟩ (by simp) rfl
      have kq := hdep ⟨7, .chain⟩ (by simp) rfl
      have kp : RowC wa.heap.size DD (slotOf _ A 3) W := kq.1
      have kr : RowC wa.heap.size TT (slotOf _ A 7) W := kq.2.1
      obtain ⟨ap, np, cp, ep, kp⟩ := kp
      obtain ⟨ar, nr, cr, er, kr⟩ := kr
      obtain ⟨g4, e4, hg4, hB4⟩ := hb4
      refine (opres_copy_new rfl (eval_tmp e4) hg4 (eval_tmp hb6) (HD3.out.below hS HD3.out.lt) (by omega)).mono fun v w' h => ⟨?_, h.2.2⟩
      have hrow : RowC wa.heap.size EE v w' := by
        obtain ⟨a9, n9, c9, e9⟩ := h.1.form
        refine ⟨a9, n9, c9, e9, ?_⟩
        have h9 := h.1
        rw [e9] at h9
        exact h9.mono hB4
      show RowC _ _ (updS _ 11 v 11) w' ∧ (_ → LtB (updS _ 11 v 3) (updS _ 11 v 11) ∧ LtB (updS _ 11 v 7) (updS _ 11 v 11)) ∧ (_ → RowE _ _ (updS _ 11 v 11) w')
      rw [updS_self, updS_ne (by decide), updS_ne (by decide)]
      refine ⟨hrow, fun hx => ⟨fun q q' hq hq' => ?_, fun q q' hq hq' => ?_⟩, fun hx => ⟨g4, h.2.1.2 hx, (Below.block h.2.2 g4 (Array.getElem?_eq_some_iff.1 hg4).1).trans hg4, hB4⟩⟩
      · rw [ep] at hq
        exact Nat.lt_of_lt_of_le (kp.lt q hq) (h.2.1.1 hx q' hq')
      · rw [er] at hq
        exact Nat.lt_of_lt_of_le (kr.lt q hq) (h.2.1.1 hx q' hq')
    · intro A W hsz hS hdep hbase
      have h7 : A.tmps.getD 7 undef = .pointer (some ⟨w4.heap.size, 0, none⟩) := hbase 7 (by kernel_rfl)
      obtain ⟨r0', r1', r2'⟩ := cells3 ((hS.block w4.heap.size (by omega)).trans HREPa.out)
      refine ⟨rfl, ?_⟩
      have k3 : RowC wa.heap.size DD (slotOf _ A 3) W := hdep ⟨3, .data⟩ (by simp) rfl
      have k7 := hdep ⟨7, .data⟩ (by simp) rfl
      have k7' : RowC wa.heap.size TT (slotOf _ A 7) W := k7.2.1
      have k11 := hdep ⟨11, .data⟩ (by simp) rfl
      have k11' : RowC wa.heap.size EE (slotOf _ A 11) W := k11.1
      obtain ⟨a1, n1, c1, e1, k3⟩ := k3
      obtain ⟨a2, n2, c2, e2, k7'⟩ := k7'
      obtain ⟨a3, n3, c3, e3, k11'⟩ := k11'
      have f1 : A.tmps.getD 18 undef = .slice a1 n1 c1 := e1
      have f2 : A.tmps.getD 22 undef = .slice a2 n2 c2 := e2
      have f3 : A.tmps.getD 26 undef = .slice a3 n3 c3 := e3
      refine .inl ⟨.agg #[.slice a1 n1 c1, .slice a2 n2 c2, .slice a3 n3 c3], W, ?_, ⟨a1, n1, c1, a2, n2, c2, a3, n3, c3, ?_, ?_, ?_, ?_⟩, Ext.refl _⟩
      · rw [Array.getD_eq_getD_getElem?] at f1 f2 f3
        clear hsz hS hbase hdep k7 k11 e1 e2 e3; simp [go_sem, Act.eval, *]
      · exact updS_self _ _ _
      · rw [updS_ne (by decide)]; exact e1
      · rw [updS_ne (by decide)]; exact e2
      · rw [updS_ne (by decide)]; exact e3
    · intro A W hsz hS hdep hbase
      have h7 : A.tmps.getD 7 undef = .pointer (some ⟨w4.heap.size, 0, none⟩) := hbase 7 (by kernel_rfl)
      obtain ⟨r0', r1', r2'⟩ := cells3 ((hS.block w4.heap.size (by omega)).trans HREPa.out)
      refine ⟨rfl, ?_⟩
      refine .inl ⟨.pointer (some ⟨W.heap.size, 0, none⟩), W.alloc (.cells #[.slice none 0 0, .slice none 0 0, .slice none 0 0] 40), ?_, ?_, (Below.refl _ _).alloc (Nat.le_refl _) _⟩
      · clear hsz hS hdep hbase; simp [go_sem, Act.eval]
      · show New3 _ _ _ _ _ (updS _ 13 _ 13) _
        rw [updS_self]
        exact ⟨W.heap.size, rfl, heap_alloc_new _ _, hS.size⟩
    · trivial
  case hlast =>
    intro A1 W hsz hdf hS hv hbase
    have ha9 : New3 wa.heap.size (.slice none 0 0) (.slice none 0 0) (.slice none 0 0) 40 (A1.tmps.getD 8 undef) W := hv 13 (by decide)
    have hv12 := hv 12 (by decide)
    have hv3 : RowC wa.heap.size DD (slotOf _ A1 3) W := hv 3 (by decide)
    have hv7 := hv 7 (by decide)
    have hv11 := hv 11 (by decide)
    have hv7' : RowC wa.heap.size TT (slotOf _ A1 7) W := hv7.2.1
    have hv7'' : TT ≠ [] → LtB (slotOf _ A1 3) (slotOf _ A1 7) := hv7.2.2.1
    have hv7e : TT = [] → RowE wa.heap.size 3 (slotOf _ A1 7) W := hv7.2.2.2
    have hv11e : EE = [] → RowE wa.heap.size 3 (slotOf _ A1 11) W := hv11.2.2
    have hv11' : RowC wa.heap.size EE (slotOf _ A1 11) W := hv11.1
    have hv11'' : EE ≠ [] → LtB (slotOf _ A1 3) (slotOf _ A1 11) ∧ LtB (slotOf _ A1 7) (slotOf _ A1 11) := hv11.2.1
    obtain ⟨gc, eg, hgr, hgB⟩ := ha9
    obtain ⟨a1, n1, c1, a2, n2, c2, a3, n3, c3, ex0, f3, f7, f11⟩ := hv12
    have ex : A1.tmps.getD 27 undef = .agg #[.slice a1 n1 c1, .slice a2 n2 c2, .slice a3 n3 c3] := ex0
    rw [f3, f7] at hv7''
    rw [f3, f7, f11] at hv11''
    have k1 : Ch W wa.heap.size (.slice a1 n1 c1) DD := by obtain ⟨_, _, _, e, h⟩ := hv3; rw [f3] at e; rw [← e] at h; exact h
    have k2 : Ch W wa.heap.size (.slice a2 n2 c2) TT := by obtain ⟨_, _, _, e, h⟩ := hv7'; rw [f7] at e; rw [← e] at h; exact h
    have k3 : Ch W wa.heap.size (.slice a3 n3 c3) EE := by obtain ⟨_, _, _, e, h⟩ := hv11'; rw [f11] at e; rw [← e] at h; exact h
    rw [f7] at hv7e
    rw [f11] at hv11e
    have HL2 := Lib.hid hv7''
    have HL3 := Lib.hid hv11''
    refine wpOp_store_rep rfl rfl rfl rfl (eval_tmp eg) (eval_tmp ex) hgr (by kernel_rfl) ?_
    obtain ⟨x, hx, hA⟩ := act_puts [15, 16, 17, 18, 19, 20, 21, 22, 23, 24, 25, 26, 27, 8] (by kernel_rfl) hsz hdf hbase
    have ee : x 8 = .pointer (some ⟨gc, 0, none⟩) := (hx 8).trans eg
    obtain ⟨wz, hwz⟩ : ∃ wz, wz = ((W.setCell ⟨gc, 0, none⟩ (.slice a1 n1 c1)).setCell ⟨gc, 1, none⟩ (.slice a2 n2 c2)).setCell ⟨gc, 2, none⟩ (.slice a3 n3 c3) := ⟨_, rfl⟩
    have HC1 : Hid (Ch wz wa.heap.size (.slice a1 n1 c1) DD) := by rw [hwz]; exact ch_set3_rep k1 hgr
    have HC2 : Hid (Ch wz wa.heap.size (.slice a2 n2 c2) TT) := by rw [hwz]; exact ch_set3_rep k2 hgr
    have HC3 : Hid (Ch wz wa.heap.size (.slice a3 n3 c3) EE) := by rw [hwz]; exact ch_set3_rep k3 hgr
    have HT0 : Hid (TT = [] → RowE wa.heap.size 3 (.slice a2 n2 c2) wz) := by rw [hwz]; exact fun e => rowE_set3 (hv7e e) hgr
    have HE0 : Hid (EE = [] → RowE wa.heap.size 3 (.slice a3 n3 c3) wz) := by rw [hwz]; exact fun e => rowE_set3 (hv11e e) hgr
    have HRC : Hid (wz.heap[gc]? = some (.cells #[.slice a1 n1 c1, .slice a2 n2 c2, .slice a3 n3 c3] 40 (0, 0))) := by show _ = _; rw [hwz]; exact set3 hgr
    have hbz : Below wa.heap.size wa wz := by rw [hwz]; exact ((hS.setCell hgB _).setCell hgB _).setCell hgB _
    rw [← hwz]
    rw [hA]
    simp only [List.foldl]
    rw [ee]
    simp only [Act.put, List.setIfInBounds_toArray, List.set_cons_succ, List.set_cons_zero]
    clear hA hx hv hbase hsz hdf hwz ee eg ex ex0 f3 f7 f11 hv3 hv7 hv7' hv7'' hv7e hv11e hv11 hv11' hv11'' k1 k2 k3 hgr hS
    have HLWz := Lib.hid (HLWa.out.below hbz)
    have hBz := hBa.trans (hbz.mono hBa.size)
    have HWBz := Lib.hid ((hbz.block (w.heap.size + 1) (by omega)).trans HWBa.out)
    have HRz := Lib.hid ((hbz.block w4.heap.size (by omega)).trans HREPa.out)
    have HBZ := Lib.hid hbz
    have hgcs : gc < wz.heap.size := (Array.getElem?_eq_some_iff.1 HRC.out).1
    clear hbz
    obtain ⟨p0, p1, p2⟩ := cells3 HWBz.out
    obtain ⟨r0, r1, r2⟩ := cells3 HRC.out
    have rf : ∀ i, wz.frozen? ⟨gc, i, none⟩ = false := fun i => by simp [World.frozen?, HRC.out]
    obtain ⟨i0, hi, iz0, iz1, iz2⟩ := info_parts info_int
    have HGE : Hid (wa.heap.size ≤ gc) := hgB
    go_upto_block 0 with fail
    rw [show x0 % 256 % 4 = x0 % 4 by omega]
    go_cut [] (fun wx => ∃ ws : World, ws = wx ∧ ChgOk wa gc ws)
    case first =>
      rcases (show x0 % 4 = 0 ∨ x0 % 4 = 1 ∨ x0 % 4 = 2 ∨ x0 % 4 = 3 by omega) with hq | hq | hq | hq
      · have hq0 : ((x0 % 4 : Int) == 0) = true := by rw [hq]; rfl
        have hq1 : ((x0 % 4 : Int) == 1) = false := by rw [hq]; rfl
        have hq2 : ((x0 % 4 : Int) == 2) = false := by rw [hq]; rfl
        clear hq
        go_wp2_with (first
          | (at_builtin; refine wpList_append_own _ rfl _ _ 38 rfl wa.heap.size 3 i0 (.int .i64 0) 1 8 Try.underlying38 hi iz0 iz1 iz2 rfl (by decide) (.slice a1 n1 c1) DD.length (nats DD) rfl (World.ownsRow.alloc HC1.out _) ⟨wz.heap.size, 0, none⟩ 1 1 [.int .i64 x1] rfl rfl (cell_one_new _ _ _) (by simp [Value.oneCell']) (by unfold maxLen; omega) (by omega) (by have := HBZ.out.size; simp only [World.size_alloc]; omega) ?_; intro v5 w5 hown5 hgrow5 _; obtain ⟨b5, c5, hv5⟩ := owns_form hown5; subst hv5; have HR5 := Lib.hid ((hgrow5.block gc (by simp only [World.size_alloc]; omega) (fun e => ch_ne HC1.out HRC.out gc e.symm rfl)).trans ((Below.heap_alloc wz _ gc hgcs).trans HRC.out)); have HO5 : Hid (w5.ownsRow wa.heap.size 3 1 (.slice b5 (DD.length + 1) c5) (ints DD ++ [x1]).length ((ints DD ++ [x1]).map (Value.int .i64))) := (by have h9 := hown5; show World.ownsRow _ _ _ _ _ _ _; rw [List.length_append, ints_len, List.map_append, ← nats_ints]; exact h9); have HG5 := Lib.hid hgrow5; have HB5 : Hid (Below wa.heap.size wa w5) := (HBZ.out.alloc (by have := HBZ.out.size; omega) _).grown hgrow5 (by have := HBZ.out.size; simp only [World.size_alloc]; omega) (fun q hq => HC1.out.ge q hq); clear r0 r1 r2 rf hown5 hgrow5; obtain ⟨r0, r1, r2⟩ := cells3 HR5.out; have rf : ∀ i, w5.frozen? ⟨gc, i, none⟩ = false := (fun i => by simp [World.frozen?, HR5.out]))
          | fail)
        go_meet
        refine ⟨_, rfl, chg_of (sls_own HO5.out HR5.out) (sls_keep HC2.out HG5.out (fun hx q hq e => Nat.lt_irrefl q (HL2.out hx q q e.symm hq)) HR5.out) (sls_keep HC3.out HG5.out (fun hx q hq e => Nat.lt_irrefl q ((HL3.out hx).1 q q e.symm hq)) HR5.out) (by simp [ints_len]; omega) (by simp [ints_len]; omega) (by simp [ints_len]; omega) (set_one HR5.out rfl) (HB5.out.setCell HGE.out _)⟩
      · have hq0 : ((x0 % 4 : Int) == 0) = false := by rw [hq]; rfl
        have hq1 : ((x0 % 4 : Int) == 1) = true := by rw [hq]; rfl
        have hq2 : ((x0 % 4 : Int) == 2) = false := by rw [hq]; rfl
        clear hq
        go_wp2_with (first
          | (at_builtin; refine wpList_append_own _ rfl _ _ 38 rfl wa.heap.size 3 i0 (.int .i64 0) 1 8 Try.underlying38 hi iz0 iz1 iz2 rfl (by decide) (.slice a2 n2 c2) TT.length (nats TT) rfl (World.ownsRow.alloc HC2.out _) ⟨wz.heap.size, 0, none⟩ 1 1 [.int .i64 x1] rfl rfl (cell_one_new _ _ _) (by simp [Value.oneCell']) (by unfold maxLen; omega) (by omega) (by have := HBZ.out.size; simp only [World.size_alloc]; omega) ?_; intro v5 w5 hown5 hgrow5 _; obtain ⟨b5, c5, hv5⟩ := owns_form hown5; subst hv5; have HR5 := Lib.hid ((hgrow5.block gc (by simp only [World.size_alloc]; omega) (fun e => ch_ne HC2.out HRC.out gc e.symm rfl)).trans ((Below.heap_alloc wz _ gc hgcs).trans HRC.out)); have HO5 : Hid (w5.ownsRow wa.heap.size 3 1 (.slice b5 (TT.length + 1) c5) (ints TT ++ [x1]).length ((ints TT ++ [x1]).map (Value.int .i64))) := (by have h9 := hown5; show World.ownsRow _ _ _ _ _ _ _; rw [List.length_append, ints_len, List.map_append, ← nats_ints]; exact h9); have HG5 := Lib.hid hgrow5; have HB5 : Hid (Below wa.heap.size wa w5) := (HBZ.out.alloc (by have := HBZ.out.size; omega) _).grown hgrow5 (by have := HBZ.out.size; simp only [World.size_alloc]; omega) (fun q hq => HC2.out.ge q hq); clear r0 r1 r2 rf hown5 hgrow5; obtain ⟨r0, r1, r2⟩ := cells3 HR5.out; have rf : ∀ i, w5.frozen? ⟨gc, i, none⟩ = false := (fun i => by simp [World.frozen?, HR5.out]))
          | fail)
        go_meet
        refine ⟨_, rfl, chg_of (sls_keep HC1.out HG5.out (fun hx => ch_apart HC1.out hx (fun hy => .inl (HL2.out hy)) HT0.out) HR5.out) (sls_own HO5.out HR5.out) (sls_keep HC3.out HG5.out (fun hx q hq e => Nat.lt_irrefl q ((HL3.out hx).2 q q e.symm hq)) HR5.out) (by simp [ints_len]; omega) (by simp [ints_len]; omega) (by simp [ints_len]; omega) (set_one HR5.out rfl) (HB5.out.setCell HGE.out _)⟩
      · have hq0 : ((x0 % 4 : Int) == 0) = false := by rw [hq]; rfl
        have hq1 : ((x0 % 4 : Int) == 1) = false := by rw [hq]; rfl
        have hq2 : ((x0 % 4 : Int) == 2) = true := by rw [hq]; rfl
        clear hq
        go_wp2_with (first
          | (at_builtin; refine wpList_append_own _ rfl _ _ 38 rfl wa.heap.size 3 i0 (.int .i64 0) 1 8 Try.underlying38 hi iz0 iz1 iz2 rfl (by decide) (.slice a3 n3 c3) EE.length (nats EE) rfl (World.ownsRow.alloc HC3.out _) ⟨wz.heap.size, 0, none⟩ 1 1 [.int .i64 x1] rfl rfl (cell_one_new _ _ _) (by simp [Value.oneCell']) (by unfold maxLen; omega) (by omega) (by have := HBZ.out.size; simp only [World.size_alloc]; omega) ?_; intro v5 w5 hown5 hgrow5 _; obtain ⟨b5, c5, hv5⟩ := owns_form hown5; subst hv5; have HR5 := Lib.hid ((hgrow5.block gc (by simp only [World.size_alloc]; omega) (fun e => ch_ne HC3.out HRC.out gc e.symm rfl)).trans ((Below.heap_alloc wz _ gc hgcs).trans HRC.out)); have HO5 : Hid (w5.ownsRow wa.heap.size 3 1 (.slice b5 (EE.length + 1) c5) (ints EE ++ [x1]).length ((ints EE ++ [x1]).map (Value.int .i64))) := (by have h9 := hown5; show World.ownsRow _ _ _ _ _ _ _; rw [List.length_append, ints_len, List.map_append, ← nats_ints]; exact h9); have HG5 := Lib.hid hgrow5; have HB5 : Hid (Below wa.heap.size wa w5) := (HBZ.out.alloc (by have := HBZ.out.size; omega) _).grown hgrow5 (by have := HBZ.out.size; simp only [World.size_alloc]; omega) (fun q hq => HC3.out.ge q hq); clear r0 r1 r2 rf hown5 hgrow5; obtain ⟨r0, r1, r2⟩ := cells3 HR5.out; have rf : ∀ i, w5.frozen? ⟨gc, i, none⟩ = false := (fun i => by simp [World.frozen?, HR5.out]))
          | fail)
        go_meet
        refine ⟨_, rfl, chg_of (sls_keep HC1.out HG5.out (fun hx => ch_apart HC1.out hx (fun hy => .inl (HL3.out hy).1) HE0.out) HR5.out) (sls_keep HC2.out HG5.out (fun hx => ch_apart HC2.out hx (fun hy => .inl (HL3.out hy).2) HE0.out) HR5.out) (sls_own HO5.out HR5.out) (by simp [ints_len]; omega) (by simp [ints_len]; omega) (by simp [ints_len]; omega) (set_one HR5.out rfl) (HB5.out.setCell HGE.out _)⟩
      · have hq0 : ((x0 % 4 : Int) == 0) = false := by rw [hq]; rfl
        have hq1 : ((x0 % 4 : Int) == 1) = false := by rw [hq]; rfl
        have hq2 : ((x0 % 4 : Int) == 2) = false := by rw [hq]; rfl
        clear hq
        have HN7 : Hid ((wz.alloc (.cells #[.int .i64 x2] 3)).ownsRow wa.heap.size 3 1 (.slice (some ⟨wz.heap.size, 0, none⟩) 1 1) 1 [.int .i64 x2]) := World.ownsRow_lit wz #[.int .i64 x2] 1 HBZ.out.size (by decide) rfl
        go_wp2_with (first
          | (at_builtin; refine wpList_append_ch rfl _ _ rfl wa.heap.size (.slice (some ⟨wz.heap.size, 0, none⟩) 1 1) 1 [.int .i64 x2] rfl HN7.out wa.heap.size (.slice a2 n2 c2) TT rfl (HC2.out.below ((Below.refl _ wz).alloc (Nat.le_refl _) _) HC2.out.lt) (by omega) (by have := HBZ.out.size; simp only [World.size_alloc]; omega) ?_; intro v5 w5 hown5 hgrow5; obtain ⟨b5, c5, hv5⟩ := owns_form hown5; subst hv5; have HR5 := Lib.hid ((hgrow5.block gc (by simp only [World.size_alloc]; omega) (fun e => by injection e with e; simp only at e; omega)).trans ((Below.heap_alloc wz _ gc hgcs).trans HRC.out)); have HO5 : Hid (w5.ownsRow wa.heap.size 3 1 (.slice b5 (1 + TT.length) c5) (x2 :: ints TT).length ((x2 :: ints TT).map (Value.int .i64))) := (by have h9 := hown5; show World.ownsRow _ _ _ _ _ _ _; rw [List.length_cons, ints_len, List.map_cons, ← nats_ints, Nat.add_comm TT.length 1]; exact h9); have HG5 := Lib.hid hgrow5; have HB5 : Hid (Below wa.heap.size wa w5) := (HBZ.out.alloc (by have := HBZ.out.size; omega) _).grown hgrow5 (by have := HBZ.out.size; simp only [World.size_alloc]; omega) (fun q hq => (by injection hq with hq; simp only at hq; have := HBZ.out.size; omega)); clear r0 r1 r2 rf hown5 hgrow5; obtain ⟨r0, r1, r2⟩ := cells3 HR5.out; have rf : ∀ i, w5.frozen? ⟨gc, i, none⟩ = false := (fun i => by simp [World.frozen?, HR5.out]))
          | fail)
        go_meet
        refine ⟨_, rfl, chg_of (sls_keep HC1.out HG5.out (fun hx q hq e => by have h9 := HC1.out.lt q hq; injection e with e; simp only at e; omega) HR5.out) (sls_own HO5.out HR5.out) (sls_keep HC3.out HG5.out (fun hx q hq e => by have h9 := HC3.out.lt q hq; injection e with e; simp only at e; omega) HR5.out) (by simp [ints_len]; omega) (by simp [ints_len]; omega) (by simp [ints_len]; omega) (set_one HR5.out rfl) (HB5.out.setCell HGE.out _)⟩
    case rest =>
      clear p0 p1 p2 r0 r1 r2 rf
      obtain ⟨ws, rfl, D', T', E', b1, b2, b3, k1, k2, k3, l1, l2, l3, s1, s2, s3, hrc, hbs⟩ := hcut
      have HLWs := Lib.hid (HLWa.out.below hbs)
      have hBs := hBa.trans (hbs.mono hBa.size)
      have HRs := Lib.hid ((hbs.block w4.heap.size (by omega)).trans HREPa.out)
      have HCs := Lib.hid hrc
      have hgcs2 : gc < ws.heap.size := (Array.getElem?_eq_some_iff.1 hrc).1
      have HS1 := Lib.hid s1
      have HS2 := Lib.hid s2
      have HS3 := Lib.hid s3
      have HN1 := HD1.out.sls
      have HN2 := HD2.out.sls
      have HN3 := HD3.out.sls
      obtain ⟨D0, hD0⟩ : ∃ D0, D0 = ints DD := ⟨_, rfl⟩
      obtain ⟨T0, hT0⟩ : ∃ T0, T0 = ints TT := ⟨_, rfl⟩
      obtain ⟨E0, hE0⟩ : ∃ E0, E0 = ints EE := ⟨_, rfl⟩
      have HQ1 : Hid (SlS ws ad D0) := by show SlS _ _ _; rw [hD0]; exact HN1.1.later hbs (Nat.le_refl _)
      have HQ2 : Hid (SlS ws as' T0) := by show SlS _ _ _; rw [hT0]; exact HN2.1.later hbs (Nat.le_refl _)
      have HQ3 : Hid (SlS ws ae E0) := by show SlS _ _ _; rw [hE0]; exact HN3.1.later hbs (Nat.le_refl _)
      obtain rfl : nd = D0.length := by rw [hD0, ints_len]; exact HN1.2
      obtain rfl : ns = T0.length := by rw [hT0, ints_len]; exact HN2.2
      obtain rfl : ne = E0.length := by rw [hE0, ints_len]; exact HN3.2
      have HPF : Hid (provesF S D0 T0 E0 = true) := by
        show _ = _
        rw [hD0, hT0, hE0, ← HDD.out, ← HTT.out, ← HEE.out]
        exact proves_found HV.out HFit.out
      have HFND : Hid (∀ W B v1 v2 v3, Ch W B v1 (findF S).dead → Ch W B v2 (findF S).stuck → Ch W B v3 (findF S).endl → FndAt D0 T0 E0 (.agg #[v1, v2, v3]) W) := fun W B v1 v2 v3 h1 h2 h3 => by
        rw [HF.out] at h1 h2 h3
        rw [hD0, hT0, hE0, ← HDD.out, ← HTT.out, ← HEE.out]
        exact fnd_of h1 h2 h3
      have hdl0 : D0.length ≤ 100000 := by rw [hD0, ints_len]; omega
      have htl0 : T0.length ≤ 100000 := by rw [hT0, ints_len]; omega
      have hel0 : E0.length ≤ 100000 := by rw [hE0, ints_len]; omega
      obtain ⟨pb, hpb⟩ : ∃ pb, provesF S D' T' E' = pb := ⟨_, rfl⟩
      have HPB := Lib.hid hpb
      have hws : w2.heap.size < ws.heap.size := HLWs.out.gs
      have hws4 : w4.heap.size < ws.heap.size := (Array.getElem?_eq_some_iff.1 HRs.out).1
      clear hD0 hT0 hE0 HN1 HN2 HN3 hpb s1 s2 s3 hrc hbs
      go_upto_region 14 with fail
      refine wp_region_rv (by kernel_rfl) (Vs [fun v _ => v = .bool true, fun v _ => v = .bool true, fun v _ => v = .agg #[.int .i64 S.modes, .int .u8 S.acc, .slice b S.rules.length c], fun v _ => v = .agg #[.int .i64 S.modes, .int .u8 S.acc, .slice b S.rules.length c], FndAt D0 T0 E0, fun v _ => v = .bool true, fun v _ => v = .bool true, fun v _ => v = .bool true, fun v _ => v = .agg #[.int .i64 S.modes, .int .u8 S.acc, .slice b S.rules.length c], fun v _ => v = .agg #[.slice ad D0.length cd, .slice as' T0.length cs, .slice ae E0.length ce], fun v _ => v = .bool true, fun v _ => v = .bool true, fun v _ => v = .bool true, fun v _ => v = .agg #[.int .i64 S.modes, .int .u8 S.acc, .slice b S.rules.length c], fun v _ => v = .agg #[.slice b1 D'.length k1, .slice b2 T'.length k2, .slice b3 E'.length k3], fun v _ => v = .bool pb, fun v _ => v = .agg #[.int .i64 S.modes, .int .u8 S.acc, .slice b S.rules.length c], fun v _ => v = .agg #[.slice b1 D'.length k1, .slice b2 T'.length k2, .slice b3 E'.length k3], fun v _ => v = .bool pb, fun v _ => v = .bool true, fun v _ => v = .bool true, fun v _ => v = .bool true]) (fun W => Below ws.heap.size ws W) 88 (by kernel_rfl) rfl ?hVx ?hSx ?hS (opsOk_all ?hop) ?hfin
      case hop =>
        refine ⟨?_, ?_, ?_, ?_, ?_, ?_, ?_, ?_, ?_, ?_, ?_, ?_, ?_, ?_, ?_, ?_, ?_, ?_, ?_, ?_, ?_, ?_, trivial⟩
        all_goals
          intro A W hsz hS hdep hbase
          have hlw := HLWs.out.below hS
          obtain ⟨d0', d1', d2'⟩ := hlw.cells
          obtain ⟨r0', r1', r2'⟩ := cells3 ((hS.block w4.heap.size hws4).trans HRs.out)
          obtain ⟨t0', t1', t2'⟩ := cells3 ((hS.block gc hgcs2).trans HCs.out)
          clear hlw
          have h5 : A.tmps.getD 5 undef = .bool true := hbase 5 (by kernel_rfl)
          have h6 : A.tmps.getD 6 undef = .pointer (some ⟨w2.heap.size, 0, none⟩) := hbase 6 (by kernel_rfl)
          have h7 : A.tmps.getD 7 undef = .pointer (some ⟨w4.heap.size, 0, none⟩) := hbase 7 (by kernel_rfl)
          have h8 : A.tmps.getD 8 undef = .pointer (some ⟨gc, 0, none⟩) := hbase 8 (by kernel_rfl)
          clear hbase
          simp [slotOf, Region.binds, Vs] at hdep
        · refine opOk_run rfl (.inl ⟨_, W, ?_, rfl, Ext.refl _⟩); clear hsz hS; simp [go_sem, Act.eval, *]
        · refine opOk_run rfl (.inl ⟨_, W, ?_, rfl, Ext.refl _⟩); clear hsz hS; simp [go_sem, Act.eval, *]
        · refine opOk_runG (j := 1) (d := 68) (b := true) rfl (by kernel_rfl) (by first | exact hdep | exact hdep.1 | exact hdep.2 | exact hdep.2.1 | exact hdep.2.2 | exact hdep.2.2.1 | exact hdep.2.2.2 | exact hdep.2.2.2.1 | exact hdep.2.2.2.2) rfl (.inl ⟨_, W, ?_, rfl, Ext.refl _⟩); clear hsz hS; simp [go_sem, Act.eval, *]
        · refine opOk_runG (j := 1) (d := 68) (b := true) rfl (by kernel_rfl) (by first | exact hdep | exact hdep.1 | exact hdep.2 | exact hdep.2.1 | exact hdep.2.2 | exact hdep.2.2.1 | exact hdep.2.2.2 | exact hdep.2.2.2.1 | exact hdep.2.2.2.2) rfl (.inl ⟨_, W, ?_, rfl, Ext.refl _⟩); clear hsz hS; simp [go_sem, Act.eval, *]
        · refine opOk_runG (j := 1) (d := 68) (b := true) rfl (by kernel_rfl) (by first | exact hdep | exact hdep.1 | exact hdep.2 | exact hdep.2.1 | exact hdep.2.2 | exact hdep.2.2.1 | exact hdep.2.2.2 | exact hdep.2.2.2.1 | exact hdep.2.2.2.2) rfl (.inr ⟨14, #[.agg #[.int .i64 S.modes, .int .u8 S.acc, .slice b S.rules.length c]], W, by (clear hsz hS; simp [go_sem, Act.eval, *]), ?_⟩)
          refine (find_any S b c W (HLWs.out.below hS).rul (by omega) ha1 hl63 HLWs.out.cap (fun _ => HFit.out)).mono ?_
          rintro e w' ⟨v1, v2, v3, rfl, h1, h2, h3, hb⟩
          exact ⟨_, rfl, HFND.out _ _ _ _ _ h1 h2 h3, hb⟩
        · have hdep9 := hdep
          obtain ⟨fa1, fc1, fa2, fc2, fa3, fc3, hv, q1, q2, q3⟩ : FndAt D0 T0 E0 (A.tmps[71]?.getD undef) W := (by first | exact hdep | exact hdep.1 | exact hdep.2 | exact hdep.2.1 | exact hdep.2.2 | exact hdep.2.2.1 | exact hdep.2.2.2 | exact hdep.2.2.2.1 | exact hdep.2.2.2.2)
          refine opOk_runG (j := 1) (d := 68) (b := true) rfl (by kernel_rfl) (by first | exact hdep | exact hdep.1 | exact hdep.2 | exact hdep.2.1 | exact hdep.2.2 | exact hdep.2.2.1 | exact hdep.2.2.2 | exact hdep.2.2.2.1 | exact hdep.2.2.2.2) rfl (.inr ⟨18, #[.agg #[.int .i64 S.modes, .int .u8 S.acc, .slice b S.rules.length c], .agg #[.slice fa1 D0.length fc1, .slice fa2 T0.length fc2, .slice fa3 E0.length fc3]], W, by (clear hsz hS; simp [go_sem, Act.eval, *]), ?_⟩)
          refine (proves_any S b c fa1 fa2 fa3 D0 T0 E0 fc1 fc2 fc3 W (HLWs.out.below hS).rul (by omega) ha1 hl63 HLWs.out.cap (fun _ => HFit.out) q1 q2 q3 hdl0 htl0 hel0).mono ?_
          rintro e w' ⟨he, hb⟩
          rw [HPF.out] at he
          exact ⟨_, he, rfl, hb⟩
        · refine opOk_run rfl (.inl ⟨_, W, ?_, rfl, Ext.refl _⟩); clear hsz hS; simp [go_sem, Act.eval, *]
        · refine opOk_run rfl (.inl ⟨_, W, ?_, rfl, Ext.refl _⟩); clear hsz hS; simp [go_sem, Act.eval, *]
        · refine opOk_runG (j := 7) (d := 74) (b := true) rfl (by kernel_rfl) (by first | exact hdep | exact hdep.1 | exact hdep.2 | exact hdep.2.1 | exact hdep.2.2 | exact hdep.2.2.1 | exact hdep.2.2.2 | exact hdep.2.2.2.1 | exact hdep.2.2.2.2) rfl (.inl ⟨_, W, ?_, rfl, Ext.refl _⟩); clear hsz hS; simp [go_sem, Act.eval, *]
        · refine opOk_runG (j := 7) (d := 74) (b := true) rfl (by kernel_rfl) (by first | exact hdep | exact hdep.1 | exact hdep.2 | exact hdep.2.1 | exact hdep.2.2 | exact hdep.2.2.1 | exact hdep.2.2.2 | exact hdep.2.2.2.1 | exact hdep.2.2.2.2) rfl (.inl ⟨_, W, ?_, rfl, Ext.refl _⟩); clear hsz hS; simp [go_sem, Act.eval, *]
        · refine opOk_runG (j := 7) (d := 74) (b := true) rfl (by kernel_rfl) (by first | exact hdep | exact hdep.1 | exact hdep.2 | exact hdep.2.1 | exact hdep.2.2 | exact hdep.2.2.1 | exact hdep.2.2.2 | exact hdep.2.2.2.1 | exact hdep.2.2.2.2) rfl (.inr ⟨18, #[.agg #[.int .i64 S.modes, .int .u8 S.acc, .slice b S.rules.length c], .agg #[.slice ad D0.length cd, .slice as' T0.length cs, .slice ae E0.length ce]], W, by (clear hsz hS; simp [go_sem, Act.eval, *]), ?_⟩)
          refine (proves_any S b c ad as' ae D0 T0 E0 cd cs ce W (HLWs.out.below hS).rul (by omega) ha1 hl63 HLWs.out.cap (fun _ => HFit.out) (HQ1.out.later hS (Nat.le_refl _)) (HQ2.out.later hS (Nat.le_refl _)) (HQ3.out.later hS (Nat.le_refl _)) hdl0 htl0 hel0).mono ?_
          rintro e w' ⟨he, hb⟩
          rw [HPF.out] at he
          exact ⟨_, he, rfl, hb⟩
        · refine opOk_run rfl (.inl ⟨_, W, ?_, rfl, Ext.refl _⟩); clear hsz hS; simp [go_sem, Act.eval, *]
        · refine opOk_run rfl (.inl ⟨_, W, ?_, rfl, Ext.refl _⟩); clear hsz hS; simp [go_sem, Act.eval, *]
        · refine opOk_runG (j := 12) (d := 79) (b := true) rfl (by kernel_rfl) (by first | exact hdep | exact hdep.1 | exact hdep.2 | exact hdep.2.1 | exact hdep.2.2 | exact hdep.2.2.1 | exact hdep.2.2.2 | exact hdep.2.2.2.1 | exact hdep.2.2.2.2) rfl (.inl ⟨_, W, ?_, rfl, Ext.refl _⟩); clear hsz hS; simp [go_sem, Act.eval, *]
        · refine opOk_runG (j := 12) (d := 79) (b := true) rfl (by kernel_rfl) (by first | exact hdep | exact hdep.1 | exact hdep.2 | exact hdep.2.1 | exact hdep.2.2 | exact hdep.2.2.1 | exact hdep.2.2.2 | exact hdep.2.2.2.1 | exact hdep.2.2.2.2) rfl (.inl ⟨_, W, ?_, rfl, Ext.refl _⟩); clear hsz hS; simp [go_sem, Act.eval, *]
        · refine opOk_runG (j := 12) (d := 79) (b := true) rfl (by kernel_rfl) (by first | exact hdep | exact hdep.1 | exact hdep.2 | exact hdep.2.1 | exact hdep.2.2 | exact hdep.2.2.1 | exact hdep.2.2.2 | exact hdep.2.2.2.1 | exact hdep.2.2.2.2) rfl (.inr ⟨18, #[.agg #[.int .i64 S.modes, .int .u8 S.acc, .slice b S.rules.length c], .agg #[.slice b1 D'.length k1, .slice b2 T'.length k2, .slice b3 E'.length k3]], W, by (clear hsz hS; simp [go_sem, Act.eval, *]), ?_⟩)
          refine (proves_any S b c b1 b2 b3 D' T' E' k1 k2 k3 W (HLWs.out.below hS).rul (by omega) ha1 hl63 HLWs.out.cap (fun _ => HFit.out) (HS1.out.later hS (Nat.le_refl _)) (HS2.out.later hS (Nat.le_refl _)) (HS3.out.later hS (Nat.le_refl _)) (by omega) (by omega) (by omega)).mono ?_
          rintro e w' ⟨he, hb⟩
          rw [HPB.out] at he
          exact ⟨_, he, rfl, hb⟩
        · refine opOk_runG (j := 12) (d := 79) (b := true) rfl (by kernel_rfl) (by first | exact hdep | exact hdep.1 | exact hdep.2 | exact hdep.2.1 | exact hdep.2.2 | exact hdep.2.2.1 | exact hdep.2.2.2 | exact hdep.2.2.2.1 | exact hdep.2.2.2.2) rfl (.inl ⟨_, W, ?_, rfl, Ext.refl _⟩); clear hsz hS; simp [go_sem, Act.eval, *]
        · refine opOk_runG (j := 12) (d := 79) (b := true) rfl (by kernel_rfl) (by first | exact hdep | exact hdep.1 | exact hdep.2 | exact hdep.2.1 | exact hdep.2.2 | exact hdep.2.2.1 | exact hdep.2.2.2 | exact hdep.2.2.2.1 | exact hdep.2.2.2.2) rfl (.inl ⟨_, W, ?_, rfl, Ext.refl _⟩); clear hsz hS; simp [go_sem, Act.eval, *]
        · refine opOk_runG (j := 12) (d := 79) (b := true) rfl (by kernel_rfl) (by first | exact hdep | exact hdep.1 | exact hdep.2 | exact hdep.2.1 | exact hdep.2.2 | exact hdep.2.2.1 | exact hdep.2.2.2 | exact hdep.2.2.2.1 | exact hdep.2.2.2.2) rfl (.inr ⟨19, #[.agg #[.int .i64 S.modes, .int .u8 S.acc, .slice b S.rules.length c], .agg #[.slice b1 D'.length k1, .slice b2 T'.length k2, .slice b3 E'.length k3]], W, by (clear hsz hS; simp [go_sem, Act.eval, *]), ?_⟩)
          refine (rproves_any S b c b1 b2 b3 D' T' E' k1 k2 k3 W (HLWs.out.below hS).rul (by omega) ha1 hl63 (fun _ => HFit.out) (HS1.out.later hS (Nat.le_refl _)) (HS2.out.later hS (Nat.le_refl _)) (HS3.out.later hS (Nat.le_refl _)) (by omega) (by omega) (by omega)).mono ?_
          rintro e w' ⟨he, hb⟩
          rw [HPB.out] at he
          exact ⟨_, he, rfl, hb⟩
        · refine opOk_runG (j := 12) (d := 79) (b := true) rfl (by kernel_rfl) (by first | exact hdep | exact hdep.1 | exact hdep.2 | exact hdep.2.1 | exact hdep.2.2 | exact hdep.2.2.1 | exact hdep.2.2.2 | exact hdep.2.2.2.1 | exact hdep.2.2.2.2) rfl (.inl ⟨_, W, ?_, rfl, Ext.refl _⟩); clear hsz hS; simp [go_sem, Act.eval, *]
        · refine opOk_run rfl (.inl ⟨_, W, ?_, rfl, Ext.refl _⟩); clear hsz hS; simp [go_sem, Act.eval, *]
        · refine opOk_run rfl (.inl ⟨_, W, ?_, rfl, Ext.refl _⟩); clear hsz hS; simp [go_sem, Act.eval, *]
      case hVx => exact vs_stays (by simp only [List.mem_cons, List.not_mem_nil, or_false, forall_eq_or_imp, forall_eq]; exact ⟨stays_const _, stays_const _, stays_const _, stays_const _, fnd_stays _ _ _, stays_const _, stays_const _, stays_const _, stays_const _, stays_const _, stays_const _, stays_const _, stays_const _, stays_const _, stays_const _, stays_const _, stays_const _, stays_const _, stays_const _, stays_const _, stays_const _, stays_const _⟩)
      case hSx => exact fun W W' h hx => h.trans (Below.mono hx h.size)
      case hS => exact Below.refl _ _
      case hfin =>
        intro A W hsz hdf hS hv hbase
        obtain ⟨x, hx, hA⟩ := act_puts [67, 68, 69, 70, 71, 72, 73, 74, 75, 76, 77, 78, 79, 80, 81, 82, 83, 84, 85, 86, 87, 4] (by kernel_rfl) hsz hdf hbase
        have e4 : x 4 = .bool true := (hx 4).trans (hv 21 (by decide))
        rw [hA]
        simp only [List.foldl]
        rw [e4]
        clear e4
        simp only [Act.put, List.setIfInBounds_toArray, List.set_cons_succ, List.set_cons_zero]
        clear hA hx hv hbase hsz hdf
        have hBW := hBs.trans (hS.mono hBs.size)
        clear hS
        go_wp2_with fail
        go_ret
        exact ⟨rfl, hBW⟩
theorem flawProves_view (x : RawA) (y0 y1 y2 : Int) (w : World) (hx : RawOk w x) (a0 : -128 ≤ y0) (b0 : y0 ≤ 127) (a1 : -128 ≤ y1) (b1 : y1 ≤ 127) (a2 : -128 ≤ y2) (b2 : y2 ≤ 127) :
    Calls Try.prog 4 #[x.val, .agg #[.int .i8 y0, .int .i8 y1, .int .i8 y2]] w fun e w' => e = .returned (.bool true) ∧ Below w.heap.size w w' :=
  flawProves_any x.M x.A x.a x.len x.cap x.Z y0 y1 y2 w hx.m0 hx.m1 hx.a0 hx.a1 hx.rows a0 b0 a1 b1 a2 b2
end Go.Proofs.Ytogjcfcfgnbmkaa
