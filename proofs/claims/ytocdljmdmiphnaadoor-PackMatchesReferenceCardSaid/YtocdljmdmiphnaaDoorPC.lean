
/- Pack: the program's form. -/
import Derived.Test.YtocdljmdmiphnaaDoorPB
import Derived.Test.YtocdljmdmiphnaaDoorRegionX
import Derived.Test.YtocdljmdmiphnaaDoorDSpl
namespace Go.Proofs.YtocdljmdmiphnaaDoor
open Go.RowKit Go.WideShapes
set_option linter.unusedVariables false
set_option linter.unusedSimpArgs false

/-! ### plain: bounds -/
theorem pkArms_le {rec : Nat → Nat × Wd → Nat × Wd} (hr : ∀ i s, s.2.length ≤ (rec i s).2.length ∧ (s.1 ≤ s.2.length → (rec i s).1 ≤ (rec i s).2.length)) : ∀ X s, s.2.length ≤ (pkArms rec X s).2.length ∧ (s.1 ≤ s.2.length → (pkArms rec X s).1 ≤ (pkArms rec X s).2.length)
  | [], s => ⟨Nat.le_refl _, id⟩
  | x :: X, s => by
    rw [pkArms]
    split
    · have := pkArms_le hr X (s.1, s.2 ++ byteC x.c :: numB (x.t.toNat + 1))
      rw [List.length_append] at this
      refine ⟨by omega, fun h => this.2 (by simp only; omega)⟩
    · have h1 := hr x.t.toNat (s.1, s.2 ++ byteC x.c :: numB 0)
      have := pkArms_le hr X (rec x.t.toNat (s.1, s.2 ++ byteC x.c :: numB 0))
      rw [List.length_append] at h1
      refine ⟨by omega, fun h => this.2 (h1.2 (by simp only; omega))⟩
theorem pkWrite_le (E : List Nd) : ∀ m i s, s.2.length ≤ (pkWrite E m i s).2.length ∧ (s.1 ≤ s.2.length → (pkWrite E m i s).1 ≤ (pkWrite E m i s).2.length)
  | 0, _, _ => ⟨Nat.le_refl _, id⟩
  | m + 1, i, s => by
    rw [pkWrite]
    have h := pkArms_le (pkWrite_le E m) (E.getD i default).arcs (s.1 + 1, s.2 ++ numB (headN (E.getD i default)))
    have h2 := numB_pos (headN (E.getD i default))
    rw [List.length_append] at h
    exact ⟨by omega, fun h3 => h.2 (by simp only; omega)⟩
theorem arcs_to {Mt : List Rst} {n : Nat} {G : List (Nat × Rst)} {X : List Ar} (h : Arcs Mt n G X) : ∀ x ∈ X, ∃ (c t : Nat) (g : Rst), x = ⟨(c : Int), (t : Int)⟩ ∧ c < 256 ∧ t < n ∧ Mt[t]? = some g ∧ (c, g) ∈ G := by
  induction h with
  | nil => intro x hx; cases hx
  | @cons c t g G X h1 h2 h3 _ ih =>
    intro x hx
    rcases List.mem_cons.1 hx with rfl | hx
    · exact ⟨c, t, g, rfl, h1, h2, h3, by simp⟩
    · obtain ⟨c, t, g, a, b, d, e, f⟩ := ih x hx
      exact ⟨c, t, g, a, b, d, e, List.mem_cons_of_mem _ f⟩
/-- a node of a table, its arcs -/
theorem tab_node {Mt : List Rst} {E : List Nd} (hT : GTab Mt E) {i m : Nat} {r : Rst} (hi : Mt[i]? = some r) (hm : ∀ s ∈ r, s.length < m + 1) : ∃ hi : i < E.length, E.getD i default = E[i] ∧ E[i].arcs.length ≤ 94 ∧
    ∀ x ∈ E[i].arcs, ∃ (c t : Nat) (g : Rst), x = ⟨(c : Int), (t : Int)⟩ ∧ c < 256 ∧ t < E.length ∧ Mt[t]? = some g ∧ ∀ s ∈ g, s.length < m := by
  have hE : i < E.length := by rw [← hT.len]; exact (List.getElem?_eq_some_iff.1 hi).1
  obtain ⟨r', h1, _, h3⟩ := hT.nd i hE
  obtain rfl : r = r' := by rw [hi] at h1; injection h1
  refine ⟨hE, by rw [List.getD_eq_getElem?_getD, List.getElem?_eq_getElem hE]; rfl, by rw [h3.len]; exact grp_len r, fun x hx => ?_⟩
  obtain ⟨c, t, g, a, b, d, e, f⟩ := arcs_to h3 x hx
  refine ⟨c, t, g, a, b, d, e, fun s hs => ?_⟩
  obtain ⟨_, _, g3, _⟩ := grp_mem f
  simp only at g3
  rw [g3] at hs
  obtain ⟨b, _, h5⟩ := afterL_mem.1 hs
  have := hm _ h5
  simp at this; omega
/-! ### memory -/
/-- the variables that the closure shares -/
structure FSt (wW : World) (B gm gd gb gw : Nat) (aD : Option Addr) (nD cD : Nat) (v : Value) (l : Wd) (met : Nat) (w : World) : Prop where
  mm : w.heap[gm]? = some (.cells #[.int .i64 (met : Int)] 3 (0, 0))
  dd : w.heap[gd]? = some (.cells #[.slice aD nD cD] 29 (0, 0))
  bb : w.heap[gb]? = some (.cells #[v] 24 (0, 0))
  ww : w.heap[gw]? = some (.cells #[.func (.func 53) #[] #[.pointer (some ⟨gm, 0, none⟩), .pointer (some ⟨gd, 0, none⟩), .pointer (some ⟨gb, 0, none⟩), .pointer (some ⟨gw, 0, none⟩)]] 83 (0, 0))
  own : OwnG rowU8 w B v l
  bl : Below B wW w
  hm : B ≤ gm
  hb : B ≤ gb
theorem cells_ne {w : World} {g q : Nat} {cs cs2 : Array Value} {t t2 : TypeId} {f f2 : Nat × Nat} (h : w.heap[g]? = some (.cells cs t f)) (h2 : w.heap[q]? = some (.cells cs2 t2 f2)) (hne : t ≠ t2) : g ≠ q := fun e => by
  subst e
  rw [h] at h2
  injection h2 with h2
  injection h2 with _ h2
  exact hne h2
section
variable {wW w w1 : World} {B gm gd gb gw : Nat} {aD : Option Addr} {nD cD : Nat} {v v1 : Value} {l l1 : Wd} {met : Nat}
theorem FSt.size (h : FSt wW B gm gd gb gw aD nD cD v l met w) : B ≤ w.heap.size := Nat.le_of_lt (Nat.lt_of_le_of_lt h.hm (Array.getElem?_eq_some_iff.1 h.mm).1)
theorem FSt.go (h : FSt wW B gm gd gb gw aD nD cD v l met w) (hx : Ext w w1) : FSt wW B gm gd gb gw aD nD cD v l met w1 := by
  have k : ∀ {q : Nat} {o : Obj}, w.heap[q]? = some o → w1.heap[q]? = some o := fun hq => (Below.block hx _ (Array.getElem?_eq_some_iff.1 hq).1).trans hq
  exact ⟨k h.mm, k h.dd, k h.bb, k h.ww, h.own.later hx (Nat.le_refl _), h.bl.trans (Below.mono hx h.size), h.hm, h.hb⟩
theorem FSt.ne_row (h : FSt wW B gm gd gb gw aD nD cD v l met w) {q : Nat} {cs : Array Value} {t : TypeId} {f : Nat × Nat} (hq : w.heap[q]? = some (.cells cs t f)) (ht : t ≠ 5) : some q ≠ v.ownBlock := fun e => by
  obtain ⟨c2, h2⟩ := h.own.obj e.symm
  exact cells_ne hq h2 ht rfl
theorem FSt.setMet (h : FSt wW B gm gd gb gw aD nD cD v l met w) (n : Nat) : FSt wW B gm gd gb gw aD nD cD v l n (w.setCell ⟨gm, 0, none⟩ (.int .i64 (n : Int))) := by
  have hne : ∀ q, q ≠ gm → (w.setCell ⟨gm, 0, none⟩ (.int .i64 (n : Int))).heap[q]? = w.heap[q]? := fun q hq => Below.heap_setCell _ _ _ _ hq
  refine ⟨set_one h.mm rfl, (hne gd (cells_ne h.dd h.mm (by decide))).trans h.dd, (hne gb (cells_ne h.bb h.mm (by decide))).trans h.bb, (hne gw (cells_ne h.ww h.mm (by decide))).trans h.ww, h.own.keep fun q hq => hne q fun e => ?_, h.bl.setCell (p := ⟨gm, 0, none⟩) h.hm _, h.hm, h.hb⟩
  exact h.ne_row h.mm (by decide) (by rw [← e]; exact hq.symm)
/-- the row that grew is stored -/
theorem FSt.put (h : FSt wW B gm gd gb gw aD nD cD v l met w) (ho : OwnG rowU8 w1 B v1 l1) (hg : GrowV w v w1 v1) : FSt wW B gm gd gb gw aD nD cD v1 l1 met (w1.setCell ⟨gb, 0, none⟩ v1) := by
  have k : ∀ {q : Nat} {cs : Array Value} {t : TypeId} {f : Nat × Nat}, w.heap[q]? = some (.cells cs t f) → t ≠ 5 → w1.heap[q]? = some (.cells cs t f) := fun hq ht => (hg.gr.block _ (Array.getElem?_eq_some_iff.1 hq).1 (h.ne_row hq ht)).trans hq
  have hb1 := k h.bb (by decide)
  have hne : ∀ q, q ≠ gb → (w1.setCell ⟨gb, 0, none⟩ v1).heap[q]? = w1.heap[q]? := fun q hq => Below.heap_setCell _ _ _ _ hq
  have hm1 := k h.mm (by decide)
  have hd1 := k h.dd (by decide)
  have hw1 := k h.ww (by decide)
  refine ⟨(hne gm (cells_ne hm1 hb1 (by decide))).trans hm1, (hne gd (cells_ne hd1 hb1 (by decide))).trans hd1, set_one hb1 rfl, (hne gw (cells_ne hw1 hb1 (by decide))).trans hw1, ho.keep fun q hq => hne q fun e => ?_, ((h.bl.trans (hg.below h.size h.own.ge)).setCell (p := ⟨gb, 0, none⟩) h.hb _), h.hm, h.hb⟩
  obtain ⟨c2, h2⟩ := ho.obj hq
  rw [e] at h2
  exact cells_ne hb1 h2 (by decide) rfl
theorem FSt.mid (h : FSt wW B gm gd gb gw aD nD cD v l met w) (hg : GrowV w v w1 v1) : w1.heap[gb]? = some (.cells #[v] 24 (0, 0)) := (hg.gr.block _ (Array.getElem?_eq_some_iff.1 h.bb).1 (h.ne_row h.bb (by decide))).trans h.bb
end
def FPost (wW : World) (B gm gd gb gw : Nat) (aD : Option Addr) (nD cD : Nat) (q : Nat × Wd) (e : Ending) (w' : World) : Prop := e = .returned (.tuple #[]) ∧ ∃ v', FSt wW B gm gd gb gw aD nD cD v' q.2 q.1 w'
set_option maxHeartbeats 3200000 in
set_option maxRecDepth 100000 in
theorem form1_any (wW : World) (B gm gd gb gw : Nat) (aD : Option Addr) (cD : Nat) (E : List Nd) (Mt : List Rst) (hT : GTab Mt E) (hWB : wW.heap.size ≤ B) (hD : DawgS wW aD E) (hEl : E.length ≤ 1000000) :
    ∀ (m i : Nat) (r : Rst) (v : Value) (l : Wd) (met : Nat) (w : World), Mt[i]? = some r → (∀ s ∈ r, s.length < m) → met ≤ l.length → (pkWrite E m i (met, l)).2.length ≤ 800000 → FSt wW B gm gd gb gw aD E.length cD v l met w →
    Calls Tryd.prog 53 #[.int .i64 (i : Int), .pointer (some ⟨gm, 0, none⟩), .pointer (some ⟨gd, 0, none⟩), .pointer (some ⟨gb, 0, none⟩), .pointer (some ⟨gw, 0, none⟩)] w (FPost wW B gm gd gb gw aD E.length cD (pkWrite E m i (met, l))) := by
  intro m
  induction m with
  | zero =>
    intro i r v l met w hi hs
    obtain ⟨s, h⟩ := (hT.ok r (List.mem_of_getElem? hi)).fst
    have := hs s h; omega
  | succ m ih =>
    intro i r v l met w hi hs hml hfin hst
    obtain ⟨hiE, hgd, hX94, hto⟩ := tab_node hT hi hs
    have hpw : pkWrite E (m + 1) i (met, l) = pkArms (pkWrite E m) E[i].arcs (met + 1, l ++ numB (headN E[i])) := by rw [pkWrite, hgd]
    rw [hpw] at hfin ⊢
    have HIH := Lib.hid ih; have HST := Lib.hid hst; have HD := Lib.hid hD
    obtain ⟨b, o, ha, hbW, q0, aX, cX, q1, hXl, hXs⟩ := HD.out.at hiE
    have hbB : b < B := by omega
    have hidx := idx_nodes aD b o E.length cD i ha hiE
    obtain ⟨f, X, hnd⟩ : ∃ f X, E[i] = ⟨f, X⟩ := ⟨_, _, rfl⟩
    rw [hnd] at q0 q1 hXl hXs hX94 hto hfin ⊢
    simp only at q0 q1 hXl hXs hX94 hto hfin
    have hfin0 := (pkArms_le (pkWrite_le E m) X (met + 1, l ++ numB (headN ⟨f, X⟩))).1
    rw [List.length_append] at hfin0
    have hlen : l.length ≤ 800000 := by omega
    have HQ0 := Lib.hid q0; have HQ1 := Lib.hid q1; have HXS := Lib.hid hXs; have HTO := Lib.hid hto; have HFIN := Lib.hid hfin
    have c0 := cells1 hst.mm
    have c1 := cells1 hst.dd
    have f0 : w.frozen? ⟨gm, 0, none⟩ = false := by simp [World.frozen?, hst.mm]
    have hwm : IntKind.i64.wrap ((met : Int) + 1) = ((met + 1 : Nat) : Int) := by rw [IntWalk.i64_in _ (by omega)]; omega
    clear q0 q1 hXs hto hfin hpw hgd hD ih hst hs hi hfin0 hnd ha
    obtain ⟨met1, hmet1⟩ : ∃ n, met + 1 = n := ⟨_, rfl⟩
    rw [hmet1] at hwm HFIN ⊢
    have HHN : Hid (headN ⟨f, X⟩ = 2 * X.length + bit f) := rfl
    obtain ⟨hd, hhd⟩ : ∃ hd, headN ⟨f, X⟩ = hd := ⟨_, rfl⟩
    rw [hhd] at HHN HFIN ⊢
    obtain ⟨l2, hl2⟩ : ∃ l2, l ++ numB hd = l2 := ⟨_, rfl⟩
    rw [hl2] at HFIN ⊢
    have HL2 := Lib.hid hl2
    have HL2l : Hid (l.length + 1 ≤ l2.length) := by have := numB_pos hd; show _ ≤ _; rw [← hl2, List.length_append]; omega
    clear hhd hl2
    go_enter Tryd.func53, Tryd.ntmps53
    go_upto_region 1 with fail
    have hst1 := HST.out.setMet met1
    obtain ⟨w1, hw1⟩ : ∃ w1, w.setCell ⟨gm, 0, none⟩ (.int .i64 (met1 : Int)) = w1 := ⟨_, rfl⟩
    rw [hw1] at hst1 ⊢
    have HST1 := Lib.hid hst1
    clear hst1 hw1 c0 c1 f0 hwm
    have d1 := cells1 HST1.out.dd
    have q0 := (HST1.out.bl.cell (p := ⟨b, o + i * 2, none⟩) hbB).trans HQ0.out
    have q1 := (HST1.out.bl.cell (p := ⟨b, o + i * 2 + 1, none⟩) hbB).trans HQ1.out
    have d2 := cells1 HST1.out.bb
    cases f with
    | true =>
      have hhv : (hd : Int) = 2 * (X.length : Int) + 1 := by have := HHN.out; simp only [bit] at this; first | (rw [if_pos rfl] at this; omega) | (rw [if_neg (by decide)] at this; omega) | (simp at this; omega)
      have hwx : IntKind.i64.wrap (2 * (X.length : Int)) = 2 * (X.length : Int) := IntWalk.i64_in _ (by omega)
      have hwy : IntKind.i64.wrap (2 * (X.length : Int) + 1) = 2 * (X.length : Int) + 1 := IntWalk.i64_in _ (by omega)
      have HCALL := Lib.hid (number_any B v l (hd : Int) w1 HST1.out.own HST1.out.size (by omega) (by omega) (by omega))
      rw [hhv] at HCALL
      have HHV := Lib.hid hhv
      clear hhv
      go_wp2_with fail
      refine HCALL.out.mono ?_
      rintro e w2 ⟨v2, rfl, ho2, hg2⟩
      clear HCALL
      rw [← HHV.out] at ho2
      have hn2 : numZ (hd : Int) = numB hd := by unfold numZ; rw [Int.toNat_natCast]
      rw [hn2, HL2.out] at ho2
      obtain ⟨va2, vc2, hv2, -, -⟩ := ho2.form
      subst hv2
      have hb2 := HST1.out.mid hg2
      have c2 := cells1 hb2
      have f2 : w2.frozen? ⟨gb, 0, none⟩ = false := by simp [World.frozen?, hb2]
      have hst3 := HST1.out.put ho2 hg2
      go_upto_region 5 with fail
      obtain ⟨w3, hw3⟩ : ∃ w3, w2.setCell ⟨gb, 0, none⟩ (.slice va2 l2.length vc2) = w3 := ⟨_, rfl⟩
      rw [hw3] at hst3 ⊢
      have HST3 := Lib.hid hst3
      clear hst3 hw3 c2 f2 hb2 ho2 hg2 hn2 d1 d2 q0 q1 HST1 HHV HST
      have d1 := cells1 HST3.out.dd
      have q1 := (HST3.out.bl.cell (p := ⟨b, o + i * 2 + 1, none⟩) hbB).trans HQ1.out
      go_wp2
      clear d1 q1
      go_loopw [34] (fun q wr => ∃ (k : Nat) (lk : Wd) (mk : Nat) (vk : Value), k ≤ X.length ∧ q = .int .i64 (k : Int) ∧ FSt wW B gm gd gb gw aD E.length cD vk lk mk wr ∧ mk ≤ lk.length ∧ pkArms (pkWrite E m) X (met1, l2) = pkArms (pkWrite E m) (X.drop k) (mk, lk)) (fun q _ => X.length - (intOf q).toNat)
      case atStart => exact ⟨0, l2, met1, _, Nat.zero_le _, rfl, HST3.out, by have := HL2l.out; omega, rfl⟩
      case round =>
        clear HST3
        obtain ⟨k, lk, mk, vk, hk, rfl, hst, hmk, hpk⟩ := hrel
        have HSTk := Lib.hid hst; have HPK := Lib.hid hpk
        obtain ⟨vka, vkc, hvk, -, -⟩ := hst.own.form
        subst hvk
        clear hst hpk
        by_cases hlt : k < X.length
        · obtain ⟨ba, oa, haX, hba, p0, p1⟩ := (HXS.out.later HSTk.out.bl hWB).at hlt
          have hidxa := idx_arcs aX ba oa X.length cX k haX hlt
          obtain ⟨c, t, g, hx, hc, ht, hMt, hsg⟩ := HTO.out X[k] (List.getElem_mem hlt)
          have HDR : Hid (pkArms (pkWrite E m) X (met1, l2) = pkArms (pkWrite E m) (⟨(c : Int), (t : Int)⟩ :: X.drop (k + 1)) (mk, lk)) := by
            show _ = _
            rw [HPK.out, List.drop_eq_getElem_cons hlt, hx]
          rw [hx] at p0 p1
          simp only at p0 p1
          have HMT := Lib.hid hMt; have HSG := Lib.hid hsg
          have hlk := (pkArms_le (pkWrite_le E m) (X.drop k) (mk, lk)).1
          rw [← HPK.out] at hlk
          simp only at hlk
          have hlk8 : lk.length ≤ 800000 := by have := HFIN.out; omega
          clear haX hx hMt hsg hlk
          have c2 := cells1 HSTk.out.bb
          have hgbl : gb < wr.heap.size := (Array.getElem?_eq_some_iff.1 HSTk.out.bb).1
          have HV := Lib.hid (byteC_nat hc)
          have hx1 : Below wr.heap.size wr (wr.alloc (.cells #[.int .u8 (c : Int), .int .i64 (t : Int)] 56)) := (Below.refl _ wr).alloc (Nat.le_refl _) _
          have hx2 : Below wr.heap.size wr ((wr.alloc (.cells #[.int .u8 (c : Int), .int .i64 (t : Int)] 56)).alloc (.cells #[.int .u8 (c : Int)] 5)) := hx1.alloc (by simp only [World.size_alloc]; omega) _
          have HX2 := Lib.hid hx2
          have hbx : ((wr.alloc (.cells #[.int .u8 (c : Int), .int .i64 (t : Int)] 56)).alloc (.cells #[.int .u8 (c : Int)] 5)).heap[wr.heap.size]? = some (.cells #[.int .u8 (c : Int), .int .i64 (t : Int)] 56) := (((Below.refl (wr.heap.size + 1) (wr.alloc (.cells #[.int .u8 (c : Int), .int .i64 (t : Int)] 56))).alloc (by simp) _).block _ (by omega)).trans (heap_alloc_new _ _)
          have HBX := Lib.hid hbx
          have h9 : ((wr.alloc (.cells #[.int .u8 (c : Int), .int .i64 (t : Int)] 56)).alloc (.cells #[.int .u8 (c : Int)] 5)).heap[wr.heap.size + 1]? = some (.cells #[.int .u8 ((byteC (c : Int)).toNat : Int)] 5 (0, 0)) := by
            rw [HV.out]
            have h := heap_alloc_new (wr.alloc (.cells #[.int .u8 (c : Int), .int .i64 (t : Int)] 56)) (.cells #[.int .u8 (c : Int)] 5)
            rw [World.size_alloc] at h
            exact h
          have H9 := Lib.hid h9
          clear hx1 hx2 hbx h9
          go_upto_region 9 with (first | (at_builtin; go_loud (refine wpList_app rowU8_ok rfl _ _ rfl rfl (HSTk.out.own.later HX2.out (Nat.le_refl _)) ⟨wr.heap.size + 1, 0, none⟩ 1 [byteC (c : Int)] rfl (cells_built H9.out) (by simp only [List.length_singleton]; omega) (by have := HSTk.out.size; simp only [World.size_alloc]; omega) ?_); intro v5 w5 hown5 hg5; obtain ⟨l5, hl5⟩ : ∃ l5, lk ++ [byteC (c : Int)] = l5 := ⟨_, rfl⟩; rw [hl5] at hown5; have HL5 := Lib.hid hl5; clear hl5; have HO5 := Lib.hid hown5; have HG5 := Lib.hid (GrowV.pre HX2.out hg5); have HG5' := Lib.hid hg5; obtain ⟨va5, vc5, hv5, -, -⟩ := hown5.form; subst hv5; have c3 := cells1 (HSTk.out.mid HG5.out); have f3 : w5.frozen? ⟨gb, 0, none⟩ = false := (by simp [World.frozen?, HSTk.out.mid HG5.out]); clear hown5 hg5))
          have hst6 := HSTk.out.put HO5.out HG5.out
          have hbx6 : (w5.setCell ⟨gb, 0, none⟩ (.slice va5 l5.length vc5)).heap[wr.heap.size]? = some (.cells #[.int .u8 (c : Int), .int .i64 (t : Int)] 56) := (Below.heap_setCell _ _ _ _ (by show wr.heap.size ≠ gb; omega)).trans ((HG5'.out.gr.block wr.heap.size (by simp only [World.size_alloc]; omega) (fun e => by have := HSTk.out.own.lt _ e.symm; omega)).trans HBX.out)
          obtain ⟨w6, hw6⟩ : ∃ w6, w5.setCell ⟨gb, 0, none⟩ (.slice va5 l5.length vc5) = w6 := ⟨_, rfl⟩
          rw [hw6] at hst6 hbx6 ⊢
          have HST6 := Lib.hid hst6; have HBX6 := Lib.hid hbx6
          have hl5 : l5.length = lk.length + 1 := by rw [← HL5.out]; simp
          have HLL5 := Lib.hid hl5
          have hl58 : l5.length ≤ 800001 := by omega
          obtain ⟨m0, m1⟩ := cells2 HBX6.out
          have m2 := cells1 HST6.out.mm
          have c6 := cells1 HST6.out.bb
          have htE : t ≤ 1000000 := by omega
          clear hst6 hbx6 hw6 hl5 HO5 HG5 HG5' c3 f3 c2 p0 p1 H9 HBX HX2 HSTk
          by_cases htm : t < mk
          · have HCALL := Lib.hid (number_any B _ l5 ((t : Int) + 1) w6 HST6.out.own HST6.out.size (by omega) (by omega) (by omega))
            have hwt : IntKind.i64.wrap ((t : Int) + 1) = (t : Int) + 1 := IntWalk.i64_in _ (by omega)
            go_wp2_with fail
            refine HCALL.out.mono ?_
            rintro e w7 ⟨v7, rfl, ho7, hg7⟩
            clear HCALL
            have hn7 : numZ ((t : Int) + 1) = numB (t + 1) := by unfold numZ; congr 1
            obtain ⟨l7, hl7⟩ : ∃ l7, l5 ++ numB (t + 1) = l7 := ⟨_, rfl⟩
            rw [hn7, hl7] at ho7
            have HL7 := Lib.hid hl7
            obtain ⟨va7, vc7, hv7, -, -⟩ := ho7.form
            subst hv7
            have hb7 := HST6.out.mid hg7
            have c7 := cells1 hb7
            have f7 : w7.frozen? ⟨gb, 0, none⟩ = false := by simp [World.frozen?, hb7]
            have HST8 := Lib.hid (HST6.out.put ho7 hg7)
            have HLE7 : Hid (mk ≤ l7.length) := by show _ ≤ _; have := HLL5.out; rw [← hl7, List.length_append]; omega
            clear hn7 hl7 hb7 ho7 hg7 m0 m1 m2 c6
            go_wp2
            go_roundw
            case rel =>
              refine ⟨k + 1, l7, mk, _, by omega, by go_num, HST8.out, HLE7.out, ?_⟩
              rw [HDR.out, pkArms, if_pos (by simp only; omega)]
              congr 2
              rw [← HL7.out, ← HL5.out, Int.toNat_natCast]
              simp
            case measure => simp [intOf]; omega
          · have HCALL := Lib.hid (number_any B _ l5 0 w6 HST6.out.own HST6.out.size (by omega) (by omega) (by omega))
            go_wp2_with fail
            refine HCALL.out.mono ?_
            rintro e w7 ⟨v7, rfl, ho7, hg7⟩
            clear HCALL
            have hn7 : numZ 0 = numB 0 := rfl
            obtain ⟨l7, hl7⟩ : ∃ l7, l5 ++ numB 0 = l7 := ⟨_, rfl⟩
            rw [hn7, hl7] at ho7
            obtain ⟨va7, vc7, hv7, -, -⟩ := ho7.form
            subst hv7
            have hb7 := HST6.out.mid hg7
            have c7 := cells1 hb7
            have f7 : w7.frozen? ⟨gb, 0, none⟩ = false := by simp [World.frozen?, hb7]
            have hst8 := HST6.out.put ho7 hg7
            have hwl6 : wr.heap.size < w6.heap.size := (Array.getElem?_eq_some_iff.1 HBX6.out).1
            have hbx8 : (w7.setCell ⟨gb, 0, none⟩ (.slice va7 l7.length vc7)).heap[wr.heap.size]? = some (.cells #[.int .u8 (c : Int), .int .i64 (t : Int)] 56) := (Below.heap_setCell _ _ _ _ (by show wr.heap.size ≠ gb; omega)).trans ((hg7.gr.block wr.heap.size hwl6 (HST6.out.ne_row HBX6.out (by decide))).trans HBX6.out)
            have hle7 : mk ≤ l7.length := by have := HLL5.out; rw [← hl7, List.length_append]; omega
            have HDR2 : Hid (pkArms (pkWrite E m) X (met1, l2) = pkArms (pkWrite E m) (X.drop (k + 1)) (pkWrite E m t (mk, l7))) := by
              show _ = _
              rw [HDR.out, pkArms, if_neg (by simp only; omega), Int.toNat_natCast]
              congr 2
              rw [← hl7, ← HL5.out]
              simp
            clear hn7 hl7 hb7 ho7 hg7 m0 m1 m2 c6
            go_upto_region 12 with fail
            obtain ⟨w8, hw8⟩ : ∃ w8, w7.setCell ⟨gb, 0, none⟩ (.slice va7 l7.length vc7) = w8 := ⟨_, rfl⟩
            rw [hw8] at hst8 hbx8 ⊢
            have HST8 := Lib.hid hst8; have HBX8 := Lib.hid hbx8
            have hfl : (pkWrite E m t (mk, l7)).2.length ≤ 800000 := by
              have h := (pkArms_le (pkWrite_le E m) (X.drop (k + 1)) (pkWrite E m t (mk, l7))).1
              rw [← HDR2.out] at h
              have := HFIN.out
              omega
            have HCALL := Lib.hid (HIH.out t g _ l7 mk w8 HMT.out HSG.out hle7 hfl HST8.out)
            obtain ⟨m0, m1⟩ := cells2 HBX8.out
            have c8 := cells1 HST8.out.ww
            clear hst8 hbx8 hw8 c7 f7 hfl
            go_wp2_with fail
            refine HCALL.out.mono ?_
            rintro e w9 ⟨rfl, v9, hst9⟩
            have HST9 := Lib.hid hst9
            have HLE9 := Lib.hid ((pkWrite_le E m t (mk, l7)).2 hle7)
            clear HCALL hst9 m0 m1 c8
            obtain ⟨⟨m9, l9⟩, hq9⟩ : ∃ q9, pkWrite E m t (mk, l7) = q9 := ⟨_, rfl⟩
            rw [hq9] at HST9 HLE9 HDR2
            go_wp2
            go_roundw
            case rel => exact ⟨k + 1, l9, m9, v9, by omega, by go_num, HST9.out, HLE9.out, HDR2.out⟩
            case measure => simp [intOf]; omega
        · have hkX : X.drop k = [] := List.drop_eq_nil_of_le (by omega)
          have HR : Hid (pkArms (pkWrite E m) X (met1, l2) = (mk, lk)) := by show _ = _; rw [HPK.out, hkX, pkArms]
          clear hkX
          go_wp2
          refine bodyPost_ret (results_none rfl _ _ _) rfl ?_
          rw [HR.out]
          exact ⟨rfl, _, HSTk.out⟩
    | false =>
      have hhv : (hd : Int) = 2 * (X.length : Int) := by have := HHN.out; simp only [bit] at this; first | (rw [if_pos rfl] at this; omega) | (rw [if_neg (by decide)] at this; omega) | (simp at this; omega)
      have hwx : IntKind.i64.wrap (2 * (X.length : Int)) = 2 * (X.length : Int) := IntWalk.i64_in _ (by omega)
      have HCALL := Lib.hid (number_any B v l (hd : Int) w1 HST1.out.own HST1.out.size (by omega) (by omega) (by omega))
      rw [hhv] at HCALL
      have HHV := Lib.hid hhv
      clear hhv
      go_wp2_with fail
      refine HCALL.out.mono ?_
      rintro e w2 ⟨v2, rfl, ho2, hg2⟩
      clear HCALL
      rw [← HHV.out] at ho2
      have hn2 : numZ (hd : Int) = numB hd := by unfold numZ; rw [Int.toNat_natCast]
      rw [hn2, HL2.out] at ho2
      obtain ⟨va2, vc2, hv2, -, -⟩ := ho2.form
      subst hv2
      have hb2 := HST1.out.mid hg2
      have c2 := cells1 hb2
      have f2 : w2.frozen? ⟨gb, 0, none⟩ = false := by simp [World.frozen?, hb2]
      have hst3 := HST1.out.put ho2 hg2
      go_upto_region 5 with fail
      obtain ⟨w3, hw3⟩ : ∃ w3, w2.setCell ⟨gb, 0, none⟩ (.slice va2 l2.length vc2) = w3 := ⟨_, rfl⟩
      rw [hw3] at hst3 ⊢
      have HST3 := Lib.hid hst3
      clear hst3 hw3 c2 f2 hb2 ho2 hg2 hn2 d1 d2 q0 q1 HST1 HHV HST
      have d1 := cells1 HST3.out.dd
      have q1 := (HST3.out.bl.cell (p := ⟨b, o + i * 2 + 1, none⟩) hbB).trans HQ1.out
      go_wp2
      clear d1 q1
      go_loopw [34] (fun q wr => ∃ (k : Nat) (lk : Wd) (mk : Nat) (vk : Value), k ≤ X.length ∧ q = .int .i64 (k : Int) ∧ FSt wW B gm gd gb gw aD E.length cD vk lk mk wr ∧ mk ≤ lk.length ∧ pkArms (pkWrite E m) X (met1, l2) = pkArms (pkWrite E m) (X.drop k) (mk, lk)) (fun q _ => X.length - (intOf q).toNat)
      case atStart => exact ⟨0, l2, met1, _, Nat.zero_le _, rfl, HST3.out, by have := HL2l.out; omega, rfl⟩
      case round =>
        clear HST3
        obtain ⟨k, lk, mk, vk, hk, rfl, hst, hmk, hpk⟩ := hrel
        have HSTk := Lib.hid hst; have HPK := Lib.hid hpk
        obtain ⟨vka, vkc, hvk, -, -⟩ := hst.own.form
        subst hvk
        clear hst hpk
        by_cases hlt : k < X.length
        · obtain ⟨ba, oa, haX, hba, p0, p1⟩ := (HXS.out.later HSTk.out.bl hWB).at hlt
          have hidxa := idx_arcs aX ba oa X.length cX k haX hlt
          obtain ⟨c, t, g, hx, hc, ht, hMt, hsg⟩ := HTO.out X[k] (List.getElem_mem hlt)
          have HDR : Hid (pkArms (pkWrite E m) X (met1, l2) = pkArms (pkWrite E m) (⟨(c : Int), (t : Int)⟩ :: X.drop (k + 1)) (mk, lk)) := by
            show _ = _
            rw [HPK.out, List.drop_eq_getElem_cons hlt, hx]
          rw [hx] at p0 p1
          simp only at p0 p1
          have HMT := Lib.hid hMt; have HSG := Lib.hid hsg
          have hlk := (pkArms_le (pkWrite_le E m) (X.drop k) (mk, lk)).1
          rw [← HPK.out] at hlk
          simp only at hlk
          have hlk8 : lk.length ≤ 800000 := by have := HFIN.out; omega
          clear haX hx hMt hsg hlk
          have c2 := cells1 HSTk.out.bb
          have hgbl : gb < wr.heap.size := (Array.getElem?_eq_some_iff.1 HSTk.out.bb).1
          have HV := Lib.hid (byteC_nat hc)
          have hx1 : Below wr.heap.size wr (wr.alloc (.cells #[.int .u8 (c : Int), .int .i64 (t : Int)] 56)) := (Below.refl _ wr).alloc (Nat.le_refl _) _
          have hx2 : Below wr.heap.size wr ((wr.alloc (.cells #[.int .u8 (c : Int), .int .i64 (t : Int)] 56)).alloc (.cells #[.int .u8 (c : Int)] 5)) := hx1.alloc (by simp only [World.size_alloc]; omega) _
          have HX2 := Lib.hid hx2
          have hbx : ((wr.alloc (.cells #[.int .u8 (c : Int), .int .i64 (t : Int)] 56)).alloc (.cells #[.int .u8 (c : Int)] 5)).heap[wr.heap.size]? = some (.cells #[.int .u8 (c : Int), .int .i64 (t : Int)] 56) := (((Below.refl (wr.heap.size + 1) (wr.alloc (.cells #[.int .u8 (c : Int), .int .i64 (t : Int)] 56))).alloc (by simp) _).block _ (by omega)).trans (heap_alloc_new _ _)
          have HBX := Lib.hid hbx
          have h9 : ((wr.alloc (.cells #[.int .u8 (c : Int), .int .i64 (t : Int)] 56)).alloc (.cells #[.int .u8 (c : Int)] 5)).heap[wr.heap.size + 1]? = some (.cells #[.int .u8 ((byteC (c : Int)).toNat : Int)] 5 (0, 0)) := by
            rw [HV.out]
            have h := heap_alloc_new (wr.alloc (.cells #[.int .u8 (c : Int), .int .i64 (t : Int)] 56)) (.cells #[.int .u8 (c : Int)] 5)
            rw [World.size_alloc] at h
            exact h
          have H9 := Lib.hid h9
          clear hx1 hx2 hbx h9
          go_upto_region 9 with (first | (at_builtin; go_loud (refine wpList_app rowU8_ok rfl _ _ rfl rfl (HSTk.out.own.later HX2.out (Nat.le_refl _)) ⟨wr.heap.size + 1, 0, none⟩ 1 [byteC (c : Int)] rfl (cells_built H9.out) (by simp only [List.length_singleton]; omega) (by have := HSTk.out.size; simp only [World.size_alloc]; omega) ?_); intro v5 w5 hown5 hg5; obtain ⟨l5, hl5⟩ : ∃ l5, lk ++ [byteC (c : Int)] = l5 := ⟨_, rfl⟩; rw [hl5] at hown5; have HL5 := Lib.hid hl5; clear hl5; have HO5 := Lib.hid hown5; have HG5 := Lib.hid (GrowV.pre HX2.out hg5); have HG5' := Lib.hid hg5; obtain ⟨va5, vc5, hv5, -, -⟩ := hown5.form; subst hv5; have c3 := cells1 (HSTk.out.mid HG5.out); have f3 : w5.frozen? ⟨gb, 0, none⟩ = false := (by simp [World.frozen?, HSTk.out.mid HG5.out]); clear hown5 hg5))
          have hst6 := HSTk.out.put HO5.out HG5.out
          have hbx6 : (w5.setCell ⟨gb, 0, none⟩ (.slice va5 l5.length vc5)).heap[wr.heap.size]? = some (.cells #[.int .u8 (c : Int), .int .i64 (t : Int)] 56) := (Below.heap_setCell _ _ _ _ (by show wr.heap.size ≠ gb; omega)).trans ((HG5'.out.gr.block wr.heap.size (by simp only [World.size_alloc]; omega) (fun e => by have := HSTk.out.own.lt _ e.symm; omega)).trans HBX.out)
          obtain ⟨w6, hw6⟩ : ∃ w6, w5.setCell ⟨gb, 0, none⟩ (.slice va5 l5.length vc5) = w6 := ⟨_, rfl⟩
          rw [hw6] at hst6 hbx6 ⊢
          have HST6 := Lib.hid hst6; have HBX6 := Lib.hid hbx6
          have hl5 : l5.length = lk.length + 1 := by rw [← HL5.out]; simp
          have HLL5 := Lib.hid hl5
          have hl58 : l5.length ≤ 800001 := by omega
          obtain ⟨m0, m1⟩ := cells2 HBX6.out
          have m2 := cells1 HST6.out.mm
          have c6 := cells1 HST6.out.bb
          have htE : t ≤ 1000000 := by omega
          clear hst6 hbx6 hw6 hl5 HO5 HG5 HG5' c3 f3 c2 p0 p1 H9 HBX HX2 HSTk
          by_cases htm : t < mk
          · have HCALL := Lib.hid (number_any B _ l5 ((t : Int) + 1) w6 HST6.out.own HST6.out.size (by omega) (by omega) (by omega))
            have hwt : IntKind.i64.wrap ((t : Int) + 1) = (t : Int) + 1 := IntWalk.i64_in _ (by omega)
            go_wp2_with fail
            refine HCALL.out.mono ?_
            rintro e w7 ⟨v7, rfl, ho7, hg7⟩
            clear HCALL
            have hn7 : numZ ((t : Int) + 1) = numB (t + 1) := by unfold numZ; congr 1
            obtain ⟨l7, hl7⟩ : ∃ l7, l5 ++ numB (t + 1) = l7 := ⟨_, rfl⟩
            rw [hn7, hl7] at ho7
            have HL7 := Lib.hid hl7
            obtain ⟨va7, vc7, hv7, -, -⟩ := ho7.form
            subst hv7
            have hb7 := HST6.out.mid hg7
            have c7 := cells1 hb7
            have f7 : w7.frozen? ⟨gb, 0, none⟩ = false := by simp [World.frozen?, hb7]
            have HST8 := Lib.hid (HST6.out.put ho7 hg7)
            have HLE7 : Hid (mk ≤ l7.length) := by show _ ≤ _; have := HLL5.out; rw [← hl7, List.length_append]; omega
            clear hn7 hl7 hb7 ho7 hg7 m0 m1 m2 c6
            go_wp2
            go_roundw
            case rel =>
              refine ⟨k + 1, l7, mk, _, by omega, by go_num, HST8.out, HLE7.out, ?_⟩
              rw [HDR.out, pkArms, if_pos (by simp only; omega)]
              congr 2
              rw [← HL7.out, ← HL5.out, Int.toNat_natCast]
              simp
            case measure => simp [intOf]; omega
          · have HCALL := Lib.hid (number_any B _ l5 0 w6 HST6.out.own HST6.out.size (by omega) (by omega) (by omega))
            go_wp2_with fail
            refine HCALL.out.mono ?_
            rintro e w7 ⟨v7, rfl, ho7, hg7⟩
            clear HCALL
            have hn7 : numZ 0 = numB 0 := rfl
            obtain ⟨l7, hl7⟩ : ∃ l7, l5 ++ numB 0 = l7 := ⟨_, rfl⟩
            rw [hn7, hl7] at ho7
            obtain ⟨va7, vc7, hv7, -, -⟩ := ho7.form
            subst hv7
            have hb7 := HST6.out.mid hg7
            have c7 := cells1 hb7
            have f7 : w7.frozen? ⟨gb, 0, none⟩ = false := by simp [World.frozen?, hb7]
            have hst8 := HST6.out.put ho7 hg7
            have hwl6 : wr.heap.size < w6.heap.size := (Array.getElem?_eq_some_iff.1 HBX6.out).1
            have hbx8 : (w7.setCell ⟨gb, 0, none⟩ (.slice va7 l7.length vc7)).heap[wr.heap.size]? = some (.cells #[.int .u8 (c : Int), .int .i64 (t : Int)] 56) := (Below.heap_setCell _ _ _ _ (by show wr.heap.size ≠ gb; omega)).trans ((hg7.gr.block wr.heap.size hwl6 (HST6.out.ne_row HBX6.out (by decide))).trans HBX6.out)
            have hle7 : mk ≤ l7.length := by have := HLL5.out; rw [← hl7, List.length_append]; omega
            have HDR2 : Hid (pkArms (pkWrite E m) X (met1, l2) = pkArms (pkWrite E m) (X.drop (k + 1)) (pkWrite E m t (mk, l7))) := by
              show _ = _
              rw [HDR.out, pkArms, if_neg (by simp only; omega), Int.toNat_natCast]
              congr 2
              rw [← hl7, ← HL5.out]
              simp
            clear hn7 hl7 hb7 ho7 hg7 m0 m1 m2 c6
            go_upto_region 12 with fail
            obtain ⟨w8, hw8⟩ : ∃ w8, w7.setCell ⟨gb, 0, none⟩ (.slice va7 l7.length vc7) = w8 := ⟨_, rfl⟩
            rw [hw8] at hst8 hbx8 ⊢
            have HST8 := Lib.hid hst8; have HBX8 := Lib.hid hbx8
            have hfl : (pkWrite E m t (mk, l7)).2.length ≤ 800000 := by
              have h := (pkArms_le (pkWrite_le E m) (X.drop (k + 1)) (pkWrite E m t (mk, l7))).1
              rw [← HDR2.out] at h
              have := HFIN.out
              omega
            have HCALL := Lib.hid (HIH.out t g _ l7 mk w8 HMT.out HSG.out hle7 hfl HST8.out)
            obtain ⟨m0, m1⟩ := cells2 HBX8.out
            have c8 := cells1 HST8.out.ww
            clear hst8 hbx8 hw8 c7 f7 hfl
            go_wp2_with fail
            refine HCALL.out.mono ?_
            rintro e w9 ⟨rfl, v9, hst9⟩
            have HST9 := Lib.hid hst9
            have HLE9 := Lib.hid ((pkWrite_le E m t (mk, l7)).2 hle7)
            clear HCALL hst9 m0 m1 c8
            obtain ⟨⟨m9, l9⟩, hq9⟩ : ∃ q9, pkWrite E m t (mk, l7) = q9 := ⟨_, rfl⟩
            rw [hq9] at HST9 HLE9 HDR2
            go_wp2
            go_roundw
            case rel => exact ⟨k + 1, l9, m9, v9, by omega, by go_num, HST9.out, HLE9.out, HDR2.out⟩
            case measure => simp [intOf]; omega
        · have hkX : X.drop k = [] := List.drop_eq_nil_of_le (by omega)
          have HR : Hid (pkArms (pkWrite E m) X (met1, l2) = (mk, lk)) := by show _ = _; rw [HPK.out, hkX, pkArms]
          clear hkX
          go_wp2
          refine bodyPost_ret (results_none rfl _ _ _) rfl ?_
          rw [HR.out]
          exact ⟨rfl, _, HSTk.out⟩
end Go.Proofs.YtocdljmdmiphnaaDoor
/- Pack: form, the whole. -/
namespace Go.Proofs.YtocdljmdmiphnaaDoor
open Go.RowKit Go.WideShapes
set_option linter.unusedVariables false
set_option linter.unusedSimpArgs false

theorem heap_past {w : World} {o v : Obj} {q : Nat} (h : w.heap[q]? = some v) : (w.alloc o).heap[q]? = some v :=
  (((Below.refl w.heap.size w).alloc (Nat.le_refl _) o).block q (Array.getElem?_eq_some_iff.1 h).1).trans h
/-- the closure's four variables, new -/
def w4f (w : World) (x : Value) : World := (((w.alloc (.cells #[x] 29)).alloc (.cells #[.slice none 0 0] 24)).alloc (.cells #[.int .i64 0] 3)).alloc (.cells #[.func (.func 53) #[] #[.pointer (some ⟨w.heap.size + 1 + 1, 0, none⟩), .pointer (some ⟨w.heap.size, 0, none⟩), .pointer (some ⟨w.heap.size + 1, 0, none⟩), .pointer (some ⟨w.heap.size + 1 + 1 + 1, 0, none⟩)]] 83)
theorem w4f_below (w : World) (x : Value) : Below w.heap.size w (w4f w x) := by
  unfold w4f
  exact ((((Below.refl _ _).alloc (Nat.le_refl _) _).alloc (by simp only [World.size_alloc]; omega) _).alloc (by simp only [World.size_alloc]; omega) _).alloc (by simp only [World.size_alloc]; omega) _
theorem w4f_fs (w : World) (a : Option Addr) (n c : Nat) : FSt w w.heap.size (w.heap.size + 1 + 1) w.heap.size (w.heap.size + 1) (w.heap.size + 1 + 1 + 1) a n c (.slice none 0 0) [] 0 (w4f w (.slice a n c)) := by
  refine ⟨?_, ?_, ?_, ?_, OwnG.nil _ _ _, w4f_below _ _, by omega, by omega⟩
  · refine heap_past ?_
    have h := heap_alloc_new ((w.alloc (.cells #[.slice a n c] 29)).alloc (.cells #[.slice none 0 0] 24)) (.cells #[.int .i64 0] 3)
    simp only [World.size_alloc] at h
    exact h
  · exact heap_past (heap_past (heap_past (heap_alloc_new _ _)))
  · refine heap_past (heap_past ?_)
    have h := heap_alloc_new (w.alloc (.cells #[.slice a n c] 29)) (.cells #[.slice none 0 0] 24)
    simp only [World.size_alloc] at h
    exact h
  · have h := heap_alloc_new (((w.alloc (.cells #[.slice a n c] 29)).alloc (.cells #[.slice none 0 0] 24)).alloc (.cells #[.int .i64 0] 3)) (.cells #[.func (.func 53) #[] #[.pointer (some ⟨w.heap.size + 1 + 1, 0, none⟩), .pointer (some ⟨w.heap.size, 0, none⟩), .pointer (some ⟨w.heap.size + 1, 0, none⟩), .pointer (some ⟨w.heap.size + 1 + 1 + 1, 0, none⟩)]] 83)
    simp only [World.size_alloc] at h
    exact h
set_option maxHeartbeats 1600000 in
set_option maxRecDepth 100000 in
theorem form_any (E : List Nd) (Mt : List Rst) (r : Rst) (n : Nat) (aD : Option Addr) (cD : Nat) (w : World) (hT : GTab Mt E) (hr : Mt[0]? = some r) (hs : ∀ s ∈ r, s.length < 21) (hD : DawgS w aD E) (hn : n = E.length) (hl : (formB E).length ≤ 800000) (hE : E.length ≤ 1000000) :
    Calls Tryd.prog 33 #[.slice aD n cD] w fun e w' => ∃ v, e = .returned v ∧ OwnG rowU8 w' w.heap.size v (formB E) ∧ Below w.heap.size w w' := by
  subst hn
  have hmf : ∀ (fn : Fn) (first cap : Array Value) (w : World), (Instr.makeFunc fn first cap).run Tryd.prog w = .ok (.func fn first cap) w := fun _ _ _ _ => rfl
  have hsf : ∀ (fn : Fn) (x y : Array Value) (a : Addr) (m : Mode) (w : World), (store a (.func fn x y) m).run Tryd.prog w = stored Tryd.prog w a (.func fn x y) m := fun fn x y a m w => run_store Tryd.prog w a (.func fn x y) m rfl
  have hcall := form1_any w w.heap.size (w.heap.size + 1 + 1) w.heap.size (w.heap.size + 1) (w.heap.size + 1 + 1 + 1) aD cD E Mt hT (Nat.le_refl _) hD hE 21 0 r (.slice none 0 0) [] 0 (w4f w (.slice aD E.length cD)) hr hs (Nat.le_refl _) hl (w4f_fs _ _ _ _)
  have HC := Lib.hid hcall
  clear hcall hs hD hT
  go_enter Tryd.func33, Tryd.ntmps33
  go_wp2_with fail
  refine HC.out.mono ?_
  rintro e w6 ⟨rfl, v6, hst⟩
  have hbb := cells1 hst.bb
  have HST := Lib.hid hst
  clear hst HC hmf hsf
  obtain ⟨va, vc, hv, -, -⟩ := HST.out.own.form
  subst hv
  go_wp2
  go_ret
  exact ⟨_, rfl, HST.out.own, HST.out.bl⟩
end Go.Proofs.YtocdljmdmiphnaaDoor
/- Pack: the reference's form. -/
namespace Go.Proofs.YtocdljmdmiphnaaDoor
open Go.RowKit Go.WideShapes
set_option linter.unusedVariables false
set_option linter.unusedSimpArgs false

/-! ### plain: bounds -/
theorem pkWriteR_le (E : List Nd) : ∀ m i s, s.2.length ≤ (pkWriteR E m i s).2.length
  | 0, _, _ => Nat.le_refl _
  | m + 1, i, s => by
    rw [pkWriteR]
    have key : ∀ X s, s.2.length ≤ (pkArms (pkWriteR E m) X s).2.length := by
      intro X
      induction X with
      | nil => intro s; exact Nat.le_refl _
      | cons x X ih =>
        intro s
        rw [pkArms]
        split
        · have := ih (s.1, s.2 ++ byteC x.c :: numB (x.t.toNat + 1))
          rw [List.length_append] at this; omega
        · have h1 := pkWriteR_le E m x.t.toNat (s.1, s.2 ++ byteC x.c :: numB 0)
          have := ih (pkWriteR E m x.t.toNat (s.1, s.2 ++ byteC x.c :: numB 0))
          rw [List.length_append] at h1; omega
    have h := key (E.getD i default).arcs (max s.1 (i + 1), s.2 ++ numB (headN (E.getD i default)))
    rw [List.length_append] at h
    omega
theorem pkArmsR_le (E : List Nd) (m : Nat) : ∀ X s, s.2.length ≤ (pkArms (pkWriteR E m) X s).2.length := by
  intro X
  induction X with
  | nil => intro s; exact Nat.le_refl _
  | cons x X ih =>
    intro s
    rw [pkArms]
    split
    · have := ih (s.1, s.2 ++ byteC x.c :: numB (x.t.toNat + 1))
      rw [List.length_append] at this; omega
    · have h1 := pkWriteR_le E m x.t.toNat (s.1, s.2 ++ byteC x.c :: numB 0)
      have := ih (pkWriteR E m x.t.toNat (s.1, s.2 ++ byteC x.c :: numB 0))
      rw [List.length_append] at h1; omega
/-- the number of met nodes stays small -/
theorem pkWriteR_met (E : List Nd) (n : Nat) (ht : ∀ i, i < n → ∀ x ∈ (E.getD i default).arcs, x.t.toNat < n) : ∀ m i s, i < n → s.1 ≤ n → (pkWriteR E m i s).1 ≤ n
  | 0, _, _, _, h => h
  | m + 1, i, s, hi, h => by
    rw [pkWriteR]
    have key : ∀ X s, (∀ x ∈ X, x.t.toNat < n) → s.1 ≤ n → (pkArms (pkWriteR E m) X s).1 ≤ n := by
      intro X
      induction X with
      | nil => intro s _ h; exact h
      | cons x X ih =>
        intro s hx h
        rw [pkArms]
        split
        · exact ih _ (fun y hy => hx y (List.mem_cons_of_mem _ hy)) h
        · exact ih _ (fun y hy => hx y (List.mem_cons_of_mem _ hy)) (pkWriteR_met E n ht m _ _ (hx x (by simp)) h)
    exact key _ _ (ht i hi) (by simp only; omega)
/-! ### memory -/
/-- blocks of the callers that stay -/
def Keeps (w : World) (XB : List (Nat × Array Value × TypeId)) : Prop := ∀ p ∈ XB, w.heap[p.1]? = some (.cells p.2.1 p.2.2 (0, 0)) ∧ p.2.2 ≠ 5 ∧ p.2.2 ≠ 82
/-- the reference's form under way -/
structure FR (wW : World) (B g : Nat) (aD : Option Addr) (nD cD : Nat) (XB : List (Nat × Array Value × TypeId)) (u v : Value) (l : Wd) (met : Nat) (w : World) : Prop where
  rep : w.heap[g]? = some (.cells #[.slice aD nD cD, u, .int .i64 (met : Int)] 82 (0, 0))
  own : OwnG rowU8 w B v l
  bl : Below B wW w
  hg : B ≤ g
  ks : Keeps w XB
section
variable {wW w w1 : World} {B g : Nat} {aD : Option Addr} {nD cD : Nat} {XB : List (Nat × Array Value × TypeId)} {u v v1 : Value} {l l1 : Wd} {met : Nat}
theorem FR.size (h : FR wW B g aD nD cD XB u v l met w) : B ≤ w.heap.size := Nat.le_of_lt (Nat.lt_of_le_of_lt h.hg (Array.getElem?_eq_some_iff.1 h.rep).1)
theorem Keeps.go (h : Keeps w XB) (hx : Ext w w1) : Keeps w1 XB := fun p hp => ⟨(Below.block hx _ (Array.getElem?_eq_some_iff.1 (h p hp).1).1).trans (h p hp).1, (h p hp).2⟩
theorem FR.go (h : FR wW B g aD nD cD XB u v l met w) (hx : Ext w w1) : FR wW B g aD nD cD XB u v l met w1 :=
  ⟨(Below.block hx _ (Array.getElem?_eq_some_iff.1 h.rep).1).trans h.rep, h.own.later hx (Nat.le_refl _), h.bl.trans (Below.mono hx h.size), h.hg, h.ks.go hx⟩
theorem ne_u8 {q : Nat} {cs : Array Value} {t : TypeId} {f : Nat × Nat} (ho : OwnG rowU8 w B v l) (hq : w.heap[q]? = some (.cells cs t f)) (ht : t ≠ 5) : some q ≠ v.ownBlock := fun e => by
  obtain ⟨c2, h2⟩ := ho.obj e.symm
  exact cells_ne hq h2 ht rfl
theorem FR.setMet (h : FR wW B g aD nD cD XB u v l met w) (n : Nat) : FR wW B g aD nD cD XB u v l n (w.setCell ⟨g, 2, none⟩ (.int .i64 (n : Int))) := by
  have hne : ∀ q, q ≠ g → (w.setCell ⟨g, 2, none⟩ (.int .i64 (n : Int))).heap[q]? = w.heap[q]? := fun q hq => Below.heap_setCell _ _ _ _ hq
  refine ⟨set_one h.rep rfl, h.own.keep fun q hq => hne q fun e => ?_, h.bl.setCell (p := ⟨g, 2, none⟩) h.hg _, h.hg, fun p hp => ⟨(hne p.1 (cells_ne (h.ks p hp).1 h.rep (h.ks p hp).2.2)).trans (h.ks p hp).1, (h.ks p hp).2⟩⟩
  exact ne_u8 h.own h.rep (by decide) (by rw [← e]; exact hq.symm)
/-- the row has grown, the struct not yet -/
theorem FR.grow (h : FR wW B g aD nD cD XB u v l met w) (ho : OwnG rowU8 w1 B v1 l1) (hg : w.grownBy w1 v.ownBlock) : FR wW B g aD nD cD XB u v1 l1 met w1 := by
  have k : ∀ {q : Nat} {cs : Array Value} {t : TypeId} {f : Nat × Nat}, w.heap[q]? = some (.cells cs t f) → t ≠ 5 → w1.heap[q]? = some (.cells cs t f) := fun hq ht => (hg.block _ (Array.getElem?_eq_some_iff.1 hq).1 (ne_u8 h.own hq ht)).trans hq
  exact ⟨k h.rep (by decide), ho, h.bl.grown hg h.size h.own.ge, h.hg, fun p hp => ⟨k (h.ks p hp).1 (h.ks p hp).2.1, (h.ks p hp).2⟩⟩
/-- the row is stored -/
theorem FR.put (h : FR wW B g aD nD cD XB u v l met w) : FR wW B g aD nD cD XB v v l met (w.setCell ⟨g, 1, none⟩ v) := by
  have hne : ∀ q, q ≠ g → (w.setCell ⟨g, 1, none⟩ v).heap[q]? = w.heap[q]? := fun q hq => Below.heap_setCell _ _ _ _ hq
  refine ⟨set_one h.rep rfl, h.own.keep fun q hq => hne q fun e => ?_, h.bl.setCell (p := ⟨g, 1, none⟩) h.hg _, h.hg, fun p hp => ⟨(hne p.1 (cells_ne (h.ks p hp).1 h.rep (h.ks p hp).2.2)).trans (h.ks p hp).1, (h.ks p hp).2⟩⟩
  exact ne_u8 h.own h.rep (by decide) (by rw [← e]; exact hq.symm)
theorem FR.add (h : FR wW B g aD nD cD XB u v l met w) {q : Nat} {cs : Array Value} {t : TypeId} (hq : w.heap[q]? = some (.cells cs t (0, 0))) (h1 : t ≠ 5) (h2 : t ≠ 82) : FR wW B g aD nD cD ((q, cs, t) :: XB) u v l met w :=
  ⟨h.rep, h.own, h.bl, h.hg, fun p hp => by
    rcases List.mem_cons.1 hp with rfl | hp
    · exact ⟨hq, h1, h2⟩
    · exact h.ks p hp⟩
theorem FR.drop {p : Nat × Array Value × TypeId} (h : FR wW B g aD nD cD (p :: XB) u v l met w) : FR wW B g aD nD cD XB u v l met w := ⟨h.rep, h.own, h.bl, h.hg, fun q hq => h.ks q (List.mem_cons_of_mem _ hq)⟩
theorem FR.head {q : Nat} {cs : Array Value} {t : TypeId} (h : FR wW B g aD nD cD ((q, cs, t) :: XB) u v l met w) : w.heap[q]? = some (.cells cs t (0, 0)) := (h.ks (q, cs, t) (by simp)).1
end
theorem FR.stays (wW : World) (B g : Nat) (aD : Option Addr) (nD cD : Nat) (XB : List (Nat × Array Value × TypeId)) (u : Value) (l : Wd) (met : Nat) : Stays (fun v w => FR wW B g aD nD cD XB u v l met w) := fun v w w' h hx => h.go hx
/-- before the append, behind it -/
def FRT (wW : World) (B g : Nat) (aD : Option Addr) (nD cD : Nat) (XB : List (Nat × Array Value × TypeId)) (v : Value) (l : Wd) (met : Nat) (b : Bool) (w : World) : Prop :=
  match b with
  | false => FR wW B g aD nD cD XB v v l met w
  | true => True
theorem FRT.ext {wW : World} {B g : Nat} {aD : Option Addr} {nD cD : Nat} {XB : List (Nat × Array Value × TypeId)} {v : Value} {l : Wd} {met : Nat} : ∀ (b : Bool) (w w' : World), FRT wW B g aD nD cD XB v l met b w → Ext w w' → FRT wW B g aD nD cD XB v l met b w' := by
  intro b w w' h hx
  cases b with
  | false => exact FR.go h hx
  | true => trivial
/-- a row of bytes apart from another one -/
def RowBs (v0 : Value) (l : Wd) (u : Value) (W : World) : Prop := ∃ g c, u = .slice (some ⟨g, 0, none⟩) l.length c ∧ OwnG rowU8 W 0 (.slice (some ⟨g, 0, none⟩) l.length c) l ∧ some g ≠ v0.ownBlock
theorem rowBs_stays (v0 : Value) (l : Wd) : Stays (RowBs v0 l) := by
  rintro v w w' ⟨g, c, hv, h, hne⟩ hx
  exact ⟨g, c, hv, h.later hx (Nat.le_refl _), hne⟩
theorem rowBs_grown (v0 : Value) (l : Wd) : ∀ v w w', RowBs v0 l v w → w.grownBy w' v0.ownBlock → RowBs v0 l v w' := by
  rintro v w w' ⟨g, c, hv, h, hne⟩ hg
  refine ⟨g, c, hv, h.grown hg fun q hq => ?_, hne⟩
  obtain rfl : g = q := by simpa [Value.ownBlock] using hq
  exact hne
theorem RowBs.src {v0 u : Value} {l : Wd} {W : World} (h : RowBs v0 l u W) (hne : l ≠ []) : ∃ ad c, u = .slice (some ad) l.length c ∧ ∀ j x, (l.flatMap rowU8.enc)[j]? = some x → W.cell? (ad.add j) = some x := by
  obtain ⟨g, c, rfl, ho, _⟩ := h
  exact ⟨_, c, rfl, cells_byts ho.byts.1⟩
/-- a new row is apart from one that stands -/
theorem rowBs_new {w0 w : World} {B : Nat} {v0 u : Value} {l l0 : Wd} (h0 : OwnG rowU8 w0 B v0 l0) (h : OwnG rowU8 w w0.heap.size u l) (hne : l ≠ []) : RowBs v0 l u w := by
  rcases h.blk with ⟨_, e⟩ | ⟨g, c, rfl, h1, h2, h3⟩
  · exact absurd e hne
  · exact ⟨g, c, rfl, h.mono (Nat.zero_le _), fun e => by have := h0.lt g e.symm; omega⟩
def RFPost (wW : World) (B g : Nat) (aD : Option Addr) (nD cD : Nat) (XB : List (Nat × Array Value × TypeId)) (q : Nat × Wd) (e : Ending) (w' : World) : Prop := e = .returned (.tuple #[]) ∧ ∃ v', FR wW B g aD nD cD XB v' v' q.2 q.1 w'
set_option maxHeartbeats 3200000 in
set_option maxRecDepth 100000 in
theorem rform_any (wW : World) (B g : Nat) (aD : Option Addr) (cD : Nat) (E : List Nd) (Mt : List Rst) (hT : GTab Mt E) (hWB : wW.heap.size ≤ B) (hD : DawgS wW aD E) (hEl : E.length ≤ 1000000) :
    ∀ (m i : Nat) (r : Rst) (XB : List (Nat × Array Value × TypeId)) (v : Value) (l : Wd) (met : Nat) (w : World), Mt[i]? = some r → (∀ s ∈ r, s.length < m) → met ≤ E.length → (pkWriteR E m i (met, l)).2.length ≤ 800000 → FR wW B g aD E.length cD XB v v l met w →
    Calls Tryd.prog 38 #[.pointer (some ⟨g, 0, none⟩), .int .i64 (i : Int)] w (RFPost wW B g aD E.length cD XB (pkWriteR E m i (met, l))) := by
  intro m
  induction m with
  | zero =>
    intro i r XB v l met w hi hs
    obtain ⟨s, h⟩ := (hT.ok r (List.mem_of_getElem? hi)).fst
    have := hs s h; omega
  | succ m ih =>
    intro i r XB v l met w hi hs hml hfin hst
    obtain ⟨hiE, hgd, hX94, hto⟩ := tab_node hT hi hs
    have hpw : pkWriteR E (m + 1) i (met, l) = pkArms (pkWriteR E m) E[i].arcs (max met (i + 1), l ++ numB (headN E[i])) := by rw [pkWriteR, hgd]
    rw [hpw] at hfin ⊢
    have HIH := Lib.hid ih; have HST := Lib.hid hst; have HD := Lib.hid hD
    obtain ⟨b, o, ha, hbW, q0, aX, cX, q1, hXl, hXs⟩ := HD.out.at hiE
    have hbB : b < B := by omega
    have hidx := idx_nodes aD b o E.length cD i ha hiE
    obtain ⟨f, X, hnd⟩ : ∃ f X, E[i] = ⟨f, X⟩ := ⟨_, _, rfl⟩
    rw [hnd] at q0 q1 hXl hXs hX94 hto hfin ⊢
    simp only at q0 q1 hXl hXs hX94 hto hfin
    have hfin0 := pkArmsR_le E m X (max met (i + 1), l ++ numB (headN ⟨f, X⟩))
    rw [List.length_append] at hfin0
    have hlen : l.length ≤ 800000 := by omega
    have q0' := (hst.bl.cell (p := ⟨b, o + i * 2, none⟩) hbB).trans q0
    have q1' := (hst.bl.cell (p := ⟨b, o + i * 2 + 1, none⟩) hbB).trans q1
    have HXS := Lib.hid hXs; have HTO := Lib.hid hto; have HFIN := Lib.hid hfin
    obtain ⟨c0, c1, c2⟩ := cells3' hst.rep
    have f2 : w.frozen? ⟨g, 2, none⟩ = false := by simp [World.frozen?, hst.rep]
    have hgl : g < w.heap.size := (Array.getElem?_eq_some_iff.1 hst.rep).1
    have hbl : b < w.heap.size := Nat.lt_of_lt_of_le hbB hst.size
    have hwi : IntKind.i64.wrap ((i : Int) + 1) = (i : Int) + 1 := IntWalk.i64_in _ (by omega)
    have HTN : Hid (∀ i, i < E.length → ∀ x ∈ (E.getD i default).arcs, x.t.toNat < E.length) := fun j hj x hx => by
      rw [List.getD_eq_getElem?_getD, List.getElem?_eq_getElem hj] at hx
      obtain ⟨r', _, _, h3⟩ := hT.nd j hj
      obtain ⟨c, t, g', rfl, _, ht, _⟩ := arcs_to h3 x hx
      simpa using ht
    have HHN : Hid (headN ⟨f, X⟩ = 2 * X.length + bit f) := rfl
    obtain ⟨hd, hhd⟩ : ∃ hd, headN ⟨f, X⟩ = hd := ⟨_, rfl⟩
    rw [hhd] at HHN HFIN ⊢
    obtain ⟨l2, hl2⟩ : ∃ l2, l ++ numB hd = l2 := ⟨_, rfl⟩
    rw [hl2] at HFIN ⊢
    have HL2 := Lib.hid hl2
    obtain ⟨met1, hmet1⟩ : ∃ n, max met (i + 1) = n := ⟨_, rfl⟩
    rw [hmet1] at HFIN ⊢
    have hmx : max (met : Int) ((i : Int) + 1) = (met1 : Int) := by omega
    have hm1E : met1 ≤ E.length := by omega
    clear q0 q1 hXs hto hfin hpw hgd hD ih hs hi hfin0 hnd ha hhd hl2 hmet1 hst
    go_enter Tryd.func38, Tryd.ntmps38
    go_upto_region 2 with fail
    have hX94' : X.length ≤ 94 := hX94
    obtain ⟨va, vc, hv, -, -⟩ := HST.out.own.form
    subst hv
    have hx1 : Below (w.setCell ⟨g, 2, none⟩ (.int .i64 (met1 : Int))).heap.size (w.setCell ⟨g, 2, none⟩ (.int .i64 (met1 : Int))) ((w.setCell ⟨g, 2, none⟩ (.int .i64 (met1 : Int))).alloc (.cells #[.bool f, .slice aX X.length cX] 53)) := (Below.refl _ _).alloc (Nat.le_refl _) _
    have h9 := heap_alloc_new (w.setCell ⟨g, 2, none⟩ (.int .i64 (met1 : Int))) (.cells #[.bool f, .slice aX X.length cX] 53)
    rw [World.size_setCell] at h9
    have hst1 := ((HST.out.setMet met1).go hx1).add h9 (by decide) (by decide)
    obtain ⟨w1, hw1⟩ : ∃ w1, (w.setCell ⟨g, 2, none⟩ (.int .i64 (met1 : Int))).alloc (.cells #[.bool f, .slice aX X.length cX] 53) = w1 := ⟨_, rfl⟩
    rw [hw1] at hst1 ⊢
    obtain ⟨gN, hgN⟩ : ∃ gN, w.heap.size = gN := ⟨_, rfl⟩
    rw [hgN] at hst1 ⊢
    have HST1 := Lib.hid hst1
    obtain ⟨n0, n1⟩ := cells2 HST1.out.head
    clear hst1 hw1 h9 hx1 c0 c1 c2 f2 hgl hbl hwi hmx q0' q1' HST hgN
    cases f with
    | true =>
      have hhv : (hd : Int) = 2 * (X.length : Int) + 1 := by have := HHN.out; simp only [bit] at this; first | (rw [if_pos rfl] at this; omega) | (rw [if_neg (by decide)] at this; omega) | (simp at this; omega)
      have hwx : IntKind.i64.wrap (2 * (X.length : Int)) = 2 * (X.length : Int) := IntWalk.i64_in _ (by omega)
      have hwy : IntKind.i64.wrap (2 * (X.length : Int) + 1) = 2 * (X.length : Int) + 1 := IntWalk.i64_in _ (by omega)
      go_upto_region 5 with fail
      rw [← hhv]
      have hhd : hd ≤ 200 := by omega
      clear hhv hwx n0 n1
      clear hwy
      refine wp_region_st (by kernel_rfl) (Vs [fun v _ => v = .pointer (some ⟨g, 0, none⟩), fun v _ => v = .pointer (some ⟨g, 0, none⟩), fun v _ => v = .pointer (some ⟨g, 0, none⟩), fun v _ => v = .pointer (some ⟨g, 1, none⟩), fun v _ => v = .slice va l.length vc, fun v _ => v = .int .i64 (hd : Int), RowBs (.slice va l.length vc) (numB hd), fun u W => FR wW B g aD E.length cD ((gN, #[.bool true, .slice aX X.length cX], 53) :: XB) (.slice va l.length vc) u l2 met1 W, fun v _ => v = .pointer (some ⟨g, 0, none⟩), fun v _ => v = .pointer (some ⟨g, 1, none⟩)]) (Xs [Ext, Ext, Ext, Ext, Ext, Ext, Ext, (fun w w' => w.grownBy w' (Value.slice va l.length vc).ownBlock), Ext, Ext]) (fun fL => (fun b1 W => FRT wW B g aD E.length cD ((gN, #[.bool true, .slice aX X.length cX], 53) :: XB) (.slice va l.length vc) l met1 b1 W) (fL 7)) [0, 0, 2, 6, 14, 0, 32, 126, 1, 257] 98 10 (by kernel_rfl) rfl ?hV ?hS ?hop ?hfin ?hlast
      case hV =>
        refine xs_stays (vs_stays (by simp only [List.mem_cons, List.not_mem_nil, or_false, forall_eq_or_imp, forall_eq]; exact ⟨stays_const _, stays_const _, stays_const _, stays_const _, stays_const _, stays_const _, rowBs_stays _ _, FR.stays _ _ _ _ _ _ _ _ _ _, stays_const _, stays_const _⟩)) ?_
        exact ⟨.inl rfl, .inl rfl, .inl rfl, .inl rfl, .inl rfl, .inl rfl, .inl rfl, .inr (staysM_all ⟨fun _ _ => fun _ _ _ h _ => h, fun _ _ => fun _ _ _ h _ => h, fun _ _ => fun _ _ _ h _ => h, fun _ _ => fun _ _ _ h _ => h, fun _ _ => fun _ _ _ h _ => h, fun _ _ => fun _ _ _ h _ => h, fun _ _ => rowBs_grown _ _, fun h => absurd rfl h, fun _ _ => fun _ _ _ h _ => h, fun _ _ => fun _ _ _ h _ => h, trivial⟩), .inl rfl, .inl rfl, trivial⟩
      case hS =>
        intro fL hf
        show (fun b1 W => FRT wW B g aD E.length cD ((gN, #[.bool true, .slice aX X.length cX], 53) :: XB) (.slice va l.length vc) l met1 b1 W) (fL 7) _
        rw [hf 7 (by decide)]
        exact FRT.ext false _ _ HST1.out (Below.refl _ _).drew
      case hop =>
        refine ⟨?_, ?_, ?_, ?_, ?_, ?_, ?c6, ?c7, ?_, ?_, ?_, trivial⟩
        all_goals first | rw [if_neg (by decide)] | rw [if_pos (by decide)]
        all_goals try exact True.intro
        all_goals try intro ac W fL hsz hfi hms hdn hS0 hdep hbase hund
        all_goals try have hS : (fun b1 W => FRT wW B g aD E.length cD ((gN, #[.bool true, .slice aX X.length cX], 53) :: XB) (.slice va l.length vc) l met1 b1 W) (fL 7) W := hS0
        all_goals try (have hfl7 : fL 7 = true := hms 7 (by decide); rw [hfl7] at hS)
        all_goals try (have hfl7 : fL 7 = false := (by first | exact hfi | exact hdn 7 (by decide) (by decide)); rw [hfl7] at hS)
        all_goals try (
          try
            have hfr : FR wW B g aD E.length cD ((gN, #[.bool true, .slice aX X.length cX], 53) :: XB) (.slice va l.length vc) (.slice va l.length vc) l met1 W := hS
            obtain ⟨c0, c1, c2⟩ := cells3' hfr.rep)
        all_goals try (have h0 : ac.tmps.getD 0 undef = .pointer (some ⟨g, 0, none⟩) := hbase 0 (by kernel_rfl); have hh0 := h0; rw [Array.getD_eq_getD_getElem?] at hh0)
        all_goals try (have h5 : ac.tmps.getD 5 undef = .int .i64 (hd : Int) := hbase 5 (by kernel_rfl); have hh5 := h5; rw [Array.getD_eq_getD_getElem?] at hh5)
        all_goals try (have d33 : ac.tmps.getD 33 undef = .pointer (some ⟨g, 0, none⟩) := hdep 0 (by decide); have dd33 := d33; rw [Array.getD_eq_getD_getElem?] at dd33)
        all_goals try (have d34 : ac.tmps.getD 34 undef = .pointer (some ⟨g, 0, none⟩) := hdep 1 (by decide); have dd34 := d34; rw [Array.getD_eq_getD_getElem?] at dd34)
        all_goals try (have d35 : ac.tmps.getD 35 undef = .pointer (some ⟨g, 0, none⟩) := hdep 2 (by decide); have dd35 := d35; rw [Array.getD_eq_getD_getElem?] at dd35)
        all_goals try (have d36 : ac.tmps.getD 36 undef = .pointer (some ⟨g, 1, none⟩) := hdep 3 (by decide); have dd36 := d36; rw [Array.getD_eq_getD_getElem?] at dd36)
        all_goals try (have d37 : ac.tmps.getD 37 undef = .slice va l.length vc := hdep 4 (by decide); have dd37 := d37; rw [Array.getD_eq_getD_getElem?] at dd37)
        all_goals try (have d38 : ac.tmps.getD 38 undef = .int .i64 (hd : Int) := hdep 5 (by decide); have dd38 := d38; rw [Array.getD_eq_getD_getElem?] at dd38)
        all_goals try have d39 : (RowBs (.slice va l.length vc) (numB hd)) (ac.tmps.getD 39 undef) W := hdep 6 (by decide)
        all_goals try (have d41 : ac.tmps.getD 41 undef = .pointer (some ⟨g, 0, none⟩) := hdep 8 (by decide); have dd41 := d41; rw [Array.getD_eq_getD_getElem?] at dd41)
        all_goals try clear hbase hdep hms hdn hund
        case c6 =>
          have hS1 : (fun b1 W => FRT wW B g aD E.length cD ((gN, #[.bool true, .slice aX X.length cX], 53) :: XB) (.slice va l.length vc) l met1 b1 W) ((upd fL 6) 7) W := hS0
          refine opOk_run rfl (.inr ⟨39, #[.int .i64 (hd : Int)], W, by (clear hsz hS hS0 hS1 hfi; simp [go_sem, Act.eval, *]), ?_⟩)
          refine (rnumber_any 5 hd W (by omega) (by omega)).mono ?_
          rintro e w' ⟨u, he, ho, hb⟩
          exact ⟨u, he, rowBs_new hfr.own ho (numB_ne _), hb, (show (fun b1 W => FRT wW B g aD E.length cD ((gN, #[.bool true, .slice aX X.length cX], 53) :: XB) (.slice va l.length vc) l met1 b1 W) ((upd fL 6) 7) _ by
            rw [show upd fL 6 7 = fL 7 from if_neg (by decide)]
            exact FRT.ext _ _ _ hS0 hb)⟩
        case c7 =>
          obtain ⟨ad, c9, e9, hsrc⟩ := d39.src (numB_ne _)
          refine opOk_run rfl ((opres_append_g rowU8_ok (.tmp 37) (.tmp 39) rfl (eval_tmp d37) hfr.own ad c9 (numB hd) (eval_tmp e9) hsrc (by have := numB_len5 (n := hd) (by omega); omega) hfr.size).mono ?_)
          rintro va' w' ⟨ho, hgr, hat⟩
          refine ⟨hfr.grow (by rw [← HL2.out]; exact ho) hgr, hgr, ?_⟩
          show FRT wW B g aD E.length cD ((gN, #[.bool true, .slice aX X.length cX], 53) :: XB) (.slice va l.length vc) l met1 (upd fL 7 7) w'
          rw [show upd fL 7 7 = true from if_pos rfl]
          trivial
        all_goals (refine opOk_run rfl (.inl ⟨_, W, ?_, rfl, Ext.refl _, hS0⟩); clear hsz hS hS0 hfi; simp [go_sem, Act.eval, *]; done)
      case hfin =>
        intro h; exact absurd h (by decide)
      case hlast =>
        intro _ ac W hsz hdf fL hf hS0 hv hbase
        have hS : (fun b1 W => FRT wW B g aD E.length cD ((gN, #[.bool true, .slice aX X.length cX], 53) :: XB) (.slice va l.length vc) l met1 b1 W) (fL 7) W := hS0
        clear hS0
        rw [hf 7 (by decide)] at hS
        have hst : ac.tmps.getD 42 undef = .pointer (some ⟨g, 1, none⟩) := hv 9 (by decide)
        have hnv : FR wW B g aD E.length cD ((gN, #[.bool true, .slice aX X.length cX], 53) :: XB) (.slice va l.length vc) (ac.tmps.getD 40 undef) l2 met1 W := hv 7 (by decide)
        obtain ⟨ya, yc, hya, -, -⟩ := hnv.own.form
        rw [hya] at hnv
        obtain ⟨e0, e1, e2⟩ := cells3' hnv.rep
        refine wpOp_store rfl rfl rfl rfl (eval_tmp hst) (eval_tmp hya) (by simp [World.frozen?, hnv.rep]) e1 (by kernel_rfl) ?_
        have hst3 := hnv.put
        obtain ⟨w3, hw3⟩ : ∃ w3, W.setCell ⟨g, 1, none⟩ (.slice ya l2.length yc) = w3 := ⟨_, rfl⟩
        rw [hw3] at hst3 ⊢
        have HST3 := Lib.hid hst3
        clear hS hnv hw3 hst hst3 e0 e1 e2
        obtain ⟨sx, hsx, hsA⟩ := act_puts [33, 34, 35, 36, 37, 38, 39, 40, 41, 42] (by kernel_rfl) hsz hdf hbase
        clear hya
        rw [hsA]
        simp only [List.foldl]
        simp only [Act.put, List.setIfInBounds_toArray, List.set_cons_succ, List.set_cons_zero]
        clear hsA hsx hv hbase hsz hdf hf
        go_wp2
        go_loopw [6] (fun q wr => ∃ (k : Nat) (lk : Wd) (mk : Nat) (vk : Value), k ≤ X.length ∧ q = .int .i64 (k : Int) ∧ FR wW B g aD E.length cD ((gN, #[.bool true, .slice aX X.length cX], 53) :: XB) vk vk lk mk wr ∧ mk ≤ E.length ∧ pkArms (pkWriteR E m) X (met1, l2) = pkArms (pkWriteR E m) (X.drop k) (mk, lk)) (fun q _ => X.length - (intOf q).toNat)
        case atStart => exact ⟨0, l2, met1, _, Nat.zero_le _, rfl, HST3.out, hm1E, rfl⟩
        case round =>
          clear HST3
          obtain ⟨k, lk, mk, vk, hk, rfl, hst, hmk, hpk⟩ := hrel
          have HPK := Lib.hid hpk
          obtain ⟨n0, n1⟩ := cells2 hst.head
          obtain ⟨vka, vkc, hvk, -, -⟩ := hst.own.form
          subst hvk
          by_cases hlt : k < X.length
          · obtain ⟨ba, oa, haX, hba, p0, p1⟩ := (HXS.out.later hst.bl hWB).at hlt
            have hidxa := idx_arcs aX ba oa X.length cX k haX hlt
            obtain ⟨c, t, gg, hx, hc, ht, hMt, hsg⟩ := HTO.out X[k] (List.getElem_mem hlt)
            have HDR : Hid (pkArms (pkWriteR E m) X (met1, l2) = pkArms (pkWriteR E m) (⟨(c : Int), (t : Int)⟩ :: X.drop (k + 1)) (mk, lk)) := by
              show _ = _
              rw [HPK.out, List.drop_eq_getElem_cons hlt, hx]
            rw [hx] at p0 p1
            simp only at p0 p1
            have HMT := Lib.hid hMt; have HSG := Lib.hid hsg
            have hlk := pkArmsR_le E m (X.drop k) (mk, lk)
            rw [← HPK.out] at hlk
            simp only at hlk
            have hlk8 : lk.length ≤ 800000 := by have := HFIN.out; omega
            have HV := Lib.hid (byteC_nat hc)
            have hx1 : Below wr.heap.size wr (wr.alloc (.cells #[.int .u8 (c : Int), .int .i64 (t : Int)] 56)) := (Below.refl _ wr).alloc (Nat.le_refl _) _
            have hst1 := (hst.go hx1).add (heap_alloc_new wr (.cells #[.int .u8 (c : Int), .int .i64 (t : Int)] 56)) (by decide) (by decide)
            clear haX hx hMt hsg hlk hst
            go_upto_region 10 with fail
            obtain ⟨w4, hw4⟩ : ∃ w4, wr.alloc (.cells #[.int .u8 (c : Int), .int .i64 (t : Int)] 56) = w4 := ⟨_, rfl⟩
            rw [hw4] at hst1 ⊢
            obtain ⟨gA, hgA⟩ : ∃ gA, wr.heap.size = gA := ⟨_, rfl⟩
            rw [hgA] at hst1 ⊢
            have HSTk := Lib.hid hst1
            obtain ⟨l5, hl5⟩ : ∃ l5, lk ++ [byteC (c : Int)] = l5 := ⟨_, rfl⟩
            have HL5 := Lib.hid hl5
            clear hst1 hw4 hgA hx1 p0 p1 n0 n1 hl5
            refine wp_region_st (by kernel_rfl) (Vs [fun v _ => v = .pointer (some ⟨g, 0, none⟩), fun v _ => v = .pointer (some ⟨g, 0, none⟩), fun v _ => v = .pointer (some ⟨g, 0, none⟩), fun v _ => v = .pointer (some ⟨g, 1, none⟩), fun v _ => v = .slice vka lk.length vkc, fun v _ => v = .pointer (some ⟨gA, 0, none⟩), fun v _ => v = .int .u8 (c : Int), RowBs (.slice vka lk.length vkc) [byteC (c : Int)], fun u W => FR wW B g aD E.length cD ((gA, #[.int .u8 (c : Int), .int .i64 (t : Int)], 56) :: ((gN, #[.bool true, .slice aX X.length cX], 53) :: XB)) (.slice vka lk.length vkc) u l5 mk W, fun v _ => v = .pointer (some ⟨g, 0, none⟩), fun v _ => v = .pointer (some ⟨g, 1, none⟩)]) (Xs [Ext, Ext, Ext, Ext, Ext, Ext, Ext, Ext, (fun w w' => w.grownBy w' (Value.slice vka lk.length vkc).ownBlock), Ext, Ext]) (fun fL => (fun b1 W => FRT wW B g aD E.length cD ((gA, #[.int .u8 (c : Int), .int .i64 (t : Int)], 56) :: ((gN, #[.bool true, .slice aX X.length cX], 53) :: XB)) (.slice vka lk.length vkc) lk mk b1 W) (fL 8)) [0, 0, 2, 6, 14, 0, 32, 96, 254, 1, 513] 98 11 (by kernel_rfl) rfl ?hV ?hS ?hop ?hfin ?hlast
            case hV =>
              refine xs_stays (vs_stays (by simp only [List.mem_cons, List.not_mem_nil, or_false, forall_eq_or_imp, forall_eq]; exact ⟨stays_const _, stays_const _, stays_const _, stays_const _, stays_const _, stays_const _, stays_const _, rowBs_stays _ _, FR.stays _ _ _ _ _ _ _ _ _ _, stays_const _, stays_const _⟩)) ?_
              exact ⟨.inl rfl, .inl rfl, .inl rfl, .inl rfl, .inl rfl, .inl rfl, .inl rfl, .inl rfl, .inr (staysM_all ⟨fun _ _ => fun _ _ _ h _ => h, fun _ _ => fun _ _ _ h _ => h, fun _ _ => fun _ _ _ h _ => h, fun _ _ => fun _ _ _ h _ => h, fun _ _ => fun _ _ _ h _ => h, fun _ _ => fun _ _ _ h _ => h, fun _ _ => fun _ _ _ h _ => h, fun _ _ => rowBs_grown _ _, fun h => absurd rfl h, fun _ _ => fun _ _ _ h _ => h, fun _ _ => fun _ _ _ h _ => h, trivial⟩), .inl rfl, .inl rfl, trivial⟩
            case hS =>
              intro fL hf
              show (fun b1 W => FRT wW B g aD E.length cD ((gA, #[.int .u8 (c : Int), .int .i64 (t : Int)], 56) :: ((gN, #[.bool true, .slice aX X.length cX], 53) :: XB)) (.slice vka lk.length vkc) lk mk b1 W) (fL 8) _
              rw [hf 8 (by decide)]
              exact FRT.ext false _ _ HSTk.out (Below.refl _ _).drew
            case hop =>
              refine ⟨?_, ?_, ?_, ?_, ?_, ?_, ?_, ?c7, ?c8, ?_, ?_, ?_, trivial⟩
              all_goals first | rw [if_neg (by decide)] | rw [if_pos (by decide)]
              all_goals try exact True.intro
              all_goals try intro ac W fL hsz hfi hms hdn hS0 hdep hbase hund
              all_goals try have hS : (fun b1 W => FRT wW B g aD E.length cD ((gA, #[.int .u8 (c : Int), .int .i64 (t : Int)], 56) :: ((gN, #[.bool true, .slice aX X.length cX], 53) :: XB)) (.slice vka lk.length vkc) lk mk b1 W) (fL 8) W := hS0
              all_goals try (have hfl8 : fL 8 = true := hms 8 (by decide); rw [hfl8] at hS)
              all_goals try (have hfl8 : fL 8 = false := (by first | exact hfi | exact hdn 8 (by decide) (by decide)); rw [hfl8] at hS)
              all_goals try (
                try
                  have hfr : FR wW B g aD E.length cD ((gA, #[.int .u8 (c : Int), .int .i64 (t : Int)], 56) :: ((gN, #[.bool true, .slice aX X.length cX], 53) :: XB)) (.slice vka lk.length vkc) (.slice vka lk.length vkc) lk mk W := hS
                  obtain ⟨c0, c1, c2⟩ := cells3' hfr.rep
                  obtain ⟨a0, a1⟩ := cells2 hfr.head)
              all_goals try (have h0 : ac.tmps.getD 0 undef = .pointer (some ⟨g, 0, none⟩) := hbase 0 (by kernel_rfl); have hh0 := h0; rw [Array.getD_eq_getD_getElem?] at hh0)
              all_goals try (have h7 : ac.tmps.getD 7 undef = .pointer (some ⟨gA, 0, none⟩) := hbase 7 (by kernel_rfl); have hh7 := h7; rw [Array.getD_eq_getD_getElem?] at hh7)
              all_goals try (have d55 : ac.tmps.getD 55 undef = .pointer (some ⟨g, 0, none⟩) := hdep 0 (by decide); have dd55 := d55; rw [Array.getD_eq_getD_getElem?] at dd55)
              all_goals try (have d56 : ac.tmps.getD 56 undef = .pointer (some ⟨g, 0, none⟩) := hdep 1 (by decide); have dd56 := d56; rw [Array.getD_eq_getD_getElem?] at dd56)
              all_goals try (have d57 : ac.tmps.getD 57 undef = .pointer (some ⟨g, 0, none⟩) := hdep 2 (by decide); have dd57 := d57; rw [Array.getD_eq_getD_getElem?] at dd57)
              all_goals try (have d58 : ac.tmps.getD 58 undef = .pointer (some ⟨g, 1, none⟩) := hdep 3 (by decide); have dd58 := d58; rw [Array.getD_eq_getD_getElem?] at dd58)
              all_goals try (have d59 : ac.tmps.getD 59 undef = .slice vka lk.length vkc := hdep 4 (by decide); have dd59 := d59; rw [Array.getD_eq_getD_getElem?] at dd59)
              all_goals try (have d60 : ac.tmps.getD 60 undef = .pointer (some ⟨gA, 0, none⟩) := hdep 5 (by decide); have dd60 := d60; rw [Array.getD_eq_getD_getElem?] at dd60)
              all_goals try (have d61 : ac.tmps.getD 61 undef = .int .u8 (c : Int) := hdep 6 (by decide); have dd61 := d61; rw [Array.getD_eq_getD_getElem?] at dd61)
              all_goals try have d62 : (RowBs (.slice vka lk.length vkc) [byteC (c : Int)]) (ac.tmps.getD 62 undef) W := hdep 7 (by decide)
              all_goals try (have d64 : ac.tmps.getD 64 undef = .pointer (some ⟨g, 0, none⟩) := hdep 9 (by decide); have dd64 := d64; rw [Array.getD_eq_getD_getElem?] at dd64)
              all_goals try clear hbase hdep hms hdn hund
              case c7 =>
                have hS1 : (fun b1 W => FRT wW B g aD E.length cD ((gA, #[.int .u8 (c : Int), .int .i64 (t : Int)], 56) :: ((gN, #[.bool true, .slice aX X.length cX], 53) :: XB)) (.slice vka lk.length vkc) lk mk b1 W) ((upd fL 7) 8) W := hS0
                refine opOk_run rfl (.inl ⟨.slice (some ⟨W.heap.size, 0, none⟩) 1 1, W.alloc (.cells #[.int .u8 (c : Int)] 5), ?_, ⟨_, _, rfl, OwnG.one rowU8_ok (x := byteC (c : Int)) (by have h9 := heap_alloc_new W (.cells #[.int .u8 (c : Int)] 5); show _ = some (Obj.cells #[.int .u8 ((byteC (c : Int)).toNat : Int)] _ _); rw [HV.out]; exact h9) (Nat.zero_le _), fun e => by have := hfr.own.lt _ e.symm; omega⟩, (Below.refl _ _).alloc (Nat.le_refl _) _, (show (fun b1 W => FRT wW B g aD E.length cD ((gA, #[.int .u8 (c : Int), .int .i64 (t : Int)], 56) :: ((gN, #[.bool true, .slice aX X.length cX], 53) :: XB)) (.slice vka lk.length vkc) lk mk b1 W) ((upd fL 7) 8) _ by
                  rw [show upd fL 7 8 = fL 8 from if_neg (by decide)]
                  exact FRT.ext _ _ _ hS0 ((Below.refl _ _).alloc (Nat.le_refl _) _))⟩)
                clear hsz hS hS0 hS1 hfi hfr; simp [go_sem, Act.eval, *]
              case c8 =>
                obtain ⟨ad, c9, e9, hsrc⟩ := d62.src (by simp)
                refine opOk_run rfl ((opres_append_g rowU8_ok (.tmp 59) (.tmp 62) rfl (eval_tmp d59) hfr.own ad c9 [byteC (c : Int)] (eval_tmp e9) hsrc (by simp only [List.length_singleton]; omega) hfr.size).mono ?_)
                rintro va' w' ⟨ho, hgr, hat⟩
                refine ⟨hfr.grow (by rw [← HL5.out]; exact ho) hgr, hgr, ?_⟩
                show FRT wW B g aD E.length cD ((gA, #[.int .u8 (c : Int), .int .i64 (t : Int)], 56) :: ((gN, #[.bool true, .slice aX X.length cX], 53) :: XB)) (.slice vka lk.length vkc) lk mk (upd fL 8 8) w'
                rw [show upd fL 8 8 = true from if_pos rfl]
                trivial
              all_goals (refine opOk_run rfl (.inl ⟨_, W, ?_, rfl, Ext.refl _, hS0⟩); clear hsz hS hS0 hfi; simp [go_sem, Act.eval, *]; done)
            case hfin =>
              intro h; exact absurd h (by decide)
            case hlast =>
              intro _ ac W hsz hdf fL hf hS0 hv hbase
              have hS : (fun b1 W => FRT wW B g aD E.length cD ((gA, #[.int .u8 (c : Int), .int .i64 (t : Int)], 56) :: ((gN, #[.bool true, .slice aX X.length cX], 53) :: XB)) (.slice vka lk.length vkc) lk mk b1 W) (fL 8) W := hS0
              clear hS0
              rw [hf 8 (by decide)] at hS
              have hst : ac.tmps.getD 65 undef = .pointer (some ⟨g, 1, none⟩) := hv 10 (by decide)
              have hnv : FR wW B g aD E.length cD ((gA, #[.int .u8 (c : Int), .int .i64 (t : Int)], 56) :: ((gN, #[.bool true, .slice aX X.length cX], 53) :: XB)) (.slice vka lk.length vkc) (ac.tmps.getD 63 undef) l5 mk W := hv 8 (by decide)
              obtain ⟨ya, yc, hya, -, -⟩ := hnv.own.form
              rw [hya] at hnv
              obtain ⟨e0, e1, e2⟩ := cells3' hnv.rep
              refine wpOp_store rfl rfl rfl rfl (eval_tmp hst) (eval_tmp hya) (by simp [World.frozen?, hnv.rep]) e1 (by kernel_rfl) ?_
              have hst3 := hnv.put
              obtain ⟨w3, hw3⟩ : ∃ w3, W.setCell ⟨g, 1, none⟩ (.slice ya l5.length yc) = w3 := ⟨_, rfl⟩
              rw [hw3] at hst3 ⊢
              have HST3 := Lib.hid hst3
              clear hS hnv hw3 hst hst3 e0 e1 e2
              obtain ⟨sx, hsx, hsA⟩ := act_puts [55, 56, 57, 58, 59, 60, 61, 62, 63, 64, 65] (by kernel_rfl) hsz hdf hbase
              clear hya
              rw [hsA]
              simp only [List.foldl]
              simp only [Act.put, List.setIfInBounds_toArray, List.set_cons_succ, List.set_cons_zero]
              clear hsA hsx hv hbase hsz hdf hf
              have HST5 := Lib.hid HST3.out
              have hl5 : l5.length ≤ 800001 := by rw [← HL5.out]; simp; omega
              clear HST3
              by_cases htm : t < mk
              · have hcb : ¬ (mk : Int) ≤ (t : Int) := by omega
                go_upto_region 11 with fail
                refine wp_region_st (by kernel_rfl) (Vs [fun v _ => v = .pointer (some ⟨gA, 1, none⟩), fun v _ => v = .int .i64 (t : Int), fun v _ => v = .pointer (some ⟨g, 0, none⟩), fun v _ => v = .pointer (some ⟨g, 0, none⟩), fun v _ => v = .pointer (some ⟨g, 2, none⟩), fun v _ => v = .int .i64 (mk : Int), fun v _ => v = .bool false]) (Xs [Ext, Ext, Ext, Ext, Ext, Ext, Ext]) (fun fL => (fun W => FR wW B g aD E.length cD ((gA, #[.int .u8 (c : Int), .int .i64 (t : Int)], 56) :: ((gN, #[.bool true, .slice aX X.length cX], 53) :: XB)) (.slice ya l5.length yc) (.slice ya l5.length yc) l5 mk W) ) [0, 1, 0, 4, 12, 28, 63] 98 7 (by kernel_rfl) rfl ?hV ?hS ?hop ?hfin ?hlast
                case hV =>
                  refine xs_stays (vs_stays (by simp only [List.mem_cons, List.not_mem_nil, or_false, forall_eq_or_imp, forall_eq]; exact ⟨stays_const _, stays_const _, stays_const _, stays_const _, stays_const _, stays_const _, stays_const _⟩)) ?_
                  exact ⟨.inl rfl, .inl rfl, .inl rfl, .inl rfl, .inl rfl, .inl rfl, .inl rfl, trivial⟩
                case hS =>
                  intro fL hf
                  show (fun W => FR wW B g aD E.length cD ((gA, #[.int .u8 (c : Int), .int .i64 (t : Int)], 56) :: ((gN, #[.bool true, .slice aX X.length cX], 53) :: XB)) (.slice ya l5.length yc) (.slice ya l5.length yc) l5 mk W)  _
                  exact HST5.out.go (Below.refl _ _).drew
                case hop =>
                  refine ⟨?_, ?_, ?_, ?_, ?_, ?_, ?_, trivial⟩
                  all_goals first | rw [if_neg (by decide)] | rw [if_pos (by decide)]
                  all_goals try intro ac W fL hsz hfi hms hdn hS0 hdep hbase hund
                  all_goals try have hS : (fun W => FR wW B g aD E.length cD ((gA, #[.int .u8 (c : Int), .int .i64 (t : Int)], 56) :: ((gN, #[.bool true, .slice aX X.length cX], 53) :: XB)) (.slice ya l5.length yc) (.slice ya l5.length yc) l5 mk W)  W := hS0
                  all_goals try (
                    obtain ⟨c0, c1, c2⟩ := cells3' hS.rep
                    obtain ⟨a0, a1⟩ := cells2 hS.head)
                  all_goals try (have h0 : ac.tmps.getD 0 undef = .pointer (some ⟨g, 0, none⟩) := hbase 0 (by kernel_rfl); have hh0 := h0; rw [Array.getD_eq_getD_getElem?] at hh0)
                  all_goals try (have h7 : ac.tmps.getD 7 undef = .pointer (some ⟨gA, 0, none⟩) := hbase 7 (by kernel_rfl); have hh7 := h7; rw [Array.getD_eq_getD_getElem?] at hh7)
                  all_goals try (have d66 : ac.tmps.getD 66 undef = .pointer (some ⟨gA, 1, none⟩) := hdep 0 (by decide); have dd66 := d66; rw [Array.getD_eq_getD_getElem?] at dd66)
                  all_goals try (have d67 : ac.tmps.getD 67 undef = .int .i64 (t : Int) := hdep 1 (by decide); have dd67 := d67; rw [Array.getD_eq_getD_getElem?] at dd67)
                  all_goals try (have d68 : ac.tmps.getD 68 undef = .pointer (some ⟨g, 0, none⟩) := hdep 2 (by decide); have dd68 := d68; rw [Array.getD_eq_getD_getElem?] at dd68)
                  all_goals try (have d69 : ac.tmps.getD 69 undef = .pointer (some ⟨g, 0, none⟩) := hdep 3 (by decide); have dd69 := d69; rw [Array.getD_eq_getD_getElem?] at dd69)
                  all_goals try (have d70 : ac.tmps.getD 70 undef = .pointer (some ⟨g, 2, none⟩) := hdep 4 (by decide); have dd70 := d70; rw [Array.getD_eq_getD_getElem?] at dd70)
                  all_goals try (have d71 : ac.tmps.getD 71 undef = .int .i64 (mk : Int) := hdep 5 (by decide); have dd71 := d71; rw [Array.getD_eq_getD_getElem?] at dd71)
                  all_goals try clear hbase hdep hms hdn hund
                  all_goals (refine opOk_run rfl (.inl ⟨_, W, ?_, rfl, Ext.refl _, hS0⟩); clear hsz hS hS0 hfi; simp [go_sem, Act.eval, *]; done)
                case hlast =>
                  intro h; exact absurd rfl h
                case hfin =>
                  intro _ ac W hsz hdf fL hf hS0 hv hbase
                  have hS : (fun W => FR wW B g aD E.length cD ((gA, #[.int .u8 (c : Int), .int .i64 (t : Int)], 56) :: ((gN, #[.bool true, .slice aX X.length cX], 53) :: XB)) (.slice ya l5.length yc) (.slice ya l5.length yc) l5 mk W)  W := hS0
                  clear hS0
                  obtain ⟨sx, hsx, hsA⟩ := act_puts [66, 67, 68, 69, 70, 71, 72] (by kernel_rfl) hsz hdf hbase
                  have e72 : sx 72 = .bool false := (hsx 72).trans (hv 6 (by decide))
                  rw [hsA]
                  simp only [List.foldl]
                  rw [e72]
                  clear e72
                  simp only [Act.put, List.setIfInBounds_toArray, List.set_cons_succ, List.set_cons_zero]
                  clear hsA hsx hv hbase hsz hdf hf
                  have HST6 := Lib.hid hS
                  have htm : t < mk := htm
                  clear hS
                  go_upto_region 14 with fail
                  have hwt : IntKind.i64.wrap ((t : Int) + 1) = ((t + 1 : Nat) : Int) := by rw [IntWalk.i64_in _ (by omega)]; omega
                  obtain ⟨t1, ht1⟩ : ∃ t1, t + 1 = t1 := ⟨_, rfl⟩
                  rw [ht1] at hwt
                  have ht1l : t1 ≤ 1000001 := by omega
                  obtain ⟨l7, hl7⟩ : ∃ l7, l5 ++ numB t1 = l7 := ⟨_, rfl⟩
                  have HL7 := Lib.hid hl7
                  have HDR2 : Hid (pkArms (pkWriteR E m) X (met1, l2) = pkArms (pkWriteR E m) (X.drop (k + 1)) (mk, l7)) := by
                    show _ = _
                    rw [HDR.out, pkArms, if_pos (by simp only; omega), Int.toNat_natCast]
                    congr 2
                    rw [← hl7, ← HL5.out, ← ht1]
                    simp
                  clear hl7 ht1
                  refine wp_region_st (by kernel_rfl) (Vs [fun v _ => v = .pointer (some ⟨g, 0, none⟩), fun v _ => v = .pointer (some ⟨g, 0, none⟩), fun v _ => v = .pointer (some ⟨g, 0, none⟩), fun v _ => v = .pointer (some ⟨g, 1, none⟩), fun v _ => v = .slice ya l5.length yc, fun v _ => v = .pointer (some ⟨gA, 1, none⟩), fun v _ => v = .int .i64 (t : Int), fun v _ => v = .int .i64 (t1 : Int), RowBs (.slice ya l5.length yc) (numB t1), fun u W => FR wW B g aD E.length cD ((gA, #[.int .u8 (c : Int), .int .i64 (t : Int)], 56) :: ((gN, #[.bool true, .slice aX X.length cX], 53) :: XB)) (.slice ya l5.length yc) u l7 mk W, fun v _ => v = .pointer (some ⟨g, 0, none⟩), fun v _ => v = .pointer (some ⟨g, 1, none⟩)]) (Xs [Ext, Ext, Ext, Ext, Ext, Ext, Ext, Ext, Ext, (fun w w' => w.grownBy w' (Value.slice ya l5.length yc).ownBlock), Ext, Ext]) (fun fL => (fun b1 W => FRT wW B g aD E.length cD ((gA, #[.int .u8 (c : Int), .int .i64 (t : Int)], 56) :: ((gN, #[.bool true, .slice aX X.length cX], 53) :: XB)) (.slice ya l5.length yc) l5 mk b1 W) (fL 9)) [0, 0, 2, 6, 14, 0, 32, 96, 224, 510, 1, 1025] 98 12 (by kernel_rfl) rfl ?hV ?hS ?hop ?hfin ?hlast
                  case hV =>
                    refine xs_stays (vs_stays (by simp only [List.mem_cons, List.not_mem_nil, or_false, forall_eq_or_imp, forall_eq]; exact ⟨stays_const _, stays_const _, stays_const _, stays_const _, stays_const _, stays_const _, stays_const _, stays_const _, rowBs_stays _ _, FR.stays _ _ _ _ _ _ _ _ _ _, stays_const _, stays_const _⟩)) ?_
                    exact ⟨.inl rfl, .inl rfl, .inl rfl, .inl rfl, .inl rfl, .inl rfl, .inl rfl, .inl rfl, .inl rfl, .inr (staysM_all ⟨fun _ _ => fun _ _ _ h _ => h, fun _ _ => fun _ _ _ h _ => h, fun _ _ => fun _ _ _ h _ => h, fun _ _ => fun _ _ _ h _ => h, fun _ _ => fun _ _ _ h _ => h, fun _ _ => fun _ _ _ h _ => h, fun _ _ => fun _ _ _ h _ => h, fun _ _ => fun _ _ _ h _ => h, fun _ _ => rowBs_grown _ _, fun h => absurd rfl h, fun _ _ => fun _ _ _ h _ => h, fun _ _ => fun _ _ _ h _ => h, trivial⟩), .inl rfl, .inl rfl, trivial⟩
                  case hS =>
                    intro fL hf
                    show (fun b1 W => FRT wW B g aD E.length cD ((gA, #[.int .u8 (c : Int), .int .i64 (t : Int)], 56) :: ((gN, #[.bool true, .slice aX X.length cX], 53) :: XB)) (.slice ya l5.length yc) l5 mk b1 W) (fL 9) _
                    rw [hf 9 (by decide)]
                    exact FRT.ext false _ _ HST6.out (Below.refl _ _).drew
                  case hop =>
                    refine ⟨?_, ?_, ?_, ?_, ?_, ?_, ?_, ?_, ?c8, ?c9, ?_, ?_, ?_, trivial⟩
                    all_goals first | rw [if_neg (by decide)] | rw [if_pos (by decide)]
                    all_goals try exact True.intro
                    all_goals try intro ac W fL hsz hfi hms hdn hS0 hdep hbase hund
                    all_goals try have hS : (fun b1 W => FRT wW B g aD E.length cD ((gA, #[.int .u8 (c : Int), .int .i64 (t : Int)], 56) :: ((gN, #[.bool true, .slice aX X.length cX], 53) :: XB)) (.slice ya l5.length yc) l5 mk b1 W) (fL 9) W := hS0
                    all_goals try (have hfl9 : fL 9 = true := hms 9 (by decide); rw [hfl9] at hS)
                    all_goals try (have hfl9 : fL 9 = false := (by first | exact hfi | exact hdn 9 (by decide) (by decide)); rw [hfl9] at hS)
                    all_goals try (
                      try
                        have hfr : FR wW B g aD E.length cD ((gA, #[.int .u8 (c : Int), .int .i64 (t : Int)], 56) :: ((gN, #[.bool true, .slice aX X.length cX], 53) :: XB)) (.slice ya l5.length yc) (.slice ya l5.length yc) l5 mk W := hS
                        obtain ⟨c0, c1, c2⟩ := cells3' hfr.rep
                        obtain ⟨a0, a1⟩ := cells2 hfr.head)
                    all_goals try (have h0 : ac.tmps.getD 0 undef = .pointer (some ⟨g, 0, none⟩) := hbase 0 (by kernel_rfl); have hh0 := h0; rw [Array.getD_eq_getD_getElem?] at hh0)
                    all_goals try (have h7 : ac.tmps.getD 7 undef = .pointer (some ⟨gA, 0, none⟩) := hbase 7 (by kernel_rfl); have hh7 := h7; rw [Array.getD_eq_getD_getElem?] at hh7)
                    all_goals try (have d86 : ac.tmps.getD 86 undef = .pointer (some ⟨g, 0, none⟩) := hdep 0 (by decide); have dd86 := d86; rw [Array.getD_eq_getD_getElem?] at dd86)
                    all_goals try (have d87 : ac.tmps.getD 87 undef = .pointer (some ⟨g, 0, none⟩) := hdep 1 (by decide); have dd87 := d87; rw [Array.getD_eq_getD_getElem?] at dd87)
                    all_goals try (have d88 : ac.tmps.getD 88 undef = .pointer (some ⟨g, 0, none⟩) := hdep 2 (by decide); have dd88 := d88; rw [Array.getD_eq_getD_getElem?] at dd88)
                    all_goals try (have d89 : ac.tmps.getD 89 undef = .pointer (some ⟨g, 1, none⟩) := hdep 3 (by decide); have dd89 := d89; rw [Array.getD_eq_getD_getElem?] at dd89)
                    all_goals try (have d90 : ac.tmps.getD 90 undef = .slice ya l5.length yc := hdep 4 (by decide); have dd90 := d90; rw [Array.getD_eq_getD_getElem?] at dd90)
                    all_goals try (have d91 : ac.tmps.getD 91 undef = .pointer (some ⟨gA, 1, none⟩) := hdep 5 (by decide); have dd91 := d91; rw [Array.getD_eq_getD_getElem?] at dd91)
                    all_goals try (have d92 : ac.tmps.getD 92 undef = .int .i64 (t : Int) := hdep 6 (by decide); have dd92 := d92; rw [Array.getD_eq_getD_getElem?] at dd92)
                    all_goals try (have d93 : ac.tmps.getD 93 undef = .int .i64 (t1 : Int) := hdep 7 (by decide); have dd93 := d93; rw [Array.getD_eq_getD_getElem?] at dd93)
                    all_goals try have d94 : (RowBs (.slice ya l5.length yc) (numB t1)) (ac.tmps.getD 94 undef) W := hdep 8 (by decide)
                    all_goals try (have d96 : ac.tmps.getD 96 undef = .pointer (some ⟨g, 0, none⟩) := hdep 10 (by decide); have dd96 := d96; rw [Array.getD_eq_getD_getElem?] at dd96)
                    all_goals try clear hbase hdep hms hdn hund
                    case c8 =>
                      have hS1 : (fun b1 W => FRT wW B g aD E.length cD ((gA, #[.int .u8 (c : Int), .int .i64 (t : Int)], 56) :: ((gN, #[.bool true, .slice aX X.length cX], 53) :: XB)) (.slice ya l5.length yc) l5 mk b1 W) ((upd fL 8) 9) W := hS0
                      refine opOk_run rfl (.inr ⟨39, #[.int .i64 (t1 : Int)], W, by (clear hsz hS hS0 hS1 hfi; simp [go_sem, Act.eval, *]), ?_⟩)
                      refine (rnumber_any 5 t1 W (by omega) (by omega)).mono ?_
                      rintro e w' ⟨u, he, ho, hb⟩
                      exact ⟨u, he, rowBs_new hfr.own ho (numB_ne _), hb, (show (fun b1 W => FRT wW B g aD E.length cD ((gA, #[.int .u8 (c : Int), .int .i64 (t : Int)], 56) :: ((gN, #[.bool true, .slice aX X.length cX], 53) :: XB)) (.slice ya l5.length yc) l5 mk b1 W) ((upd fL 8) 9) _ by
                        rw [show upd fL 8 9 = fL 9 from if_neg (by decide)]
                        exact FRT.ext _ _ _ hS0 hb)⟩
                    case c9 =>
                      obtain ⟨ad, c9, e9, hsrc⟩ := d94.src (numB_ne _)
                      refine opOk_run rfl ((opres_append_g rowU8_ok (.tmp 90) (.tmp 94) rfl (eval_tmp d90) hfr.own ad c9 (numB t1) (eval_tmp e9) hsrc (by have := numB_len5 (n := t1) (by omega); omega) hfr.size).mono ?_)
                      rintro va' w' ⟨ho, hgr, hat⟩
                      refine ⟨hfr.grow (by rw [← HL7.out]; exact ho) hgr, hgr, ?_⟩
                      show FRT wW B g aD E.length cD ((gA, #[.int .u8 (c : Int), .int .i64 (t : Int)], 56) :: ((gN, #[.bool true, .slice aX X.length cX], 53) :: XB)) (.slice ya l5.length yc) l5 mk (upd fL 9 9) w'
                      rw [show upd fL 9 9 = true from if_pos rfl]
                      trivial
                    all_goals (refine opOk_run rfl (.inl ⟨_, W, ?_, rfl, Ext.refl _, hS0⟩); clear hsz hS hS0 hfi; simp [go_sem, Act.eval, *]; done)
                  case hfin =>
                    intro h; exact absurd h (by decide)
                  case hlast =>
                    intro _ ac W hsz hdf fL hf hS0 hv hbase
                    have hS : (fun b1 W => FRT wW B g aD E.length cD ((gA, #[.int .u8 (c : Int), .int .i64 (t : Int)], 56) :: ((gN, #[.bool true, .slice aX X.length cX], 53) :: XB)) (.slice ya l5.length yc) l5 mk b1 W) (fL 9) W := hS0
                    clear hS0
                    rw [hf 9 (by decide)] at hS
                    have hst : ac.tmps.getD 97 undef = .pointer (some ⟨g, 1, none⟩) := hv 11 (by decide)
                    have hnv : FR wW B g aD E.length cD ((gA, #[.int .u8 (c : Int), .int .i64 (t : Int)], 56) :: ((gN, #[.bool true, .slice aX X.length cX], 53) :: XB)) (.slice ya l5.length yc) (ac.tmps.getD 95 undef) l7 mk W := hv 9 (by decide)
                    obtain ⟨ya, yc, hya, -, -⟩ := hnv.own.form
                    rw [hya] at hnv
                    obtain ⟨e0, e1, e2⟩ := cells3' hnv.rep
                    refine wpOp_store rfl rfl rfl rfl (eval_tmp hst) (eval_tmp hya) (by simp [World.frozen?, hnv.rep]) e1 (by kernel_rfl) ?_
                    have hst3 := hnv.put
                    obtain ⟨w3, hw3⟩ : ∃ w3, W.setCell ⟨g, 1, none⟩ (.slice ya l7.length yc) = w3 := ⟨_, rfl⟩
                    rw [hw3] at hst3 ⊢
                    have HST3 := Lib.hid hst3
                    clear hS hnv hw3 hst hst3 e0 e1 e2
                    obtain ⟨sx, hsx, hsA⟩ := act_puts [86, 87, 88, 89, 90, 91, 92, 93, 94, 95, 96, 97] (by kernel_rfl) hsz hdf hbase
                    clear hya
                    rw [hsA]
                    simp only [List.foldl]
                    simp only [Act.put, List.setIfInBounds_toArray, List.set_cons_succ, List.set_cons_zero]
                    clear hsA hsx hv hbase hsz hdf hf
                    have HST9 := Lib.hid HST3.out.drop
                    clear HST3
                    go_wp2
                    go_roundw
                    case rel => exact ⟨k + 1, l7, mk, _, by omega, by go_num, HST9.out, by omega, HDR2.out⟩
                    case measure => simp [intOf]; omega
              · have hcb : (mk : Int) ≤ (t : Int) := by omega
                go_upto_region 11 with fail
                refine wp_region_st (by kernel_rfl) (Vs [fun v _ => v = .pointer (some ⟨gA, 1, none⟩), fun v _ => v = .int .i64 (t : Int), fun v _ => v = .pointer (some ⟨g, 0, none⟩), fun v _ => v = .pointer (some ⟨g, 0, none⟩), fun v _ => v = .pointer (some ⟨g, 2, none⟩), fun v _ => v = .int .i64 (mk : Int), fun v _ => v = .bool true]) (Xs [Ext, Ext, Ext, Ext, Ext, Ext, Ext]) (fun fL => (fun W => FR wW B g aD E.length cD ((gA, #[.int .u8 (c : Int), .int .i64 (t : Int)], 56) :: ((gN, #[.bool true, .slice aX X.length cX], 53) :: XB)) (.slice ya l5.length yc) (.slice ya l5.length yc) l5 mk W) ) [0, 1, 0, 4, 12, 28, 63] 98 7 (by kernel_rfl) rfl ?hV ?hS ?hop ?hfin ?hlast
                case hV =>
                  refine xs_stays (vs_stays (by simp only [List.mem_cons, List.not_mem_nil, or_false, forall_eq_or_imp, forall_eq]; exact ⟨stays_const _, stays_const _, stays_const _, stays_const _, stays_const _, stays_const _, stays_const _⟩)) ?_
                  exact ⟨.inl rfl, .inl rfl, .inl rfl, .inl rfl, .inl rfl, .inl rfl, .inl rfl, trivial⟩
                case hS =>
                  intro fL hf
                  show (fun W => FR wW B g aD E.length cD ((gA, #[.int .u8 (c : Int), .int .i64 (t : Int)], 56) :: ((gN, #[.bool true, .slice aX X.length cX], 53) :: XB)) (.slice ya l5.length yc) (.slice ya l5.length yc) l5 mk W)  _
                  exact HST5.out.go (Below.refl _ _).drew
                case hop =>
                  refine ⟨?_, ?_, ?_, ?_, ?_, ?_, ?_, trivial⟩
                  all_goals first | rw [if_neg (by decide)] | rw [if_pos (by decide)]
                  all_goals try intro ac W fL hsz hfi hms hdn hS0 hdep hbase hund
                  all_goals try have hS : (fun W => FR wW B g aD E.length cD ((gA, #[.int .u8 (c : Int), .int .i64 (t : Int)], 56) :: ((gN, #[.bool true, .slice aX X.length cX], 53) :: XB)) (.slice ya l5.length yc) (.slice ya l5.length yc) l5 mk W)  W := hS0
                  all_goals try (
                    obtain ⟨c0, c1, c2⟩ := cells3' hS.rep
                    obtain ⟨a0, a1⟩ := cells2 hS.head)
                  all_goals try (have h0 : ac.tmps.getD 0 undef = .pointer (some ⟨g, 0, none⟩) := hbase 0 (by kernel_rfl); have hh0 := h0; rw [Array.getD_eq_getD_getElem?] at hh0)
                  all_goals try (have h7 : ac.tmps.getD 7 undef = .pointer (some ⟨gA, 0, none⟩) := hbase 7 (by kernel_rfl); have hh7 := h7; rw [Array.getD_eq_getD_getElem?] at hh7)
                  all_goals try (have d66 : ac.tmps.getD 66 undef = .pointer (some ⟨gA, 1, none⟩) := hdep 0 (by decide); have dd66 := d66; rw [Array.getD_eq_getD_getElem?] at dd66)
                  all_goals try (have d67 : ac.tmps.getD 67 undef = .int .i64 (t : Int) := hdep 1 (by decide); have dd67 := d67; rw [Array.getD_eq_getD_getElem?] at dd67)
                  all_goals try (have d68 : ac.tmps.getD 68 undef = .pointer (some ⟨g, 0, none⟩) := hdep 2 (by decide); have dd68 := d68; rw [Array.getD_eq_getD_getElem?] at dd68)
                  all_goals try (have d69 : ac.tmps.getD 69 undef = .pointer (some ⟨g, 0, none⟩) := hdep 3 (by decide); have dd69 := d69; rw [Array.getD_eq_getD_getElem?] at dd69)
                  all_goals try (have d70 : ac.tmps.getD 70 undef = .pointer (some ⟨g, 2, none⟩) := hdep 4 (by decide); have dd70 := d70; rw [Array.getD_eq_getD_getElem?] at dd70)
                  all_goals try (have d71 : ac.tmps.getD 71 undef = .int .i64 (mk : Int) := hdep 5 (by decide); have dd71 := d71; rw [Array.getD_eq_getD_getElem?] at dd71)
                  all_goals try clear hbase hdep hms hdn hund
                  all_goals (refine opOk_run rfl (.inl ⟨_, W, ?_, rfl, Ext.refl _, hS0⟩); clear hsz hS hS0 hfi; simp [go_sem, Act.eval, *]; done)
                case hlast =>
                  intro h; exact absurd rfl h
                case hfin =>
                  intro _ ac W hsz hdf fL hf hS0 hv hbase
                  have hS : (fun W => FR wW B g aD E.length cD ((gA, #[.int .u8 (c : Int), .int .i64 (t : Int)], 56) :: ((gN, #[.bool true, .slice aX X.length cX], 53) :: XB)) (.slice ya l5.length yc) (.slice ya l5.length yc) l5 mk W)  W := hS0
                  clear hS0
                  obtain ⟨sx, hsx, hsA⟩ := act_puts [66, 67, 68, 69, 70, 71, 72] (by kernel_rfl) hsz hdf hbase
                  have e72 : sx 72 = .bool true := (hsx 72).trans (hv 6 (by decide))
                  rw [hsA]
                  simp only [List.foldl]
                  rw [e72]
                  clear e72
                  simp only [Act.put, List.setIfInBounds_toArray, List.set_cons_succ, List.set_cons_zero]
                  clear hsA hsx hv hbase hsz hdf hf
                  have HST6 := Lib.hid hS
                  obtain ⟨c0, c1, c2⟩ := cells3' hS.rep
                  have f1 : W.frozen? ⟨g, 1, none⟩ = false := by simp [World.frozen?, hS.rep]
                  have hgl : g < W.heap.size := (Array.getElem?_eq_some_iff.1 hS.rep).1
                  have hgAl : gA < W.heap.size := (Array.getElem?_eq_some_iff.1 hS.head).1
                  have hx1 : Below W.heap.size W (W.alloc (.cells #[.int .u8 0] 5)) := (Below.refl _ _).alloc (Nat.le_refl _) _
                  have HX1 := Lib.hid hx1
                  have HFR7 := Lib.hid (hS.go hx1)
                  have h9 : (W.alloc (.cells #[.int .u8 0] 5)).heap[W.heap.size]? = some (.cells #[.int .u8 ((UInt8.ofNat 0).toNat : Int)] 5 (0, 0)) := heap_alloc_new _ _
                  have H9 := Lib.hid h9
                  clear hS hx1 h9
                  go_upto_region 13 with (first | (at_builtin; go_loud (refine wpList_append_g rowU8_ok rfl _ _ rfl rfl HFR7.out.own ⟨W.heap.size, 0, none⟩ 1 [UInt8.ofNat 0] rfl (cells_built H9.out) (by simp only [List.length_singleton]; omega) (by simp only [World.size_alloc]; have := HST6.out.size; omega) ?_); intro v7 w7 hown7 hg7 hat7; obtain ⟨l7, hl7⟩ : ∃ l7, l5 ++ [UInt8.ofNat 0] = l7 := ⟨_, rfl⟩; rw [hl7] at hown7; have HL7 := Lib.hid hl7; have hfr7 := HFR7.out.grow hown7 hg7; obtain ⟨va7, vc7, hv7, -, -⟩ := hown7.form; subst hv7; obtain ⟨b0, b1, b2⟩ := cells3' hfr7.rep; have f7 : w7.frozen? ⟨g, 1, none⟩ = false := (by simp [World.frozen?, hfr7.rep]); have HFR8 := Lib.hid hfr7; clear hl7 hown7 hg7 hat7 hfr7))
                  have hst8 := HFR8.out.put
                  obtain ⟨w8, hw8⟩ : ∃ w8, w7.setCell ⟨g, 1, none⟩ (.slice va7 l7.length vc7) = w8 := ⟨_, rfl⟩
                  rw [hw8] at hst8 ⊢
                  have HST8 := Lib.hid hst8
                  have HDR2 : Hid (pkArms (pkWriteR E m) X (met1, l2) = pkArms (pkWriteR E m) (X.drop (k + 1)) (pkWriteR E m t (mk, l7))) := by
                    show _ = _
                    rw [HDR.out, pkArms, if_neg (by simp only; omega), Int.toNat_natCast]
                    congr 2
                    rw [← HL7.out, ← HL5.out, numB_zero]
                    simp
                    try rfl
                  have hfl : (pkWriteR E m t (mk, l7)).2.length ≤ 800000 := by
                    have h := pkArmsR_le E m (X.drop (k + 1)) (pkWriteR E m t (mk, l7))
                    rw [← HDR2.out] at h
                    have := HFIN.out
                    omega
                  have HCALL := Lib.hid (HIH.out t gg _ _ l7 mk w8 HMT.out HSG.out (by omega) hfl HST8.out)
                  obtain ⟨a0, a1⟩ := cells2 HST8.out.head
                  have hME : (pkWriteR E m t (mk, l7)).1 ≤ E.length := pkWriteR_met E E.length HTN.out m t (mk, l7) (by omega) (by simp only; omega)
                  clear hst8 hw8 c0 c1 c2 f1 b0 b1 b2 f7 hfl hgl hgAl HFR8 HFR7 HX1 H9 HST6
                  go_wp2_with fail
                  refine HCALL.out.mono ?_
                  rintro e w9 ⟨rfl, v9, hst9⟩
                  have HST9 := Lib.hid hst9.drop
                  have HM9 := Lib.hid hME
                  clear HCALL hst9 a0 a1 hME HST8
                  obtain ⟨⟨m9, l9⟩, hq9⟩ : ∃ q9, pkWriteR E m t (mk, l7) = q9 := ⟨_, rfl⟩
                  rw [hq9] at HST9 HM9 HDR2
                  go_wp2
                  go_roundw
                  case rel => exact ⟨k + 1, l9, m9, v9, by omega, by go_num, HST9.out, HM9.out, HDR2.out⟩
                  case measure => simp [intOf]; omega
          · have hkX : X.drop k = [] := List.drop_eq_nil_of_le (by omega)
            have HR : Hid (pkArms (pkWriteR E m) X (met1, l2) = (mk, lk)) := by show _ = _; rw [HPK.out, hkX, pkArms]
            have HF := Lib.hid hst.drop
            clear hkX hst
            go_wp2
            refine bodyPost_ret (results_none rfl _ _ _) rfl ?_
            rw [HR.out]
            exact ⟨rfl, _, HF.out⟩
    | false =>
      have hhv : (hd : Int) = 2 * (X.length : Int) := by have := HHN.out; simp only [bit] at this; first | (rw [if_pos rfl] at this; omega) | (rw [if_neg (by decide)] at this; omega) | (simp at this; omega)
      have hwx : IntKind.i64.wrap (2 * (X.length : Int)) = 2 * (X.length : Int) := IntWalk.i64_in _ (by omega)
      go_upto_region 5 with fail
      rw [← hhv]
      have hhd : hd ≤ 200 := by omega
      clear hhv hwx n0 n1
      refine wp_region_st (by kernel_rfl) (Vs [fun v _ => v = .pointer (some ⟨g, 0, none⟩), fun v _ => v = .pointer (some ⟨g, 0, none⟩), fun v _ => v = .pointer (some ⟨g, 0, none⟩), fun v _ => v = .pointer (some ⟨g, 1, none⟩), fun v _ => v = .slice va l.length vc, fun v _ => v = .int .i64 (hd : Int), RowBs (.slice va l.length vc) (numB hd), fun u W => FR wW B g aD E.length cD ((gN, #[.bool false, .slice aX X.length cX], 53) :: XB) (.slice va l.length vc) u l2 met1 W, fun v _ => v = .pointer (some ⟨g, 0, none⟩), fun v _ => v = .pointer (some ⟨g, 1, none⟩)]) (Xs [Ext, Ext, Ext, Ext, Ext, Ext, Ext, (fun w w' => w.grownBy w' (Value.slice va l.length vc).ownBlock), Ext, Ext]) (fun fL => (fun b1 W => FRT wW B g aD E.length cD ((gN, #[.bool false, .slice aX X.length cX], 53) :: XB) (.slice va l.length vc) l met1 b1 W) (fL 7)) [0, 0, 2, 6, 14, 0, 32, 126, 1, 257] 98 10 (by kernel_rfl) rfl ?hV ?hS ?hop ?hfin ?hlast
      case hV =>
        refine xs_stays (vs_stays (by simp only [List.mem_cons, List.not_mem_nil, or_false, forall_eq_or_imp, forall_eq]; exact ⟨stays_const _, stays_const _, stays_const _, stays_const _, stays_const _, stays_const _, rowBs_stays _ _, FR.stays _ _ _ _ _ _ _ _ _ _, stays_const _, stays_const _⟩)) ?_
        exact ⟨.inl rfl, .inl rfl, .inl rfl, .inl rfl, .inl rfl, .inl rfl, .inl rfl, .inr (staysM_all ⟨fun _ _ => fun _ _ _ h _ => h, fun _ _ => fun _ _ _ h _ => h, fun _ _ => fun _ _ _ h _ => h, fun _ _ => fun _ _ _ h _ => h, fun _ _ => fun _ _ _ h _ => h, fun _ _ => fun _ _ _ h _ => h, fun _ _ => rowBs_grown _ _, fun h => absurd rfl h, fun _ _ => fun _ _ _ h _ => h, fun _ _ => fun _ _ _ h _ => h, trivial⟩), .inl rfl, .inl rfl, trivial⟩
      case hS =>
        intro fL hf
        show (fun b1 W => FRT wW B g aD E.length cD ((gN, #[.bool false, .slice aX X.length cX], 53) :: XB) (.slice va l.length vc) l met1 b1 W) (fL 7) _
        rw [hf 7 (by decide)]
        exact FRT.ext false _ _ HST1.out (Below.refl _ _).drew
      case hop =>
        refine ⟨?_, ?_, ?_, ?_, ?_, ?_, ?c6, ?c7, ?_, ?_, ?_, trivial⟩
        all_goals first | rw [if_neg (by decide)] | rw [if_pos (by decide)]
        all_goals try exact True.intro
        all_goals try intro ac W fL hsz hfi hms hdn hS0 hdep hbase hund
        all_goals try have hS : (fun b1 W => FRT wW B g aD E.length cD ((gN, #[.bool false, .slice aX X.length cX], 53) :: XB) (.slice va l.length vc) l met1 b1 W) (fL 7) W := hS0
        all_goals try (have hfl7 : fL 7 = true := hms 7 (by decide); rw [hfl7] at hS)
        all_goals try (have hfl7 : fL 7 = false := (by first | exact hfi | exact hdn 7 (by decide) (by decide)); rw [hfl7] at hS)
        all_goals try (
          try
            have hfr : FR wW B g aD E.length cD ((gN, #[.bool false, .slice aX X.length cX], 53) :: XB) (.slice va l.length vc) (.slice va l.length vc) l met1 W := hS
            obtain ⟨c0, c1, c2⟩ := cells3' hfr.rep)
        all_goals try (have h0 : ac.tmps.getD 0 undef = .pointer (some ⟨g, 0, none⟩) := hbase 0 (by kernel_rfl); have hh0 := h0; rw [Array.getD_eq_getD_getElem?] at hh0)
        all_goals try (have h5 : ac.tmps.getD 5 undef = .int .i64 (hd : Int) := hbase 5 (by kernel_rfl); have hh5 := h5; rw [Array.getD_eq_getD_getElem?] at hh5)
        all_goals try (have d33 : ac.tmps.getD 33 undef = .pointer (some ⟨g, 0, none⟩) := hdep 0 (by decide); have dd33 := d33; rw [Array.getD_eq_getD_getElem?] at dd33)
        all_goals try (have d34 : ac.tmps.getD 34 undef = .pointer (some ⟨g, 0, none⟩) := hdep 1 (by decide); have dd34 := d34; rw [Array.getD_eq_getD_getElem?] at dd34)
        all_goals try (have d35 : ac.tmps.getD 35 undef = .pointer (some ⟨g, 0, none⟩) := hdep 2 (by decide); have dd35 := d35; rw [Array.getD_eq_getD_getElem?] at dd35)
        all_goals try (have d36 : ac.tmps.getD 36 undef = .pointer (some ⟨g, 1, none⟩) := hdep 3 (by decide); have dd36 := d36; rw [Array.getD_eq_getD_getElem?] at dd36)
        all_goals try (have d37 : ac.tmps.getD 37 undef = .slice va l.length vc := hdep 4 (by decide); have dd37 := d37; rw [Array.getD_eq_getD_getElem?] at dd37)
        all_goals try (have d38 : ac.tmps.getD 38 undef = .int .i64 (hd : Int) := hdep 5 (by decide); have dd38 := d38; rw [Array.getD_eq_getD_getElem?] at dd38)
        all_goals try have d39 : (RowBs (.slice va l.length vc) (numB hd)) (ac.tmps.getD 39 undef) W := hdep 6 (by decide)
        all_goals try (have d41 : ac.tmps.getD 41 undef = .pointer (some ⟨g, 0, none⟩) := hdep 8 (by decide); have dd41 := d41; rw [Array.getD_eq_getD_getElem?] at dd41)
        all_goals try clear hbase hdep hms hdn hund
        case c6 =>
          have hS1 : (fun b1 W => FRT wW B g aD E.length cD ((gN, #[.bool false, .slice aX X.length cX], 53) :: XB) (.slice va l.length vc) l met1 b1 W) ((upd fL 6) 7) W := hS0
          refine opOk_run rfl (.inr ⟨39, #[.int .i64 (hd : Int)], W, by (clear hsz hS hS0 hS1 hfi; simp [go_sem, Act.eval, *]), ?_⟩)
          refine (rnumber_any 5 hd W (by omega) (by omega)).mono ?_
          rintro e w' ⟨u, he, ho, hb⟩
          exact ⟨u, he, rowBs_new hfr.own ho (numB_ne _), hb, (show (fun b1 W => FRT wW B g aD E.length cD ((gN, #[.bool false, .slice aX X.length cX], 53) :: XB) (.slice va l.length vc) l met1 b1 W) ((upd fL 6) 7) _ by
            rw [show upd fL 6 7 = fL 7 from if_neg (by decide)]
            exact FRT.ext _ _ _ hS0 hb)⟩
        case c7 =>
          obtain ⟨ad, c9, e9, hsrc⟩ := d39.src (numB_ne _)
          refine opOk_run rfl ((opres_append_g rowU8_ok (.tmp 37) (.tmp 39) rfl (eval_tmp d37) hfr.own ad c9 (numB hd) (eval_tmp e9) hsrc (by have := numB_len5 (n := hd) (by omega); omega) hfr.size).mono ?_)
          rintro va' w' ⟨ho, hgr, hat⟩
          refine ⟨hfr.grow (by rw [← HL2.out]; exact ho) hgr, hgr, ?_⟩
          show FRT wW B g aD E.length cD ((gN, #[.bool false, .slice aX X.length cX], 53) :: XB) (.slice va l.length vc) l met1 (upd fL 7 7) w'
          rw [show upd fL 7 7 = true from if_pos rfl]
          trivial
        all_goals (refine opOk_run rfl (.inl ⟨_, W, ?_, rfl, Ext.refl _, hS0⟩); clear hsz hS hS0 hfi; simp [go_sem, Act.eval, *]; done)
      case hfin =>
        intro h; exact absurd h (by decide)
      case hlast =>
        intro _ ac W hsz hdf fL hf hS0 hv hbase
        have hS : (fun b1 W => FRT wW B g aD E.length cD ((gN, #[.bool false, .slice aX X.length cX], 53) :: XB) (.slice va l.length vc) l met1 b1 W) (fL 7) W := hS0
        clear hS0
        rw [hf 7 (by decide)] at hS
        have hst : ac.tmps.getD 42 undef = .pointer (some ⟨g, 1, none⟩) := hv 9 (by decide)
        have hnv : FR wW B g aD E.length cD ((gN, #[.bool false, .slice aX X.length cX], 53) :: XB) (.slice va l.length vc) (ac.tmps.getD 40 undef) l2 met1 W := hv 7 (by decide)
        obtain ⟨ya, yc, hya, -, -⟩ := hnv.own.form
        rw [hya] at hnv
        obtain ⟨e0, e1, e2⟩ := cells3' hnv.rep
        refine wpOp_store rfl rfl rfl rfl (eval_tmp hst) (eval_tmp hya) (by simp [World.frozen?, hnv.rep]) e1 (by kernel_rfl) ?_
        have hst3 := hnv.put
        obtain ⟨w3, hw3⟩ : ∃ w3, W.setCell ⟨g, 1, none⟩ (.slice ya l2.length yc) = w3 := ⟨_, rfl⟩
        rw [hw3] at hst3 ⊢
        have HST3 := Lib.hid hst3
        clear hS hnv hw3 hst hst3 e0 e1 e2
        obtain ⟨sx, hsx, hsA⟩ := act_puts [33, 34, 35, 36, 37, 38, 39, 40, 41, 42] (by kernel_rfl) hsz hdf hbase
        clear hya
        rw [hsA]
        simp only [List.foldl]
        simp only [Act.put, List.setIfInBounds_toArray, List.set_cons_succ, List.set_cons_zero]
        clear hsA hsx hv hbase hsz hdf hf
        go_wp2
        go_loopw [6] (fun q wr => ∃ (k : Nat) (lk : Wd) (mk : Nat) (vk : Value), k ≤ X.length ∧ q = .int .i64 (k : Int) ∧ FR wW B g aD E.length cD ((gN, #[.bool false, .slice aX X.length cX], 53) :: XB) vk vk lk mk wr ∧ mk ≤ E.length ∧ pkArms (pkWriteR E m) X (met1, l2) = pkArms (pkWriteR E m) (X.drop k) (mk, lk)) (fun q _ => X.length - (intOf q).toNat)
        case atStart => exact ⟨0, l2, met1, _, Nat.zero_le _, rfl, HST3.out, hm1E, rfl⟩
        case round =>
          clear HST3
          obtain ⟨k, lk, mk, vk, hk, rfl, hst, hmk, hpk⟩ := hrel
          have HPK := Lib.hid hpk
          obtain ⟨n0, n1⟩ := cells2 hst.head
          obtain ⟨vka, vkc, hvk, -, -⟩ := hst.own.form
          subst hvk
          by_cases hlt : k < X.length
          · obtain ⟨ba, oa, haX, hba, p0, p1⟩ := (HXS.out.later hst.bl hWB).at hlt
            have hidxa := idx_arcs aX ba oa X.length cX k haX hlt
            obtain ⟨c, t, gg, hx, hc, ht, hMt, hsg⟩ := HTO.out X[k] (List.getElem_mem hlt)
            have HDR : Hid (pkArms (pkWriteR E m) X (met1, l2) = pkArms (pkWriteR E m) (⟨(c : Int), (t : Int)⟩ :: X.drop (k + 1)) (mk, lk)) := by
              show _ = _
              rw [HPK.out, List.drop_eq_getElem_cons hlt, hx]
            rw [hx] at p0 p1
            simp only at p0 p1
            have HMT := Lib.hid hMt; have HSG := Lib.hid hsg
            have hlk := pkArmsR_le E m (X.drop k) (mk, lk)
            rw [← HPK.out] at hlk
            simp only at hlk
            have hlk8 : lk.length ≤ 800000 := by have := HFIN.out; omega
            have HV := Lib.hid (byteC_nat hc)
            have hx1 : Below wr.heap.size wr (wr.alloc (.cells #[.int .u8 (c : Int), .int .i64 (t : Int)] 56)) := (Below.refl _ wr).alloc (Nat.le_refl _) _
            have hst1 := (hst.go hx1).add (heap_alloc_new wr (.cells #[.int .u8 (c : Int), .int .i64 (t : Int)] 56)) (by decide) (by decide)
            clear haX hx hMt hsg hlk hst
            go_upto_region 10 with fail
            obtain ⟨w4, hw4⟩ : ∃ w4, wr.alloc (.cells #[.int .u8 (c : Int), .int .i64 (t : Int)] 56) = w4 := ⟨_, rfl⟩
            rw [hw4] at hst1 ⊢
            obtain ⟨gA, hgA⟩ : ∃ gA, wr.heap.size = gA := ⟨_, rfl⟩
            rw [hgA] at hst1 ⊢
            have HSTk := Lib.hid hst1
            obtain ⟨l5, hl5⟩ : ∃ l5, lk ++ [byteC (c : Int)] = l5 := ⟨_, rfl⟩
            have HL5 := Lib.hid hl5
            clear hst1 hw4 hgA hx1 p0 p1 n0 n1 hl5
            refine wp_region_st (by kernel_rfl) (Vs [fun v _ => v = .pointer (some ⟨g, 0, none⟩), fun v _ => v = .pointer (some ⟨g, 0, none⟩), fun v _ => v = .pointer (some ⟨g, 0, none⟩), fun v _ => v = .pointer (some ⟨g, 1, none⟩), fun v _ => v = .slice vka lk.length vkc, fun v _ => v = .pointer (some ⟨gA, 0, none⟩), fun v _ => v = .int .u8 (c : Int), RowBs (.slice vka lk.length vkc) [byteC (c : Int)], fun u W => FR wW B g aD E.length cD ((gA, #[.int .u8 (c : Int), .int .i64 (t : Int)], 56) :: ((gN, #[.bool false, .slice aX X.length cX], 53) :: XB)) (.slice vka lk.length vkc) u l5 mk W, fun v _ => v = .pointer (some ⟨g, 0, none⟩), fun v _ => v = .pointer (some ⟨g, 1, none⟩)]) (Xs [Ext, Ext, Ext, Ext, Ext, Ext, Ext, Ext, (fun w w' => w.grownBy w' (Value.slice vka lk.length vkc).ownBlock), Ext, Ext]) (fun fL => (fun b1 W => FRT wW B g aD E.length cD ((gA, #[.int .u8 (c : Int), .int .i64 (t : Int)], 56) :: ((gN, #[.bool false, .slice aX X.length cX], 53) :: XB)) (.slice vka lk.length vkc) lk mk b1 W) (fL 8)) [0, 0, 2, 6, 14, 0, 32, 96, 254, 1, 513] 98 11 (by kernel_rfl) rfl ?hV ?hS ?hop ?hfin ?hlast
            case hV =>
              refine xs_stays (vs_stays (by simp only [List.mem_cons, List.not_mem_nil, or_false, forall_eq_or_imp, forall_eq]; exact ⟨stays_const _, stays_const _, stays_const _, stays_const _, stays_const _, stays_const _, stays_const _, rowBs_stays _ _, FR.stays _ _ _ _ _ _ _ _ _ _, stays_const _, stays_const _⟩)) ?_
              exact ⟨.inl rfl, .inl rfl, .inl rfl, .inl rfl, .inl rfl, .inl rfl, .inl rfl, .inl rfl, .inr (staysM_all ⟨fun _ _ => fun _ _ _ h _ => h, fun _ _ => fun _ _ _ h _ => h, fun _ _ => fun _ _ _ h _ => h, fun _ _ => fun _ _ _ h _ => h, fun _ _ => fun _ _ _ h _ => h, fun _ _ => fun _ _ _ h _ => h, fun _ _ => fun _ _ _ h _ => h, fun _ _ => rowBs_grown _ _, fun h => absurd rfl h, fun _ _ => fun _ _ _ h _ => h, fun _ _ => fun _ _ _ h _ => h, trivial⟩), .inl rfl, .inl rfl, trivial⟩
            case hS =>
              intro fL hf
              show (fun b1 W => FRT wW B g aD E.length cD ((gA, #[.int .u8 (c : Int), .int .i64 (t : Int)], 56) :: ((gN, #[.bool false, .slice aX X.length cX], 53) :: XB)) (.slice vka lk.length vkc) lk mk b1 W) (fL 8) _
              rw [hf 8 (by decide)]
              exact FRT.ext false _ _ HSTk.out (Below.refl _ _).drew
            case hop =>
              refine ⟨?_, ?_, ?_, ?_, ?_, ?_, ?_, ?c7, ?c8, ?_, ?_, ?_, trivial⟩
              all_goals first | rw [if_neg (by decide)] | rw [if_pos (by decide)]
              all_goals try exact True.intro
              all_goals try intro ac W fL hsz hfi hms hdn hS0 hdep hbase hund
              all_goals try have hS : (fun b1 W => FRT wW B g aD E.length cD ((gA, #[.int .u8 (c : Int), .int .i64 (t : Int)], 56) :: ((gN, #[.bool false, .slice aX X.length cX], 53) :: XB)) (.slice vka lk.length vkc) lk mk b1 W) (fL 8) W := hS0
              all_goals try (have hfl8 : fL 8 = true := hms 8 (by decide); rw [hfl8] at hS)
              all_goals try (have hfl8 : fL 8 = false := (by first | exact hfi | exact hdn 8 (by decide) (by decide)); rw [hfl8] at hS)
              all_goals try (
                try
                  have hfr : FR wW B g aD E.length cD ((gA, #[.int .u8 (c : Int), .int .i64 (t : Int)], 56) :: ((gN, #[.bool false, .slice aX X.length cX], 53) :: XB)) (.slice vka lk.length vkc) (.slice vka lk.length vkc) lk mk W := hS
                  obtain ⟨c0, c1, c2⟩ := cells3' hfr.rep
                  obtain ⟨a0, a1⟩ := cells2 hfr.head)
              all_goals try (have h0 : ac.tmps.getD 0 undef = .pointer (some ⟨g, 0, none⟩) := hbase 0 (by kernel_rfl); have hh0 := h0; rw [Array.getD_eq_getD_getElem?] at hh0)
              all_goals try (have h7 : ac.tmps.getD 7 undef = .pointer (some ⟨gA, 0, none⟩) := hbase 7 (by kernel_rfl); have hh7 := h7; rw [Array.getD_eq_getD_getElem?] at hh7)
              all_goals try (have d55 : ac.tmps.getD 55 undef = .pointer (some ⟨g, 0, none⟩) := hdep 0 (by decide); have dd55 := d55; rw [Array.getD_eq_getD_getElem?] at dd55)
              all_goals try (have d56 : ac.tmps.getD 56 undef = .pointer (some ⟨g, 0, none⟩) := hdep 1 (by decide); have dd56 := d56; rw [Array.getD_eq_getD_getElem?] at dd56)
              all_goals try (have d57 : ac.tmps.getD 57 undef = .pointer (some ⟨g, 0, none⟩) := hdep 2 (by decide); have dd57 := d57; rw [Array.getD_eq_getD_getElem?] at dd57)
              all_goals try (have d58 : ac.tmps.getD 58 undef = .pointer (some ⟨g, 1, none⟩) := hdep 3 (by decide); have dd58 := d58; rw [Array.getD_eq_getD_getElem?] at dd58)
              all_goals try (have d59 : ac.tmps.getD 59 undef = .slice vka lk.length vkc := hdep 4 (by decide); have dd59 := d59; rw [Array.getD_eq_getD_getElem?] at dd59)
              all_goals try (have d60 : ac.tmps.getD 60 undef = .pointer (some ⟨gA, 0, none⟩) := hdep 5 (by decide); have dd60 := d60; rw [Array.getD_eq_getD_getElem?] at dd60)
              all_goals try (have d61 : ac.tmps.getD 61 undef = .int .u8 (c : Int) := hdep 6 (by decide); have dd61 := d61; rw [Array.getD_eq_getD_getElem?] at dd61)
              all_goals try have d62 : (RowBs (.slice vka lk.length vkc) [byteC (c : Int)]) (ac.tmps.getD 62 undef) W := hdep 7 (by decide)
              all_goals try (have d64 : ac.tmps.getD 64 undef = .pointer (some ⟨g, 0, none⟩) := hdep 9 (by decide); have dd64 := d64; rw [Array.getD_eq_getD_getElem?] at dd64)
              all_goals try clear hbase hdep hms hdn hund
              case c7 =>
                have hS1 : (fun b1 W => FRT wW B g aD E.length cD ((gA, #[.int .u8 (c : Int), .int .i64 (t : Int)], 56) :: ((gN, #[.bool false, .slice aX X.length cX], 53) :: XB)) (.slice vka lk.length vkc) lk mk b1 W) ((upd fL 7) 8) W := hS0
                refine opOk_run rfl (.inl ⟨.slice (some ⟨W.heap.size, 0, none⟩) 1 1, W.alloc (.cells #[.int .u8 (c : Int)] 5), ?_, ⟨_, _, rfl, OwnG.one rowU8_ok (x := byteC (c : Int)) (by have h9 := heap_alloc_new W (.cells #[.int .u8 (c : Int)] 5); show _ = some (Obj.cells #[.int .u8 ((byteC (c : Int)).toNat : Int)] _ _); rw [HV.out]; exact h9) (Nat.zero_le _), fun e => by have := hfr.own.lt _ e.symm; omega⟩, (Below.refl _ _).alloc (Nat.le_refl _) _, (show (fun b1 W => FRT wW B g aD E.length cD ((gA, #[.int .u8 (c : Int), .int .i64 (t : Int)], 56) :: ((gN, #[.bool false, .slice aX X.length cX], 53) :: XB)) (.slice vka lk.length vkc) lk mk b1 W) ((upd fL 7) 8) _ by
                  rw [show upd fL 7 8 = fL 8 from if_neg (by decide)]
                  exact FRT.ext _ _ _ hS0 ((Below.refl _ _).alloc (Nat.le_refl _) _))⟩)
                clear hsz hS hS0 hS1 hfi hfr; simp [go_sem, Act.eval, *]
              case c8 =>
                obtain ⟨ad, c9, e9, hsrc⟩ := d62.src (by simp)
                refine opOk_run rfl ((opres_append_g rowU8_ok (.tmp 59) (.tmp 62) rfl (eval_tmp d59) hfr.own ad c9 [byteC (c : Int)] (eval_tmp e9) hsrc (by simp only [List.length_singleton]; omega) hfr.size).mono ?_)
                rintro va' w' ⟨ho, hgr, hat⟩
                refine ⟨hfr.grow (by rw [← HL5.out]; exact ho) hgr, hgr, ?_⟩
                show FRT wW B g aD E.length cD ((gA, #[.int .u8 (c : Int), .int .i64 (t : Int)], 56) :: ((gN, #[.bool false, .slice aX X.length cX], 53) :: XB)) (.slice vka lk.length vkc) lk mk (upd fL 8 8) w'
                rw [show upd fL 8 8 = true from if_pos rfl]
                trivial
              all_goals (refine opOk_run rfl (.inl ⟨_, W, ?_, rfl, Ext.refl _, hS0⟩); clear hsz hS hS0 hfi; simp [go_sem, Act.eval, *]; done)
            case hfin =>
              intro h; exact absurd h (by decide)
            case hlast =>
              intro _ ac W hsz hdf fL hf hS0 hv hbase
              have hS : (fun b1 W => FRT wW B g aD E.length cD ((gA, #[.int .u8 (c : Int), .int .i64 (t : Int)], 56) :: ((gN, #[.bool false, .slice aX X.length cX], 53) :: XB)) (.slice vka lk.length vkc) lk mk b1 W) (fL 8) W := hS0
              clear hS0
              rw [hf 8 (by decide)] at hS
              have hst : ac.tmps.getD 65 undef = .pointer (some ⟨g, 1, none⟩) := hv 10 (by decide)
              have hnv : FR wW B g aD E.length cD ((gA, #[.int .u8 (c : Int), .int .i64 (t : Int)], 56) :: ((gN, #[.bool false, .slice aX X.length cX], 53) :: XB)) (.slice vka lk.length vkc) (ac.tmps.getD 63 undef) l5 mk W := hv 8 (by decide)
              obtain ⟨ya, yc, hya, -, -⟩ := hnv.own.form
              rw [hya] at hnv
              obtain ⟨e0, e1, e2⟩ := cells3' hnv.rep
              refine wpOp_store rfl rfl rfl rfl (eval_tmp hst) (eval_tmp hya) (by simp [World.frozen?, hnv.rep]) e1 (by kernel_rfl) ?_
              have hst3 := hnv.put
              obtain ⟨w3, hw3⟩ : ∃ w3, W.setCell ⟨g, 1, none⟩ (.slice ya l5.length yc) = w3 := ⟨_, rfl⟩
              rw [hw3] at hst3 ⊢
              have HST3 := Lib.hid hst3
              clear hS hnv hw3 hst hst3 e0 e1 e2
              obtain ⟨sx, hsx, hsA⟩ := act_puts [55, 56, 57, 58, 59, 60, 61, 62, 63, 64, 65] (by kernel_rfl) hsz hdf hbase
              clear hya
              rw [hsA]
              simp only [List.foldl]
              simp only [Act.put, List.setIfInBounds_toArray, List.set_cons_succ, List.set_cons_zero]
              clear hsA hsx hv hbase hsz hdf hf
              have HST5 := Lib.hid HST3.out
              have hl5 : l5.length ≤ 800001 := by rw [← HL5.out]; simp; omega
              clear HST3
              by_cases htm : t < mk
              · have hcb : ¬ (mk : Int) ≤ (t : Int) := by omega
                go_upto_region 11 with fail
                refine wp_region_st (by kernel_rfl) (Vs [fun v _ => v = .pointer (some ⟨gA, 1, none⟩), fun v _ => v = .int .i64 (t : Int), fun v _ => v = .pointer (some ⟨g, 0, none⟩), fun v _ => v = .pointer (some ⟨g, 0, none⟩), fun v _ => v = .pointer (some ⟨g, 2, none⟩), fun v _ => v = .int .i64 (mk : Int), fun v _ => v = .bool false]) (Xs [Ext, Ext, Ext, Ext, Ext, Ext, Ext]) (fun fL => (fun W => FR wW B g aD E.length cD ((gA, #[.int .u8 (c : Int), .int .i64 (t : Int)], 56) :: ((gN, #[.bool false, .slice aX X.length cX], 53) :: XB)) (.slice ya l5.length yc) (.slice ya l5.length yc) l5 mk W) ) [0, 1, 0, 4, 12, 28, 63] 98 7 (by kernel_rfl) rfl ?hV ?hS ?hop ?hfin ?hlast
                case hV =>
                  refine xs_stays (vs_stays (by simp only [List.mem_cons, List.not_mem_nil, or_false, forall_eq_or_imp, forall_eq]; exact ⟨stays_const _, stays_const _, stays_const _, stays_const _, stays_const _, stays_const _, stays_const _⟩)) ?_
                  exact ⟨.inl rfl, .inl rfl, .inl rfl, .inl rfl, .inl rfl, .inl rfl, .inl rfl, trivial⟩
                case hS =>
                  intro fL hf
                  show (fun W => FR wW B g aD E.length cD ((gA, #[.int .u8 (c : Int), .int .i64 (t : Int)], 56) :: ((gN, #[.bool false, .slice aX X.length cX], 53) :: XB)) (.slice ya l5.length yc) (.slice ya l5.length yc) l5 mk W)  _
                  exact HST5.out.go (Below.refl _ _).drew
                case hop =>
                  refine ⟨?_, ?_, ?_, ?_, ?_, ?_, ?_, trivial⟩
                  all_goals first | rw [if_neg (by decide)] | rw [if_pos (by decide)]
                  all_goals try intro ac W fL hsz hfi hms hdn hS0 hdep hbase hund
                  all_goals try have hS : (fun W => FR wW B g aD E.length cD ((gA, #[.int .u8 (c : Int), .int .i64 (t : Int)], 56) :: ((gN, #[.bool false, .slice aX X.length cX], 53) :: XB)) (.slice ya l5.length yc) (.slice ya l5.length yc) l5 mk W)  W := hS0
                  all_goals try (
                    obtain ⟨c0, c1, c2⟩ := cells3' hS.rep
                    obtain ⟨a0, a1⟩ := cells2 hS.head)
                  all_goals try (have h0 : ac.tmps.getD 0 undef = .pointer (some ⟨g, 0, none⟩) := hbase 0 (by kernel_rfl); have hh0 := h0; rw [Array.getD_eq_getD_getElem?] at hh0)
                  all_goals try (have h7 : ac.tmps.getD 7 undef = .pointer (some ⟨gA, 0, none⟩) := hbase 7 (by kernel_rfl); have hh7 := h7; rw [Array.getD_eq_getD_getElem?] at hh7)
                  all_goals try (have d66 : ac.tmps.getD 66 undef = .pointer (some ⟨gA, 1, none⟩) := hdep 0 (by decide); have dd66 := d66; rw [Array.getD_eq_getD_getElem?] at dd66)
                  all_goals try (have d67 : ac.tmps.getD 67 undef = .int .i64 (t : Int) := hdep 1 (by decide); have dd67 := d67; rw [Array.getD_eq_getD_getElem?] at dd67)
                  all_goals try (have d68 : ac.tmps.getD 68 undef = .pointer (some ⟨g, 0, none⟩) := hdep 2 (by decide); have dd68 := d68; rw [Array.getD_eq_getD_getElem?] at dd68)
                  all_goals try (have d69 : ac.tmps.getD 69 undef = .pointer (some ⟨g, 0, none⟩) := hdep 3 (by decide); have dd69 := d69; rw [Array.getD_eq_getD_getElem?] at dd69)
                  all_goals try (have d70 : ac.tmps.getD 70 undef = .pointer (some ⟨g, 2, none⟩) := hdep 4 (by decide); have dd70 := d70; rw [Array.getD_eq_getD_getElem?] at dd70)
                  all_goals try (have d71 : ac.tmps.getD 71 undef = .int .i64 (mk : Int) := hdep 5 (by decide); have dd71 := d71; rw [Array.getD_eq_getD_getElem?] at dd71)
                  all_goals try clear hbase hdep hms hdn hund
                  all_goals (refine opOk_run rfl (.inl ⟨_, W, ?_, rfl, Ext.refl _, hS0⟩); clear hsz hS hS0 hfi; simp [go_sem, Act.eval, *]; done)
                case hlast =>
                  intro h; exact absurd rfl h
                case hfin =>
                  intro _ ac W hsz hdf fL hf hS0 hv hbase
                  have hS : (fun W => FR wW B g aD E.length cD ((gA, #[.int .u8 (c : Int), .int .i64 (t : Int)], 56) :: ((gN, #[.bool false, .slice aX X.length cX], 53) :: XB)) (.slice ya l5.length yc) (.slice ya l5.length yc) l5 mk W)  W := hS0
                  clear hS0
                  obtain ⟨sx, hsx, hsA⟩ := act_puts [66, 67, 68, 69, 70, 71, 72] (by kernel_rfl) hsz hdf hbase
                  have e72 : sx 72 = .bool false := (hsx 72).trans (hv 6 (by decide))
                  rw [hsA]
                  simp only [List.foldl]
                  rw [e72]
                  clear e72
                  simp only [Act.put, List.setIfInBounds_toArray, List.set_cons_succ, List.set_cons_zero]
                  clear hsA hsx hv hbase hsz hdf hf
                  have HST6 := Lib.hid hS
                  have htm : t < mk := htm
                  clear hS
                  go_upto_region 14 with fail
                  have hwt : IntKind.i64.wrap ((t : Int) + 1) = ((t + 1 : Nat) : Int) := by rw [IntWalk.i64_in _ (by omega)]; omega
                  obtain ⟨t1, ht1⟩ : ∃ t1, t + 1 = t1 := ⟨_, rfl⟩
                  rw [ht1] at hwt
                  have ht1l : t1 ≤ 1000001 := by omega
                  obtain ⟨l7, hl7⟩ : ∃ l7, l5 ++ numB t1 = l7 := ⟨_, rfl⟩
                  have HL7 := Lib.hid hl7
                  have HDR2 : Hid (pkArms (pkWriteR E m) X (met1, l2) = pkArms (pkWriteR E m) (X.drop (k + 1)) (mk, l7)) := by
                    show _ = _
                    rw [HDR.out, pkArms, if_pos (by simp only; omega), Int.toNat_natCast]
                    congr 2
                    rw [← hl7, ← HL5.out, ← ht1]
                    simp
                  clear hl7 ht1
                  refine wp_region_st (by kernel_rfl) (Vs [fun v _ => v = .pointer (some ⟨g, 0, none⟩), fun v _ => v = .pointer (some ⟨g, 0, none⟩), fun v _ => v = .pointer (some ⟨g, 0, none⟩), fun v _ => v = .pointer (some ⟨g, 1, none⟩), fun v _ => v = .slice ya l5.length yc, fun v _ => v = .pointer (some ⟨gA, 1, none⟩), fun v _ => v = .int .i64 (t : Int), fun v _ => v = .int .i64 (t1 : Int), RowBs (.slice ya l5.length yc) (numB t1), fun u W => FR wW B g aD E.length cD ((gA, #[.int .u8 (c : Int), .int .i64 (t : Int)], 56) :: ((gN, #[.bool false, .slice aX X.length cX], 53) :: XB)) (.slice ya l5.length yc) u l7 mk W, fun v _ => v = .pointer (some ⟨g, 0, none⟩), fun v _ => v = .pointer (some ⟨g, 1, none⟩)]) (Xs [Ext, Ext, Ext, Ext, Ext, Ext, Ext, Ext, Ext, (fun w w' => w.grownBy w' (Value.slice ya l5.length yc).ownBlock), Ext, Ext]) (fun fL => (fun b1 W => FRT wW B g aD E.length cD ((gA, #[.int .u8 (c : Int), .int .i64 (t : Int)], 56) :: ((gN, #[.bool false, .slice aX X.length cX], 53) :: XB)) (.slice ya l5.length yc) l5 mk b1 W) (fL 9)) [0, 0, 2, 6, 14, 0, 32, 96, 224, 510, 1, 1025] 98 12 (by kernel_rfl) rfl ?hV ?hS ?hop ?hfin ?hlast
                  case hV =>
                    refine xs_stays (vs_stays (by simp only [List.mem_cons, List.not_mem_nil, or_false, forall_eq_or_imp, forall_eq]; exact ⟨stays_const _, stays_const _, stays_const _, stays_const _, stays_const _, stays_const _, stays_const _, stays_const _, rowBs_stays _ _, FR.stays _ _ _ _ _ _ _ _ _ _, stays_const _, stays_const _⟩)) ?_
                    exact ⟨.inl rfl, .inl rfl, .inl rfl, .inl rfl, .inl rfl, .inl rfl, .inl rfl, .inl rfl, .inl rfl, .inr (staysM_all ⟨fun _ _ => fun _ _ _ h _ => h, fun _ _ => fun _ _ _ h _ => h, fun _ _ => fun _ _ _ h _ => h, fun _ _ => fun _ _ _ h _ => h, fun _ _ => fun _ _ _ h _ => h, fun _ _ => fun _ _ _ h _ => h, fun _ _ => fun _ _ _ h _ => h, fun _ _ => fun _ _ _ h _ => h, fun _ _ => rowBs_grown _ _, fun h => absurd rfl h, fun _ _ => fun _ _ _ h _ => h, fun _ _ => fun _ _ _ h _ => h, trivial⟩), .inl rfl, .inl rfl, trivial⟩
                  case hS =>
                    intro fL hf
                    show (fun b1 W => FRT wW B g aD E.length cD ((gA, #[.int .u8 (c : Int), .int .i64 (t : Int)], 56) :: ((gN, #[.bool false, .slice aX X.length cX], 53) :: XB)) (.slice ya l5.length yc) l5 mk b1 W) (fL 9) _
                    rw [hf 9 (by decide)]
                    exact FRT.ext false _ _ HST6.out (Below.refl _ _).drew
                  case hop =>
                    refine ⟨?_, ?_, ?_, ?_, ?_, ?_, ?_, ?_, ?c8, ?c9, ?_, ?_, ?_, trivial⟩
                    all_goals first | rw [if_neg (by decide)] | rw [if_pos (by decide)]
                    all_goals try exact True.intro
                    all_goals try intro ac W fL hsz hfi hms hdn hS0 hdep hbase hund
                    all_goals try have hS : (fun b1 W => FRT wW B g aD E.length cD ((gA, #[.int .u8 (c : Int), .int .i64 (t : Int)], 56) :: ((gN, #[.bool false, .slice aX X.length cX], 53) :: XB)) (.slice ya l5.length yc) l5 mk b1 W) (fL 9) W := hS0
                    all_goals try (have hfl9 : fL 9 = true := hms 9 (by decide); rw [hfl9] at hS)
                    all_goals try (have hfl9 : fL 9 = false := (by first | exact hfi | exact hdn 9 (by decide) (by decide)); rw [hfl9] at hS)
                    all_goals try (
                      try
                        have hfr : FR wW B g aD E.length cD ((gA, #[.int .u8 (c : Int), .int .i64 (t : Int)], 56) :: ((gN, #[.bool false, .slice aX X.length cX], 53) :: XB)) (.slice ya l5.length yc) (.slice ya l5.length yc) l5 mk W := hS
                        obtain ⟨c0, c1, c2⟩ := cells3' hfr.rep
                        obtain ⟨a0, a1⟩ := cells2 hfr.head)
                    all_goals try (have h0 : ac.tmps.getD 0 undef = .pointer (some ⟨g, 0, none⟩) := hbase 0 (by kernel_rfl); have hh0 := h0; rw [Array.getD_eq_getD_getElem?] at hh0)
                    all_goals try (have h7 : ac.tmps.getD 7 undef = .pointer (some ⟨gA, 0, none⟩) := hbase 7 (by kernel_rfl); have hh7 := h7; rw [Array.getD_eq_getD_getElem?] at hh7)
                    all_goals try (have d86 : ac.tmps.getD 86 undef = .pointer (some ⟨g, 0, none⟩) := hdep 0 (by decide); have dd86 := d86; rw [Array.getD_eq_getD_getElem?] at dd86)
                    all_goals try (have d87 : ac.tmps.getD 87 undef = .pointer (some ⟨g, 0, none⟩) := hdep 1 (by decide); have dd87 := d87; rw [Array.getD_eq_getD_getElem?] at dd87)
                    all_goals try (have d88 : ac.tmps.getD 88 undef = .pointer (some ⟨g, 0, none⟩) := hdep 2 (by decide); have dd88 := d88; rw [Array.getD_eq_getD_getElem?] at dd88)
                    all_goals try (have d89 : ac.tmps.getD 89 undef = .pointer (some ⟨g, 1, none⟩) := hdep 3 (by decide); have dd89 := d89; rw [Array.getD_eq_getD_getElem?] at dd89)
                    all_goals try (have d90 : ac.tmps.getD 90 undef = .slice ya l5.length yc := hdep 4 (by decide); have dd90 := d90; rw [Array.getD_eq_getD_getElem?] at dd90)
                    all_goals try (have d91 : ac.tmps.getD 91 undef = .pointer (some ⟨gA, 1, none⟩) := hdep 5 (by decide); have dd91 := d91; rw [Array.getD_eq_getD_getElem?] at dd91)
                    all_goals try (have d92 : ac.tmps.getD 92 undef = .int .i64 (t : Int) := hdep 6 (by decide); have dd92 := d92; rw [Array.getD_eq_getD_getElem?] at dd92)
                    all_goals try (have d93 : ac.tmps.getD 93 undef = .int .i64 (t1 : Int) := hdep 7 (by decide); have dd93 := d93; rw [Array.getD_eq_getD_getElem?] at dd93)
                    all_goals try have d94 : (RowBs (.slice ya l5.length yc) (numB t1)) (ac.tmps.getD 94 undef) W := hdep 8 (by decide)
                    all_goals try (have d96 : ac.tmps.getD 96 undef = .pointer (some ⟨g, 0, none⟩) := hdep 10 (by decide); have dd96 := d96; rw [Array.getD_eq_getD_getElem?] at dd96)
                    all_goals try clear hbase hdep hms hdn hund
                    case c8 =>
                      have hS1 : (fun b1 W => FRT wW B g aD E.length cD ((gA, #[.int .u8 (c : Int), .int .i64 (t : Int)], 56) :: ((gN, #[.bool false, .slice aX X.length cX], 53) :: XB)) (.slice ya l5.length yc) l5 mk b1 W) ((upd fL 8) 9) W := hS0
                      refine opOk_run rfl (.inr ⟨39, #[.int .i64 (t1 : Int)], W, by (clear hsz hS hS0 hS1 hfi; simp [go_sem, Act.eval, *]), ?_⟩)
                      refine (rnumber_any 5 t1 W (by omega) (by omega)).mono ?_
                      rintro e w' ⟨u, he, ho, hb⟩
                      exact ⟨u, he, rowBs_new hfr.own ho (numB_ne _), hb, (show (fun b1 W => FRT wW B g aD E.length cD ((gA, #[.int .u8 (c : Int), .int .i64 (t : Int)], 56) :: ((gN, #[.bool false, .slice aX X.length cX], 53) :: XB)) (.slice ya l5.length yc) l5 mk b1 W) ((upd fL 8) 9) _ by
                        rw [show upd fL 8 9 = fL 9 from if_neg (by decide)]
                        exact FRT.ext _ _ _ hS0 hb)⟩
                    case c9 =>
                      obtain ⟨ad, c9, e9, hsrc⟩ := d94.src (numB_ne _)
                      refine opOk_run rfl ((opres_append_g rowU8_ok (.tmp 90) (.tmp 94) rfl (eval_tmp d90) hfr.own ad c9 (numB t1) (eval_tmp e9) hsrc (by have := numB_len5 (n := t1) (by omega); omega) hfr.size).mono ?_)
                      rintro va' w' ⟨ho, hgr, hat⟩
                      refine ⟨hfr.grow (by rw [← HL7.out]; exact ho) hgr, hgr, ?_⟩
                      show FRT wW B g aD E.length cD ((gA, #[.int .u8 (c : Int), .int .i64 (t : Int)], 56) :: ((gN, #[.bool false, .slice aX X.length cX], 53) :: XB)) (.slice ya l5.length yc) l5 mk (upd fL 9 9) w'
                      rw [show upd fL 9 9 = true from if_pos rfl]
                      trivial
                    all_goals (refine opOk_run rfl (.inl ⟨_, W, ?_, rfl, Ext.refl _, hS0⟩); clear hsz hS hS0 hfi; simp [go_sem, Act.eval, *]; done)
                  case hfin =>
                    intro h; exact absurd h (by decide)
                  case hlast =>
                    intro _ ac W hsz hdf fL hf hS0 hv hbase
                    have hS : (fun b1 W => FRT wW B g aD E.length cD ((gA, #[.int .u8 (c : Int), .int .i64 (t : Int)], 56) :: ((gN, #[.bool false, .slice aX X.length cX], 53) :: XB)) (.slice ya l5.length yc) l5 mk b1 W) (fL 9) W := hS0
                    clear hS0
                    rw [hf 9 (by decide)] at hS
                    have hst : ac.tmps.getD 97 undef = .pointer (some ⟨g, 1, none⟩) := hv 11 (by decide)
                    have hnv : FR wW B g aD E.length cD ((gA, #[.int .u8 (c : Int), .int .i64 (t : Int)], 56) :: ((gN, #[.bool false, .slice aX X.length cX], 53) :: XB)) (.slice ya l5.length yc) (ac.tmps.getD 95 undef) l7 mk W := hv 9 (by decide)
                    obtain ⟨ya, yc, hya, -, -⟩ := hnv.own.form
                    rw [hya] at hnv
                    obtain ⟨e0, e1, e2⟩ := cells3' hnv.rep
                    refine wpOp_store rfl rfl rfl rfl (eval_tmp hst) (eval_tmp hya) (by simp [World.frozen?, hnv.rep]) e1 (by kernel_rfl) ?_
                    have hst3 := hnv.put
                    obtain ⟨w3, hw3⟩ : ∃ w3, W.setCell ⟨g, 1, none⟩ (.slice ya l7.length yc) = w3 := ⟨_, rfl⟩
                    rw [hw3] at hst3 ⊢
                    have HST3 := Lib.hid hst3
                    clear hS hnv hw3 hst hst3 e0 e1 e2
                    obtain ⟨sx, hsx, hsA⟩ := act_puts [86, 87, 88, 89, 90, 91, 92, 93, 94, 95, 96, 97] (by kernel_rfl) hsz hdf hbase
                    clear hya
                    rw [hsA]
                    simp only [List.foldl]
                    simp only [Act.put, List.setIfInBounds_toArray, List.set_cons_succ, List.set_cons_zero]
                    clear hsA hsx hv hbase hsz hdf hf
                    have HST9 := Lib.hid HST3.out.drop
                    clear HST3
                    go_wp2
                    go_roundw
                    case rel => exact ⟨k + 1, l7, mk, _, by omega, by go_num, HST9.out, by omega, HDR2.out⟩
                    case measure => simp [intOf]; omega
              · have hcb : (mk : Int) ≤ (t : Int) := by omega
                go_upto_region 11 with fail
                refine wp_region_st (by kernel_rfl) (Vs [fun v _ => v = .pointer (some ⟨gA, 1, none⟩), fun v _ => v = .int .i64 (t : Int), fun v _ => v = .pointer (some ⟨g, 0, none⟩), fun v _ => v = .pointer (some ⟨g, 0, none⟩), fun v _ => v = .pointer (some ⟨g, 2, none⟩), fun v _ => v = .int .i64 (mk : Int), fun v _ => v = .bool true]) (Xs [Ext, Ext, Ext, Ext, Ext, Ext, Ext]) (fun fL => (fun W => FR wW B g aD E.length cD ((gA, #[.int .u8 (c : Int), .int .i64 (t : Int)], 56) :: ((gN, #[.bool false, .slice aX X.length cX], 53) :: XB)) (.slice ya l5.length yc) (.slice ya l5.length yc) l5 mk W) ) [0, 1, 0, 4, 12, 28, 63] 98 7 (by kernel_rfl) rfl ?hV ?hS ?hop ?hfin ?hlast
                case hV =>
                  refine xs_stays (vs_stays (by simp only [List.mem_cons, List.not_mem_nil, or_false, forall_eq_or_imp, forall_eq]; exact ⟨stays_const _, stays_const _, stays_const _, stays_const _, stays_const _, stays_const _, stays_const _⟩)) ?_
                  exact ⟨.inl rfl, .inl rfl, .inl rfl, .inl rfl, .inl rfl, .inl rfl, .inl rfl, trivial⟩
                case hS =>
                  intro fL hf
                  show (fun W => FR wW B g aD E.length cD ((gA, #[.int .u8 (c : Int), .int .i64 (t : Int)], 56) :: ((gN, #[.bool false, .slice aX X.length cX], 53) :: XB)) (.slice ya l5.length yc) (.slice ya l5.length yc) l5 mk W)  _
                  exact HST5.out.go (Below.refl _ _).drew
                case hop =>
                  refine ⟨?_, ?_, ?_, ?_, ?_, ?_, ?_, trivial⟩
                  all_goals first | rw [if_neg (by decide)] | rw [if_pos (by decide)]
                  all_goals try intro ac W fL hsz hfi hms hdn hS0 hdep hbase hund
                  all_goals try have hS : (fun W => FR wW B g aD E.length cD ((gA, #[.int .u8 (c : Int), .int .i64 (t : Int)], 56) :: ((gN, #[.bool false, .slice aX X.length cX], 53) :: XB)) (.slice ya l5.length yc) (.slice ya l5.length yc) l5 mk W)  W := hS0
                  all_goals try (
                    obtain ⟨c0, c1, c2⟩ := cells3' hS.rep
                    obtain ⟨a0, a1⟩ := cells2 hS.head)
                  all_goals try (have h0 : ac.tmps.getD 0 undef = .pointer (some ⟨g, 0, none⟩) := hbase 0 (by kernel_rfl); have hh0 := h0; rw [Array.getD_eq_getD_getElem?] at hh0)
                  all_goals try (have h7 : ac.tmps.getD 7 undef = .pointer (some ⟨gA, 0, none⟩) := hbase 7 (by kernel_rfl); have hh7 := h7; rw [Array.getD_eq_getD_getElem?] at hh7)
                  all_goals try (have d66 : ac.tmps.getD 66 undef = .pointer (some ⟨gA, 1, none⟩) := hdep 0 (by decide); have dd66 := d66; rw [Array.getD_eq_getD_getElem?] at dd66)
                  all_goals try (have d67 : ac.tmps.getD 67 undef = .int .i64 (t : Int) := hdep 1 (by decide); have dd67 := d67; rw [Array.getD_eq_getD_getElem?] at dd67)
                  all_goals try (have d68 : ac.tmps.getD 68 undef = .pointer (some ⟨g, 0, none⟩) := hdep 2 (by decide); have dd68 := d68; rw [Array.getD_eq_getD_getElem?] at dd68)
                  all_goals try (have d69 : ac.tmps.getD 69 undef = .pointer (some ⟨g, 0, none⟩) := hdep 3 (by decide); have dd69 := d69; rw [Array.getD_eq_getD_getElem?] at dd69)
                  all_goals try (have d70 : ac.tmps.getD 70 undef = .pointer (some ⟨g, 2, none⟩) := hdep 4 (by decide); have dd70 := d70; rw [Array.getD_eq_getD_getElem?] at dd70)
                  all_goals try (have d71 : ac.tmps.getD 71 undef = .int .i64 (mk : Int) := hdep 5 (by decide); have dd71 := d71; rw [Array.getD_eq_getD_getElem?] at dd71)
                  all_goals try clear hbase hdep hms hdn hund
                  all_goals (refine opOk_run rfl (.inl ⟨_, W, ?_, rfl, Ext.refl _, hS0⟩); clear hsz hS hS0 hfi; simp [go_sem, Act.eval, *]; done)
                case hlast =>
                  intro h; exact absurd rfl h
                case hfin =>
                  intro _ ac W hsz hdf fL hf hS0 hv hbase
                  have hS : (fun W => FR wW B g aD E.length cD ((gA, #[.int .u8 (c : Int), .int .i64 (t : Int)], 56) :: ((gN, #[.bool false, .slice aX X.length cX], 53) :: XB)) (.slice ya l5.length yc) (.slice ya l5.length yc) l5 mk W)  W := hS0
                  clear hS0
                  obtain ⟨sx, hsx, hsA⟩ := act_puts [66, 67, 68, 69, 70, 71, 72] (by kernel_rfl) hsz hdf hbase
                  have e72 : sx 72 = .bool true := (hsx 72).trans (hv 6 (by decide))
                  rw [hsA]
                  simp only [List.foldl]
                  rw [e72]
                  clear e72
                  simp only [Act.put, List.setIfInBounds_toArray, List.set_cons_succ, List.set_cons_zero]
                  clear hsA hsx hv hbase hsz hdf hf
                  have HST6 := Lib.hid hS
                  obtain ⟨c0, c1, c2⟩ := cells3' hS.rep
                  have f1 : W.frozen? ⟨g, 1, none⟩ = false := by simp [World.frozen?, hS.rep]
                  have hgl : g < W.heap.size := (Array.getElem?_eq_some_iff.1 hS.rep).1
                  have hgAl : gA < W.heap.size := (Array.getElem?_eq_some_iff.1 hS.head).1
                  have hx1 : Below W.heap.size W (W.alloc (.cells #[.int .u8 0] 5)) := (Below.refl _ _).alloc (Nat.le_refl _) _
                  have HX1 := Lib.hid hx1
                  have HFR7 := Lib.hid (hS.go hx1)
                  have h9 : (W.alloc (.cells #[.int .u8 0] 5)).heap[W.heap.size]? = some (.cells #[.int .u8 ((UInt8.ofNat 0).toNat : Int)] 5 (0, 0)) := heap_alloc_new _ _
                  have H9 := Lib.hid h9
                  clear hS hx1 h9
                  go_upto_region 13 with (first | (at_builtin; go_loud (refine wpList_append_g rowU8_ok rfl _ _ rfl rfl HFR7.out.own ⟨W.heap.size, 0, none⟩ 1 [UInt8.ofNat 0] rfl (cells_built H9.out) (by simp only [List.length_singleton]; omega) (by simp only [World.size_alloc]; have := HST6.out.size; omega) ?_); intro v7 w7 hown7 hg7 hat7; obtain ⟨l7, hl7⟩ : ∃ l7, l5 ++ [UInt8.ofNat 0] = l7 := ⟨_, rfl⟩; rw [hl7] at hown7; have HL7 := Lib.hid hl7; have hfr7 := HFR7.out.grow hown7 hg7; obtain ⟨va7, vc7, hv7, -, -⟩ := hown7.form; subst hv7; obtain ⟨b0, b1, b2⟩ := cells3' hfr7.rep; have f7 : w7.frozen? ⟨g, 1, none⟩ = false := (by simp [World.frozen?, hfr7.rep]); have HFR8 := Lib.hid hfr7; clear hl7 hown7 hg7 hat7 hfr7))
                  have hst8 := HFR8.out.put
                  obtain ⟨w8, hw8⟩ : ∃ w8, w7.setCell ⟨g, 1, none⟩ (.slice va7 l7.length vc7) = w8 := ⟨_, rfl⟩
                  rw [hw8] at hst8 ⊢
                  have HST8 := Lib.hid hst8
                  have HDR2 : Hid (pkArms (pkWriteR E m) X (met1, l2) = pkArms (pkWriteR E m) (X.drop (k + 1)) (pkWriteR E m t (mk, l7))) := by
                    show _ = _
                    rw [HDR.out, pkArms, if_neg (by simp only; omega), Int.toNat_natCast]
                    congr 2
                    rw [← HL7.out, ← HL5.out, numB_zero]
                    simp
                    try rfl
                  have hfl : (pkWriteR E m t (mk, l7)).2.length ≤ 800000 := by
                    have h := pkArmsR_le E m (X.drop (k + 1)) (pkWriteR E m t (mk, l7))
                    rw [← HDR2.out] at h
                    have := HFIN.out
                    omega
                  have HCALL := Lib.hid (HIH.out t gg _ _ l7 mk w8 HMT.out HSG.out (by omega) hfl HST8.out)
                  obtain ⟨a0, a1⟩ := cells2 HST8.out.head
                  have hME : (pkWriteR E m t (mk, l7)).1 ≤ E.length := pkWriteR_met E E.length HTN.out m t (mk, l7) (by omega) (by simp only; omega)
                  clear hst8 hw8 c0 c1 c2 f1 b0 b1 b2 f7 hfl hgl hgAl HFR8 HFR7 HX1 H9 HST6
                  go_wp2_with fail
                  refine HCALL.out.mono ?_
                  rintro e w9 ⟨rfl, v9, hst9⟩
                  have HST9 := Lib.hid hst9.drop
                  have HM9 := Lib.hid hME
                  clear HCALL hst9 a0 a1 hME HST8
                  obtain ⟨⟨m9, l9⟩, hq9⟩ : ∃ q9, pkWriteR E m t (mk, l7) = q9 := ⟨_, rfl⟩
                  rw [hq9] at HST9 HM9 HDR2
                  go_wp2
                  go_roundw
                  case rel => exact ⟨k + 1, l9, m9, v9, by omega, by go_num, HST9.out, HM9.out, HDR2.out⟩
                  case measure => simp [intOf]; omega
          · have hkX : X.drop k = [] := List.drop_eq_nil_of_le (by omega)
            have HR : Hid (pkArms (pkWriteR E m) X (met1, l2) = (mk, lk)) := by show _ = _; rw [HPK.out, hkX, pkArms]
            have HF := Lib.hid hst.drop
            clear hkX hst
            go_wp2
            refine bodyPost_ret (results_none rfl _ _ _) rfl ?_
            rw [HR.out]
            exact ⟨rfl, _, HF.out⟩
end Go.Proofs.YtocdljmdmiphnaaDoor
/- Pack: Pack, the program's and the reference's. -/
namespace Go.Proofs.YtocdljmdmiphnaaDoor
open Go.RowKit Go.WideShapes
set_option linter.unusedVariables false
set_option linter.unusedSimpArgs false

/-- a valid automaton of few nodes and arcs: its table and its form's size -/
theorem valid_small {D : List Nd} (h : validF D = true) (hl : sizeN D ≤ 20000) : ∃ L Mt, Dict L ∧ D = ofF (restAt 0 L) ∧ wordsF D = L ∧ GTab Mt D ∧ Mt[0]? = some (restAt 0 L) ∧ (∀ s ∈ restAt 0 L, s.length < 21) ∧ (formB D).length ≤ 40000 := by
  obtain ⟨L, hd, e, hw⟩ := valid_dict h
  obtain ⟨Mt, h1, h2⟩ := of_tab hd.okR.1 hd.okR.2
  refine ⟨L, Mt, hd, e, hw, by rw [e]; exact h1, h2, hd.okR.2, ?_⟩
  have h3 := (form_len hd).2
  rw [← e] at h3
  have := (sizeN_M D).1
  omega
theorem one_own {w : World} : ∀ j u, ([UInt8.ofNat 0].flatMap rowU8.enc)[j]? = some u → (w.alloc (.cells #[.int .u8 0] 5)).cell? ((⟨w.heap.size, 0, none⟩ : Addr).add j) = some u :=
  cells_built (heap_alloc_new w (.cells #[.int .u8 0] 5))
def PkRes (B : Nat) (D : List Nd) (c : List Int) (e : Ending) (w' : World) : Prop :=
  (validF D = false ∧ e = .returned (.tuple #[.slice none 0 0, .int .i64 90])) ∨ (validF D = true ∧ cntD (wordsF D).length c = false ∧ e = .returned (.tuple #[.slice none 0 0, .int .i64 1])) ∨
  (validF D = true ∧ cntD (wordsF D).length c = true ∧ ∃ v, e = .returned (.tuple #[v, .int .i64 0]) ∧ OwnG rowU8 w' B v (packB D c))
theorem cnt_small {D : List Nd} {c : List Int} (h : cntD (wordsF D).length c = true) : c.length ≤ 200 ∧ (∀ x ∈ c, 0 ≤ x ∧ x ≤ 1073741824) ∧ (cntB c).length ≤ 1000 := by
  obtain ⟨h1, h2⟩ := cntD_iff.1 h
  have h3 := cntB_len5 h2
  have := wordsF_len D
  exact ⟨by omega, h2, by omega⟩
theorem cntB_pre {c : List Int} {k : Nat} : (cntB (c.take k)).length ≤ (cntB c).length := by
  have : cntB c = cntB (c.take k) ++ cntB (c.drop k) := by unfold cntB; rw [← List.flatMap_append, List.take_append_drop]
  rw [this, List.length_append]; omega
set_option maxHeartbeats 3200000 in
set_option maxRecDepth 100000 in
theorem pack_any (D : List Nd) (nD cD : Nat) (aD : Option Addr) (c : List Int) (n cap : Nat) (a : Option Addr) (w : World) (hD : DawgS w aD D) (hnD : nD = D.length) (hnD2 : sizeN D ≤ 20000) (hCs : CsOk D) (hC : IntS w a c) (hn : n = c.length) (hl : n ≤ 9223372036854775807) (hT : Tab w) :
    Calls Tryd.prog 13 #[.slice aD nD cD, .slice a n cap] w fun e w' => PkRes w.heap.size D c e w' ∧ Below w.heap.size w w' := by
  have hs0 := Since.refl w
  have HC := Lib.hid hC; have HN := Lib.hid hn; have HD := Lib.hid hD; have HND := Lib.hid hnD; have HT := Lib.hid hT; have HS := Lib.hid hs0
  have hn126 : nD ≤ 20000 := by have := (sizeN_M D).2; omega
  clear hC hn hD hnD hT hs0
  go_enter Tryd.func13, Tryd.ntmps13
  by_cases hv : validF D = true
  · have HV := Lib.hid hv
    go_wp2_with fail
    refine (valid_n D nD aD cD w HND.out HD.out (by omega) hCs HT.out).mono ?_
    rintro e w1 ⟨he, hb⟩
    rw [hv] at he
    subst he
    replace HD := Lib.hid (HD.out.go hb); replace HS := Lib.hid (HS.out.go hb)
    clear hb
    clear hv HT
    go_wp2_with fail
    refine (areCounts_any (wordsF D) D nD cD aD c n cap a w1 HD.out HND.out (by omega) hCs rfl (HC.out.go HS.out.out) HN.out hl).mono ?_
    rintro e w2 ⟨he, hb⟩
    replace HD := Lib.hid (HD.out.go hb); replace HS := Lib.hid (HS.out.go hb)
    clear hb
    by_cases hc : cntD (wordsF D).length c = true
    · rw [hc] at he
      subst he
      obtain ⟨L, Mt, hd, hDe, hw, hgt, h0, hs21, hfl⟩ := valid_small HV.out hnD2
      obtain ⟨hc200, hcx, hcl⟩ := cnt_small hc
      have HCX := Lib.hid hcx; have HCT := Lib.hid hc; have HG := Lib.hid hgt; have H0 := Lib.hid h0; have HS21 := Lib.hid hs21
      clear hc hDe hd hw hgt h0 hs21 hcx
      go_wp2_with fail
      refine (form_any D Mt _ nD aD cD w2 HG.out H0.out HS21.out HD.out HND.out (by omega) (by have := HND.out; omega)).mono ?_
      rintro e w3 ⟨v3, rfl, ho, hb⟩
      have HO := Lib.hid (ho.mono HS.out.out.size)
      replace HS := Lib.hid (HS.out.go hb)
      clear hb ho HD HG H0 HS21
      go_wp2
      go_loopw [20, 6] (fun q v wr => ∃ k : Nat, k ≤ n ∧ q = .int .i64 (k : Int) ∧ OwnG rowU8 wr w.heap.size v (formB D ++ cntB (c.take k)) ∧ Since w wr) (fun q _ _ => n - (intOf q).toNat)
      case atStart => exact ⟨0, Nat.zero_le _, rfl, by rw [List.take_zero]; show OwnG _ _ _ _ (formB D ++ []); rw [List.append_nil]; exact HO.out, HS.out⟩
      case round =>
        obtain ⟨k, hk, rfl, ho, hS⟩ := hrel
        have HOk := Lib.hid ho; have HSk := Lib.hid hS
        clear ho hS
        have hcp := cntB_pre (c := c) (k := k)
        have hl9 : (formB D ++ cntB (c.take k)).length ≤ 41000 := by rw [List.length_append]; omega
        have HL9 := Lib.hid hl9
        clear hcp hl9
        by_cases hlt : k < n
        · have hkl : k < c.length := by have := HN.out; omega
          obtain ⟨b, o, ha, hb, q0⟩ := (HC.out.go HSk.out.out).at hkl
          have hidx := idx_ints a b o n cap k ha hlt
          obtain ⟨hx0, hx1⟩ := HCX.out c[k] (List.getElem_mem hkl)
          have HSU := Lib.hid (cntB_succ hkl)
          obtain ⟨x, hx⟩ : ∃ x, c[k] = x := ⟨_, rfl⟩
          rw [hx] at q0 hx0 hx1 HSU
          clear ha hx
          go_wp2_with fail
          refine (number_any w.heap.size _ _ x wr HOk.out HSk.out.out.size hx0 (by omega) (by have := HL9.out; omega)).mono ?_
          rintro e w4 ⟨v4, rfl, ho4, hg4⟩
          have HO4 := Lib.hid ho4
          have HS4 : Hid (Since w w4) := ⟨HSk.out.out.trans (hg4.below HSk.out.out.size HOk.out.ge)⟩
          clear ho4 hg4 q0
          go_wp2
          go_roundw
          case rel => exact ⟨k + 1, by omega, by go_num, by rw [HSU.out, ← List.append_assoc]; exact HO4.out, HS4.out⟩
          case measure => simp [intOf]; omega
        · have hkn : c.take k = c := List.take_of_length_le (by have := HN.out; omega)
          have ho := HOk.out
          rw [hkn] at ho
          have HB := Lib.hid ho
          clear ho hkn
          obtain ⟨bd, hbd⟩ : ∃ bd, formB D ++ cntB c = bd := ⟨_, rfl⟩
          have HBD : Hid (packB D c = padB bd ++ sumB (padB bd)) := by show _ = _; unfold packB dataB bodyB; rw [hbd]
          rw [hbd] at HB
          have hbl : bd.length ≤ 41000 := by rw [← hbd, List.length_append]; omega
          obtain ⟨va, vc, hva, -, -⟩ := HB.out.form
          subst hva
          clear hbd HOk HL9
          have hmod : (bd.length : Int).tmod 2 = ((bd.length % 2 : Nat) : Int) := Int.ofNat_tmod bd.length 2
          rcases Nat.mod_two_eq_zero_or_one bd.length with hz | hz
          · rw [hz] at hmod
            have HPD : Hid (padB bd = bd) := by show _ = _; unfold padB; rw [if_pos hz]
            clear hz
            go_wp2_with fail
            refine (sum_any bd bd.length va vc wr HB.out.byts.1 rfl (by omega)).mono ?_
            rintro e w5 ⟨g5, rfl, ho5, hb5⟩
            have HB5 := Lib.hid (HB.out.later hb5 (Nat.le_refl _))
            have HSRC := Lib.hid (cells_byts ho5.byts.1)
            have HS5 := Lib.hid (HSk.out.go hb5)
            have hz5 := HS5.out.out.size
            clear ho5 hb5
            go_wp2_with (first | (at_builtin; go_loud (refine wpList_app rowU8_ok rfl _ _ rfl rfl HB5.out ⟨g5, 0, none⟩ 4 (sumB bd) (by rw [sumB_len]; rfl) HSRC.out (by rw [sumB_len]; omega) (by omega) ?_); intro v6 w6 hown6 hg6; have HO6 := Lib.hid hown6; have HG6 := Lib.hid hg6; clear hown6 hg6))
            go_ret2
            refine ⟨.inr (.inr ⟨HV.out, HCT.out, v6, rfl, ?_⟩), HS5.out.out.trans (HG6.out.below hz5 HB5.out.ge)⟩
            rw [HBD.out, HPD.out]
            exact HO6.out
          · rw [hz] at hmod
            have HPD : Hid (padB bd = bd ++ [0]) := by show _ = _; unfold padB; rw [if_neg (by omega)]
            have hxA : Below wr.heap.size wr (wr.alloc (.cells #[.int .u8 0] 5)) := (Below.refl _ wr).alloc (Nat.le_refl _) _
            have HXA := Lib.hid hxA
            have hzr := HSk.out.out.size
            clear hz hxA
            go_upto_region 13 with (first | (at_builtin; go_loud (refine wpList_app rowU8_ok rfl _ _ rfl rfl (HB.out.later HXA.out (Nat.le_refl _)) ⟨wr.heap.size, 0, none⟩ 1 [UInt8.ofNat 0] rfl one_own (by simp only [List.length_singleton]; omega) (by simp only [World.size_alloc]; omega) ?_); intro v4 w4 hown4 hg4; have HG4 := Lib.hid (GrowV.pre HXA.out hg4); obtain ⟨l4, hl4⟩ : ∃ l4, bd ++ [UInt8.ofNat 0] = l4 := ⟨_, rfl⟩; rw [hl4] at hown4; have HL4 := Lib.hid hl4; obtain ⟨va4, vc4, hv4, -, -⟩ := hown4.form; subst hv4; have HO4 := Lib.hid hown4; clear hown4 hg4 hl4))
            have HS4 : Hid (Since w w4) := ⟨HSk.out.out.trans (HG4.out.below HSk.out.out.size HB.out.ge)⟩
            have hl4l : l4.length ≤ 41001 := by rw [← HL4.out]; simp; omega
            go_wp2_with fail
            refine (sum_any l4 l4.length va4 vc4 w4 HO4.out.byts.1 rfl (by omega)).mono ?_
            rintro e w5 ⟨g5, rfl, ho5, hb5⟩
            have HB5 := Lib.hid (HO4.out.later hb5 (Nat.le_refl _))
            have HSRC := Lib.hid (cells_byts ho5.byts.1)
            have HS5 := Lib.hid (HS4.out.go hb5)
            have hz5 := HS5.out.out.size
            clear ho5 hb5
            go_wp2_with (first | (at_builtin; go_loud (refine wpList_app rowU8_ok rfl _ _ rfl rfl HB5.out ⟨g5, 0, none⟩ 4 (sumB l4) (by rw [sumB_len]; rfl) HSRC.out (by rw [sumB_len]; omega) (by omega) ?_); intro v6 w6 hown6 hg6; have HO6 := Lib.hid hown6; have HG6 := Lib.hid hg6; clear hown6 hg6))
            go_ret2
            refine ⟨.inr (.inr ⟨HV.out, HCT.out, v6, rfl, ?_⟩), HS5.out.out.trans (HG6.out.below hz5 HB5.out.ge)⟩
            rw [HBD.out, HPD.out, show bd ++ [0] = l4 from HL4.out]
            exact HO6.out
    · have hc' : cntD (wordsF D).length c = false := by simpa using hc
      rw [hc'] at he
      subst he
      have HCT := Lib.hid hc'
      clear hc hc'
      go_wp2
      go_ret2
      exact ⟨.inr (.inl ⟨HV.out, HCT.out, rfl⟩), HS.out.out⟩
  · have hv' : validF D = false := by simpa using hv
    have HV := Lib.hid hv'
    go_wp2_with fail
    refine (valid_n D nD aD cD w HND.out HD.out (by omega) hCs HT.out).mono ?_
    rintro e w1 ⟨he, hb⟩
    rw [hv'] at he
    subst he
    replace HS := Lib.hid (HS.out.go hb)
    clear hb
    clear hv hv' HT
    go_wp2
    go_ret2
    exact ⟨.inl ⟨HV.out, rfl⟩, HS.out.out⟩
end Go.Proofs.YtocdljmdmiphnaaDoor
/- Pack: the reference's Pack. -/
namespace Go.Proofs.YtocdljmdmiphnaaDoor
open Go.RowKit Go.WideShapes
set_option linter.unusedVariables false
set_option linter.unusedSimpArgs false

theorem listed_v {D : List Nd} {L : List ByteArray} (hd : Dict L) (hDe : D = ofF (restAt 0 L)) (n : Nat) (a : Option Addr) (c : Nat) (w : World) (hD : DawgS w a D) (hn : n = D.length) (hDl : n ≤ 9223372036854775807) (hC : CsOk D) :
    Calls Tryd.prog 36 #[.slice a n c] w fun e w' => ∃ a1 c1, e = .returned (.tuple #[.slice a1 L.length c1, .bool true]) ∧ Below w.heap.size w w' := by
  subst hn
  refine (listed_any D a c w hD hDl hC).mono ?_
  rintro e w1 ⟨a1, c1, rfl, _, hb⟩
  obtain ⟨h1, h2⟩ := listed_of hd
  rw [← hDe] at h1 h2
  rw [h1, h2]
  have h4 : (restAt 0 L).length = L.length := by simp [restAt]
  exact ⟨a1, c1, by rw [h4], hb⟩
theorem fr_new (w : World) (aD : Option Addr) (nD cD : Nat) : FR w w.heap.size w.heap.size aD nD cD [] (.slice none 0 0) (.slice none 0 0) [] 0 (w.alloc (.cells #[.slice aD nD cD, .slice none 0 0, .int .i64 0] 82)) :=
  ⟨heap_alloc_new _ _, OwnG.nil _ _ _, (Below.refl _ _).alloc (Nat.le_refl _) _, Nat.le_refl _, fun p hp => by cases hp⟩
set_option maxHeartbeats 3200000 in
set_option maxRecDepth 100000 in
theorem rpack_any (D : List Nd) (nD cD : Nat) (aD : Option Addr) (c : List Int) (n cap : Nat) (a : Option Addr) (w : World) (hD : DawgS w aD D) (hnD : nD = D.length) (hnD2 : sizeN D ≤ 20000) (hCs : CsOk D) (hC : IntS w a c) (hn : n = c.length) (hl : n ≤ 9223372036854775807) :
    Calls Tryd.prog 14 #[.slice aD nD cD, .slice a n cap] w fun e w' => PkRes w.heap.size D c e w' ∧ Below w.heap.size w w' := by
  have hs0 := Since.refl w
  have HC := Lib.hid hC; have HN := Lib.hid hn; have HD := Lib.hid hD; have HND := Lib.hid hnD; have HS := Lib.hid hs0
  have hn126 : nD ≤ 20000 := by have := (sizeN_M D).2; omega
  clear hC hn hD hnD hs0
  go_enter Tryd.func14, Tryd.ntmps14
  by_cases hv : validF D = true
  · have HV := Lib.hid hv
    obtain ⟨L, Mt, hd, hDe, hw, hgt, h0, hs21, hfl⟩ := valid_small hv hnD2
    have HG := Lib.hid hgt; have H0 := Lib.hid h0; have HS21 := Lib.hid hs21; have HDE := Lib.hid hDe; have HW := Lib.hid hw
    have hl200 := hd.2.1
    clear hgt h0 hs21 hDe hw
    go_wp2_with fail
    refine (rvalid_n D nD aD cD w HND.out HD.out (by omega) hCs).mono ?_
    rintro e w1 ⟨he, hb⟩
    rw [hv] at he
    subst he
    replace HD := Lib.hid (HD.out.go hb); replace HS := Lib.hid (HS.out.go hb)
    clear hb
    clear hv
    go_wp2_with fail
    refine (listed_v hd HDE.out nD aD cD w1 HD.out HND.out (by omega) hCs).mono ?_
    rintro e w2 ⟨a2, c2, rfl, hb⟩
    replace HD := Lib.hid (HD.out.go hb); replace HS := Lib.hid (HS.out.go hb)
    clear hb
    go_wp2_with fail
    refine (rcounts_any c n L.length cap a w2 (HC.out.go HS.out.out) HN.out hl (by omega)).mono ?_
    rintro e w3 ⟨he, hb⟩
    replace HD := Lib.hid (HD.out.go hb); replace HS := Lib.hid (HS.out.go hb)
    clear hb
    by_cases hc : cntD L.length c = true
    · rw [hc] at he
      subst he
      have hc' : cntD (wordsF D).length c = true := by rw [HW.out]; exact hc
      obtain ⟨hc200, hcx, hcl⟩ := cnt_small hc'
      have HCX := Lib.hid hcx; have HCT := Lib.hid hc'
      clear hc hcx hc'
      have hf := (form_of (okN := fun _ => true) (okK := fun _ => true) (fun _ _ => rfl) (fun _ _ => rfl) hd).wr []
      rw [← HDE.out, List.nil_append] at hf
      have hfr := fr_new w3 aD nD cD
      have HX3 : Hid (Since w (w3.alloc (.cells #[.slice aD nD cD, .slice none 0 0, .int .i64 0] 82))) := HS.out.go hfr.bl
      have hcall := rform_any w3 w3.heap.size w3.heap.size aD cD D Mt HG.out (Nat.le_refl _) HD.out (by have := HND.out; omega) 21 0 _ [] (.slice none 0 0) [] 0 (w3.alloc (.cells #[.slice aD nD cD, .slice none 0 0, .int .i64 0] 82)) H0.out HS21.out (Nat.zero_le _) (by rw [hf]; simp only; omega) (by rw [← HND.out]; exact hfr)
      rw [hf, ← HND.out] at hcall
      have HCALL := Lib.hid hcall
      have hz3 := HS.out.out.size
      clear hcall hf hfr HG H0 HS21
      go_wp2_with fail
      refine HCALL.out.mono ?_
      rintro e w4 ⟨rfl, v4, hfr4⟩
      obtain ⟨va4, vc4, hv4, -, -⟩ := hfr4.own.form
      subst hv4
      obtain ⟨q0, q1, q2⟩ := cells3' hfr4.rep
      have HO := Lib.hid (hfr4.own.mono hz3)
      have HS4 : Hid (Since w w4) := ⟨HS.out.out.trans (hfr4.bl.mono hz3)⟩
      clear HCALL hfr4 HX3 HD
      go_wp2
      clear q0 q1 q2
      go_loopw [11, 10] (fun q v wr => ∃ k : Nat, k ≤ n ∧ q = .int .i64 (k : Int) ∧ OwnG rowU8 wr w.heap.size v (formB D ++ cntB (c.take k)) ∧ Since w wr) (fun q _ _ => n - (intOf q).toNat)
      case atStart => exact ⟨0, Nat.zero_le _, rfl, by rw [List.take_zero]; show OwnG _ _ _ _ (formB D ++ []); rw [List.append_nil]; exact HO.out, HS4.out⟩
      case round =>
        clear HO HS4 HS
        obtain ⟨k, hk, rfl, ho, hS⟩ := hrel
        have HOk := Lib.hid ho; have HSk := Lib.hid hS
        clear ho hS
        have hcp := cntB_pre (c := c) (k := k)
        have hl9 : (formB D ++ cntB (c.take k)).length ≤ 41000 := by rw [List.length_append]; omega
        have HL9 := Lib.hid hl9
        clear hcp hl9
        by_cases hlt : k < n
        · have hkl : k < c.length := by have := HN.out; omega
          obtain ⟨b, o, ha, hb, q0⟩ := (HC.out.go HSk.out.out).at hkl
          have hidx := idx_ints a b o n cap k ha hlt
          obtain ⟨hx0, hx1⟩ := HCX.out c[k] (List.getElem_mem hkl)
          have HSU := Lib.hid (cntB_succ hkl)
          obtain ⟨x, hx⟩ : ∃ x : Nat, c[k] = (x : Int) := Int.eq_ofNat_of_zero_le hx0
          rw [hx] at q0 hx0 hx1 HSU
          have hnx : numZ (x : Int) = numB x := by unfold numZ; rw [Int.toNat_natCast]
          rw [hnx] at HSU
          clear ha hx hnx
          go_wp2_with fail
          refine (rnumber_any 5 x wr (by omega) (by omega)).mono ?_
          rintro e w5 ⟨v5, rfl, ho5, hb5⟩
          obtain ⟨ad, c5, rfl, hsrc⟩ := ho5.bsrc (numB_ne x)
          have HSRC := Lib.hid hsrc
          have HO5 := Lib.hid (HOk.out.later hb5 (Nat.le_refl _))
          have HS5 := Lib.hid (HSk.out.go hb5)
          have hz5 := HS5.out.out.size
          have hnl := numB_len5 (n := x) (by omega)
          have HNL := Lib.hid hnl
          clear ho5 hb5 hsrc hnl q0
          go_wp2_with (first | (at_builtin; go_loud (refine wpList_app rowU8_ok rfl _ _ rfl rfl HO5.out ad c5 (numB x) rfl HSRC.out (by have := HL9.out; have := HNL.out; omega) (by omega) ?_); intro v6 w6 hown6 hg6; have HO6 := Lib.hid hown6; have HG6 := Lib.hid hg6; clear hown6 hg6))
          go_roundw
          case rel => exact ⟨k + 1, by omega, by go_num, by rw [HSU.out, ← List.append_assoc]; exact HO6.out, ⟨HS5.out.out.trans (HG6.out.below hz5 HO5.out.ge)⟩⟩
          case measure => simp [intOf]; omega
        · have hkn : c.take k = c := List.take_of_length_le (by have := HN.out; omega)
          have ho := HOk.out
          rw [hkn] at ho
          have HB := Lib.hid ho
          clear ho hkn
          obtain ⟨bd, hbd⟩ : ∃ bd, formB D ++ cntB c = bd := ⟨_, rfl⟩
          have HBD : Hid (packB D c = padB bd ++ sumB (padB bd)) := by show _ = _; unfold packB dataB bodyB; rw [hbd]
          rw [hbd] at HB
          have hbl : bd.length ≤ 41000 := by rw [← hbd, List.length_append]; omega
          obtain ⟨va, vc, hva, -, -⟩ := HB.out.form
          subst hva
          clear hbd HOk HL9
          have hmod : (bd.length : Int).tmod 2 = ((bd.length % 2 : Nat) : Int) := Int.ofNat_tmod bd.length 2
          rcases Nat.mod_two_eq_zero_or_one bd.length with hz | hz
          · rw [hz] at hmod
            have HPD : Hid (padB bd = bd) := by show _ = _; unfold padB; rw [if_pos hz]
            clear hz
            go_wp2_with fail
            refine (rsum_any bd bd.length va vc wr HB.out.byts.1 rfl (by omega)).mono ?_
            rintro e w5 ⟨g5, rfl, ho5, hb5⟩
            have HB5 := Lib.hid (HB.out.later hb5 (Nat.le_refl _))
            have HSRC := Lib.hid (cells_byts ho5.byts.1)
            have HS5 := Lib.hid (HSk.out.go hb5)
            have hz5 := HS5.out.out.size
            clear ho5 hb5
            go_wp2_with (first | (at_builtin; go_loud (refine wpList_app rowU8_ok rfl _ _ rfl rfl HB5.out ⟨g5, 0, none⟩ 4 (sumB bd) (by rw [sumB_len]; rfl) HSRC.out (by rw [sumB_len]; omega) (by omega) ?_); intro v6 w6 hown6 hg6; have HO6 := Lib.hid hown6; have HG6 := Lib.hid hg6; clear hown6 hg6))
            go_ret2
            refine ⟨.inr (.inr ⟨HV.out, HCT.out, v6, rfl, ?_⟩), HS5.out.out.trans (HG6.out.below hz5 HB5.out.ge)⟩
            rw [HBD.out, HPD.out]
            exact HO6.out
          · rw [hz] at hmod
            have HPD : Hid (padB bd = bd ++ [0]) := by show _ = _; unfold padB; rw [if_neg (by omega)]
            have hxA : Below wr.heap.size wr (wr.alloc (.cells #[.int .u8 0] 5)) := (Below.refl _ wr).alloc (Nat.le_refl _) _
            have HXA := Lib.hid hxA
            have hzr := HSk.out.out.size
            clear hz hxA
            go_upto_region 16 with (first | (at_builtin; go_loud (refine wpList_app rowU8_ok rfl _ _ rfl rfl (HB.out.later HXA.out (Nat.le_refl _)) ⟨wr.heap.size, 0, none⟩ 1 [UInt8.ofNat 0] rfl one_own (by simp only [List.length_singleton]; omega) (by simp only [World.size_alloc]; omega) ?_); intro v4 w4 hown4 hg4; have HG4 := Lib.hid (GrowV.pre HXA.out hg4); obtain ⟨l4, hl4⟩ : ∃ l4, bd ++ [UInt8.ofNat 0] = l4 := ⟨_, rfl⟩; rw [hl4] at hown4; have HL4 := Lib.hid hl4; obtain ⟨va4, vc4, hv4, -, -⟩ := hown4.form; subst hv4; have HO4 := Lib.hid hown4; clear hown4 hg4 hl4))
            have HS4 : Hid (Since w w4) := ⟨HSk.out.out.trans (HG4.out.below HSk.out.out.size HB.out.ge)⟩
            have hl4l : l4.length ≤ 41001 := by rw [← HL4.out]; simp; omega
            go_wp2_with fail
            refine (rsum_any l4 l4.length va4 vc4 w4 HO4.out.byts.1 rfl (by omega)).mono ?_
            rintro e w5 ⟨g5, rfl, ho5, hb5⟩
            have HB5 := Lib.hid (HO4.out.later hb5 (Nat.le_refl _))
            have HSRC := Lib.hid (cells_byts ho5.byts.1)
            have HS5 := Lib.hid (HS4.out.go hb5)
            have hz5 := HS5.out.out.size
            clear ho5 hb5
            go_wp2_with (first | (at_builtin; go_loud (refine wpList_app rowU8_ok rfl _ _ rfl rfl HB5.out ⟨g5, 0, none⟩ 4 (sumB l4) (by rw [sumB_len]; rfl) HSRC.out (by rw [sumB_len]; omega) (by omega) ?_); intro v6 w6 hown6 hg6; have HO6 := Lib.hid hown6; have HG6 := Lib.hid hg6; clear hown6 hg6))
            go_ret2
            refine ⟨.inr (.inr ⟨HV.out, HCT.out, v6, rfl, ?_⟩), HS5.out.out.trans (HG6.out.below hz5 HB5.out.ge)⟩
            rw [HBD.out, HPD.out, show bd ++ [0] = l4 from HL4.out]
            exact HO6.out
    · have hc' : cntD L.length c = false := by simpa using hc
      rw [hc'] at he
      subst he
      rw [← HW.out] at hc'
      have HCT := Lib.hid hc'
      clear hc hc'
      go_wp2
      go_ret2
      exact ⟨.inr (.inl ⟨HV.out, HCT.out, rfl⟩), HS.out.out⟩
  · have hv' : validF D = false := by simpa using hv
    have HV := Lib.hid hv'
    go_wp2_with fail
    refine (rvalid_n D nD aD cD w HND.out HD.out (by omega) hCs).mono ?_
    rintro e w1 ⟨he, hb⟩
    rw [hv'] at he
    subst he
    replace HS := Lib.hid (HS.out.go hb)
    clear hb
    clear hv hv'
    go_wp2
    go_ret2
    exact ⟨.inl ⟨HV.out, rfl⟩, HS.out.out⟩
end Go.Proofs.YtocdljmdmiphnaaDoor
