
/- Pack: the reference's Unpack. -/
import Derived.Test.YtocdljmdmiphnaaDoorPQ
namespace Go.Proofs.YtocdljmdmiphnaaDoor
open Go.RowKit Go.WideShapes
set_option linter.unusedVariables false
set_option linter.unusedSimpArgs false

/-! ### Unpack -/
theorem RK.dawg {wW w : World} {B gR : Nat} {bb bs : Wd} {bad : Bool} {vn : Value} {N : List NV} {D : List Nd} (h : RK wW B gR bb bs bad vn N D w) (hl : RdOk D) : ∃ a c, vn = .slice a D.length c ∧ D.length ≤ c ∧ DawgS w a D := by
  rcases h.own.blk with ⟨rfl, h0⟩ | ⟨g, c, rfl, h1, h2, h3⟩
  · have : D = [] := List.eq_nil_of_length_eq_zero (by rw [← h.len, h0]; rfl)
    subst this
    exact ⟨none, 0, rfl, Nat.le_refl _, DawgS.nil _ _⟩
  · have hn := h.len
    refine ⟨some ⟨g, 0, none⟩, c, by rw [hn], by omega, fun k hk => ?_⟩
    have hkN : k < N.length := by omega
    obtain ⟨hf, hr⟩ := h.arcs k hkN hk
    have c0 : w.cell? ⟨g, k * 2, none⟩ = some (.bool N[k].fin) := h.own.cell rowNode_ok (i := k) (j := 0) hkN (by decide)
    have c1 : w.cell? ⟨g, k * 2 + 1, none⟩ = some (.slice N[k].a N[k].n N[k].c) := h.own.cell rowNode_ok (i := k) (j := 1) hkN (by decide)
    obtain ⟨hA, hl2, _⟩ := hr.arcs
    have hk1 := (hl _ (List.getElem_mem hk)).1
    exact ⟨g, 0, rfl, h2, by rw [Nat.zero_add, c0, hf], N[k].a, N[k].c, by rw [Nat.zero_add, c1, hl2], by omega, hA⟩
/-- other blocks than the reader's change -/
theorem RK.keep {wW w w1 : World} {B gR : Nat} {bb bs : Wd} {bad : Bool} {vn : Value} {N : List NV} {D : List Nd} (h : RK wW B gR bb bs bad vn N D w)
    (hk : ∀ (q : Nat) (cs : Array Value) (t : TypeId), w.heap[q]? = some (Obj.cells cs t (0, 0)) → (t = 87 ∨ t = 53 ∨ t = 56) → w1.heap[q]? = w.heap[q]?) (hb : Below B w w1) : RK wW B gR bb bs bad vn N D w1 := by
  obtain ⟨ar, cr, p, hrep, h2⟩ := h.rr
  refine ⟨⟨ar, cr, p, (hk _ _ _ hrep (.inl rfl)).trans hrep, h2⟩, h.own.keep fun q hq => ?_, h.len, fun k k1 k2 => ⟨(h.arcs k k1 k2).1, (h.arcs k k1 k2).2.keep fun q hq => ?_⟩, h.dis, h.bl.trans hb, h.hg⟩
  · obtain ⟨cs, hc⟩ := h.own.obj hq
    exact hk _ _ _ hc (.inr (.inl rfl))
  · obtain ⟨cs, hc⟩ := (h.arcs k k1 k2).2.obj hq
    exact hk _ _ _ hc (.inr (.inr rfl))
theorem okT_le (k : Nat) (h : k ≤ 1073741824) : okT k = true := rfl
theorem okR_le (k : Nat) (h : k ≤ 125) : okR k = true := decide_eq_true (by omega)
theorem unp_short {bs : Wd} (h : bs.length < 4) : unpF bs = none := no_sum fun h4 => by omega
theorem unp_node {bs : Wd} (h : rdNode okT okR 21 (bs.take (bs.length - 4)) 0 = none) : unpF bs = none := no_read okT_le okR_le (by unfold readF; rw [h])
theorem unp_val {bs r : Wd} {D : List Nd} (h : rdNode okT okR 21 (bs.take (bs.length - 4)) 0 = some (r, D)) (hv : validF D = false) : unpF bs = none := no_read okT_le okR_le (by
  unfold readF; rw [h]; simp only
  rw [if_neg (by rw [hv]; decide)])
theorem unp_nums {bs r : Wd} {D : List Nd} (h : rdNode okT okR 21 (bs.take (bs.length - 4)) 0 = some (r, D)) (hv : validF D = true) (hn : rdNums okT (wordsF D).length r = none) : unpF bs = none := no_read okT_le okR_le (by
  unfold readF; rw [h]; simp only
  rw [if_pos hv, hn])
theorem unp_read {bs r r2 : Wd} {D : List Nd} {c : List Int} (h : rdNode okT okR 21 (bs.take (bs.length - 4)) 0 = some (r, D)) (hv : validF D = true) (hn : rdNums okT (wordsF D).length r = some (c, r2)) : unpF bs = if cntD (wordsF D).length c = true ∧ packB D c = bs then some (D, c) else none := by
  by_cases hc : cntD (wordsF D).length c = true ∧ packB D c = bs
  · rw [if_pos hc]
    exact unpF_yes (isPack_of hv hc.1 hc.2)
  · rw [if_neg hc]
    refine no_again okT_le okR_le (D := D) (c := c) (by unfold readF; rw [h]; simp only; rw [if_pos hv, hn]) fun hp => hc ?_
    obtain ⟨-, h2, h3⟩ := isPack_cnt hp
    exact ⟨h2, h3⟩
/-- the counts, as they are read -/
def CntI (m : Nat) (b1 : Wd) (k : Nat) (bd : Bool) (c : List Int) (bj : Wd) : Prop := if bd = true then rdNums okT m b1 = none else rdNums okT k b1 = some (c, bj)
theorem cntI_next {m k t : Nat} {b1 bj r : Wd} {bd b2 : Bool} {c : List Int} (h : CntI m b1 k bd c bj) (hk : k < m) (hn : After bd b2 (rdNum okT bj) t r) : CntI m b1 (k + 1) b2 (c ++ [(t : Int)]) r := by
  cases bd with
  | true =>
    cases b2 with
    | true => exact (if_pos rfl).mpr ((if_pos rfl).mp h)
    | false => have := ((if_neg (by decide)).mp hn).1; cases this
  | false =>
    have h1 := (if_neg (by decide)).mp h
    cases b2 with
    | true =>
      refine (if_pos rfl).mpr ?_
      rcases (if_pos rfl).mp hn with h3 | h3
      · cases h3
      · exact rdNums_no h1 h3 hk
    | false => exact (if_neg (by decide)).mpr (rdNums_step h1 ((if_neg (by decide)).mp hn).2)
noncomputable def pkF (D : List Nd) (c : List Int) : Wd × Int := if validF D = false then ([], 90) else if cntD (wordsF D).length c = false then ([], 1) else (packB D c, 0)
theorem pkF_no {D : List Nd} {c : List Int} (h : validF D = false) : pkF D c = ([], 90) := if_pos h
theorem pkF_cnt {D : List Nd} {c : List Int} (h : validF D = true) (h2 : cntD (wordsF D).length c = false) : pkF D c = ([], 1) := by unfold pkF; rw [if_neg (by rw [h]; decide), if_pos h2]
theorem pkF_yes {D : List Nd} {c : List Int} (h : validF D = true) (h2 : cntD (wordsF D).length c = true) : pkF D c = (packB D c, 0) := by unfold pkF; rw [if_neg (by rw [h]; decide), if_neg (by rw [h2]; decide)]
theorem pkRes_form {B : Nat} {D : List Nd} {c : List Int} {e : Ending} {w : World} (h : PkRes B D c e w) : ∃ a n k, e = .returned (.tuple #[.slice a n k, .int .i64 (pkF D c).2]) ∧ ByS w a n k (pkF D c).1 := by
  rcases h with ⟨h1, he⟩ | ⟨h1, h2, he⟩ | ⟨h1, h2, v, he, ho⟩
  · rw [pkF_no h1]
    exact ⟨none, 0, 0, he, BytS.nil _ _, rfl, Nat.le_refl _⟩
  · rw [pkF_cnt h1 h2]
    exact ⟨none, 0, 0, he, BytS.nil _ _, rfl, Nat.le_refl _⟩
  · rw [pkF_yes h1 h2]
    obtain ⟨a, k, rfl, hb⟩ := ho.byS
    exact ⟨a, _, k, he, hb⟩
theorem set3_ne {w : World} {g q : Nat} {x y z : Value} (h : q ≠ g) : (((w.setCell ⟨g, 0, none⟩ x).setCell ⟨g, 1, none⟩ y).setCell ⟨g, 2, none⟩ z).heap[q]? = w.heap[q]? := by
  rw [Below.heap_setCell _ _ _ _ h, Below.heap_setCell _ _ _ _ h, Below.heap_setCell _ _ _ _ h]
theorem store3 {w : World} {g : Nat} {a b c x y z : Value} {t : TypeId} (h : w.heap[g]? = some (.cells #[a, b, c] t (0, 0))) : (((w.setCell ⟨g, 0, none⟩ x).setCell ⟨g, 1, none⟩ y).setCell ⟨g, 2, none⟩ z).heap[g]? = some (.cells #[x, y, z] t (0, 0)) := by
  have h1 : (w.setCell ⟨g, 0, none⟩ x).heap[g]? = some (.cells #[x, b, c] t (0, 0)) := set_one h rfl
  have h2 : ((w.setCell ⟨g, 0, none⟩ x).setCell ⟨g, 1, none⟩ y).heap[g]? = some (.cells #[x, y, c] t (0, 0)) := set_one h1 rfl
  exact set_one h2 rfl
theorem store3_below {w w0 : World} {B g : Nat} {x y z : Value} (h : Below B w0 w) (hB : B ≤ g) : Below B w0 (((w.setCell ⟨g, 0, none⟩ x).setCell ⟨g, 1, none⟩ y).setCell ⟨g, 2, none⟩ z) := ((h.setCell (p := ⟨g, 0, none⟩) hB _).setCell (p := ⟨g, 1, none⟩) hB _).setCell (p := ⟨g, 2, none⟩) hB _
/-- the two boxes of results -/
structure UB (w : World) (g : Nat) : Prop where
  c0 : w.heap[g]? = some (.cells #[.slice none 0 0, .slice none 0 0, .int .i64 0] 40 (0, 0))
  c1 : w.heap[g + 1]? = some (.cells #[.slice none 0 0, .slice none 0 0, .int .i64 100] 40 (0, 0))
theorem UB.keep {w w1 : World} {g : Nat} (h : UB w g) (hk : ∀ q, q ≤ g + 1 → g ≤ q → w1.heap[q]? = w.heap[q]?) : UB w1 g := ⟨(hk g (by omega) (by omega)).trans h.c0, (hk (g + 1) (by omega) (by omega)).trans h.c1⟩
theorem UB.go {w w1 : World} {g : Nat} (h : UB w g) (hb : Below w.heap.size w w1) : UB w1 g := ⟨(hb.block _ (heap_lt' h.c0)).trans h.c0, (hb.block _ (heap_lt' h.c1)).trans h.c1⟩
theorem UB.facts {w : World} {g : Nat} (h : UB w g) : (w.cell? ⟨g, 0, none⟩ = some (.slice none 0 0) ∧ w.cell? ⟨g, 1, none⟩ = some (.slice none 0 0) ∧ w.cell? ⟨g, 2, none⟩ = some (.int .i64 0)) ∧ (w.cell? ⟨g + 1, 0, none⟩ = some (.slice none 0 0) ∧ w.cell? ⟨g + 1, 1, none⟩ = some (.slice none 0 0) ∧ w.cell? ⟨g + 1, 2, none⟩ = some (.int .i64 100)) ∧ w.frozen? ⟨g, 0, none⟩ = false ∧ w.frozen? ⟨g, 1, none⟩ = false ∧ w.frozen? ⟨g, 2, none⟩ = false :=
  ⟨cells3' h.c0, cells3' h.c1, by simp [World.frozen?, h.c0], by simp [World.frozen?, h.c0], by simp [World.frozen?, h.c0]⟩
set_option maxHeartbeats 6400000 in
set_option maxRecDepth 100000 in
theorem runpack_any (bs : Wd) (n : Nat) (a : Option Addr) (cap : Nat) (w : World) (hB : BytS w a bs) (hn : n = bs.length) (hcap : n ≤ cap) (hl : n ≤ 20000) :
    Calls Tryd.prog 19 #[.slice a n cap] w fun e w' => ∃ v, e = .returned v ∧ UnpV w' (unpF bs) v ∧ Below w.heap.size w w' := by
  have HB := Lib.hid hB; have HN := Lib.hid hn
  obtain ⟨w0, hw0⟩ : ∃ w0, w.alloc (.cells #[.slice none 0 0, .slice none 0 0, .int .i64 0] 40) = w0 := ⟨_, rfl⟩
  obtain ⟨w1, hw1⟩ : ∃ w1, w0.alloc (.cells #[.slice none 0 0, .slice none 0 0, .int .i64 100] 40) = w1 := ⟨_, rfl⟩
  have hX0 : Below w.heap.size w w0 := by rw [← hw0]; exact below_new _ _
  have hX1 : Below w0.heap.size w0 w1 := by rw [← hw1]; exact below_new _ _
  obtain ⟨g, hg⟩ : ∃ g, w.heap.size = g := ⟨_, rfl⟩
  have hz0 : w0.heap.size = g + 1 := by rw [← hw0, World.size_alloc, hg]
  have hz1 : w1.heap.size = g + 2 := by rw [← hw1, World.size_alloc, hz0]
  have hub : UB w1 g := ⟨by
      rw [hX1.block g (by omega), ← hw0, ← hg]; exact heap_alloc_new _ _, by
      rw [← hw1, ← hz0]; exact heap_alloc_new _ _⟩
  have hbl : Below w.heap.size w w1 := hX0.trans (hX1.mono (by omega))
  have HUB := Lib.hid hub; have HBL := Lib.hid hbl
  have HGQ : Hid (w.heap.size ≤ g) := Nat.le_of_eq hg
  have HW := Lib.hid hz1
  clear hX0 hX1 hub hbl hB hn hz1
  go_enter Tryd.func19, Tryd.ntmps19
  by_cases h4 : n < 4
  · have h4I : (n : Int) < 4 := by omega
    have HNO : Hid (unpF bs = none) := unp_short (by have := HN.out; omega)
    have HUBQ := HUB; have HNQ := HNO; have HBLQ := HBL
    obtain ⟨⟨u0, u1, u2⟩, ⟨v0, v1, v2⟩, z0, z1, z2⟩ := HUBQ.out.facts
    go_wp2
    refine bodyPost_ret (results_cell_row rfl _ _ g 40 #[.slice none 0 0, .slice none 0 0, .int .i64 100] (0, 0) _ rfl (store3 HUBQ.out.c0) Tryd.underlying40 rfl (by kernel_rfl)) rfl ?_
    exact ⟨_, rfl, by rw [HNQ.out]; rfl, store3_below HBLQ.out HGQ.out⟩
  · have h4I : ¬ (n : Int) < 4 := by omega
    have hw4 : IntKind.i64.wrap ((n : Int) - 4) = ((n - 4 : Nat) : Int) := by rw [IntWalk.i64_in _ (by omega)]; omega
    have hlow := slice_low_u8 a n cap (n - 4) (by omega)
    go_upto_region 5 with fail
    obtain ⟨bb, hbb⟩ : ∃ bb, bs.take (bs.length - 4) = bb := ⟨_, rfl⟩
    have HBB := Lib.hid hbb
    have hbbl : bb.length = n - 4 := by rw [← hbb, List.length_take]; have := HN.out; omega
    obtain ⟨w2, hw2⟩ : ∃ w2, w1.alloc (.cells #[.slice a (n - 4) cap, .int .i64 0, .bool false, .slice none 0 0] 87) = w2 := ⟨_, rfl⟩
    have hX2 : Below w1.heap.size w1 w2 := by rw [← hw2]; exact below_new _ _
    have hbx : w2.heap[w1.heap.size]? = some (.cells #[.slice a bb.length cap, .int .i64 ((0 : Nat) : Int), .bool false, .slice none 0 0] 87 (0, 0)) := by rw [← hw2, hbbl]; exact heap_alloc_new _ _
    have hub2 := HUB.out.go hX2
    have hbl2 : Below w.heap.size w w2 := HBL.out.trans (hX2.mono HBL.out.size)
    have hgR2 : w.heap.size ≤ w1.heap.size := HBL.out.size
    obtain ⟨gR, hgR⟩ : ∃ gR, w1.heap.size = gR := ⟨_, rfl⟩
    rw [hgR] at hbx hgR2
    rw [hw2, hgR]
    have hgRg : gR = g + 2 := by rw [← hgR]; exact HW.out
    have hrk : RK w w.heap.size gR bb bb false (.slice none 0 0) [] [] w2 :=
      ⟨⟨a, cap, 0, hbx, by rw [← hbb]; exact HB.out.take _, by omega, Nat.zero_le _, rfl⟩, OwnG.nil _ _ _, rfl, fun k h => by simp at h, fun j k h => by simp at h, hbl2, hgR2⟩
    have HCALL := Lib.hid (nodeQ_any w w.heap.size gR bb (Nat.le_refl _) hgR2 (by omega) 21 0 bb false _ [] [] w2 rfl (by simp only [List.length_nil]; omega) hrk)
    have HUB2 := Lib.hid hub2
    have hgl2 : gR < w2.heap.size := heap_lt' hbx
    have HGR := Lib.hid hgRg; have HBBL := Lib.hid hbbl
    clear hX2 hbx hub2 hbl2 hrk hw2 hgR hbb hlow hw4 HUB HBL HW hgRg hbbl hw0 hw1 hg hz0
    go_wp2_with fail
    refine HCALL.out.mono ?_
    rintro e w3 ⟨rfl, r, b', vn, E, nw, hrk3, hfr3, -, -, hlen3, haf3⟩
    rw [List.nil_append, List.nil_append] at hrk3
    have hgRg := HGR.out
    have hbbl := HBBL.out
    have hub3 := HUB2.out.keep (w1 := w3) fun q h1 h2 => hfr3.block q (by omega) (by omega) (fun e => by cases e)
    have hbb20 : bb.length ≤ 20000 := by omega
    clear hgRg hbbl
    have HUB3 := Lib.hid hub3; have HRK3 := Lib.hid hrk3; have HBL3 := Lib.hid hrk3.bl
    obtain ⟨-, -, c2, f2⟩ := hrk3.failed
    clear hub3 hrk3 hfr3 HCALL HUB2
    cases b' with
    | true =>
      have HNO : Hid (unpF bs = none) := by
        show _ = _
        rcases (if_pos rfl).mp haf3 with h | h
        · cases h
        · exact unp_node (by rw [HBB.out]; exact h)
      clear haf3
      have HUBQ := HUB3; have HNQ := HNO; have HBLQ := HBL3
      obtain ⟨⟨u0, u1, u2⟩, ⟨v0, v1, v2⟩, z0, z1, z2⟩ := HUBQ.out.facts
      go_wp2
      refine bodyPost_ret (results_cell_row rfl _ _ g 40 #[.slice none 0 0, .slice none 0 0, .int .i64 100] (0, 0) _ rfl (store3 HUBQ.out.c0) Tryd.underlying40 rfl (by kernel_rfl)) rfl ?_
      exact ⟨_, rfl, by rw [HNQ.out]; rfl, store3_below HBLQ.out HGQ.out⟩
    | false =>
      obtain ⟨-, hrd⟩ := (if_neg (by decide)).mp haf3
      have hrd' : rdNode okT okR 21 bb 0 = some (r, nw) := hrd
      have hok := rdNode_ok 21 bb 0 r nw (by omega) hrd'
      have hszn := rdNode_size 21 bb 0 r nw hrd'
      have HRD : Hid (rdNode okT okR 21 (bs.take (bs.length - 4)) 0 = some (r, nw)) := by show _ = _; rw [HBB.out]; exact hrd'
      obtain ⟨aD, cD, hvn, hcD, hdw⟩ := HRK3.out.dawg hok
      subst hvn
      have hcs := hok.csOk
      have hsz9 : sizeN nw ≤ 20000 := by omega
      have hnl : nw.length ≤ 20000 := by have := (sizeN_M nw).2; omega
      obtain ⟨nD, hnD⟩ : ∃ nD, nw.length = nD := ⟨_, rfl⟩
      rw [hnD] at HRK3 hcD hnl
      have HND := Lib.hid hnD.symm; have HDW := Lib.hid hdw; have HCS := Lib.hid hcs; have HSZ := Lib.hid hsz9
      obtain ⟨ar3, cr3, p3, hrep3, -⟩ := id HRK3.out.rr
      obtain ⟨k0, k1, k2, k3⟩ := cells4 hrep3
      clear haf3 hrd hrd' hok hszn hdw hcs hsz9 hrep3 k0 k1 hnD
      go_wp2_with fail
      refine (rvalid_n nw nD aD cD w3 HND.out HDW.out (by omega) HCS.out).mono ?_
      rintro e w4 ⟨he, hb⟩
      have HUB4 := Lib.hid (HUB3.out.go hb); have HRK4 := Lib.hid (HRK3.out.go hb); have HDW4 := Lib.hid (HDW.out.go hb)
      have HBL4 := Lib.hid HRK4.out.bl
      clear hb k2 k3 c2 f2 HUB3 HRK3 HDW HBL3
      obtain ⟨ar3, cr3, p3, hrep3, -⟩ := id HRK4.out.rr
      obtain ⟨k0, k1, k2, k3⟩ := cells4 hrep3
      clear hrep3 k0 k1
      by_cases hv : validF nw = true
      · rw [hv] at he
        subst he
        obtain ⟨L, -, hd, hDe, hwL, -⟩ := valid_small hv HSZ.out
        have hl200 := hd.2.1
        have HV := Lib.hid hv; have HWL := Lib.hid hwL
        clear hv hwL
        go_wp2_with fail
        refine (listed_v hd hDe nD aD cD w4 HDW4.out HND.out (by omega) HCS.out).mono ?_
        rintro e w5 ⟨a5, c5, rfl, hb⟩
        have HUB5 := Lib.hid (HUB4.out.go hb); have HRK5 := Lib.hid (HRK4.out.go hb); have HDW5 := Lib.hid (HDW4.out.go hb)
        obtain ⟨m, hm⟩ : ∃ m, L.length = m := ⟨_, rfl⟩
        have HM : Hid ((wordsF nw).length = m) := by show _ = _; rw [HWL.out]; exact hm
        rw [hm] at hl200 ⊢
        clear hb hd hDe hm HUB4 HRK4 HDW4 k2 k3
        have hX5 := below_new w5 (.cells #[] 3)
        have H5 := Lib.hid (heap_alloc_new w5 (.cells #[] 3))
        have HZ5 := Lib.hid HRK5.out.bl.size
        have HRKA := Lib.hid (HRK5.out.go hX5); have HUBA := Lib.hid (HUB5.out.go hX5); have HDWA := Lib.hid (HDW5.out.go hX5)
        clear hX5
        go_wp2
        go_loopw [8, 7] (fun q v wr => ∃ (k : Nat) (c : List Int) (bj : Wd) (bd : Bool), k ≤ m ∧ q = .int .i64 (k : Int) ∧ c.length = k ∧ OwnG rowInt wr w.heap.size v c ∧ RK w w.heap.size gR bb bj bd (.slice aD nD cD) E nw wr ∧ UB wr g ∧ CntI m r k bd c bj) (fun q _ _ => m - (intOf q).toNat)
        case atStart => exact ⟨0, [], r, false, Nat.zero_le _, rfl, rfl, OwnG.empty rowInt H5.out HZ5.out, HRKA.out, HUBA.out, (if_neg (by decide)).mpr rfl⟩
        case round =>
          obtain ⟨k, c, bj, bd, hk, rfl, hck, hown, hrk, hub, hci⟩ := hrel
          have HO := Lib.hid hown; have HRK := Lib.hid hrk; have HUBR := Lib.hid hub; have HCI := Lib.hid hci; have HCK := Lib.hid hck
          clear hown hrk hub hci hck H5 HZ5 HRKA HUBA HDWA HRK5 HUB5 HDW5
          by_cases hlt : k < m
          · have HNU := Lib.hid (nu_any w w.heap.size gR bb bj bd _ wr (Nat.le_refl _) hgR2 HRK.out.bl (by omega) HRK.out.rr)
            go_wp2_with fail
            refine HNU.out.mono ?_
            rintro e w6 ⟨t, r6, b6, rfl, ht, hr6, hg6, hl6, haf6⟩
            have hcn := cntI_next HCI.out hlt haf6
            have hrk6 := HRK.out.rest hr6 hg6
            have hown6 := HO.out.grown hg6 fun q hq e => by
              injection e with e
              obtain ⟨cs, hc⟩ := HO.out.obj hq
              exact HRK.out.rr.ne hc (by decide) e
            have hub6 : UB w6 g := HUBR.out.keep fun q h1 h2 => hg6.block q (by
              have h3 := heap_lt' HUBR.out.c1
              omega) (fun e => by injection e with e; have := HGR.out; omega)
            have hx6 : Ext w6 (w6.alloc (.cells #[.int .i64 (t : Int)] 3)) := (Below.refl _ _).alloc (Nat.le_refl _) _
            have HO6 := Lib.hid (hown6.later hx6 (Nat.le_refl _)); have HRK6 := Lib.hid (hrk6.go hx6); have HUB6 := Lib.hid (hub6.go hx6); have HCN := Lib.hid hcn
            have HSZ6 := Lib.hid hrk6.size
            have HCL := Lib.hid (show c.length ≤ 200 by have := HCK.out; omega)
            clear hcn hrk6 hown6 hub6 hx6 hr6 hg6 haf6 HNU HRK HUBR HO HCI
            go_wp2_with (first | (at_builtin; go_loud (refine wpList_app rowInt_ok rfl _ _ rfl rfl HO6.out ⟨w6.heap.size, 0, none⟩ 1 [(t : Int)] rfl (cells_built (heap_alloc_new w6 (.cells #[.int .i64 (t : Int)] 3))) (by have := HCL.out; simp only [List.length_singleton]; omega) (by have := HSZ6.out; simp only [World.size_alloc]; omega) ?_); intro v7 w7 hown7 hg7; have HO7 := Lib.hid hown7; have HG7 := Lib.hid hg7; clear hown7 hg7))
            have hint : ∀ (q : Nat) (cs : Array Value) (t' : TypeId), (w6.alloc (.cells #[.int .i64 (t : Int)] 3)).heap[q]? = some (Obj.cells cs t' (0, 0)) → t' ≠ 3 → w7.heap[q]? = (w6.alloc (.cells #[.int .i64 (t : Int)] 3)).heap[q]? := fun q cs t' hq ht' => HG7.out.gr.block q (heap_lt' hq) fun e => by
              obtain ⟨c2, h2⟩ := HO6.out.obj e.symm
              exact cells_ne hq h2 ht' rfl
            have hb7 : Below w.heap.size (w6.alloc (.cells #[.int .i64 (t : Int)] 3)) w7 := HG7.out.below (by have := HSZ6.out; simp only [World.size_alloc]; omega) HO6.out.ge
            have HRK7 := Lib.hid (HRK6.out.keep (fun q cs t' hq ht' => hint q cs t' hq (by rcases ht' with h | h | h <;> rw [h] <;> decide)) hb7)
            have HUB7 : Hid (UB w7 g) := ⟨(hint _ _ _ HUB6.out.c0 (by decide)).trans HUB6.out.c0, (hint _ _ _ HUB6.out.c1 (by decide)).trans HUB6.out.c1⟩
            clear hint hb7 HG7 HO6 HRK6 HUB6 HSZ6 HCL
            go_roundw
            case rel => exact ⟨k + 1, c ++ [(t : Int)], r6, b6, by omega, by go_num, by rw [List.length_append, HCK.out]; rfl, HO7.out, HRK7.out, HUB7.out, HCN.out⟩
            case measure => simp [intOf]; omega
          · have hkm : k = m := by omega
            subst hkm
            obtain ⟨hok2⟩ : Nonempty (RdOk nw) := ⟨by
              have h := HRD.out
              rw [HBB.out] at h
              exact rdNode_ok 21 bb 0 r nw (by omega) h⟩
            obtain ⟨aD2, cD2, hvn2, hcD2, hdw2⟩ := HRK.out.dawg hok2
            injection hvn2 with e1 e2 e3
            subst e1 e3
            have HDWR := Lib.hid hdw2
            obtain ⟨ac, cc, hvc, hcc⟩ := HO.out.cntS
            subst hvc
            have hoi := HO.out
            have HCC := Lib.hid hcc
            have hcl200 : c.length ≤ 200 := by have := HCK.out; omega
            obtain ⟨ar3, cr3, p3, hrep3, -⟩ := id HRK.out.rr
            obtain ⟨k0, k1, k2, k3⟩ := cells4 hrep3
            obtain ⟨nc, hnc⟩ : ∃ nc, c.length = nc := ⟨_, rfl⟩
            rw [hnc] at HCC hcl200 hoi ⊢
            have HOI := Lib.hid hoi
            clear hoi
            have HNC := Lib.hid hnc.symm
            clear hok2 e2 hcD2 hdw2 hcc hrep3 k0 k1 HO hnc
            go_wp2_with fail
            refine (rpack_any nw nD cD aD c nc cc ac wr HDWR.out HND.out HSZ.out HCS.out HCC.out.ints HNC.out (by omega)).mono ?_
            rintro e w8 ⟨hr, hb⟩
            obtain ⟨a8, n8, k8, rfl, hB8⟩ := pkRes_form hr
            have HUB8 := Lib.hid (HUBR.out.go hb); have HRK8 := Lib.hid (HRK.out.go hb); have HO8 := Lib.hid (HOI.out.later hb (Nat.le_refl _))
            have HBL8 := Lib.hid HRK8.out.bl
            obtain ⟨ar3, cr3, p3, hrep3, -⟩ := id HRK8.out.rr
            obtain ⟨k0, k1, k2, k3⟩ := cells4 hrep3
            clear hb hr hrep3 k0 k1 HUBR HRK HDWR HCC HOI
            cases bd with
            | true =>
              have HNO : Hid (unpF bs = none) := unp_nums HRD.out HV.out (by rw [HM.out]; exact (if_pos rfl).mp HCI.out)
              clear hB8
              have HUBQ := HUB8; have HNQ := HNO; have HBLQ := HBL8
              obtain ⟨⟨u0, u1, u2⟩, ⟨v0, v1, v2⟩, z0, z1, z2⟩ := HUBQ.out.facts
              go_wp2
              refine bodyPost_ret (results_cell_row rfl _ _ g 40 #[.slice none 0 0, .slice none 0 0, .int .i64 100] (0, 0) _ rfl (store3 HUBQ.out.c0) Tryd.underlying40 rfl (by kernel_rfl)) rfl ?_
              exact ⟨_, rfl, by rw [HNQ.out]; rfl, store3_below HBLQ.out HGQ.out⟩
            | false =>
              have hrn : rdNums okT (wordsF nw).length r = some (c, bj) := by rw [HM.out]; exact (if_neg (by decide)).mp HCI.out
              have HUN := Lib.hid (unp_read HRD.out HV.out hrn)
              clear hrn
              cases hcn : cntD (wordsF nw).length c with
              | false =>
                have HNO : Hid (unpF bs = none) := by show _ = _; rw [HUN.out, if_neg (by rw [hcn]; simp)]
                rw [pkF_cnt HV.out hcn] at hB8 ⊢
                clear hB8 hcn
                have HUBQ := HUB8; have HNQ := HNO; have HBLQ := HBL8
                obtain ⟨⟨u0, u1, u2⟩, ⟨v0, v1, v2⟩, z0, z1, z2⟩ := HUBQ.out.facts
                go_wp2
                refine bodyPost_ret (results_cell_row rfl _ _ g 40 #[.slice none 0 0, .slice none 0 0, .int .i64 100] (0, 0) _ rfl (store3 HUBQ.out.c0) Tryd.underlying40 rfl (by kernel_rfl)) rfl ?_
                exact ⟨_, rfl, by rw [HNQ.out]; rfl, store3_below HBLQ.out HGQ.out⟩
              | true =>
                rw [pkF_yes HV.out hcn] at hB8 ⊢
                obtain ⟨l, hl9⟩ : ∃ l, packB nw c = l := ⟨_, rfl⟩
                have HL9 := Lib.hid hl9
                have hB9 : ByS w8 a8 n8 k8 l := by rw [← hl9]; exact hB8
                have hv1 := conv_byts w8 a8 n8 k8 l hB9.byts hB9.len
                have hv2 := conv_byts w8 a n cap bs (HB.out.go HBL8.out) HN.out
                have HCN := Lib.hid hcn
                clear hB8 hB9 hl9 hcn
                simp only
                by_cases hlb : l = bs
                · have hUS : unpF bs = some (nw, c) := by rw [HUN.out, if_pos ⟨HCN.out, by rw [HL9.out]; exact hlb⟩]
                  have HUS := Lib.hid hUS
                  subst hlb
                  obtain ⟨⟨u0, u1, u2⟩, -, z0, z1, z2⟩ := HUB8.out.facts
                  clear hUS
                  go_wp2
                  refine bodyPost_ret (results_cell_row rfl _ _ g 40 #[.slice aD nD cD, .slice ac nc cc, .int .i64 0] (0, 0) _ rfl (store3 HUB8.out.c0) Tryd.underlying40 rfl (by kernel_rfl)) rfl ?_
                  have hne : ∀ (q : Nat) (cs : Array Value) (t : TypeId), w8.heap[q]? = some (Obj.cells cs t (0, 0)) → t ≠ 40 → q ≠ g := fun q cs t hq ht => cells_ne hq HUB8.out.c0 ht
                  have hrk9 := HRK8.out.keep (w1 := (((w8.setCell ⟨g, 0, none⟩ (.slice aD nD cD)).setCell ⟨g, 1, none⟩ (.slice ac nc cc)).setCell ⟨g, 2, none⟩ (.int .i64 0))) (fun q cs t hq ht => set3_ne (hne q cs t hq (by rcases ht with h | h | h <;> rw [h] <;> decide))) (store3_below (Below.refl _ _) HGQ.out)
                  have ho9 := HO8.out.keep (w1 := (((w8.setCell ⟨g, 0, none⟩ (.slice aD nD cD)).setCell ⟨g, 1, none⟩ (.slice ac nc cc)).setCell ⟨g, 2, none⟩ (.int .i64 0))) fun q hq => by
                    obtain ⟨cs, hc⟩ := HO8.out.obj hq
                    exact set3_ne (hne q cs _ hc (by decide))
                  have hok3 : RdOk nw := by
                    have h := HRD.out
                    rw [HBB.out] at h
                    exact rdNode_ok 21 bb 0 r nw (by omega) h
                  obtain ⟨aD3, cD3, hvn3, hcD3, hdw3⟩ := hrk9.dawg hok3
                  injection hvn3 with e1 e2 e3
                  subst e1 e3
                  obtain ⟨hi9, hi10, hi11⟩ := ho9.ints
                  refine ⟨_, rfl, ?_, store3_below HBL8.out HGQ.out⟩
                  rw [HUS.out]
                  exact ⟨aD, cD, ac, cc, by unfold UVal; rw [← HND.out, ← HNC.out], hcD3, hi11, hdw3, hi9, by have := HND.out; omega, by have := HNC.out; omega⟩
                · have HNO : Hid (unpF bs = none) := by show _ = _; rw [HUN.out, if_neg (by rw [HL9.out]; exact fun h => hlb h.2)]
                  have hlb2 : (l == bs) = false := by simp [hlb]
                  clear HUN
                  have HUBQ := HUB8; have HNQ := HNO; have HBLQ := HBL8
                  obtain ⟨⟨u0, u1, u2⟩, ⟨v0, v1, v2⟩, z0, z1, z2⟩ := HUBQ.out.facts
                  go_wp2
                  refine bodyPost_ret (results_cell_row rfl _ _ g 40 #[.slice none 0 0, .slice none 0 0, .int .i64 100] (0, 0) _ rfl (store3 HUBQ.out.c0) Tryd.underlying40 rfl (by kernel_rfl)) rfl ?_
                  exact ⟨_, rfl, by rw [HNQ.out]; rfl, store3_below HBLQ.out HGQ.out⟩
      · have hvf : validF nw = false := by cases h : validF nw with | true => exact absurd h hv | false => rfl
        rw [hvf] at he
        subst he
        have HNO : Hid (unpF bs = none) := unp_val HRD.out hvf
        clear hv hvf
        have HUBQ := HUB4; have HNQ := HNO; have HBLQ := HBL4
        obtain ⟨⟨u0, u1, u2⟩, ⟨v0, v1, v2⟩, z0, z1, z2⟩ := HUBQ.out.facts
        go_wp2
        refine bodyPost_ret (results_cell_row rfl _ _ g 40 #[.slice none 0 0, .slice none 0 0, .int .i64 100] (0, 0) _ rfl (store3 HUBQ.out.c0) Tryd.underlying40 rfl (by kernel_rfl)) rfl ?_
        exact ⟨_, rfl, by rw [HNQ.out]; rfl, store3_below HBLQ.out HGQ.out⟩
end Go.Proofs.YtocdljmdmiphnaaDoor
