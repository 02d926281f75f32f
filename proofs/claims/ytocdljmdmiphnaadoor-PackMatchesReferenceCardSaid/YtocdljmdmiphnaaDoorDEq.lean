
/- Equal automata: dawg.equal and reference 09's Same. -/
import Derived.Test.YtocdljmdmiphnaaDoorDNodes
namespace Go.Proofs.YtocdljmdmiphnaaDoor
open Go.RowKit Go.WideShapes
set_option linter.unusedVariables false
set_option linter.unusedSimpArgs false

set_option maxHeartbeats 1600000 in
theorem eqNode_any (f g : Bool) (X Y : List Ar) (a b : Option Addr) (c d : Nat) (w : World) (hX : ArcS w a X) (hY : ArcS w b Y) (hl1 : X.length ≤ 9223372036854775807) (hl2 : Y.length ≤ 9223372036854775807) :
    Calls Tryd.prog 65 #[.agg #[.bool f, .slice a X.length c], .agg #[.bool g, .slice b Y.length d]] w fun e w' => e = .returned (.bool (decide (f = g) && decide (X = Y))) ∧ Below w.heap.size w w' := by
  have hBW : Below w.heap.size w ((w.alloc (.cells #[.bool f, .slice a X.length c] 53)).alloc (.cells #[.bool g, .slice b Y.length d] 53)) := by go_grown
  have HX := Lib.hid (hX.later hBW (Nat.le_refl _)); have HY := Lib.hid (hY.later hBW (Nat.le_refl _))
  clear hX hY hBW
  by_cases h : f = g
  · have hb : (f == g) = true := by simp [h]
    have HF : Hid ((decide (f = g) && decide (X = Y)) = decide (X = Y)) := by show _ = _; simp [h]
    clear h
    go_enter Tryd.func65, Tryd.ntmps65
    go_wp2_with (go_at_call 66; refine (eqArcs_any X Y _ _ _ _ _ _ _ HX.out HY.out rfl rfl hl1 hl2).mono ?_; rintro e w1 ⟨rfl, hb⟩; have hB := below_call (B := w.heap.size) (w := w) (by go_grown) hb (Nat.le_refl _); clear hb)
    go_ret
    exact ⟨ret_bool HF.out.symm, hB⟩
  · have hb : (f == g) = false := by simpa using h
    have HF : Hid ((decide (f = g) && decide (X = Y)) = false) := by show _ = _; simp [h]
    clear h
    go_enter Tryd.func65, Tryd.ntmps65
    go_wp2
    go_ret
    exact ⟨ret_bool HF.out.symm, by go_grown⟩
theorem nd_eq (x y : Nd) : (decide (x.fin = y.fin) && decide (x.arcs = y.arcs)) = decide (x = y) := by
  obtain ⟨f, X⟩ := x; obtain ⟨g, Y⟩ := y
  by_cases h1 : f = g <;> by_cases h2 : X = Y <;> simp [h1, h2]
set_option maxHeartbeats 1600000 in
set_option maxRecDepth 100000 in
theorem eqFunc_any (D E : List Nd) (a b : Option Addr) (n m c d : Nat) (w : World) (hX : DawgS w a D) (hY : DawgS w b E) (hn : n = D.length) (hm : m = E.length) (hl1 : n ≤ 9223372036854775807) (hl2 : m ≤ 9223372036854775807) :
    Calls Tryd.prog 64 #[.slice a n c, .slice b m d, .func (.func 65) #[] #[]] w fun e w' => e = .returned (.bool (decide (D = E))) ∧ Below w.heap.size w w' := by
  subst hn hm
  have HX := Lib.hid hX; have HY := Lib.hid hY; clear hX hY
  by_cases hl : D.length = E.length
  · have hlI : ((D.length : Int) != (E.length : Int)) = false := by simp [hl]
    have HL := Lib.hid hl
    clear hl
    go_enter Tryd.func64, Tryd.ntmps64
    go_wp2
    go_loopw [17] (fun q wr => ∃ k : Nat, k ≤ D.length ∧ q = .int .i64 (k : Int) ∧ D.take k = E.take k ∧ Below w.heap.size w wr) (fun q _ => D.length - (intOf q).toNat)
    case atStart => exact ⟨0, Nat.zero_le _, rfl, rfl, Below.refl _ _⟩
    case round =>
      obtain ⟨k, hk, rfl, ht, hB⟩ := hrel
      have HT := Lib.hid ht; have HB := Lib.hid hB; clear ht
      have hzB := hB.size
      clear hB
      by_cases hlt : k < D.length
      · have hlt2 : k < E.length := by have := HL.out; omega
        obtain ⟨b1, o1, ha1, hb1, q0, aa1, cc1, q1, ql, hq⟩ := (HX.out.later HB.out (Nat.le_refl _)).at hlt
        obtain ⟨b2, o2, ha2, hb2, p0, aa2, cc2, p1, pl, hp⟩ := (HY.out.later HB.out (Nat.le_refl _)).at hlt2
        have hi1 := idx_nodes a b1 o1 D.length c k ha1 hlt
        have hi2 := idx_nodes b b2 o2 E.length d k ha2 hlt2
        have HST := Lib.hid (fun h => take_eq_step hlt hlt2 HT.out h)
        have HND := Lib.hid (nd_eq D[k] E[k])
        obtain ⟨x, hx⟩ : ∃ x, D[k] = x := ⟨_, rfl⟩
        obtain ⟨y, hy⟩ : ∃ y, E[k] = y := ⟨_, rfl⟩
        have HXE := Lib.hid hx; have HYE := Lib.hid hy
        rw [hx] at q0 q1 ql hq HND
        rw [hy] at p0 p1 pl hp HND
        obtain ⟨xf, xA⟩ := x; obtain ⟨yf, yA⟩ := y
        simp only at q0 q1 ql hq p0 p1 pl hp HND
        have HQ := Lib.hid hq; have HP := Lib.hid hp
        clear ha1 ha2 hx hy hq hp
        obtain ⟨r, hr⟩ : ∃ r, (decide (xf = yf) && decide (xA = yA)) = r := ⟨_, rfl⟩
        have HR := Lib.hid hr
        clear hr
        have hBW : Below wr.heap.size wr ((wr.alloc (.cells #[.bool xf, .slice aa1 xA.length cc1] 53)).alloc (.cells #[.bool yf, .slice aa2 yA.length cc2] 53)) := by go_grown
        have HBW := Lib.hid hBW
        clear hBW
        cases r with
        | true =>
          have HN : Hid (D.take (k + 1) = E.take (k + 1)) := HST.out (by
            have h9 : decide ((⟨xf, xA⟩ : Nd) = ⟨yf, yA⟩) = true := HND.out.symm.trans HR.out
            rw [HXE.out, HYE.out]; exact of_decide_eq_true h9)
          go_wp2_with (go_at_call 65; refine (eqNode_any xf yf xA yA _ _ _ _ _ (HQ.out.later HBW.out (Nat.le_refl _)) (HP.out.later HBW.out (Nat.le_refl _)) ql pl).mono ?_; rintro e w1 ⟨he, hb⟩; rw [HR.out] at he; subst he; have HB2 := Lib.hid (HB.out.trans (HBW.out.trans (hb.mono HBW.out.size)|>.mono HB.out.size)); clear hb)
          go_roundw
          case rel => exact ⟨k + 1, by omega, by go_num, HN.out, HB2.out⟩
          case measure => simp [intOf]; omega
        | false =>
          have HN : Hid (decide (D = E) = false) := decide_eq_false fun h => by
            have h9 : decide ((⟨xf, xA⟩ : Nd) = ⟨yf, yA⟩) = false := HND.out.symm.trans HR.out
            refine of_decide_eq_false h9 ?_
            have e1 := HXE.out; have e2 := HYE.out
            subst h
            exact e1.symm.trans e2
          go_wp2_with (go_at_call 65; refine (eqNode_any xf yf xA yA _ _ _ _ _ (HQ.out.later HBW.out (Nat.le_refl _)) (HP.out.later HBW.out (Nat.le_refl _)) ql pl).mono ?_; rintro e w1 ⟨he, hb⟩; rw [HR.out] at he; subst he; have HB2 := Lib.hid (HB.out.trans (HBW.out.trans (hb.mono HBW.out.size)|>.mono HB.out.size)); clear hb)
          go_ret
          exact ⟨ret_bool HN.out.symm, HB2.out⟩
      · have HN : Hid (decide (D = E) = true) := decide_eq_true (take_eq_end HL.out hlt HT.out)
        go_wp2
        go_ret
        exact ⟨ret_bool HN.out.symm, HB.out⟩
  · have HN : Hid (decide (D = E) = false) := decide_eq_false fun h => hl (by rw [h])
    have hlI : ((D.length : Int) != (E.length : Int)) = true := by simp; omega
    clear hl
    go_enter Tryd.func64, Tryd.ntmps64
    go_wp2
    go_ret
    exact ⟨ret_bool HN.out.symm, by go_grown⟩
set_option maxHeartbeats 1600000 in
theorem equal_any (D E : List Nd) (a b : Option Addr) (n m c d : Nat) (w : World) (hX : DawgS w a D) (hY : DawgS w b E) (hn : n = D.length) (hm : m = E.length) (hl1 : n ≤ 9223372036854775807) (hl2 : m ≤ 9223372036854775807) :
    Calls Tryd.prog 52 #[.slice a n c, .slice b m d] w fun e w' => e = .returned (.bool (decide (D = E))) ∧ Below w.heap.size w w' := by
  subst hn hm
  have HX := Lib.hid hX; have HY := Lib.hid hY; clear hX hY
  go_enter Tryd.func52, Tryd.ntmps52
  go_wp2_with (go_at_call 64; refine (eqFunc_any D E _ _ _ _ _ _ _ HX.out HY.out rfl rfl hl1 hl2).mono ?_; rintro e w1 ⟨rfl, hb⟩)
  go_ret
  exact ⟨rfl, hb⟩
end Go.Proofs.YtocdljmdmiphnaaDoor
