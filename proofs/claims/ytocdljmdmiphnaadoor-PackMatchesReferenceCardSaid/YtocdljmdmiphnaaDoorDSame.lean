
/- Equal automata: reference 09's Same. -/
import Derived.Test.YtocdljmdmiphnaaDoorDEq
namespace Go.Proofs.YtocdljmdmiphnaaDoor
open Go.RowKit Go.WideShapes
set_option linter.unusedVariables false
set_option linter.unusedSimpArgs false

/-! ### reference 09: Same -/
set_option maxHeartbeats 3200000 in
set_option maxRecDepth 100000 in
theorem rsame_any (D E : List Nd) (a b : Option Addr) (n m c d : Nat) (w : World) (hX : DawgS w a D) (hY : DawgS w b E) (hn : n = D.length) (hm : m = E.length) (hl1 : n ≤ 9223372036854775807) (hl2 : m ≤ 9223372036854775807) :
    Calls Tryd.prog 27 #[.slice a n c, .slice b m d] w fun e w' => e = .returned (.bool (decide (D = E))) ∧ Below w.heap.size w w' := by
  subst hn hm
  have HX := Lib.hid hX; have HY := Lib.hid hY; clear hX hY
  by_cases hl : D.length = E.length
  · have hlI : ((D.length : Int) != (E.length : Int)) = false := by simp [hl]
    have HL := Lib.hid hl
    clear hl
    go_enter Tryd.func27, Tryd.ntmps27
    go_wp2
    go_loopw [5] (fun q wr => ∃ k : Nat, k ≤ D.length ∧ q = .int .i64 (k : Int) ∧ D.take k = E.take k ∧ Below w.heap.size w wr) (fun q _ => D.length - (intOf q).toNat)
    case atStart => exact ⟨0, Nat.zero_le _, rfl, rfl, Below.refl _ _⟩
    case round =>
      obtain ⟨k, hk, rfl, ht, hB⟩ := hrel
      have HT := Lib.hid ht; have HB := Lib.hid hB; clear ht
      have hzB := hB.size
      clear hB
      by_cases hlt : k < D.length
      · have hlt2 : k < E.length := by have := HL.out; omega
        obtain ⟨b1, o1, ha1, hb1, q0, aa1, cc1, q1, ql, hq⟩ := (HX.out.later HB.out (Nat.le_refl _)).at hlt
        obtain ⟨b2, o2, ha2, hb2, p0, aa2, cc2, p1, pl, hp⟩ := (HY.out.later HB.out (Nat.le_refl _)).at hlt2
        have hi1 := idx_nodes a b1 o1 D.length c k ha1 hlt
        have hi2 := idx_nodes b b2 o2 E.length d k ha2 hlt2
        have HST := Lib.hid (fun h => take_eq_step hlt hlt2 HT.out h)
        obtain ⟨x, hx⟩ : ∃ x, D[k] = x := ⟨_, rfl⟩
        obtain ⟨y, hy⟩ : ∃ y, E[k] = y := ⟨_, rfl⟩
        have HXE := Lib.hid hx; have HYE := Lib.hid hy
        rw [hx] at q0 q1 ql hq
        rw [hy] at p0 p1 pl hp
        obtain ⟨xf, xA⟩ := x; obtain ⟨yf, yA⟩ := y
        simp only at q0 q1 ql hq p0 p1 pl hp
        have HQ := Lib.hid hq; have HP := Lib.hid hp
        have HNO : Hid ((⟨xf, xA⟩ : Nd) ≠ ⟨yf, yA⟩ → decide (D = E) = false) := fun hne => decide_eq_false fun h => by
          refine hne ?_
          have e1 := HXE.out; have e2 := HYE.out
          subst h
          exact e1.symm.trans e2
        clear ha1 ha2 hx hy hq hp
        by_cases hf : xf = yf
        · subst hf
          by_cases hal : xA.length = yA.length
          · have hab : ((xA.length : Int) != (yA.length : Int)) = false := by simp [hal]
            have HAL := Lib.hid hal
            clear hal
            go_wp2
            go_quiet (fail)
            go_wp2
            go_loopw [6] (fun q2 w2 => ∃ j : Nat, j ≤ xA.length ∧ q2 = .int .i64 (j : Int) ∧ xA.take j = yA.take j ∧ Below wr.heap.size wr w2) (fun q2 _ => xA.length - (intOf q2).toNat)
            case atStart => exact ⟨0, Nat.zero_le _, rfl, rfl, below_drewN (Below.refl _ _) _⟩
            case round =>
              obtain ⟨j, hj, rfl, ht2, hB2⟩ := hrel
              have HT2 := Lib.hid ht2; have HB2 := Lib.hid hB2
              obtain ⟨hzz, hc, hf⟩ := bcell hB2 rfl
              clear ht2 hB2
              by_cases hjl : j < xA.length
              · have hjl2 : j < yA.length := by have := HAL.out; omega
                obtain ⟨b3, o3, ha3, hb3, r0, r1⟩ := (HQ.out.later HB2.out (Nat.le_refl _)).at hjl
                obtain ⟨b4, o4, ha4, hb4, s0, s1⟩ := (HP.out.later HB2.out (Nat.le_refl _)).at hjl2
                have hi3 := idx_arcs aa1 b3 o3 xA.length cc1 j ha3 hjl
                have hi4 := idx_arcs aa2 b4 o4 yA.length cc2 j ha4 hjl2
                have hne := neq_arcs xA[j] yA[j]
                have HST2 := Lib.hid (fun h => take_eq_step hjl hjl2 HT2.out h)
                obtain ⟨x, hx⟩ : ∃ x, xA[j] = x := ⟨_, rfl⟩
                obtain ⟨y, hy⟩ : ∃ y, yA[j] = y := ⟨_, rfl⟩
                have HX3 := Lib.hid hx; have HY3 := Lib.hid hy
                rw [hx] at r0 r1 hne
                rw [hy] at s0 s1 hne
                clear ha3 ha4 hx hy
                by_cases hq : x = y
                · have HN : Hid (xA.take (j + 1) = yA.take (j + 1)) := HST2.out (by rw [HX3.out, HY3.out, hq])
                  have hq2 : (decide (x = y)) = true := by simp [hq]
                  rw [hq2] at hne
                  clear hq hq2
                  go_wp2
                  go_quiet (fail)
                  go_wp2
                  go_roundw
                  case rel => exact ⟨j + 1, by omega, by go_num, HN.out, below_drewN HB2.out _⟩
                  case measure => simp [intOf]; omega
                · have HN : Hid (decide (D = E) = false) := HNO.out fun h => hq (by
                    have e1 := HX3.out; have e2 := HY3.out
                    injection h with h1 h2
                    subst h2; exact e1.symm.trans e2)
                  have hq2 : (decide (x = y)) = false := decide_eq_false hq
                  rw [hq2] at hne
                  clear hq hq2
                  go_wp2
                  go_quiet (fail)
                  go_wp2
                  go_ret
                  exact ⟨ret_bool HN.out.symm, below_drewN (HB.out.trans (HB2.out.mono HB.out.size)) _⟩
              · have HN : Hid (D.take (k + 1) = E.take (k + 1)) := HST.out (by
                  rw [HXE.out, HYE.out, take_eq_end HAL.out hjl HT2.out])
                have HB3 := Lib.hid (HB.out.trans (HB2.out.mono HB.out.size))
                go_wp2
                go_roundw
                case rel => exact ⟨k + 1, by omega, by go_num, HN.out, HB3.out⟩
                case measure => simp [intOf]; omega
          · have hab : ((xA.length : Int) != (yA.length : Int)) = true := by simp; omega
            have HN : Hid (decide (D = E) = false) := HNO.out fun h => hal (by injection h with h1 h2; rw [h2])
            clear hal
            go_wp2
            go_quiet (fail)
            go_wp2
            go_ret
            exact ⟨ret_bool HN.out.symm, below_drewN HB.out _⟩
        · have HN : Hid (decide (D = E) = false) := HNO.out fun h => hf (by injection h)
          obtain rfl : yf = !xf := by cases xf <;> cases yf <;> simp_all
          clear hf
          cases xf <;> (simp only [Bool.not_true, Bool.not_false] at p0; go_wp2; go_quiet (fail); go_wp2; go_ret; exact ⟨ret_bool HN.out.symm, below_drewN HB.out _⟩)
      · have HN : Hid (decide (D = E) = true) := decide_eq_true (take_eq_end HL.out hlt HT.out)
        go_wp2
        go_ret
        exact ⟨ret_bool HN.out.symm, HB.out⟩
  · have HN : Hid (decide (D = E) = false) := decide_eq_false fun h => hl (by rw [h])
    have hlI : ((D.length : Int) != (E.length : Int)) = true := by simp; omega
    clear hl
    go_enter Tryd.func27, Tryd.ntmps27
    go_wp2
    go_ret
    exact ⟨ret_bool HN.out.symm, by go_grown⟩
end Go.Proofs.YtocdljmdmiphnaaDoor
