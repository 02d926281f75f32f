
/- Pack: the program's reader. -/
import Derived.Test.YtocdljmdmiphnaaDoorPC
import Derived.Recover
namespace Go.Proofs.YtocdljmdmiphnaaDoor
open Go.RowKit Go.WideShapes
set_option linter.unusedVariables false
set_option linter.unusedSimpArgs false

def dmgV : Value := .iface 115 (.agg #[])
def dmgE : Ending := .panicked [{ v := dmgV, recovered := false }]
/-- the reader: what is left to read, the nodes -/
def RRep (wW w : World) (gR : Nat) (bs : Wd) (vn : Value) : Prop := ∃ ar cr, w.heap[gR]? = some (.cells #[.slice ar bs.length cr, vn] 113 (0, 0)) ∧ BytS wW ar bs ∧ bs.length ≤ cr
def okP (n : Nat) : Bool := decide (n ≤ 1073741824)
theorem grownBy_trans {a b c : World} {r : Option Nat} (h : a.grownBy b r) (h2 : b.grownBy c r) : a.grownBy c r :=
  ⟨h2.os.trans h.os, h2.tape.trans h.tape, h2.output.trans h.output, Nat.le_trans h.size h2.size, fun k hk hne => (h2.block k (Nat.lt_of_lt_of_le hk h.size) hne).trans (h.block k hk hne)⟩
theorem grownBy_set (w : World) (g i : Nat) (v : Value) : w.grownBy (w.setCell ⟨g, i, none⟩ v) (some g) :=
  ⟨rfl, rfl, rfl, by rw [World.size_setCell]; exact Nat.le_refl _, fun k _ hne => Below.heap_setCell _ _ _ _ (fun e => hne (by rw [e]))⟩
def ByteP (wW w : World) (gR : Nat) (bs : Wd) (vn : Value) (e : Ending) (w' : World) : Prop := match bs with
  | [] => e = dmgE ∧ w = w'
  | c :: r => e = .returned (.int .u8 (c.toNat : Int)) ∧ RRep wW w' gR r vn ∧ w.grownBy w' (some gR)
theorem byte_any (wW : World) (B gR : Nat) (bs : Wd) (vn : Value) (w : World) (hWB : wW.heap.size ≤ B) (hB : Below B wW w) (h : RRep wW w gR bs vn) :
    Calls Tryd.prog 72 #[.pointer (some ⟨gR, 0, none⟩)] w (ByteP wW w gR bs vn) := by
  obtain ⟨ar, cr, hrep, hby, hcr⟩ := h
  obtain ⟨c0, c1⟩ := cells2 hrep
  have f0 : w.frozen? ⟨gR, 0, none⟩ = false := by simp [World.frozen?, hrep]
  cases bs with
  | nil =>
    go_enter Tryd.func72, Tryd.ntmps72
    go_wp2
    exact ⟨rfl, rfl, rfl⟩
  | cons c r =>
    obtain ⟨b, o, rfl, hb, q0⟩ := hby.at (k := 0) (by simp)
    rw [Nat.add_zero] at q0
    simp only [List.getElem_cons_zero] at q0
    have q0' := (hB.cell (p := ⟨b, o, none⟩) (by show b < B; omega)).trans q0
    have HBY := Lib.hid hby
    have HREP := Lib.hid hrep
    have hlr : (c :: r).length = r.length + 1 := rfl
    rw [hlr] at c0 hcr
    clear q0 hlr
    obtain ⟨n, hn⟩ : ∃ n, r.length = n := ⟨_, rfl⟩
    have HN := Lib.hid hn
    rw [hn] at c0 hcr
    clear hn
    have HT : Hid (∀ o', (cr = 1 → o' = o) → (¬ cr = 1 → o' = o + 1) → RRep wW (w.setCell ⟨gR, 0, none⟩ (.slice (some ⟨b, o', none⟩) n (cr - 1))) gR r vn) := fun o' h1 h2 => by
      refine ⟨some ⟨b, o', none⟩, cr - 1, ?_, fun k hk => ?_, by rw [HN.out]; omega⟩
      · rw [HN.out]; exact set_one HREP.out rfl
      · have hk2 : k < n := by rw [← HN.out]; exact hk
        obtain ⟨b1, o1, e1, hb1, q1⟩ := HBY.out.at (k := k + 1) (by simp; omega)
        injection e1 with e1
        injection e1 with e1 e2
        subst e1 e2
        have e3 := h2 (by omega)
        subst e3
        refine ⟨b, o + 1, rfl, hb1, ?_⟩
        rw [show o + 1 + k = o + (k + 1) by omega, q1]; rfl
    by_cases hcr1 : cr = 1
    · have hn0 : n = 0 := by omega
      subst hn0
      have HX := Lib.hid (HT.out o (fun _ => rfl) (fun h => absurd hcr1 h))
      clear HT
      subst hcr1
      go_enter Tryd.func72, Tryd.ntmps72
      go_wp2
      go_ret
      exact ⟨rfl, HX.out, grownBy_set _ _ _ _⟩
    · have HX := Lib.hid (HT.out (o + 1) (fun h => absurd h hcr1) (fun _ => rfl))
      clear HT
      go_enter Tryd.func72, Tryd.ntmps72
      go_wp2
      go_ret
      exact ⟨rfl, HX.out, grownBy_set _ _ _ _⟩
theorem RRep.size {wW w : World} {gR : Nat} {bs : Wd} {vn : Value} (h : RRep wW w gR bs vn) : gR < w.heap.size := by
  obtain ⟨ar, cr, hrep, _⟩ := h
  exact (Array.getElem?_eq_some_iff.1 hrep).1
def NumP (wW w : World) (gR : Nat) (bs : Wd) (vn : Value) (e : Ending) (w' : World) : Prop := w.grownBy w' (some gR) ∧ match rdNum okP bs with
  | none => e = dmgE
  | some (n, r) => e = .returned (.int .i64 (n : Int)) ∧ RRep wW w' gR r vn
theorem NumP.none {wW w w' : World} {gR : Nat} {bs : Wd} {vn : Value} {e : Ending} (hg : w.grownBy w' (some gR)) (h : rdNum okP bs = none) (he : e = dmgE) : NumP wW w gR bs vn e w' := by
  refine ⟨hg, ?_⟩
  rw [h]; exact he
theorem NumP.some {wW w w' : World} {gR : Nat} {bs r : Wd} {n : Nat} {vn : Value} {e : Ending} (hg : w.grownBy w' (some gR)) (h : rdNum okP bs = some (n, r)) (he : e = .returned (.int .i64 (n : Int))) (hr : RRep wW w' gR r vn) : NumP wW w gR bs vn e w' := by
  refine ⟨hg, ?_⟩
  rw [h]; exact ⟨he, hr⟩
theorem w64n (d : Nat) (h : d ≤ 34359738368) : wrap64 (d : Int) = (d : Int) := IntWalk.wrap64_in _ (by omega)
theorem w64a (a d : Nat) (h : a + d ≤ 34359738368) : wrap64 ((a : Int) + (d : Int)) = (a : Int) + (d : Int) := IntWalk.wrap64_in _ (by omega)
theorem num_none {bs : Wd} {j a : Nat} {bj : Wd} (h : rdNumA 5 1 0 bs = rdNumA (5 - j) (128 ^ j) a bj) (h2 : rdNumA (5 - j) (128 ^ j) a bj = none) : rdNum okP bs = none := by
  unfold rdNum
  rw [h, h2]
theorem num_step {bs r : Wd} {j a : Nat} {c : UInt8} (hj : j < 5) (h : rdNumA 5 1 0 bs = rdNumA (5 - j) (128 ^ j) a (c :: r)) :
    (c.toNat < 128 → rdNumA 5 1 0 bs = some (a + c.toNat % 128 * 128 ^ j, r)) ∧ (¬ c.toNat < 128 → rdNumA 5 1 0 bs = rdNumA (5 - (j + 1)) (128 ^ (j + 1)) (a + c.toNat % 128 * 128 ^ j) r) := by
  rw [show 5 - j = (5 - (j + 1)) + 1 by omega, rdNumA] at h
  refine ⟨fun hc => by rw [h, if_pos hc], fun hc => by rw [h, if_neg hc, Nat.pow_succ]⟩
set_option maxHeartbeats 1600000 in
set_option maxRecDepth 100000 in
theorem rnum_any (wW : World) (B gR : Nat) (bs : Wd) (vn : Value) (w : World) (hWB : wW.heap.size ≤ B) (hBR : B ≤ gR) (hB : Below B wW w) (h : RRep wW w gR bs vn) :
    Calls Tryd.prog 61 #[.pointer (some ⟨gR, 0, none⟩)] w (NumP wW w gR bs vn) := by
  have HB := Lib.hid hB; have HR := Lib.hid h
  clear hB h
  go_enter Tryd.func61, Tryd.ntmps61
  go_wp2
  go_loopw [4, 3] (fun i q wr => ∃ (j a : Nat) (bj : Wd), j ≤ 5 ∧ i = .int .i64 (7 * (j : Int)) ∧ q = .int .i64 (a : Int) ∧ a < 128 ^ j ∧ rdNumA 5 1 0 bs = rdNumA (5 - j) (128 ^ j) a bj ∧ RRep wW wr gR bj vn ∧ w.grownBy wr (some gR)) (fun i _ _ => 40 - (intOf i).toNat)
  case atStart => exact ⟨0, 0, bs, by omega, rfl, rfl, by simp, rfl, HR.out, grownBy_refl _ _⟩
  case round =>
    obtain ⟨j, a, bj, hj, rfl, rfl, ha, hrd, hr, hg⟩ := hrel
    have HRD := Lib.hid hrd; have HRj := Lib.hid hr; have HGj := Lib.hid hg
    have HBj : Hid (Below B wW wr) := HB.out.trans (below_grown hg (by have := HR.out.size; omega) (fun q hq => by injection hq with hq; omega))
    clear hrd hr hg
    by_cases hlt : j < 5
    · have h35' : 7 * (j : Int) < 35 := by omega
      have hcall := byte_any wW B gR bj vn wr hWB HBj.out HRj.out
      have HCALL := Lib.hid hcall
      clear hcall
      cases bj with
      | nil =>
        have HRN : Hid (rdNum okP bs = none) := num_none HRD.out (by rw [show 5 - j = (5 - (j + 1)) + 1 by omega, rdNumA])
        go_wp2_with fail
        refine HCALL.out.mono ?_
        rintro e w1 ⟨rfl, rfl⟩
        exact ⟨rfl, NumP.none HGj.out HRN.out rfl⟩
      | cons c r =>
        obtain ⟨hs1, hs2⟩ := num_step hlt HRD.out
        have hcl := UInt8.toNat_lt c
        obtain ⟨d, hd⟩ : ∃ d, c.toNat % 128 * 128 ^ j = d := ⟨_, rfl⟩
        rw [hd] at hs1 hs2
        have hp5 : (128 : Nat) ^ j ≤ 128 ^ 4 := Nat.pow_le_pow_right (by omega) (by omega)
        have hdl : d ≤ 127 * 128 ^ j := by rw [← hd]; exact Nat.mul_le_mul_right _ (by omega)
        have hsum : a + d < 128 ^ (j + 1) := by rw [Nat.pow_succ]; omega
        have h4 : (128 : Nat) ^ 4 = 268435456 := by decide
        have hd8 : a + d ≤ 34359738368 := by omega
        have hp7 : (2 : Int) ^ (7 * j) = ((128 ^ j : Nat) : Int) := by
          have h5 : j = 0 ∨ j = 1 ∨ j = 2 ∨ j = 3 ∨ j = 4 := by omega
          rcases h5 with rfl | rfl | rfl | rfl | rfl <;> rfl
        have hpw : ((c.toNat : Int) % 128 * 2 ^ (7 * j)) = (d : Int) := by
          rw [hp7, ← hd, Int.natCast_mul, Int.natCast_emod]
          rfl
        have hw1 : wrap64 ((c.toNat : Int) % 128 * 2 ^ (7 * j)) = (d : Int) := by rw [hpw]; exact w64n d (by omega)
        have hw2 : wrap64 ((a : Int) + (d : Int)) = (a : Int) + (d : Int) := w64a a d hd8
        have HS1 := Lib.hid hs1; have HS2 := Lib.hid hs2; have HSUM := Lib.hid hsum
        clear hd hpw hp7 hp5 hdl hsum h4 ha hs1 hs2
        go_wp2_with fail
        refine HCALL.out.mono ?_
        rintro e w1 ⟨rfl, hr1, hg1⟩
        have HR1 := Lib.hid hr1
        have HG1 := Lib.hid (grownBy_trans HGj.out hg1)
        clear hr1 hg1 HCALL
        by_cases hc : c.toNat < 128
        · have hcI : ¬ 128 ≤ (c.toNat : Int) := by omega
          have HN1 := Lib.hid (HS1.out hc)
          clear hc HS1 HS2
          by_cases hm : 1073741824 < a + d
          · have hmI : 1073741824 < (a : Int) + (d : Int) := by omega
            have HRN : Hid (rdNum okP bs = none) := by
              show _ = _
              unfold rdNum
              rw [HN1.out]
              exact if_neg (by unfold okP; simp; omega)
            go_wp2
            exact ⟨rfl, NumP.none HG1.out HRN.out rfl⟩
          · have hmI : ¬ 1073741824 < (a : Int) + (d : Int) := by omega
            have HRN : Hid (rdNum okP bs = some (a + d, r)) := by
              show _ = _
              unfold rdNum
              rw [HN1.out]
              exact if_pos (by unfold okP; simp; omega)
            go_wp2
            go_ret
            exact NumP.some HG1.out HRN.out (ret_int (Int.natCast_add a d).symm) HR1.out
        · have hcI : 128 ≤ (c.toNat : Int) := by omega
          have HN2 := Lib.hid (HS2.out hc)
          clear hc HS1 HS2
          go_wp2
          go_roundw
          case rel => exact ⟨j + 1, a + d, r, by omega, by go_num, by go_num, HSUM.out, HN2.out, HR1.out, HG1.out⟩
          case measure => simp [intOf]; omega
    · have hj5 : j = 5 := by omega
      have HRN : Hid (rdNum okP bs = none) := num_none HRD.out (by rw [hj5]; rfl)
      have h35' : ¬ 7 * (j : Int) < 35 := by omega
      clear hj5
      go_wp2
      exact ⟨rfl, NumP.none HGj.out HRN.out rfl⟩
end Go.Proofs.YtocdljmdmiphnaaDoor
/- Pack: the program's reader of forms: plain, memory. -/
namespace Go.Proofs.YtocdljmdmiphnaaDoor
open Go.RowKit Go.WideShapes
set_option linter.unusedVariables false
set_option linter.unusedSimpArgs false

/-! ### plain -/
theorem rdNum_len {ok : Nat → Bool} {bs r : Wd} {n : Nat} (h : rdNum ok bs = some (n, r)) : r.length < bs.length := by
  unfold rdNum at h
  cases hq : rdNumA 5 1 0 bs with
  | none => rw [hq] at h; cases h
  | some p =>
    obtain ⟨a, b⟩ := p
    rw [hq] at h
    simp only at h
    split at h
    · cases h
      exact (rdNumA_len _ _ _ _ _ _ hq).1
    · cases h
theorem rdNum_le {bs r : Wd} {n : Nat} (h : rdNum okP bs = some (n, r)) : n ≤ 1073741824 := by
  unfold rdNum at h
  cases hq : rdNumA 5 1 0 bs with
  | none => rw [hq] at h; cases h
  | some p =>
    obtain ⟨a, b⟩ := p
    rw [hq] at h
    simp only at h
    split at h
    · rename_i hk
      cases h
      exact of_decide_eq_true hk
    · cases h
theorem rdNum_big {ok : Nat → Bool} {bs r : Wd} {n : Nat} (h : rdNum ok bs = some (n, r)) : n < 34359738368 := by
  unfold rdNum at h
  cases hq : rdNumA 5 1 0 bs with
  | none => rw [hq] at h; cases h
  | some p =>
    obtain ⟨a, b⟩ := p
    rw [hq] at h
    simp only at h
    split at h
    · cases h
      have := rdNumA_bound _ _ _ _ _ _ hq
      simp at this
      omega
    · cases h
theorem rdArcs_len {okN : Nat → Bool} {rec : Wd → Nat → Option (Wd × List Nd)} (hr : ∀ bs n r nw, rec bs n = some (r, nw) → r.length + nw.length ≤ bs.length) : ∀ k bs n r X nw, rdArcs okN rec k bs n = some (r, X, nw) → r.length + nw.length + X.length ≤ bs.length
  | 0, bs, n, r, X, nw, h => by rw [rdArcs] at h; cases h; simp
  | k + 1, [], n, r, X, nw, h => by rw [rdArcs] at h; cases h
  | k + 1, c :: bs, n, r, X, nw, h => by
    rw [rdArcs] at h
    cases hq : rdNum okN bs with
    | none => rw [hq] at h; cases h
    | some p =>
      obtain ⟨t, b1⟩ := p
      have hl := rdNum_len hq
      rw [hq] at h
      simp only at h
      split at h
      · cases hq2 : rec b1 n with
        | none => rw [hq2] at h; cases h
        | some p2 =>
          obtain ⟨b2, nw1⟩ := p2
          have h2 := hr _ _ _ _ hq2
          rw [hq2] at h
          simp only at h
          cases hq3 : rdArcs okN rec k b2 (n + nw1.length) with
          | none => rw [hq3] at h; cases h
          | some p3 =>
            obtain ⟨b3, X3, nw3⟩ := p3
            have h3 := rdArcs_len hr k _ _ _ _ _ hq3
            rw [hq3] at h
            cases h
            simp only [List.length_append, List.length_cons]
            omega
      · cases hq3 : rdArcs okN rec k b1 n with
        | none => rw [hq3] at h; cases h
        | some p3 =>
          obtain ⟨b3, X3, nw3⟩ := p3
          have h3 := rdArcs_len hr k _ _ _ _ _ hq3
          rw [hq3] at h
          cases h
          simp only [List.length_cons]
          omega
theorem rdNode_len {okN okK : Nat → Bool} : ∀ m bs n r nw, rdNode okN okK m bs n = some (r, nw) → r.length + nw.length ≤ bs.length
  | 0, bs, n, r, nw, h => by rw [rdNode] at h; cases h
  | m + 1, bs, n, r, nw, h => by
    rw [rdNode] at h
    cases hq : rdNum okN bs with
    | none => rw [hq] at h; cases h
    | some p =>
      obtain ⟨k, b1⟩ := p
      have hl := rdNum_len hq
      rw [hq] at h
      simp only at h
      split at h
      · cases hq2 : rdArcs okN (rdNode okN okK m) (k / 2) b1 (n + 1) with
        | none => rw [hq2] at h; cases h
        | some p2 =>
          obtain ⟨b2, X, nw2⟩ := p2
          have h2 := rdArcs_len (rdNode_len m) _ _ _ _ _ _ hq2
          rw [hq2] at h
          cases h
          simp only [List.length_cons]
          omega
      · cases h
/-- what is read is put behind what was read -/
def accA (X : List Ar) (nw : List Nd) (o : Option (Wd × List Ar × List Nd)) : Option (Wd × List Ar × List Nd) := match o with
  | none => none
  | some (b, X', nw') => some (b, X ++ X', nw ++ nw')
theorem accA_nil (o : Option (Wd × List Ar × List Nd)) : accA [] [] o = o := by
  cases o with
  | none => rfl
  | some p => rfl
section
variable {okN : Nat → Bool} {rec : Wd → Nat → Option (Wd × List Nd)} {k n t : Nat} {c : UInt8} {bs b1 b2 : Wd} {X : List Ar} {nw nw2 : List Nd}
theorem accA_old (h : rdNum okN bs = some (t, b1)) (ht : t ≠ 0) : accA X nw (rdArcs okN rec (k + 1) (c :: bs) n) = accA (X ++ [⟨(c.toNat : Int), (t : Int) - 1⟩]) nw (rdArcs okN rec k b1 n) := by
  rw [rdArcs, h]
  simp only
  rw [if_neg ht]
  cases rdArcs okN rec k b1 n with
  | none => rfl
  | some p => simp [accA]
theorem accA_new (h : rdNum okN bs = some (0, b1)) (h2 : rec b1 n = some (b2, nw2)) : accA X nw (rdArcs okN rec (k + 1) (c :: bs) n) = accA (X ++ [⟨(c.toNat : Int), (n : Int)⟩]) (nw ++ nw2) (rdArcs okN rec k b2 (n + nw2.length)) := by
  rw [rdArcs, h]
  simp only
  rw [if_pos trivial, h2]
  simp only
  cases rdArcs okN rec k b2 (n + nw2.length) with
  | none => rfl
  | some p => simp [accA]
theorem accA_no0 : accA X nw (rdArcs okN rec (k + 1) [] n) = none := by rw [rdArcs]; rfl
theorem accA_no1 (h : rdNum okN bs = none) : accA X nw (rdArcs okN rec (k + 1) (c :: bs) n) = none := by rw [rdArcs, h]; rfl
theorem accA_no2 (h : rdNum okN bs = some (0, b1)) (h2 : rec b1 n = none) : accA X nw (rdArcs okN rec (k + 1) (c :: bs) n) = none := by
  rw [rdArcs, h]
  simp only
  rw [if_pos trivial, h2]; rfl
end
/-! ### memory -/
/-- old blocks other than the reader's and the nodes' stand -/
structure Fr2 (g : Nat) (vb : Option Nat) (w w' : World) : Prop where
  size : w.heap.size ≤ w'.heap.size
  block : ∀ q, q < w.heap.size → q ≠ g → some q ≠ vb → w'.heap[q]? = w.heap[q]?
theorem Fr2.refl (g : Nat) (vb : Option Nat) (w : World) : Fr2 g vb w w := ⟨Nat.le_refl _, fun _ _ _ _ => rfl⟩
theorem Fr2.trans {g : Nat} {vb vb1 : Option Nat} {a b c : World} (h : Fr2 g vb a b) (h2 : Fr2 g vb1 b c) (hn : NewRow vb vb1 a.heap.size) : Fr2 g vb a c :=
  ⟨Nat.le_trans h.size h2.size, fun q hq h3 h4 => (h2.block q (Nat.lt_of_lt_of_le hq h.size) h3 fun e => by
    rcases hn with h5 | h5
    · rw [h5] at e; exact h4 e
    · have := h5 q e.symm; omega).trans (h.block q hq h3 h4)⟩
theorem Fr2.of_gr {g : Nat} {vb : Option Nat} {w w' : World} (h : w.grownBy w' (some g)) : Fr2 g vb w w' := ⟨h.size, fun q hq h3 _ => h.block q hq (fun e => h3 (by injection e))⟩
theorem Fr2.of_ext {g : Nat} {vb : Option Nat} {w w' : World} (h : Ext w w') : Fr2 g vb w w' := ⟨h.size, fun q hq _ _ => h.block q hq⟩
/-- the reader and the nodes read -/
structure RS (wW : World) (B gR : Nat) (bs : Wd) (vn : Value) (N : List NV) (D : List Nd) (w : World) : Prop where
  rr : RRep wW w gR bs vn
  own : OwnG rowNode w B vn N
  len : N.length = D.length
  arcs : ∀ k (h1 : k < N.length) (h2 : k < D.length), N[k].fin = D[k].fin ∧ OwnG rowArc w B (.slice N[k].a N[k].n N[k].c) D[k].arcs
  bl : Below B wW w
  hg : B ≤ gR
section
variable {wW w w1 : World} {B gR : Nat} {bs b1 : Wd} {vn v1 : Value} {N : List NV} {D : List Nd}
theorem RRep.ne {q : Nat} {cs : Array Value} {t : TypeId} {f : Nat × Nat} (h : RRep wW w gR bs vn) (hq : w.heap[q]? = some (.cells cs t f)) (ht : t ≠ 113) : q ≠ gR := by
  obtain ⟨ar, cr, hrep, _⟩ := h
  exact cells_ne hq hrep ht
theorem RS.size (h : RS wW B gR bs vn N D w) : B ≤ w.heap.size := Nat.le_of_lt (Nat.lt_of_le_of_lt h.hg h.rr.size)
theorem RS.own_ne (h : RS wW B gR bs vn N D w) : ∀ q, vn.ownBlock = some q → q ≠ gR := fun q hq => by
  obtain ⟨cs, hc⟩ := h.own.obj hq
  exact h.rr.ne hc (by decide)
theorem RS.arc_ne (h : RS wW B gR bs vn N D w) {v : Value} {X : List Ar} {C : Nat} (ho : OwnG rowArc w C v X) : ∀ q, v.ownBlock = some q → q ≠ gR ∧ some q ≠ vn.ownBlock := fun q hq => by
  obtain ⟨cs, hc⟩ := ho.obj hq
  refine ⟨h.rr.ne hc (by decide), fun e => ?_⟩
  obtain ⟨c2, h2⟩ := h.own.obj e.symm
  exact cells_ne hc h2 (by decide) rfl
/-- a call that changed nothing but what is left to read -/
theorem RS.rest (h : RS wW B gR bs vn N D w) (hr : RRep wW w1 gR b1 vn) (hg : w.grownBy w1 (some gR)) : RS wW B gR b1 vn N D w1 := by
  have hb : Below B w w1 := below_grown hg h.size (fun q hq => by injection hq with hq; rw [← hq]; exact h.hg)
  refine ⟨hr, h.own.grown hg fun q hq e => ?_, h.len, fun k h1 h2 => ⟨(h.arcs k h1 h2).1, (h.arcs k h1 h2).2.grown hg fun q hq e => ?_⟩, h.bl.trans hb, h.hg⟩
  · injection e with e; exact h.own_ne q hq e
  · injection e with e; exact (h.arc_ne (h.arcs k h1 h2).2 q hq).1 e
theorem RS.go (h : RS wW B gR bs vn N D w) (hx : Ext w w1) : RS wW B gR bs vn N D w1 := by
  obtain ⟨ar, cr, hrep, h2⟩ := h.rr
  exact ⟨⟨ar, cr, (Below.block hx _ (Array.getElem?_eq_some_iff.1 hrep).1).trans hrep, h2⟩, h.own.later hx (Nat.le_refl _), h.len, fun k h1 h2 => ⟨(h.arcs k h1 h2).1, (h.arcs k h1 h2).2.later hx (Nat.le_refl _)⟩, h.bl.trans (Below.mono hx h.size), h.hg⟩
/-- the nodes' row has grown by a node without arcs, and is stored -/
theorem RS.node (h : RS wW B gR bs vn N D w) {f : Bool} (ho : OwnG rowNode w1 B v1 (N ++ [⟨f, none, 0, 0⟩])) (hg : w.grownBy w1 vn.ownBlock) : RS wW B gR bs v1 (N ++ [⟨f, none, 0, 0⟩]) (D ++ [⟨f, []⟩]) (w1.setCell ⟨gR, 1, none⟩ v1) := by
  obtain ⟨ar, cr, hrep, h2⟩ := h.rr
  have hrep1 : w1.heap[gR]? = some (.cells #[.slice ar bs.length cr, vn] 113 (0, 0)) := (hg.block _ (Array.getElem?_eq_some_iff.1 hrep).1 (fun e => h.own_ne gR e.symm rfl)).trans hrep
  have hne : ∀ q, q ≠ gR → (w1.setCell ⟨gR, 1, none⟩ v1).heap[q]? = w1.heap[q]? := fun q hq => Below.heap_setCell _ _ _ _ hq
  have hk : ∀ {C : Nat} {v : Value} {X : List Ar}, OwnG rowArc w C v X → OwnG rowArc (w1.setCell ⟨gR, 1, none⟩ v1) C v X := fun {C v X} hX => by
    have h3 := hX.grown hg fun q hq => (h.arc_ne hX q hq).2
    exact h3.keep fun q hq => hne q (h.arc_ne hX q hq).1
  refine ⟨⟨ar, cr, set_one hrep1 rfl, h2⟩, ho.keep fun q hq => hne q fun e => ?_, by simp [h.len], fun k h1 h2 => ?_, (h.bl.trans (below_grown hg h.size h.own.ge)).setCell (p := ⟨gR, 1, none⟩) h.hg _, h.hg⟩
  · obtain ⟨c2, hc2⟩ := ho.obj hq
    rw [e] at hc2
    exact cells_ne hrep1 hc2 (by decide) rfl
  · by_cases hkN : k < N.length
    · have hkD : k < D.length := by rw [← h.len]; exact hkN
      simp only [List.getElem_append_left hkN, List.getElem_append_left hkD]
      exact ⟨(h.arcs k hkN hkD).1, hk (h.arcs k hkN hkD).2⟩
    · obtain rfl : k = N.length := by rw [List.length_append] at h1; simp at h1; omega
      have e1 : (N ++ [(⟨f, none, 0, 0⟩ : NV)])[N.length] = ⟨f, none, 0, 0⟩ := by simp
      have e2 : (D ++ [(⟨f, []⟩ : Nd)])[N.length] = ⟨f, []⟩ := by simp [h.len]
      rw [e1, e2]
      exact ⟨rfl, OwnG.nil _ _ _⟩
/-- the arcs' row has grown -/
theorem RS.arc (h : RS wW B gR bs vn N D w) {v : Value} {X : List Ar} {C : Nat} (ho : OwnG rowArc w C v X) (hC : B ≤ C) (hg : w.grownBy w1 v.ownBlock) (hap : ∀ x ∈ N, ∀ q, nvB x = some q → some q ≠ v.ownBlock) : RS wW B gR bs vn N D w1 := by
  obtain ⟨ar, cr, hrep, h2⟩ := h.rr
  refine ⟨⟨ar, cr, (hg.block _ (Array.getElem?_eq_some_iff.1 hrep).1 (fun e => (h.arc_ne ho gR e.symm).1 rfl)).trans hrep, h2⟩, h.own.grown hg fun q hq e => (h.arc_ne ho q e.symm).2 hq.symm, h.len, fun k h1 h2 => ⟨(h.arcs k h1 h2).1, (h.arcs k h1 h2).2.grown hg fun q hq => hap _ (List.getElem_mem h1) q hq⟩, h.bl.trans (below_grown hg h.size fun q hq => Nat.le_trans hC (ho.ge q hq)), h.hg⟩
/-- the arcs are put into their node -/
theorem RS.done (h : RS wW B gR bs vn N D w) {a : Option Addr} {c i : Nat} {X : List Ar} {C g cn : Nat} {f : Bool} (hvn : vn = .slice (some ⟨g, 0, none⟩) N.length cn) (ho : OwnG rowArc w C (.slice a X.length c) X) (hC : B ≤ C) (hi : i < N.length) (hD : D[i]? = some ⟨f, []⟩) :
    RS wW B gR bs vn (N.set i ⟨N[i].fin, a, X.length, c⟩) (D.set i ⟨f, X⟩) (w.setCell ⟨g, i * 2 + 1, none⟩ (.slice a X.length c)) := by
  subst hvn
  obtain ⟨ar, cr, hrep, h2⟩ := h.rr
  have hgg : g ≠ gR := h.own_ne g rfl
  have hne : ∀ q, q ≠ g → (w.setCell ⟨g, i * 2 + 1, none⟩ (.slice a X.length c)).heap[q]? = w.heap[q]? := fun q hq => Below.heap_setCell _ _ _ _ hq
  have hiD : i < D.length := by rw [← h.len]; exact hi
  have hDi : D[i] = ⟨f, []⟩ := by rw [List.getElem?_eq_getElem hiD] at hD; injection hD
  have hk : ∀ {C : Nat} {v : Value} {X : List Ar} {u : Value}, OwnG rowArc w C v X → OwnG rowArc (w.setCell ⟨g, i * 2 + 1, none⟩ u) C v X := fun {C v X u} hX => hX.keep fun q hq => Below.heap_setCell _ _ _ _ fun e => (h.arc_ne hX q hq).2 (by rw [e]; rfl)
  have h5 : (N.set i ⟨N[i].fin, a, X.length, c⟩).length = N.length := List.length_set
  refine ⟨⟨ar, cr, (hne gR (fun e => hgg e.symm)).trans hrep, h2⟩, ?_, by simp [h.len], fun k h1 h2 => ?_, h.bl.setCell (p := ⟨g, i * 2 + 1, none⟩) (h.own.ge g rfl) _, h.hg⟩
  · have h4 := h.own.setArcs hi a X.length c
    exact h4
  · have hkN : k < N.length := by simpa using h1
    have hkD : k < D.length := by simpa using h2
    by_cases e : i = k
    · subst e
      simp only [List.getElem_set_self]
      exact ⟨by rw [(h.arcs i hi hiD).1, hDi], hk (ho.mono hC)⟩
    · simp only [List.getElem_set_ne e]
      exact ⟨(h.arcs k hkN hkD).1, hk (h.arcs k hkN hkD).2⟩
end
end Go.Proofs.YtocdljmdmiphnaaDoor
/- Pack: the program's reader of forms: the walk. -/
namespace Go.Proofs.YtocdljmdmiphnaaDoor
open Go.RowKit Go.WideShapes
set_option linter.unusedVariables false
set_option linter.unusedSimpArgs false

def nodeA (f : Bool) (o : Option (Wd × List Ar × List Nd)) : Option (Wd × List Nd) := match o with
  | none => none
  | some (b2, X, nw) => some (b2, ⟨f, X⟩ :: nw)
def okT (_ : Nat) : Bool := true
def FormP (wW w : World) (B gR : Nat) (vn : Value) (N : List NV) (D : List Nd) (o : Option (Wd × List Nd)) (e : Ending) (w' : World) : Prop := match o with
  | none => e = dmgE ∧ Below B wW w'
  | some (r, nw) => e = .returned (.int .i64 (D.length : Int)) ∧ ∃ vn' E, RS wW B gR r vn' (N ++ E) (D ++ nw) w' ∧ Fr2 gR vn.ownBlock w w' ∧ NewRow vn.ownBlock vn'.ownBlock w.heap.size ∧ ∀ x ∈ E, ∀ q, nvB x = some q → w.heap.size ≤ q
theorem numP_no {wW w w' : World} {gR : Nat} {bs : Wd} {vn : Value} {e : Ending} (h : NumP wW w gR bs vn e w') (hq : rdNum okP bs = none) : e = dmgE ∧ w.grownBy w' (some gR) := by
  obtain ⟨h1, h2⟩ := h
  rw [hq] at h2
  exact ⟨h2, h1⟩
theorem numP_yes {wW w w' : World} {gR n : Nat} {bs r : Wd} {vn : Value} {e : Ending} (h : NumP wW w gR bs vn e w') (hq : rdNum okP bs = some (n, r)) : e = .returned (.int .i64 (n : Int)) ∧ RRep wW w' gR r vn ∧ w.grownBy w' (some gR) := by
  obtain ⟨h1, h2⟩ := h
  rw [hq] at h2
  exact ⟨h2.1, h2.2, h1⟩
theorem RS.below {wW w w1 : World} {B gR : Nat} {bs : Wd} {vn : Value} {N : List NV} {D : List Nd} (h : RS wW B gR bs vn N D w) (hg : w.grownBy w1 (some gR)) : Below B wW w1 :=
  h.bl.trans (below_grown hg h.size (fun q hq => by injection hq with hq; rw [← hq]; exact h.hg))
theorem FormP.of_none {wW w w' : World} {B gR : Nat} {vn : Value} {N : List NV} {D : List Nd} {o : Option (Wd × List Nd)} {e : Ending} (ho : o = none) (he : e = dmgE) (hb : Below B wW w') : FormP wW w B gR vn N D o e w' := by
  subst ho; exact ⟨he, hb⟩
/-- inside the loop over the arcs of a node -/
structure LI (wW w0 : World) (B gR : Nat) (vb0 : Option Nat) (N0 : List NV) (D0 : List Nd) (f : Bool) (bj : Wd) (vn : Value) (E : List NV) (nw : List Nd) (v : Value) (X : List Ar) (w : World) : Prop where
  rs : RS wW B gR bj vn (N0 ++ ⟨f, none, 0, 0⟩ :: E) (D0 ++ ⟨f, []⟩ :: nw) w
  own : OwnG rowArc w w0.heap.size v X
  ap : ∀ x ∈ N0 ++ ⟨f, none, 0, 0⟩ :: E, ∀ q, nvB x = some q → some q ≠ v.ownBlock
  ex : ∀ x ∈ E, ∀ q, nvB x = some q → w0.heap.size ≤ q
  fr : Fr2 gR vb0 w0 w
  nr : NewRow vb0 vn.ownBlock w0.heap.size
  hB : B ≤ w0.heap.size
section
variable {wW w0 w w1 : World} {B gR : Nat} {vb0 : Option Nat} {N0 : List NV} {D0 : List Nd} {f : Bool} {bj b1 : Wd} {vn v v1 : Value} {E E2 : List NV} {nw nw2 : List Nd} {X : List Ar} {x : Ar}
theorem LI.lt (h : LI wW w0 B gR vb0 N0 D0 f bj vn E nw v X w) : ∀ x ∈ N0 ++ ⟨f, none, 0, 0⟩ :: E, ∀ q, nvB x = some q → q < w.heap.size := fun x hx q hq => by
  obtain ⟨k, hk, rfl⟩ := List.getElem_of_mem hx
  exact (h.rs.arcs k hk (by rw [← h.rs.len]; exact hk)).2.lt q hq
theorem LI.rest (h : LI wW w0 B gR vb0 N0 D0 f bj vn E nw v X w) (hr : RRep wW w1 gR b1 vn) (hg : w.grownBy w1 (some gR)) : LI wW w0 B gR vb0 N0 D0 f b1 vn E nw v X w1 :=
  ⟨h.rs.rest hr hg, h.own.grown hg fun q hq e => by injection e with e; exact (h.rs.arc_ne h.own q hq).1 e, h.ap, h.ex, h.fr.trans (Fr2.of_gr hg) h.nr, h.nr, h.hB⟩
theorem LI.go (h : LI wW w0 B gR vb0 N0 D0 f bj vn E nw v X w) (hx : Ext w w1) : LI wW w0 B gR vb0 N0 D0 f bj vn E nw v X w1 :=
  ⟨h.rs.go hx, h.own.later hx (Nat.le_refl _), h.ap, h.ex, h.fr.trans (Fr2.of_ext hx) h.nr, h.nr, h.hB⟩
theorem LI.called (h : LI wW w0 B gR vb0 N0 D0 f bj vn E nw v X w) (hr : RS wW B gR b1 v1 ((N0 ++ ⟨f, none, 0, 0⟩ :: E) ++ E2) ((D0 ++ ⟨f, []⟩ :: nw) ++ nw2) w1) (hf : Fr2 gR vn.ownBlock w w1) (hn : NewRow vn.ownBlock v1.ownBlock w.heap.size) (he : ∀ x ∈ E2, ∀ q, nvB x = some q → w.heap.size ≤ q) :
    LI wW w0 B gR vb0 N0 D0 f b1 v1 (E ++ E2) (nw ++ nw2) v X w1 := by
  rw [List.append_assoc, List.append_assoc, List.cons_append, List.cons_append] at hr
  refine ⟨hr, h.own.keep fun q hq => hf.block q (h.own.lt q hq) (h.rs.arc_ne h.own q hq).1 (h.rs.arc_ne h.own q hq).2, fun x hx q hq e => ?_, fun x hx q hq => ?_, h.fr.trans hf h.nr, h.nr.trans hn h.fr.size, h.hB⟩
  · rw [← List.cons_append, ← List.append_assoc] at hx
    rcases List.mem_append.1 hx with hx | hx
    · exact h.ap x hx q hq e
    · have h1 := he x hx q hq
      have h2 := h.own.lt q e.symm
      omega
  · rcases List.mem_append.1 hx with hx | hx
    · exact h.ex x hx q hq
    · exact Nat.le_trans h.fr.size (he x hx q hq)
theorem LI.app (h : LI wW w0 B gR vb0 N0 D0 f bj vn E nw v X w) (ho : OwnG rowArc w1 w0.heap.size v1 (X ++ [x])) (hg : w.grownBy w1 v.ownBlock) (hat : v1.ownBlock = v.ownBlock ∨ v1.ownBlock = some w.heap.size) :
    LI wW w0 B gR vb0 N0 D0 f bj vn E nw v1 (X ++ [x]) w1 := by
  refine ⟨h.rs.arc h.own h.hB hg h.ap, ho, fun y hy q hq e => ?_, h.ex, ⟨Nat.le_trans h.fr.size hg.size, fun q hq h3 h4 => (hg.block q (Nat.lt_of_lt_of_le hq h.fr.size) fun e => by have := h.own.ge q e.symm; omega).trans (h.fr.block q hq h3 h4)⟩, h.nr, h.hB⟩
  rcases hat with h1 | h1
  · rw [h1] at e; exact h.ap y hy q hq e
  · rw [h1] at e
    injection e with e
    have := h.lt y hy q hq
    omega
/-- a cell of a box is written -/
theorem LI.set (h : LI wW w0 B gR vb0 N0 D0 f bj vn E nw v X w) {g i : Nat} {u : Value} (h1 : g ≠ gR) (h2 : some g ≠ vn.ownBlock) (h3 : some g ≠ v.ownBlock) (h4 : ∀ x ∈ N0 ++ ⟨f, none, 0, 0⟩ :: E, nvB x ≠ some g) (h5 : w0.heap.size ≤ g) : LI wW w0 B gR vb0 N0 D0 f bj vn E nw v X (w.setCell ⟨g, i, none⟩ u) := by
  have hne : ∀ q, q ≠ g → (w.setCell ⟨g, i, none⟩ u).heap[q]? = w.heap[q]? := fun q hq => Below.heap_setCell _ _ _ _ hq
  obtain ⟨ar, cr, hrep, hby⟩ := h.rs.rr
  refine ⟨⟨⟨ar, cr, (hne gR (fun e => h1 e.symm)).trans hrep, hby⟩, h.rs.own.keep fun q hq => hne q fun e => h2 (by rw [← e]; exact hq.symm), h.rs.len, fun k k1 k2 => ⟨(h.rs.arcs k k1 k2).1, (h.rs.arcs k k1 k2).2.keep fun q hq => hne q fun e => h4 _ (List.getElem_mem k1) (by rw [← e]; exact hq)⟩, h.rs.bl.setCell (p := ⟨g, i, none⟩) (Nat.le_trans h.hB h5) _, h.rs.hg⟩, h.own.keep fun q hq => hne q fun e => h3 (by rw [← e]; exact hq.symm), h.ap, h.ex, ⟨by rw [World.size_setCell]; exact h.fr.size, fun q hq h6 h7 => (hne q (by omega)).trans (h.fr.block q hq h6 h7)⟩, h.nr, h.hB⟩
end
theorem set_mid {α : Type} (N E : List α) (x y : α) : (N ++ x :: E).set N.length y = N ++ y :: E := by
  rw [List.set_append_right _ _ (Nat.le_refl _), Nat.sub_self]; rfl
theorem get_mid {α : Type} (N E : List α) (x : α) (h : N.length < (N ++ x :: E).length) : (N ++ x :: E)[N.length] = x := by
  rw [List.getElem_append_right (Nat.le_refl _)]; simp
set_option maxHeartbeats 6400000 in
set_option maxRecDepth 100000 in
theorem rdform_any (wW : World) (B gR : Nat) (hWB : wW.heap.size ≤ B) (hBR : B ≤ gR) : ∀ (m d : Nat) (bs : Wd) (vn : Value) (N : List NV) (D : List Nd) (w : World), d + m = 21 → D.length + bs.length ≤ 20000 → RS wW B gR bs vn N D w →
    Calls Tryd.prog 60 #[.pointer (some ⟨gR, 0, none⟩), .int .i64 (d : Int)] w (FormP wW w B gR vn N D (rdNode okP okT m bs D.length)) := by
  intro m
  induction m with
  | zero =>
    intro d bs vn N D w hd hl hst
    have HST := Lib.hid hst
    clear hst
    have hd20 : 20 < d := by omega
    go_enter Tryd.func60, Tryd.ntmps60
    go_wp2
    exact ⟨rfl, rfl, HST.out.bl⟩
  | succ m ih =>
    intro d bs vn N D w hd hl hst
    have HIH := Lib.hid ih; have HST := Lib.hid hst
    have hd20 : ¬ 20 < d := by omega
    obtain ⟨an, cn, hvn, -, -⟩ := hst.own.form
    subst hvn
    obtain ⟨ar, cr, hrep, -, -⟩ := id hst.rr
    obtain ⟨c0, c1⟩ := cells2 hrep
    have HLEN := Lib.hid hst.len
    have HCALL := Lib.hid (rnum_any wW B gR bs _ w hWB hBR hst.bl hst.rr)
    have hDl : D.length ≤ 20000 := by omega
    have hNl : N.length ≤ 20000 := by have := hst.len; omega
    have HL0 := Lib.hid hl
    clear ih hst hrep hl
    cases hq : rdNum okP bs with
    | none =>
      have HR : Hid (rdNode okP okT (m + 1) bs D.length = none) := by show _ = _; rw [rdNode, hq]
      have HQ := Lib.hid hq
      clear hq
      go_enter Tryd.func60, Tryd.ntmps60
      go_wp2_with fail
      refine HCALL.out.mono ?_
      rintro e w1 hp
      obtain ⟨rfl, hg⟩ := numP_no hp HQ.out
      exact ⟨rfl, FormP.of_none HR.out rfl (HST.out.below hg)⟩
    | some p =>
      obtain ⟨k, b1⟩ := p
      have hk := rdNum_le hq
      have hb1 := rdNum_len hq
      have hl1 : D.length + 1 + b1.length ≤ 20000 := by have := HL0.out; omega
      have HRD : Hid (rdNode okP okT (m + 1) bs D.length = nodeA (decide (k % 2 = 1)) (rdArcs okP (rdNode okP okT m) (k / 2) b1 (D.length + 1))) := by
        show _ = _
        rw [rdNode, hq]
        simp only
        rw [if_pos (show okT k = true from rfl)]
        cases rdArcs okP (rdNode okP okT m) (k / 2) b1 (D.length + 1) with
        | none => rfl
        | some p => rfl
      have HQ := Lib.hid hq
      clear hq hb1
      go_enter Tryd.func60, Tryd.ntmps60
      go_wp2_with fail
      refine HCALL.out.mono ?_
      rintro e w1 hp
      obtain ⟨rfl, hr1, hg1⟩ := numP_yes hp HQ.out
      have hst1 := HST.out.rest hr1 hg1
      have HFR1 := Lib.hid (Fr2.of_gr (vb := (Value.slice an N.length cn).ownBlock) hg1)
      obtain ⟨ar1, cr1, hrep1, -, -⟩ := id hr1
      obtain ⟨e0, e1⟩ := cells2 hrep1
      have fz1 : w1.frozen? ⟨gR, 1, none⟩ = false := by simp [World.frozen?, hrep1]
      have hgl1 : gR < w1.heap.size := hr1.size
      have HST1 := Lib.hid hst1
      clear hp hr1 hg1 hst1 hrep1 HCALL c0 c1
      obtain ⟨f, hf⟩ : ∃ f, decide (k % 2 = 1) = f := ⟨_, rfl⟩
      have HF := Lib.hid hf
      have hmod : (k : Int).tmod 2 = ((k % 2 : Nat) : Int) := Int.ofNat_tmod k 2
      have hdiv : (k : Int).tdiv 2 = ((k / 2 : Nat) : Int) := Int.ofNat_tdiv k 2
      have hfb : (((k % 2 : Nat) : Int) == 1) = f := by
        rw [← hf]
        rcases Nat.mod_two_eq_zero_or_one k with h | h <;> simp [h]
      obtain ⟨kr, hkr⟩ : ∃ kr, k % 2 = kr := ⟨_, rfl⟩
      rw [hkr] at hmod hfb
      obtain ⟨kh, hkh⟩ : ∃ kh, k / 2 = kh := ⟨_, rfl⟩
      rw [hkh] at hdiv HRD
      have hkr2 : kr < 2 := by omega
      have hkh2 : kh ≤ 536870912 := by omega
      rw [hf] at HRD
      clear hf hkr hkh
      have hxA : Below w1.heap.size w1 (w1.alloc (.cells #[.bool f, .slice none 0 0] 53)) := (Below.refl _ w1).alloc (Nat.le_refl _) _
      have HXA := Lib.hid hxA
      have H9 := Lib.hid (heap_alloc_new w1 (.cells #[.bool f, .slice none 0 0] 53))
      have HSTA := Lib.hid (HST1.out.go hxA)
      have HBZ := Lib.hid HST1.out.size
      clear hxA
      go_upto_region 6 with (first | (at_builtin; go_loud (refine wpList_append_g rowNode_ok rfl _ _ rfl rfl HSTA.out.own ⟨w1.heap.size, 0, none⟩ 1 [(⟨f, none, 0, 0⟩ : NV)] rfl (cells_built H9.out) (by simp only [List.length_singleton]; omega) (by have := HBZ.out; simp only [World.size_alloc]; omega) ?_); intro v2 w2 hown2 hg2 hat2; have HO2 := Lib.hid hown2; have HG2 := Lib.hid hg2; have HAT2 := Lib.hid hat2; obtain ⟨ar2, cr2, hrep2, -, -⟩ := id HSTA.out.rr; have hrep2' : w2.heap[gR]? = some (.cells #[.slice ar2 b1.length cr2, .slice an N.length cn] 113 (0, 0)) := (hg2.block _ (by simp only [World.size_alloc]; omega) (fun e => HSTA.out.own_ne gR e.symm rfl)).trans hrep2; obtain ⟨g0, g1⟩ := cells2 hrep2'; have fz2 : w2.frozen? ⟨gR, 1, none⟩ = false := (by simp [World.frozen?, hrep2']); obtain ⟨a2, c2, hv2, -, -⟩ := hown2.form; subst hv2; clear hown2 hg2 hat2 hrep2 hrep2'))
      have hnd := HST1.out.node (w1 := w2) (f := f) (v1 := .slice a2 (N ++ [(⟨f, none, 0, 0⟩ : NV)]).length c2) HO2.out (GrowV.pre (v1 := .slice a2 (N ++ [(⟨f, none, 0, 0⟩ : NV)]).length c2) HXA.out ⟨HG2.out, by
        rcases HAT2.out with h | h
        · exact .inl h
        · exact .inr fun q hq => by rw [h] at hq; injection hq with hq; rw [← hq]; exact Nat.le_refl _⟩).gr
      have hnr : NewRow (Value.slice an N.length cn).ownBlock (Value.slice a2 (N ++ [(⟨f, none, 0, 0⟩ : NV)]).length c2).ownBlock w.heap.size := by
        rcases HAT2.out with h | h
        · exact .inl h
        · exact .inr fun q hq => by rw [h] at hq; injection hq with hq; rw [← hq]; have := HFR1.out.size; simp only [World.size_alloc]; omega
      have hfr2 : Fr2 gR (Value.slice an N.length cn).ownBlock w (w2.setCell ⟨gR, 1, none⟩ (.slice a2 (N ++ [(⟨f, none, 0, 0⟩ : NV)]).length c2)) := by
        refine ⟨by rw [World.size_setCell]; have h1 := HG2.out.size; have h2 := HFR1.out.size; simp only [World.size_alloc] at h1; omega, fun q hq h3 h4 => ?_⟩
        rw [Below.heap_setCell _ _ _ _ h3]
        have h2 := HFR1.out.size
        exact ((HG2.out.block q (by simp only [World.size_alloc]; omega) h4).trans (HXA.out.block q (by omega))).trans (HFR1.out.block q hq h3 h4)
      have hlenN : (N ++ [(⟨f, none, 0, 0⟩ : NV)]).length = N.length + 1 := by simp
      rw [hlenN] at hnd hnr hfr2
      obtain ⟨w3, hw3⟩ : ∃ w3, w2.setCell ⟨gR, 1, none⟩ (.slice a2 (N.length + 1) c2) = w3 := ⟨_, rfl⟩
      rw [hw3] at hnd hfr2 ⊢
      have hli : LI wW w B gR (Value.slice an N.length cn).ownBlock N D f b1 (.slice a2 (N.length + 1) c2) [] [] (.slice none 0 0) [] w3 :=
        ⟨hnd, OwnG.nil _ _ _, fun x _ q _ e => (by cases e), fun x hx => (by cases hx), hfr2, hnr, HST.out.size⟩
      have HLI := Lib.hid hli
      clear hli hnd hnr hfr2 hlenN hw3 HO2 HG2 HAT2 HSTA HXA H9 HST1 HFR1 HBZ g0 g1 fz2 e0 e1 fz1 hgl1 hmod hfb hkr2
      go_wp2
      clear hdiv
      go_loopw [36, 7] (fun q v wr => ∃ (j : Nat) (bj : Wd) (vn : Value) (E : List NV) (nw : List Nd) (X : List Ar), j ≤ kh ∧ q = .int .i64 (j : Int) ∧ LI wW w B gR (Value.slice an N.length cn).ownBlock N D f bj vn E nw v X wr ∧ D.length + 1 + nw.length + bj.length ≤ 20000 ∧ X.length + bj.length ≤ 20000 ∧
        rdArcs okP (rdNode okP okT m) kh b1 (D.length + 1) = accA X nw (rdArcs okP (rdNode okP okT m) (kh - j) bj (D.length + 1 + nw.length))) (fun q _ _ => kh - (intOf q).toNat)
      case atStart => exact ⟨0, b1, _, [], [], [], Nat.zero_le _, rfl, HLI.out, by simpa using hl1, by simp; omega, (accA_nil _).symm⟩
      case round =>
        clear HLI
        obtain ⟨j, bj, vn, E, nw, X, hj, rfl, hli, hlj, hxj, hrd⟩ := hrel
        have HLI := Lib.hid hli; have HRJ := Lib.hid hrd
        obtain ⟨va, vc, hva, -, -⟩ := hli.own.form
        subst hva
        by_cases hlt : j < kh
        · have hkj : kh - j = (kh - (j + 1)) + 1 := by omega
          have HBY := Lib.hid (byte_any wW B gR bj vn wr hWB hli.rs.bl hli.rs.rr)
          have hbelow := hli.rs.bl
          have HBL := Lib.hid hbelow
          clear hli hrd hbelow
          cases bj with
          | nil =>
            have HR : Hid (rdNode okP okT (m + 1) bs D.length = none) := by show _ = _; rw [HRD.out, HRJ.out, hkj, accA_no0]; rfl
            clear hkj
            go_wp2_with fail
            refine HBY.out.mono ?_
            rintro e w4 ⟨rfl, rfl⟩
            exact ⟨rfl, FormP.of_none HR.out rfl HBL.out⟩
          | cons c r =>
            go_wp2_with fail
            refine HBY.out.mono ?_
            rintro e w4 ⟨rfl, hr4, hg4⟩
            have hli4 := HLI.out.rest hr4 hg4
            have HR4 := Lib.hid hr4; have HG4 := Lib.hid hg4
            clear hr4 hg4
            go_upto_region 10 with fail
            have hr4 := HR4.out; have hg4 := HG4.out
            have hxB : Below w4.heap.size w4 (w4.alloc (.cells #[.int .u8 (c.toNat : Int), .int .i64 0] 56)) := (Below.refl _ w4).alloc (Nat.le_refl _) _
            have hli5 := hli4.go hxB
            have hbx5 := heap_alloc_new w4 (.cells #[.int .u8 (c.toNat : Int), .int .i64 0] 56)
            have hown4 := hli4.own.lt
            have hlt4 := hli4.lt
            have hwg := hli4.fr.size
            obtain ⟨w5, hw5⟩ : ∃ w5, w4.alloc (.cells #[.int .u8 (c.toNat : Int), .int .i64 0] 56) = w5 := ⟨_, rfl⟩
            obtain ⟨gb, hgb⟩ : ∃ gb, w4.heap.size = gb := ⟨_, rfl⟩
            rw [hw5, hgb] at hbx5
            rw [hw5] at hli5
            rw [hw5, hgb]
            rw [hgb] at hown4 hlt4 hwg
            have HLI5 := Lib.hid hli5; have HBX5 := Lib.hid hbx5; have HOW := Lib.hid hown4; have HLT := Lib.hid hlt4
            have hcl := UInt8.toNat_lt c
            have HNU := Lib.hid (rnum_any wW B gR r vn w5 hWB hBR hli5.rs.bl hli5.rs.rr)
            clear hr4 hg4 hli4 hxB hli5 hbx5 hown4 hlt4 HLI HBY HBL HR4 HG4 hw5 hgb
            simp only [List.length_cons] at hlj hxj
            cases hq : rdNum okP r with
            | none =>
              have HR : Hid (rdNode okP okT (m + 1) bs D.length = none) := by show _ = _; rw [HRD.out, HRJ.out, hkj, accA_no1 hq]; rfl
              have HQ2 := Lib.hid hq
              clear hkj hq
              go_wp2_with fail
              refine HNU.out.mono ?_
              rintro e w6 hp
              obtain ⟨rfl, hg⟩ := numP_no hp HQ2.out
              exact ⟨rfl, FormP.of_none HR.out rfl (HLI5.out.rs.below hg)⟩
            | some p =>
              obtain ⟨t, b2⟩ := p
              have htl := rdNum_le hq
              have hb2 := rdNum_len hq
              have HQ2 := Lib.hid hq
              go_wp2_with fail
              refine HNU.out.mono ?_
              rintro e w6 hp
              obtain ⟨rfl, hr6, hg6⟩ := numP_yes hp HQ2.out
              have hli6 := HLI5.out.rest hr6 hg6
              have hgbR : gb ≠ gR := HLI5.out.rs.rr.ne HBX5.out (by decide)
              have hbx6 : w6.heap[gb]? = some (.cells #[.int .u8 (c.toNat : Int), .int .i64 0] 56) := (hg6.block gb (Array.getElem?_eq_some_iff.1 HBX5.out).1 (fun e => hgbR (by injection e))).trans HBX5.out
              have HLI6 := Lib.hid hli6; have HBX6 := Lib.hid hbx6
              clear hp hr6 hg6 hli6 hbx6 HLI5 HBX5 HNU
              obtain ⟨nd, hnd⟩ : ∃ nd, D.length + 1 + nw.length = nd := ⟨_, rfl⟩
              have HND := Lib.hid hnd
              rw [hnd] at HRJ hlj
              have hgbl : gb < w6.heap.size := (Array.getElem?_eq_some_iff.1 HBX6.out).1
              have hcI : 0 ≤ (c.toNat : Int) := by omega
              clear hnd
              by_cases ht : t = 0
              · have htb : ((t : Int) == 0) = true := by simp [ht]
                have HT0 := Lib.hid ht
                clear ht
                have hnl : (D ++ ⟨f, []⟩ :: nw).length = nd := by have := HND.out; simp; omega
                have hcall := HIH.out (d + 1) b2 vn _ _ w6 (by omega) (by rw [hnl]; omega) HLI6.out.rs
                rw [hnl] at hcall
                obtain ⟨d1, hd1⟩ : ∃ d1, d + 1 = d1 := ⟨_, rfl⟩
                have hwd : IntKind.i64.wrap ((d : Int) + 1) = (d1 : Int) := by rw [IntWalk.i64_in _ (by omega)]; omega
                rw [hd1] at hcall
                have HCALL := Lib.hid hcall
                clear hcall hd1
                cases hq3 : rdNode okP okT m b2 nd with
                | none =>
                  have HR : Hid (rdNode okP okT (m + 1) bs D.length = none) := by show _ = _; rw [HRD.out, HRJ.out, hkj, accA_no2 (by rw [hq, HT0.out]) hq3]; rfl
                  have HQ3 := Lib.hid hq3
                  clear hkj hq hq3
                  go_wp2_with fail
                  refine HCALL.out.mono ?_
                  rintro e w7 hp
                  rw [HQ3.out] at hp
                  obtain ⟨rfl, hb⟩ := hp
                  exact ⟨rfl, FormP.of_none HR.out rfl hb⟩
                | some p3 =>
                  obtain ⟨b3, nw3⟩ := p3
                  have hl3 := rdNode_len _ _ _ _ _ hq3
                  have HRK : Hid (rdArcs okP (rdNode okP okT m) kh b1 (D.length + 1) = accA (X ++ [⟨(c.toNat : Int), (nd : Int)⟩]) (nw ++ nw3) (rdArcs okP (rdNode okP okT m) (kh - (j + 1)) b3 (nd + nw3.length))) := by
                    show _ = _
                    rw [HRJ.out, hkj, accA_new (by rw [hq, HT0.out]) hq3]
                  have HQ3 := Lib.hid hq3
                  clear hkj hq hq3
                  go_wp2_with fail
                  refine HCALL.out.mono ?_
                  rintro e w7 hp
                  rw [HQ3.out] at hp
                  obtain ⟨he, vn7, E7, hr7, hf7, hn7, hx7⟩ := hp
                  rw [hnl] at he
                  subst he
                  have hli7 := HLI6.out.called hr7 hf7 hn7 hx7
                  have hbx7 : w7.heap[gb]? = some (.cells #[.int .u8 (c.toNat : Int), .int .i64 0] 56) := (hf7.block gb hgbl hgbR (fun e => by
                    obtain ⟨c2, h2⟩ := HLI6.out.rs.own.obj e.symm
                    exact cells_ne HBX6.out h2 (by decide) rfl)).trans HBX6.out
                  have hne7 : some gb ≠ vn7.ownBlock := fun e => by
                    obtain ⟨c2, h2⟩ := hli7.rs.own.obj e.symm
                    exact cells_ne hbx7 h2 (by decide) rfl
                  have hli8 := hli7.set (g := gb) (i := 1) (u := .int .i64 (nd : Int)) hgbR hne7 (fun e => by have := HOW.out gb e.symm; omega) (fun x hx e => by
                    rw [← List.cons_append, ← List.append_assoc] at hx
                    rcases List.mem_append.1 hx with hx | hx
                    · have := HLT.out x hx gb e; omega
                    · have := hx7 x hx gb e; omega) hwg
                  have hbx8 : (w7.setCell ⟨gb, 1, none⟩ (.int .i64 (nd : Int))).heap[gb]? = some (.cells #[.int .u8 (c.toNat : Int), .int .i64 (nd : Int)] 56) := set_one hbx7 rfl
                  have fz7 : w7.frozen? ⟨gb, 1, none⟩ = false := by simp [World.frozen?, hbx7]
                  obtain ⟨y0, y1⟩ := cells2 hbx7
                  have hnd5 : nd ≤ 20000 := by omega
                  clear hr7 hf7 hn7 hx7 hli7 hbx7 hne7 HCALL HLI6 HBX6
                  go_upto_region 14 with fail
                  clear fz7 y0 y1
                  obtain ⟨w8, hw8⟩ : ∃ w8, w7.setCell ⟨gb, 1, none⟩ (.int .i64 (nd : Int)) = w8 := ⟨_, rfl⟩
                  rw [hw8] at hli8 hbx8 ⊢
                  clear hw8
                  have HLI8 := Lib.hid hli8; have HBX8 := Lib.hid hbx8
                  have hgb8 : gb < w8.heap.size := (Array.getElem?_eq_some_iff.1 hbx8).1
                  obtain ⟨m0, m1⟩ := cells2 hbx8
                  have hwB := hli8.fr.size
                  have hxC : Below w8.heap.size w8 (w8.alloc (.cells #[.int .u8 (c.toNat : Int), .int .i64 (nd : Int)] 56)) := (Below.refl _ w8).alloc (Nat.le_refl _) _
                  have HLI9 := Lib.hid (hli8.go hxC)
                  have H9 := Lib.hid (heap_alloc_new w8 (.cells #[.int .u8 (c.toNat : Int), .int .i64 (nd : Int)] 56))
                  clear hli8 hbx8 hxC
                  go_wp2_with (first | (at_builtin; go_loud (refine wpList_append_g rowArc_ok rfl _ _ rfl rfl HLI9.out.own ⟨w8.heap.size, 0, none⟩ 1 [(⟨(c.toNat : Int), (nd : Int)⟩ : Ar)] rfl (cells_built H9.out) (by simp only [List.length_singleton]; omega) (by simp only [World.size_alloc]; omega) ?_); intro v10 w10 hown10 hg10 hat10; have HLI10 := Lib.hid (HLI9.out.app hown10 hg10 hat10); clear hown10 hg10 hat10))
                  clear m0 m1
                  go_roundw
                  case rel => exact ⟨j + 1, b3, vn7, E ++ E7, nw ++ nw3, X ++ [⟨(c.toNat : Int), (nd : Int)⟩], by omega, by go_num, HLI10.out, by have := HND.out; simp only [List.length_append]; omega, by simp only [List.length_append, List.length_singleton]; omega, by rw [HRK.out, ← HND.out, List.length_append, Nat.add_assoc (D.length + 1)]⟩
                  case measure => simp [intOf]; omega
              · have htb : ((t : Int) == 0) = false := by simp; omega
                have HRK : Hid (rdArcs okP (rdNode okP okT m) kh b1 (D.length + 1) = accA (X ++ [⟨(c.toNat : Int), (t : Int) - 1⟩]) nw (rdArcs okP (rdNode okP okT m) (kh - (j + 1)) b2 nd)) := by
                  show _ = _
                  rw [HRJ.out, hkj, accA_old hq ht]
                have hwt : IntKind.i64.wrap ((t : Int) - 1) = (t : Int) - 1 := IntWalk.i64_in _ (by omega)
                have hli8 := HLI6.out.set (g := gb) (i := 1) (u := .int .i64 ((t : Int) - 1)) hgbR (fun e => by
                    obtain ⟨c2, h2⟩ := HLI6.out.rs.own.obj e.symm
                    exact cells_ne HBX6.out h2 (by decide) rfl) (fun e => by have := HOW.out gb e.symm; omega) (fun x hx e => by have := HLT.out x hx gb e; omega) hwg
                have hbx8 : (w6.setCell ⟨gb, 1, none⟩ (.int .i64 ((t : Int) - 1))).heap[gb]? = some (.cells #[.int .u8 (c.toNat : Int), .int .i64 ((t : Int) - 1)] 56) := set_one HBX6.out rfl
                have fz7 : w6.frozen? ⟨gb, 1, none⟩ = false := by simp [World.frozen?, HBX6.out]
                obtain ⟨y0, y1⟩ := cells2 HBX6.out
                clear HLI6 HBX6 hkj hq ht
                go_upto_region 14 with fail
                clear fz7 y0 y1
                obtain ⟨tv, htv⟩ : ∃ tv : Int, (t : Int) - 1 = tv := ⟨_, rfl⟩
                rw [htv] at hli8 hbx8 HRK ⊢
                obtain ⟨w8, hw8⟩ : ∃ w8, w6.setCell ⟨gb, 1, none⟩ (.int .i64 tv) = w8 := ⟨_, rfl⟩
                rw [hw8] at hli8 hbx8 ⊢
                clear hw8 htv hwt
                have HLI8 := Lib.hid hli8; have HBX8 := Lib.hid hbx8
                have hgb8 : gb < w8.heap.size := (Array.getElem?_eq_some_iff.1 hbx8).1
                obtain ⟨m0, m1⟩ := cells2 hbx8
                have hwB := hli8.fr.size
                have hxC : Below w8.heap.size w8 (w8.alloc (.cells #[.int .u8 (c.toNat : Int), .int .i64 tv] 56)) := (Below.refl _ w8).alloc (Nat.le_refl _) _
                have HLI9 := Lib.hid (hli8.go hxC)
                have H9 := Lib.hid (heap_alloc_new w8 (.cells #[.int .u8 (c.toNat : Int), .int .i64 tv] 56))
                clear hli8 hbx8 hxC
                go_wp2_with (first | (at_builtin; go_loud (refine wpList_append_g rowArc_ok rfl _ _ rfl rfl HLI9.out.own ⟨w8.heap.size, 0, none⟩ 1 [(⟨(c.toNat : Int), tv⟩ : Ar)] rfl (cells_built H9.out) (by simp only [List.length_singleton]; omega) (by simp only [World.size_alloc]; omega) ?_); intro v10 w10 hown10 hg10 hat10; have HLI10 := Lib.hid (HLI9.out.app hown10 hg10 hat10); clear hown10 hg10 hat10))
                clear m0 m1
                go_roundw
                case rel => exact ⟨j + 1, b2, vn, E, nw, X ++ [⟨(c.toNat : Int), tv⟩], by omega, by go_num, HLI10.out, by have := HND.out; omega, by simp only [List.length_append, List.length_singleton]; omega, by rw [HRK.out, HND.out]⟩
                case measure => simp [intOf]; omega
        · have HR : Hid (rdNode okP okT (m + 1) bs D.length = some (bj, ⟨f, X⟩ :: nw)) := by
            show _ = _
            rw [HRD.out, HRJ.out, show kh - j = 0 by omega, rdArcs]
            simp [accA, nodeA]
          have hln : N.length < (N ++ (⟨f, none, 0, 0⟩ : NV) :: E).length := by simp
          obtain ⟨gn, cnn, hvn⟩ : ∃ g c, vn = .slice (some ⟨g, 0, none⟩) (N ++ (⟨f, none, 0, 0⟩ : NV) :: E).length c := by
            rcases hli.rs.own.blk with ⟨_, h⟩ | ⟨g, c, h, _⟩
            · simp at h
            · exact ⟨g, c, h⟩
          subst hvn
          have hdone := hli.rs.done (i := N.length) (f := f) rfl hli.own hli.hB hln (by
            have := hli.rs.len
            rw [List.getElem?_append_right (by rw [HLEN.out]; exact Nat.le_refl _), HLEN.out, Nat.sub_self]; rfl)
          rw [get_mid, set_mid] at hdone
          have hset2 : (D ++ (⟨f, []⟩ : Nd) :: nw).set N.length ⟨f, X⟩ = D ++ ⟨f, X⟩ :: nw := by rw [HLEN.out]; exact set_mid _ _ _ _
          rw [hset2] at hdone
          obtain ⟨ar7, cr7, hrep7, -, -⟩ := id hli.rs.rr
          obtain ⟨y0, y1⟩ := cells2 hrep7
          have q1 := hli.rs.own.cell rowNode_ok (i := N.length) (j := 1) hln (by decide)
          rw [get_mid] at q1
          have q1' : wr.cell? ⟨gn, N.length * 2 + 1, none⟩ = some (.slice none 0 0) := q1
          obtain ⟨cs, hcs⟩ := hli.rs.own.obj (g := gn) rfl
          have fz : wr.frozen? ⟨gn, N.length * 2 + 1, none⟩ = false := by simp [World.frozen?, hcs]
          have hfr9 : Fr2 gR (Value.slice an N.length cn).ownBlock w (wr.setCell ⟨gn, N.length * 2 + 1, none⟩ (.slice va X.length vc)) := by
            refine ⟨by rw [World.size_setCell]; exact hli.fr.size, fun q hq h3 h4 => ?_⟩
            rw [Below.heap_setCell _ _ _ _ (show q ≠ gn from fun e => by
              rcases hli.nr with h5 | h5
              · exact h4 (by rw [← h5, e]; rfl)
              · have := h5 gn rfl; omega)]
            exact hli.fr.block q hq h3 h4
          have hex : ∀ x ∈ (⟨f, va, X.length, vc⟩ : NV) :: E, ∀ q, nvB x = some q → w.heap.size ≤ q := fun x hx q hq => by
            rcases List.mem_cons.1 hx with rfl | hx
            · exact hli.own.ge q hq
            · exact hli.ex x hx q hq
          have hnr9 := hli.nr
          have HD9 := Lib.hid hdone; have HF9 := Lib.hid hfr9; have HE9 := Lib.hid hex; have HN9 := Lib.hid hnr9
          obtain ⟨nN, hnN⟩ : ∃ nN, (N ++ (⟨f, none, 0, 0⟩ : NV) :: E).length = nN := ⟨_, rfl⟩
          rw [hnN] at y1 hln
          have HNN := Lib.hid hnN
          have hidx := idx_nodes (some ⟨gn, 0, none⟩) gn 0 nN cnn N.length rfl hln
          rw [Nat.zero_add] at hidx
          clear hli hrd q1 hcs hset2 hdone hfr9 hex hnr9 hnN HRJ HLI hrep7
          go_wp2
          go_ret
          rw [HR.out]
          refine ⟨ret_int (by rw [HLEN.out]), _, _, HD9.out, HF9.out, HN9.out, HE9.out⟩
end Go.Proofs.YtocdljmdmiphnaaDoor
/- Pack: the closure that recovers. -/
namespace Go.Proofs.YtocdljmdmiphnaaDoor
open Go.RowKit Go.WideShapes
set_option linter.unusedVariables false
set_option linter.unusedSimpArgs false

def nilW (s : Nat) (w : World) : World := ((w.setCell ⟨s, 0, none⟩ (.slice none 0 0)).setCell ⟨s + 1, 0, none⟩ (.slice none 0 0)).setCell ⟨s + 2, 0, none⟩ (.bool false)
theorem catch_panicking (s : Nat) (v1 v2 v3 : Value) (u : TypeId) (pv : Value) (older : List PanicEntry) (w : World)
    (h1 : w.heap[s]? = some (.cells #[v1] 29 (0, 0))) (h2 : w.heap[s + 1]? = some (.cells #[v2] 31 (0, 0))) (h3 : w.heap[s + 2]? = some (.cells #[v3] 4 (0, 0))) :
    CallsD Tryd.prog 59 #[.pointer (some ⟨s, 0, none⟩), .pointer (some ⟨s + 1, 0, none⟩), .pointer (some ⟨s + 2, 0, none⟩)] (.panicking ({ v := .iface u pv, recovered := false } :: older)) w fun e u' w' =>
      e = .returned (.tuple #[]) ∧ u' = .panicking ({ v := .iface u pv, recovered := true } :: older) ∧ w' = nilW s w := by
  have c1 : w.cell? ⟨s, 0, none⟩ = some v1 := by simp [World.cell?, h1]
  have c2 : w.cell? ⟨s + 1, 0, none⟩ = some v2 := by simp [World.cell?, h2]
  have c3 : w.cell? ⟨s + 2, 0, none⟩ = some v3 := by simp [World.cell?, h3]
  have f1 : w.frozen? ⟨s, 0, none⟩ = false := by simp [World.frozen?, h1]
  have f2 : w.frozen? ⟨s + 1, 0, none⟩ = false := by simp [World.frozen?, h2]
  have f3 : w.frozen? ⟨s + 2, 0, none⟩ = false := by simp [World.frozen?, h3]
  refine callsD_of_wpS Tryd.func59 rfl fun c₀ cs hu => ?_
  apply wpS_seq
  apply wpS_region
  simp [wpOpsS, go_sem, recoverD, hu, Tryd.ntmps59, Exit.thenS]
  refine wpS_cond (t := true) (by simp [Act.eval, Array.replicate]) ?_
  simp only [if_true]
  apply wpS_region
  simp [wpOpsS, go_sem, c1, c2, c3, f1, f2, f3, bodyPostS, results, Tryd.results59, nilW]
theorem catch_idle (p1 p2 p3 : Addr) (w : World) :
    CallsD Tryd.prog 59 #[.pointer (some p1), .pointer (some p2), .pointer (some p3)] .returning w fun e u' w' => e = .returned (.tuple #[]) ∧ u' = .returning ∧ w' = w := by
  refine callsD_of_wpS Tryd.func59 rfl fun c₀ cs hu => ?_
  apply wpS_seq
  apply wpS_region
  simp [wpOpsS, go_sem, recoverD, hu, Tryd.ntmps59, Exit.thenS]
  refine wpS_cond (t := false) (by simp [Act.eval, Array.replicate]) ?_
  simp only [Bool.false_eq_true, if_false]
  refine wpS_of_wp (wp_skip ?_)
  cases c₀
  simp_all [bodyPostS, results, Tryd.results59]
/-! ### what is read, plain -/
def RdOk (D : List Nd) : Prop := ∀ x ∈ D, x.arcs.length ≤ 100000 ∧ ∀ y ∈ x.arcs, 0 ≤ y.c ∧ y.c ≤ 255 ∧ -9223372036854775808 ≤ y.t ∧ y.t ≤ 9223372036854775807
theorem RdOk.csOk {D : List Nd} (h : RdOk D) : CsOk D := fun i hi x hx => (h _ (List.getElem_mem hi)).2 x hx
theorem rdArcs_ok {okN : Nat → Bool} {rec : Wd → Nat → Option (Wd × List Nd)} (hr : ∀ bs n r nw, n + bs.length ≤ 100000 → rec bs n = some (r, nw) → RdOk nw ∧ r.length + nw.length ≤ bs.length) : ∀ k bs n r X nw, n + bs.length ≤ 100000 → rdArcs okN rec k bs n = some (r, X, nw) → (∀ y ∈ X, 0 ≤ y.c ∧ y.c ≤ 255 ∧ -9223372036854775808 ≤ y.t ∧ y.t ≤ 9223372036854775807) ∧ RdOk nw
  | 0, bs, n, r, X, nw, hn, h => by rw [rdArcs] at h; cases h; exact ⟨fun y hy => (by cases hy), fun y hy => (by cases hy)⟩
  | k + 1, [], n, r, X, nw, hn, h => by rw [rdArcs] at h; cases h
  | k + 1, c :: bs, n, r, X, nw, hn, h => by
    rw [rdArcs] at h
    have hc := UInt8.toNat_lt c
    simp only [List.length_cons] at hn
    cases hq : rdNum okN bs with
    | none => rw [hq] at h; cases h
    | some p =>
      obtain ⟨t, b1⟩ := p
      have hl := rdNum_len hq
      have hb := rdNum_big hq
      rw [hq] at h
      simp only at h
      split at h
      · cases hq2 : rec b1 n with
        | none => rw [hq2] at h; cases h
        | some p2 =>
          obtain ⟨b2, nw1⟩ := p2
          obtain ⟨h2, h2l⟩ := hr _ _ _ _ (by omega) hq2
          rw [hq2] at h
          simp only at h
          cases hq3 : rdArcs okN rec k b2 (n + nw1.length) with
          | none => rw [hq3] at h; cases h
          | some p3 =>
            obtain ⟨b3, X3, nw3⟩ := p3
            obtain ⟨h3, h4⟩ := rdArcs_ok hr k _ _ _ _ _ (by omega) hq3
            rw [hq3] at h
            cases h
            refine ⟨fun y hy => ?_, fun y hy => ?_⟩
            · rcases List.mem_cons.1 hy with rfl | hy
              · simp only; omega
              · exact h3 y hy
            · rcases List.mem_append.1 hy with hy | hy
              · exact h2 y hy
              · exact h4 y hy
      · cases hq3 : rdArcs okN rec k b1 n with
        | none => rw [hq3] at h; cases h
        | some p3 =>
          obtain ⟨b3, X3, nw3⟩ := p3
          obtain ⟨h3, h4⟩ := rdArcs_ok hr k _ _ _ _ _ (by omega) hq3
          rw [hq3] at h
          cases h
          refine ⟨fun y hy => ?_, h4⟩
          rcases List.mem_cons.1 hy with rfl | hy
          · simp only; omega
          · exact h3 y hy
theorem rdNode_ok {okN okK : Nat → Bool} : ∀ m bs n r nw, n + bs.length ≤ 100000 → rdNode okN okK m bs n = some (r, nw) → RdOk nw
  | 0, bs, n, r, nw, hn, h => by rw [rdNode] at h; cases h
  | m + 1, bs, n, r, nw, hn, h => by
    rw [rdNode] at h
    cases hq : rdNum okN bs with
    | none => rw [hq] at h; cases h
    | some p =>
      obtain ⟨k, b1⟩ := p
      have hl := rdNum_len hq
      rw [hq] at h
      simp only at h
      split at h
      · cases hq2 : rdArcs okN (rdNode okN okK m) (k / 2) b1 (n + 1) with
        | none => rw [hq2] at h; cases h
        | some p2 =>
          obtain ⟨b2, X, nw2⟩ := p2
          obtain ⟨h2, h3⟩ := rdArcs_ok (fun bs n r nw hn h => ⟨rdNode_ok m bs n r nw hn h, rdNode_len m bs n r nw h⟩) _ _ _ _ _ _ (by omega) hq2
          rw [hq2] at h
          cases h
          intro y hy
          rcases List.mem_cons.1 hy with rfl | hy
          · exact ⟨by have := rdArcs_len (rdNode_len m) _ _ _ _ _ _ hq2; simp only; omega, h2⟩
          · exact h3 y hy
      · cases h
end Go.Proofs.YtocdljmdmiphnaaDoor
