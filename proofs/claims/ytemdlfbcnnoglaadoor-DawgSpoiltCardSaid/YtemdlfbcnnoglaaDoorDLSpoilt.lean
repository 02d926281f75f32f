/- DawgSpoilt: the walk. -/
import Derived.Test.YtemdlfbcnnoglaaDoorDSpl
import Derived.Test.YtemdlfbcnnoglaaDoorDBuildF
import Derived.Test.YtemdlfbcnnoglaaDoorDLawK
import Derived.Test.YtemdlfbcnnoglaaDoorRegionX
namespace Go.Proofs.YtemdlfbcnnoglaaDoor
open Go.RowKit Go.WideShapes
set_option linter.unusedVariables false
set_option linter.unusedSimpArgs false

theorem wpOp_store_int {P : Program} {ops : Array Oper} {Q : Exit → Act → World → Prop} {L : Nat} {K : Act → World → Prop} {o : Oper} {A : Act} {W : World} {ty : TypeId} {p v : Operand} {ad : Addr} {k : IntKind} {z : Int} {y : Value}
    (ho : ops[L]? = some o) (hg : o.guard = none) (hop : o.op = .store ty p v) (hd : o.dst = none) (hp : A.eval p = .pointer (some ad)) (hv : A.eval v = .int k z) (hf : W.frozen? ad = false) (hc : W.cell? ad = some y) (hsz : (sizeOf ty).run P W = .ok 1 W) (hK : K A (W.setCell ad (.int k z))) : wpOp P ops Q L K A W := by
  unfold wpOp
  rw [ho]
  have hw : Region.wanted o (yielded ops A.tmps) = true := by unfold Region.wanted; rw [hg]
  simp only [hw, if_pos]
  refine .inl ?_
  unfold Oper.wp execOp
  simp only [hop, hp, hv]
  simp [go_sem, hf, hc, hsz]
  rw [hd]
  exact hK
theorem cells4 {w : World} {g : Nat} {a b c d : Value} {t : TypeId} {f : Nat × Nat} (h : w.heap[g]? = some (.cells #[a, b, c, d] t f)) : w.cell? ⟨g, 0, none⟩ = some a ∧ w.cell? ⟨g, 1, none⟩ = some b ∧ w.cell? ⟨g, 2, none⟩ = some c ∧ w.cell? ⟨g, 3, none⟩ = some d := by
  simp [World.cell?, h]
theorem u8_nat (a : Int) : ∃ z : Nat, IntKind.u8.wrap a = (z : Int) ∧ z ≤ 255 := by
  have h := bounds_u8 (Go.wf_wrap .u8 a)
  exact ⟨(IntKind.u8.wrap a).toNat, by omega, by omega⟩
def arcsOk (X : List Ar) : Prop := ∀ x ∈ X, 0 ≤ x.c ∧ x.c ≤ 255 ∧ -9223372036854775808 ≤ x.t ∧ x.t ≤ 9223372036854775807
set_option maxHeartbeats 3200000 in
set_option maxRecDepth 100000 in
theorem dawgSpoilt_view (xl : BytsA) (xd : DawgA) (a0 a1 a2 a3 : Int) (w : World) (hm : BytsOk w xl) (hx : DawgOk w xd) (h00 : -128 ≤ a0) (h01 : a0 ≤ 127) (h10 : -128 ≤ a1) (h11 : a1 ≤ 127) (h20 : -128 ≤ a2) (h21 : a2 ≤ 127) (h30 : -128 ≤ a3) (h31 : a3 ≤ 127) (hT : Tab w) :
    Calls Tryd.prog 9 #[xl.val, xd.val, .agg #[.int .i8 a0, .int .i8 a1, .int .i8 a2, .int .i8 a3]] w fun e w' => e = .returned (.bool true) ∧ Below w.heap.size w w' := by
  obtain ⟨a, len, cap, Q⟩ := xl
  obtain ⟨ad, nd, cd, D⟩ := xd
  obtain ⟨hQ, hl⟩ := hm
  obtain ⟨hD, hnd, hcs, hndl⟩ := hx
  simp only at hQ hl hD hnd hcs hndl
  have HD := Lib.hid hD; have HND := Lib.hid hnd; have HCS := Lib.hid hcs
  have HT := Lib.hid hT; have HQ := Lib.hid hQ
  clear hD hT hQ hnd hcs
  show Calls Tryd.prog 9 #[.slice a len cap, .slice ad nd cd, .agg #[.int .i8 a0, .int .i8 a1, .int .i8 a2, .int .i8 a3]] w _
  go_enter Tryd.func9, Tryd.ntmps9
  go_wp2_with fail
  have hal0 : Below w.heap.size w (w.alloc (.cells #[.int .i8 a0, .int .i8 a1, .int .i8 a2, .int .i8 a3] 61)) := (Below.refl _ _).alloc (Nat.le_refl _) _
  have hbx := heap_alloc_new w (.cells #[.int .i8 a0, .int .i8 a1, .int .i8 a2, .int .i8 a3] 61)
  refine (sanity_any _ (HT.out.go hal0)).mono ?_
  rintro e w1 ⟨rfl, hb⟩
  have hbx1 : w1.heap[w.heap.size]? = some (.cells #[.int .i8 a0, .int .i8 a1, .int .i8 a2, .int .i8 a3] 61) := (hb.block _ (by simp)).trans hbx
  have hB1 : Below w.heap.size w w1 := hal0.trans (hb.mono hal0.size)
  have hz1 : w.heap.size < w1.heap.size := by have := hb.size; simp only [World.size_alloc] at this; omega
  have HBX := Lib.hid hbx1; have HB1 := Lib.hid hB1
  clear hb hal0 hbx hbx1 hB1
  by_cases h6 : 6 < nd
  · go_wp2
    go_ret
    exact ⟨rfl, HB1.out⟩
  go_wp2
  go_loopw [8] (fun q wr => ∃ k : Nat, k ≤ nd ∧ q = .int .i64 (k : Int) ∧ w1 = wr) (fun q _ => nd - (intOf q).toNat)
  case atStart => exact ⟨0, Nat.zero_le _, rfl, rfl⟩
  case round =>
    obtain ⟨k, hk, rfl, rfl⟩ := hrel
    by_cases hlt : k < nd
    · obtain ⟨b, o, ha, hb, q0, aa, cc, q1, hl1, hX⟩ := (HD.out.later HB1.out (Nat.le_refl _)).at (k := k) (by have := HND.out; omega)
      have hidx := idx_nodes ad b o nd cd k ha hlt
      obtain ⟨m, hm⟩ : ∃ m, (D[k]'(by have := HND.out; omega)).arcs.length = m := ⟨_, rfl⟩
      rw [hm] at q1 hl1
      clear hX ha q0 hm
      by_cases h4 : 4 < m
      · go_wp2
        go_ret
        exact ⟨rfl, HB1.out⟩
      · go_wp2
        go_roundw
        case rel => exact ⟨k + 1, by omega, by go_num, trivial⟩
        case measure => simp [intOf]; omega
    · have hE := heap_alloc_new w1 (.cells #[] 47)
      have hal1 : Below w1.heap.size w1 (w1.alloc (.cells #[] 47)) := (Below.refl _ _).alloc (Nat.le_refl _) _
      have HE := Lib.hid hE; have HAL := Lib.hid hal1
      clear hE hal1 hk
      go_wp2_with fail
      refine (made_d 8 8 rfl (by decide) (by decide) (HQ.out.go (HB1.out.trans (HAL.out.mono HB1.out.size))) hl).mono ?_
      rintro e w2 ⟨L, b, o, c, -, rfl, hd, hm2, -, hc, hR, hb⟩
      have HB2 : Hid (Below w1.heap.size w1 w2) := HAL.out.trans (hb.mono HAL.out.size)
      have HE2 : Hid (w2.heap[w1.heap.size]? = some (.cells #[] 47)) := (hb.block _ (by simp)).trans HE.out
      have hz2 : w1.heap.size < w2.heap.size := by have := hb.size; simp only [World.size_alloc] at this; omega
      have HR := Lib.hid hR; have HDI := Lib.hid hd
      clear hb hR hd HE HAL
      go_wp2_with fail
      refine (of_d HDI.out HR.out rfl hc).mono ?_
      rintro e w3 ⟨a3', n3, c3, rfl, hA, hb⟩
      have HB3 : Hid (Below w1.heap.size w1 w3) := HB2.out.trans (hb.mono HB2.out.size)
      have HE3 : Hid (w3.heap[w1.heap.size]? = some (.cells #[] 47)) := (hb.block _ hz2).trans HE2.out
      have hz3 : w1.heap.size < w3.heap.size := Nat.lt_of_lt_of_le hz2 hb.size
      obtain ⟨hn1, hn2⟩ := hA.small
      have hlen := hA.len
      obtain ⟨E, hEq⟩ : ∃ E, ofF (restAt 0 L) = E := ⟨_, rfl⟩
      have hrows := hA.rows
      rw [hEq] at hrows hlen
      have HCE : Hid (CsOk E) := by show CsOk E; rw [← hEq]; exact csOk_of HDI.out
      have HAE : Hid (∀ i (h : i < E.length), E[i].arcs.length ≤ 1000) := by show ∀ i (h : i < E.length), _; rw [← hEq]; exact ofF_arcs HDI.out
      have HEL := Lib.hid hlen
      have ha3 : ∃ b o, a3' = some ⟨b, o, none⟩ := by obtain ⟨b, o, h, _⟩ := hrows.at (k := 0) (by omega); exact ⟨b, o, h⟩
      obtain ⟨b3, o3, ha3⟩ := ha3
      subst ha3
      obtain ⟨N, hN, hcN⟩ := nodes_of hrows
      have hNl : N.length = n3 := hN.1.trans hlen.symm
      have HN := Lib.hid hN; have HCN := Lib.hid hcN
      have hNe : N ≠ [] := fun h => by rw [h] at hNl; simp at hNl; omega
      clear hb hA hEq hlen hrows hN hcN HE2 HB2 HR HDI hc
      go_upto_region 10 with (first | (at_builtin; go_loud (refine wpList_copy_g rowNode_ok HE3.out rfl _ _ rfl rfl (some ⟨b3, o3, none⟩) n3 c3 N hNl.symm rfl (fun _ => ⟨⟨b3, o3, none⟩, rfl, HCN.out⟩) (by omega) ?_); intro v4 w4 hown4 hown4' hx4; have HO4 := Lib.hid (hown4' hNe); have HX4 := Lib.hid hx4; clear hown4 hown4' hx4))
      obtain ⟨g, c4, rfl, hg3, hg4⟩ : ∃ g c, v4 = .slice (some ⟨g, 0, none⟩) n3 c ∧ w3.heap.size ≤ g ∧ g < w4.heap.size := by
        rcases HO4.out.blk with ⟨_, h⟩ | ⟨g, c, e, h1, h2, _⟩
        · exact absurd h hNe
        · rw [hNl] at e; exact ⟨g, c, e, h1, h2⟩
      have HB4 : Hid (Below w.heap.size w w4) := HB1.out.trans ((HB3.out.trans (HX4.out.mono HB3.out.size)).mono HB1.out.size)
      have HBx4 : Hid (w4.heap[w.heap.size]? = some (.cells #[.int .i8 a0, .int .i8 a1, .int .i8 a2, .int .i8 a3] 61)) := (HX4.out.block _ (by omega)).trans ((HB3.out.block _ hz1).trans HBX.out)
      have hww4 : w.heap.size < w4.heap.size := by omega
      obtain ⟨z0, hu0, hz0⟩ := u8_nat a0
      obtain ⟨z1, hu1, hzz1⟩ := u8_nat a1
      obtain ⟨z2, hu2, hzz2⟩ := u8_nat a2
      obtain ⟨z3, hu3, hzz3⟩ := u8_nat a3
      obtain ⟨n, hn⟩ : ∃ n : Nat, (z0 : Int).tmod (n3 : Int) = (n : Int) := ⟨z0 % n3, Int.ofNat_tmod z0 n3⟩
      have hnl : n < n3 := by
        have h1 := Int.ofNat_tmod z0 n3
        rw [hn] at h1
        have := Nat.mod_lt z0 (show n3 > 0 by omega)
        omega
      have hwz0 : IntKind.i64.wrap (z0 : Int) = (z0 : Int) := IntWalk.i64_in _ (by omega)
      have hwn : IntKind.i64.wrap (n : Int) = (n : Int) := IntWalk.i64_in _ (by omega)
      have hne : ¬ (n3 : Int) = 0 := by omega
      obtain ⟨bx0, bx1, bx2, bx3⟩ := cells4 HBx4.out
      have HBW3 : Hid (Below w.heap.size w w3) := HB1.out.trans (HB3.out.mono HB1.out.size)
      clear HBX HB1 HB3 HE3
      go_upto_region 11 with fail
      clear bx0 bx1 bx2 bx3 hwz0 hn hwn hne hu0 hz0
      have hnE : n < E.length := by have := HEL.out; omega
      have hnN : n < N.length := by omega
      obtain ⟨eN1, eN2, eN3⟩ := HN.out.2 n hnN hnE
      have q1 : w4.cell? ⟨g, n * 2 + 1, none⟩ = some (.slice N[n].a N[n].n N[n].c) := HO4.out.cell rowNode_ok (i := n) (j := 1) hnN (by decide)
      obtain ⟨X0, hX0⟩ : ∃ X, E[n].arcs = X := ⟨_, rfl⟩
      obtain ⟨ax, hax⟩ : ∃ x, N[n].a = x := ⟨_, rfl⟩
      obtain ⟨mx, hmx⟩ : ∃ x, N[n].n = x := ⟨_, rfl⟩
      obtain ⟨cx, hcx⟩ : ∃ x, N[n].c = x := ⟨_, rfl⟩
      rw [hax, hmx, hcx] at q1
      rw [hax, hX0] at eN3
      rw [hmx, hX0] at eN2
      rw [eN2] at q1
      clear hmx
      have hX0l : X0.length ≤ 1000 := by rw [← hX0]; exact HAE.out n hnE
      have hX0o : arcsOk X0 := by rw [← hX0]; exact fun x hx => HCE.out n hnE x hx
      have HX0 : Hid (ArcS w3 ax X0) := eN3
      have HX0O := Lib.hid hX0o
      have hidx := idx_nodes (some ⟨g, 0, none⟩) g 0 n3 c4 n rfl hnl
      rw [Nat.zero_add] at hidx
      have HA5 := heap_alloc_new w4 (.cells #[] 51)
      have HL5 : Below w4.heap.size w4 (w4.alloc (.cells #[] 51)) := (Below.refl _ _).alloc (Nat.le_refl _) _
      have HA5 := Lib.hid HA5; have HL5 := Lib.hid HL5
      have HSX : Hid (X0 ≠ [] → ∃ adr, ax = some adr ∧ ∀ j u, (X0.flatMap rowArc.enc)[j]? = some u → (w4.alloc (.cells #[] 51)).cell? (adr.add j) = some u) := fun hne => by
        obtain ⟨b, o, e, _⟩ := HX0.out.at (k := 0) (List.length_pos_iff.2 hne)
        subst e
        exact ⟨_, rfl, cells_arcs ((HX0.out.later HX4.out (Nat.le_refl _)).later HL5.out (Nat.le_refl _))⟩
      clear eN1 eN2 eN3 hax hcx hX0o
      go_upto_region 12 with (first | (at_builtin; go_loud (refine wpList_copy_g rowArc_ok HA5.out rfl _ _ rfl rfl ax X0.length cx X0 rfl rfl HSX.out (by omega) ?_); intro v5 w5 hown5 hown5' hx5; have HO5 := Lib.hid hown5; have HX5 := Lib.hid hx5; clear hown5 hown5' hx5))
      obtain ⟨a5, c5, rfl, -, -⟩ := HO5.out.form
      have HB45 : Hid (Below w4.heap.size w4 w5) := HL5.out.trans (HX5.out.mono HL5.out.size)
      have hSP : SpS w3 w5 g c4 E (.slice a5 X0.length c5) X0 := ⟨Below.trans HX4.out (Below.mono HB45.out HX4.out.size), hg3, ⟨N, HN.out, by
        have h := HO4.out.later HB45.out (Nat.le_refl _)
        have e := HEL.out
        rw [e] at h
        exact h⟩, HO5.out.mono hg4⟩
      have HSP := Lib.hid hSP
      have HB5 : Hid (Below w.heap.size w w5) := HB4.out.trans (HB45.out.mono HB4.out.size)
      have HBx5 : Hid (w5.heap[w.heap.size]? = some (.cells #[.int .i8 a0, .int .i8 a1, .int .i8 a2, .int .i8 a3] 61)) := (HB45.out.block _ hww4).trans HBx4.out
      have hww5 : w.heap.size < w5.heap.size := Nat.lt_of_lt_of_le hww4 HB45.out.size
      have HAR : Hid (∀ x ∈ E, x.arcs.length ≤ 1000) := fun x hx => by
        obtain ⟨i, hi, rfl⟩ := List.getElem_of_mem hx
        exact HAE.out i hi
      have hww3 : w.heap.size ≤ w3.heap.size := by omega
      clear hSP HO5 HX5 HL5 HA5 HB45 HB4 HBx4 HSX HX0 HX4 HN HO4 HCN hidx q1 HAE hX0
      obtain ⟨bx0, bx1, bx2, bx3⟩ := cells4 HBx5.out
      obtain ⟨j, hj⟩ : ∃ j : Nat, (z1 : Int).tmod 4 = (j : Int) := ⟨z1 % 4, Int.ofNat_tmod z1 4⟩
      have hj4 : j < 4 := by
        have h1 : (z1 : Int).tmod 4 = ((z1 % 4 : Nat) : Int) := Int.ofNat_tmod z1 4
        rw [hj] at h1
        have := Nat.mod_lt z1 (show 4 > 0 by omega)
        omega
      have hwj : IntKind.u8.wrap (j : Int) = (j : Int) := IntWalk.u8_in _ (by omega)
      have hj0 : j = 0 ∨ j = 1 ∨ j = 2 ∨ j = 3 := by omega
      rcases hj0 with rfl | rfl | rfl | rfl
      · obtain ⟨c0, -⟩ := HSP.out.node hnE
        have hfr := HSP.out.free (n * 2)
        have hidx5 := idx_nodes (some ⟨g, 0, none⟩) g 0 n3 c4 n rfl hnl
        rw [Nat.zero_add] at hidx5
        obtain ⟨fb, hfb⟩ : ∃ b, E[n].fin = b := ⟨_, rfl⟩
        rw [hfb] at c0
        go_upto_region 22 with fail
        obtain ⟨E6, hE6⟩ : ∃ E6, E.set n ⟨!fb, E[n].arcs⟩ = E6 := ⟨_, rfl⟩
        obtain ⟨X6, hX6⟩ : ∃ X6, X0 = X6 := ⟨_, rfl⟩
        obtain ⟨a6, ha6⟩ : ∃ a6 : Option Addr, a5 = a6 := ⟨_, rfl⟩
        obtain ⟨c6, hc6⟩ : ∃ c6 : Nat, c5 = c6 := ⟨_, rfl⟩
        have hS6 := HSP.out.setFin hnE (!fb)
        obtain ⟨w6, hw6⟩ : ∃ w6, w5.setCell ⟨g, n * 2, none⟩ (.bool !fb) = w6 := ⟨_, rfl⟩
        have hlS : (E.set n ⟨!fb, E[n].arcs⟩).length = E.length := by simp
        rw [hE6, hw6, hX6, ha6, hc6] at hS6
        rw [hw6, hX6, ha6, hc6]
        have hX6l : X6.length ≤ 1001 := by rw [← hX6]; omega
        have hxo6 : arcsOk X6 := by rw [← hX6]; exact HX0O.out
        clear hw6 hX6 ha6 hc6 c0 hfr hidx5 hfb hlS
        have hl6 : E6.length = n3 := by rw [← hE6]; have := HEL.out; first | (simp only [List.length_set]; omega) | omega
        have hc6 : CsOk E6 := by rw [← hE6]; first | exact HCE.out | exact csOk_set HCE.out hnE (fun x hx => HCE.out n hnE x hx)
        have ha6 : ∀ x ∈ E6, x.arcs.length ≤ 1000 := by
          rw [← hE6]
          first
            | exact HAR.out
            | (intro x hx
               rcases List.mem_or_eq_of_mem_set hx with h | h
               · exact HAR.out x h
               · rw [h]; exact HAR.out E[n] (List.getElem_mem hnE))
        have hn6 : n < E6.length := by omega
        have HL6 := Lib.hid hl6
        have HC6 := Lib.hid hc6; have HA6 := Lib.hid ha6; have HS6 := Lib.hid hS6; have HXO6 := Lib.hid hxo6
        clear hE6 hl6 hc6 ha6 hS6 hxo6 bx0 bx1 bx2 bx3 HSP HX0O HAR HCE hj hwj hu1 hu2 hu3 HB5 HBx5
        obtain ⟨-, aq, cq, p1, -⟩ := HS6.out.node hn6
        have hfr6 := HS6.out.free (n * 2 + 1)
        have hidx6 := idx_nodes (some ⟨g, 0, none⟩) g 0 n3 c4 n rfl hnl
        rw [Nat.zero_add] at hidx6
        go_upto_region 23 with fail
        obtain ⟨hD7, hB7⟩ := HS6.out.setArcs hn6 (by omega) (fun x hx => by have := HA6.out x hx; omega)
        have hc7 : CsOk (E6.set n ⟨E6[n].fin, X6⟩) := csOk_set HC6.out hn6 HXO6.out
        have hl7 : n3 = (E6.set n ⟨E6[n].fin, X6⟩).length := by rw [List.length_set]; have := HL6.out; omega
        obtain ⟨w7, hw7⟩ : ∃ w7, w6.setCell ⟨g, n * 2 + 1, none⟩ (.slice a6 X6.length c6) = w7 := ⟨_, rfl⟩
        obtain ⟨D7, hD7e⟩ : ∃ D7, E6.set n ⟨E6[n].fin, X6⟩ = D7 := ⟨_, rfl⟩
        rw [hw7] at hD7 hB7 ⊢
        rw [hD7e] at hD7 hc7 hl7
        have HD7 := Lib.hid hD7; have HC7 := Lib.hid hc7; have HL7 := Lib.hid hl7
        have HSW : Hid (Since w w7) := ⟨HBW3.out.trans (hB7.mono hww3)⟩
        clear hw7 hD7e hD7 hB7 hc7 hl7 p1 hfr6 hidx6 HS6 HC6 HA6 HXO6
        go_wp2_with fail
        refine (valid_n D7 n3 _ c4 w7 HL7.out HD7.out (by omega) HC7.out (HT.out.go HSW.out.out)).mono ?_
        rintro e w8 ⟨rfl, hb⟩
        replace HD7 := Lib.hid (HD7.out.go hb); replace HSW := Lib.hid (HSW.out.go hb)
        clear hb
        go_wp2_with fail
        refine (rvalid_n D7 n3 _ c4 w8 HL7.out HD7.out (by omega) HC7.out).mono ?_
        rintro e w9 ⟨rfl, hb⟩
        replace HSW := Lib.hid (HSW.out.go hb)
        clear hb
        clear HD7 HC7 HL7
        go_wp2_with fail
        refine (valid_n D nd ad cd w9 HND.out (HD.out.go HSW.out.out) hndl HCS.out (HT.out.go HSW.out.out)).mono ?_
        rintro e w10 ⟨rfl, hb⟩
        replace HSW := Lib.hid (HSW.out.go hb)
        clear hb
        go_wp2_with fail
        refine (rvalid_n D nd ad cd w10 HND.out (HD.out.go HSW.out.out) hndl HCS.out).mono ?_
        rintro e w11 ⟨rfl, hb⟩
        replace HSW := Lib.hid (HSW.out.go hb)
        clear hb
        go_wp2
        go_ret
        exact ⟨rfl, HSW.out.out⟩
      · by_cases hx0 : 0 < X0.length
        · go_upto_region 18 with fail
          obtain ⟨ga, ca, hv5, hga, hga5, -⟩ := HSP.out.arcForm hx0
          injection hv5 with hv5a _ hv5c
          subst hv5a hv5c
          obtain ⟨kk, hkk⟩ : ∃ kk : Nat, (z2 : Int).tmod (X0.length : Int) = (kk : Int) := ⟨z2 % X0.length, Int.ofNat_tmod z2 X0.length⟩
          have hkl : kk < X0.length := by
            have h1 := Int.ofNat_tmod z2 X0.length
            rw [hkk] at h1
            have := Nat.mod_lt z2 hx0
            omega
          have hwz2 : IntKind.i64.wrap (z2 : Int) = (z2 : Int) := IntWalk.i64_in _ (by omega)
          have hwkk : IntKind.i64.wrap (kk : Int) = (kk : Int) := IntWalk.i64_in _ (by omega)
          have hw3a : IntKind.i64.wrap a3 = a3 := IntWalk.i64_in _ (by omega)
          have hneX : ¬ (X0.length : Int) = 0 := by omega
          obtain ⟨xc, hxc⟩ : ∃ xc, X0[kk].c = xc := ⟨_, rfl⟩
          obtain ⟨xt, hxt⟩ : ∃ xt, X0[kk].t = xt := ⟨_, rfl⟩
          have q0 : w5.cell? ⟨ga, kk * 2, none⟩ = some (.int .u8 X0[kk].c) := HSP.out.own.cell rowArc_ok (i := kk) (j := 0) hkl (by decide)
          have q1 : w5.cell? ⟨ga, kk * 2 + 1, none⟩ = some (.int .i64 X0[kk].t) := HSP.out.own.cell rowArc_ok (i := kk) (j := 1) hkl (by decide)
          rw [hxc] at q0
          rw [hxt] at q1
          have hidxa := idx_arcs (some ⟨ga, 0, none⟩) ga 0 X0.length c5 kk rfl hkl
          rw [Nat.zero_add] at hidxa
          have hneX2 : ¬ X0 = [] := fun h => by rw [h] at hx0; simp at hx0
          obtain ⟨d3, hd3⟩ : ∃ d3, a3.tmod 3 = d3 := ⟨_, rfl⟩
          have hwd3 : IntKind.i64.wrap d3 = d3 := by
            have h1 : d3.natAbs = a3.natAbs % 3 := by rw [← hd3]; exact Int.natAbs_tmod a3 3
            have h2 := Nat.mod_lt a3.natAbs (show 3 > 0 by omega)
            exact IntWalk.i64_in _ (by omega)
          obtain ⟨t3, ht3⟩ : ∃ t3, IntKind.i64.wrap (xt + d3) = t3 := ⟨_, rfl⟩
          obtain ⟨b3', hb3'⟩ : ∃ b3', IntKind.u8.wrap (xc + (z3 : Int)) = b3' := ⟨_, rfl⟩
          have hbt := bounds_i64 (Go.wf_wrap .i64 (xt + d3))
          rw [ht3] at hbt
          have hbb := bounds_u8 (Go.wf_wrap .u8 (xc + (z3 : Int)))
          rw [hb3'] at hbb
          obtain ⟨csa, hcsa⟩ := HSP.out.own.obj (g := ga) rfl
          have HCSA := Lib.hid hcsa
          have HQ0 := Lib.hid q0; have HQ1 := Lib.hid q1
          clear q0 q1 hcsa
          refine wp_region_st (by kernel_rfl) (Vs [fun v _ => v = .slice (some ⟨ga, 0, none⟩) X0.length c5, fun v _ => v = .pointer (some ⟨w.heap.size, 2, none⟩), fun v _ => v = .int .i8 a2, fun v _ => v = .int .u8 (z2 : Int), fun v _ => v = .int .i64 (z2 : Int), fun v _ => v = .slice (some ⟨ga, 0, none⟩) X0.length c5, fun v _ => v = .int .i64 (X0.length : Int), fun v _ => v = .int .i64 (kk : Int), fun v _ => v = .pointer (some ⟨ga, kk * 2, none⟩), fun v _ => v = .pointer (some ⟨ga, kk * 2 + 1, none⟩), fun v _ => v = .int .i64 xt, fun v _ => v = .pointer (some ⟨w.heap.size, 3, none⟩), fun v _ => v = .int .i8 a3, fun v _ => v = .int .i64 a3, fun v _ => v = .int .i64 d3, fun v _ => v = .int .i64 t3, fun v _ => v = .pointer (some ⟨ga, kk * 2, none⟩), fun v _ => v = .pointer (some ⟨ga, kk * 2 + 1, none⟩)]) (Xs [Ext, Ext, Ext, Ext, Ext, Ext, Ext, Ext, Ext, Ext, Ext, Ext, Ext, Ext, Ext, Ext, Ext, Ext]) (fun fL => (fun W => Below w5.heap.size w5 W) ) [0, 0, 2, 6, 14, 0, 32, 126, 255, 511, 1023, 0, 2048, 6144, 14336, 32767, 255, 65791] 141 18 (by kernel_rfl) rfl ?hV ?hS ?hop ?hfin ?hlast
          case hV =>
            refine xs_stays (vs_stays (by simp only [List.mem_cons, List.not_mem_nil, or_false, forall_eq_or_imp, forall_eq]; exact ⟨stays_const _, stays_const _, stays_const _, stays_const _, stays_const _, stays_const _, stays_const _, stays_const _, stays_const _, stays_const _, stays_const _, stays_const _, stays_const _, stays_const _, stays_const _, stays_const _, stays_const _, stays_const _⟩)) ?_
            exact ⟨.inl rfl, .inl rfl, .inl rfl, .inl rfl, .inl rfl, .inl rfl, .inl rfl, .inl rfl, .inl rfl, .inl rfl, .inl rfl, .inl rfl, .inl rfl, .inl rfl, .inl rfl, .inl rfl, .inl rfl, .inl rfl, trivial⟩
          case hS =>
            intro fL hf
            show (fun W => Below w5.heap.size w5 W)  _
            exact (Below.refl _ w5).drew
          case hop =>
            refine ⟨?_, ?_, ?_, ?_, ?_, ?_, ?_, ?_, ?_, ?_, ?_, ?_, ?_, ?_, ?_, ?_, ?_, ?_, ?_, trivial⟩
            all_goals first | rw [if_neg (by decide)] | rw [if_pos (by decide)]
            · intro ac W fL hsz hfi hms hdn hS0 hdep hbase hund
              have hS : (fun W => Below w5.heap.size w5 W)  W := hS0
              have hS1 : (fun W => Below w5.heap.size w5 W)  W := by
                exact hS0
              obtain ⟨b0, b1, b2, b3⟩ := cells4 ((hS.block _ hww5).trans HBx5.out)
              have q0 := (hS.cell (p := ⟨ga, kk * 2, none⟩) hga5).trans HQ0.out
              have q1 := (hS.cell (p := ⟨ga, kk * 2 + 1, none⟩) hga5).trans HQ1.out
              have h11 : ac.tmps.getD 11 undef = .slice (some ⟨ga, 0, none⟩) X0.length c5 := hbase 11 (by kernel_rfl)
              have hh11 := h11; rw [Array.getD_eq_getD_getElem?] at hh11
              have h5 : ac.tmps.getD 5 undef = .pointer (some ⟨w.heap.size, 0, none⟩) := hbase 5 (by kernel_rfl)
              have hh5 := h5; rw [Array.getD_eq_getD_getElem?] at hh5
              clear hbase hdep hms hdn hund
              refine opOk_run rfl (.inl ⟨_, W, ?_, rfl, Ext.refl _, hS1⟩)
              clear hsz hS hS0 hS1 hfi; simp [go_sem, Act.eval, *]
            · intro ac W fL hsz hfi hms hdn hS0 hdep hbase hund
              have hS : (fun W => Below w5.heap.size w5 W)  W := hS0
              have hS1 : (fun W => Below w5.heap.size w5 W)  W := by
                exact hS0
              obtain ⟨b0, b1, b2, b3⟩ := cells4 ((hS.block _ hww5).trans HBx5.out)
              have q0 := (hS.cell (p := ⟨ga, kk * 2, none⟩) hga5).trans HQ0.out
              have q1 := (hS.cell (p := ⟨ga, kk * 2 + 1, none⟩) hga5).trans HQ1.out
              have h11 : ac.tmps.getD 11 undef = .slice (some ⟨ga, 0, none⟩) X0.length c5 := hbase 11 (by kernel_rfl)
              have hh11 := h11; rw [Array.getD_eq_getD_getElem?] at hh11
              have h5 : ac.tmps.getD 5 undef = .pointer (some ⟨w.heap.size, 0, none⟩) := hbase 5 (by kernel_rfl)
              have hh5 := h5; rw [Array.getD_eq_getD_getElem?] at hh5
              clear hbase hdep hms hdn hund
              refine opOk_run rfl (.inl ⟨_, W, ?_, rfl, Ext.refl _, hS1⟩)
              clear hsz hS hS0 hS1 hfi; simp [go_sem, Act.eval, *]
            · intro ac W fL hsz hfi hms hdn hS0 hdep hbase hund
              have hS : (fun W => Below w5.heap.size w5 W)  W := hS0
              have hS1 : (fun W => Below w5.heap.size w5 W)  W := by
                exact hS0
              obtain ⟨b0, b1, b2, b3⟩ := cells4 ((hS.block _ hww5).trans HBx5.out)
              have q0 := (hS.cell (p := ⟨ga, kk * 2, none⟩) hga5).trans HQ0.out
              have q1 := (hS.cell (p := ⟨ga, kk * 2 + 1, none⟩) hga5).trans HQ1.out
              have h11 : ac.tmps.getD 11 undef = .slice (some ⟨ga, 0, none⟩) X0.length c5 := hbase 11 (by kernel_rfl)
              have hh11 := h11; rw [Array.getD_eq_getD_getElem?] at hh11
              have h5 : ac.tmps.getD 5 undef = .pointer (some ⟨w.heap.size, 0, none⟩) := hbase 5 (by kernel_rfl)
              have hh5 := h5; rw [Array.getD_eq_getD_getElem?] at hh5
              have d82 : ac.tmps.getD 82 undef = .pointer (some ⟨w.heap.size, 2, none⟩) := hdep 1 (by decide)
              have dd82 := d82; rw [Array.getD_eq_getD_getElem?] at dd82
              clear hbase hdep hms hdn hund
              refine opOk_run rfl (.inl ⟨_, W, ?_, rfl, Ext.refl _, hS1⟩)
              clear hsz hS hS0 hS1 hfi; simp [go_sem, Act.eval, *]
            · intro ac W fL hsz hfi hms hdn hS0 hdep hbase hund
              have hS : (fun W => Below w5.heap.size w5 W)  W := hS0
              have hS1 : (fun W => Below w5.heap.size w5 W)  W := by
                exact hS0
              obtain ⟨b0, b1, b2, b3⟩ := cells4 ((hS.block _ hww5).trans HBx5.out)
              have q0 := (hS.cell (p := ⟨ga, kk * 2, none⟩) hga5).trans HQ0.out
              have q1 := (hS.cell (p := ⟨ga, kk * 2 + 1, none⟩) hga5).trans HQ1.out
              have h11 : ac.tmps.getD 11 undef = .slice (some ⟨ga, 0, none⟩) X0.length c5 := hbase 11 (by kernel_rfl)
              have hh11 := h11; rw [Array.getD_eq_getD_getElem?] at hh11
              have h5 : ac.tmps.getD 5 undef = .pointer (some ⟨w.heap.size, 0, none⟩) := hbase 5 (by kernel_rfl)
              have hh5 := h5; rw [Array.getD_eq_getD_getElem?] at hh5
              have d83 : ac.tmps.getD 83 undef = .int .i8 a2 := hdep 2 (by decide)
              have dd83 := d83; rw [Array.getD_eq_getD_getElem?] at dd83
              clear hbase hdep hms hdn hund
              refine opOk_run rfl (.inl ⟨_, W, ?_, rfl, Ext.refl _, hS1⟩)
              clear hsz hS hS0 hS1 hfi; simp [go_sem, Act.eval, *]
            · intro ac W fL hsz hfi hms hdn hS0 hdep hbase hund
              have hS : (fun W => Below w5.heap.size w5 W)  W := hS0
              have hS1 : (fun W => Below w5.heap.size w5 W)  W := by
                exact hS0
              obtain ⟨b0, b1, b2, b3⟩ := cells4 ((hS.block _ hww5).trans HBx5.out)
              have q0 := (hS.cell (p := ⟨ga, kk * 2, none⟩) hga5).trans HQ0.out
              have q1 := (hS.cell (p := ⟨ga, kk * 2 + 1, none⟩) hga5).trans HQ1.out
              have h11 : ac.tmps.getD 11 undef = .slice (some ⟨ga, 0, none⟩) X0.length c5 := hbase 11 (by kernel_rfl)
              have hh11 := h11; rw [Array.getD_eq_getD_getElem?] at hh11
              have h5 : ac.tmps.getD 5 undef = .pointer (some ⟨w.heap.size, 0, none⟩) := hbase 5 (by kernel_rfl)
              have hh5 := h5; rw [Array.getD_eq_getD_getElem?] at hh5
              have d84 : ac.tmps.getD 84 undef = .int .u8 (z2 : Int) := hdep 3 (by decide)
              have dd84 := d84; rw [Array.getD_eq_getD_getElem?] at dd84
              clear hbase hdep hms hdn hund
              refine opOk_run rfl (.inl ⟨_, W, ?_, rfl, Ext.refl _, hS1⟩)
              clear hsz hS hS0 hS1 hfi; simp [go_sem, Act.eval, *]
            · intro ac W fL hsz hfi hms hdn hS0 hdep hbase hund
              have hS : (fun W => Below w5.heap.size w5 W)  W := hS0
              have hS1 : (fun W => Below w5.heap.size w5 W)  W := by
                exact hS0
              obtain ⟨b0, b1, b2, b3⟩ := cells4 ((hS.block _ hww5).trans HBx5.out)
              have q0 := (hS.cell (p := ⟨ga, kk * 2, none⟩) hga5).trans HQ0.out
              have q1 := (hS.cell (p := ⟨ga, kk * 2 + 1, none⟩) hga5).trans HQ1.out
              have h11 : ac.tmps.getD 11 undef = .slice (some ⟨ga, 0, none⟩) X0.length c5 := hbase 11 (by kernel_rfl)
              have hh11 := h11; rw [Array.getD_eq_getD_getElem?] at hh11
              have h5 : ac.tmps.getD 5 undef = .pointer (some ⟨w.heap.size, 0, none⟩) := hbase 5 (by kernel_rfl)
              have hh5 := h5; rw [Array.getD_eq_getD_getElem?] at hh5
              clear hbase hdep hms hdn hund
              refine opOk_run rfl (.inl ⟨_, W, ?_, rfl, Ext.refl _, hS1⟩)
              clear hsz hS hS0 hS1 hfi; simp [go_sem, Act.eval, *]
            · intro ac W fL hsz hfi hms hdn hS0 hdep hbase hund
              have hS : (fun W => Below w5.heap.size w5 W)  W := hS0
              have hS1 : (fun W => Below w5.heap.size w5 W)  W := by
                exact hS0
              obtain ⟨b0, b1, b2, b3⟩ := cells4 ((hS.block _ hww5).trans HBx5.out)
              have q0 := (hS.cell (p := ⟨ga, kk * 2, none⟩) hga5).trans HQ0.out
              have q1 := (hS.cell (p := ⟨ga, kk * 2 + 1, none⟩) hga5).trans HQ1.out
              have h11 : ac.tmps.getD 11 undef = .slice (some ⟨ga, 0, none⟩) X0.length c5 := hbase 11 (by kernel_rfl)
              have hh11 := h11; rw [Array.getD_eq_getD_getElem?] at hh11
              have h5 : ac.tmps.getD 5 undef = .pointer (some ⟨w.heap.size, 0, none⟩) := hbase 5 (by kernel_rfl)
              have hh5 := h5; rw [Array.getD_eq_getD_getElem?] at hh5
              have d86 : ac.tmps.getD 86 undef = .slice (some ⟨ga, 0, none⟩) X0.length c5 := hdep 5 (by decide)
              have dd86 := d86; rw [Array.getD_eq_getD_getElem?] at dd86
              clear hbase hdep hms hdn hund
              refine opOk_run rfl (.inl ⟨_, W, ?_, rfl, Ext.refl _, hS1⟩)
              clear hsz hS hS0 hS1 hfi; simp [go_sem, Act.eval, *]
            · intro ac W fL hsz hfi hms hdn hS0 hdep hbase hund
              have hS : (fun W => Below w5.heap.size w5 W)  W := hS0
              have hS1 : (fun W => Below w5.heap.size w5 W)  W := by
                exact hS0
              obtain ⟨b0, b1, b2, b3⟩ := cells4 ((hS.block _ hww5).trans HBx5.out)
              have q0 := (hS.cell (p := ⟨ga, kk * 2, none⟩) hga5).trans HQ0.out
              have q1 := (hS.cell (p := ⟨ga, kk * 2 + 1, none⟩) hga5).trans HQ1.out
              have h11 : ac.tmps.getD 11 undef = .slice (some ⟨ga, 0, none⟩) X0.length c5 := hbase 11 (by kernel_rfl)
              have hh11 := h11; rw [Array.getD_eq_getD_getElem?] at hh11
              have h5 : ac.tmps.getD 5 undef = .pointer (some ⟨w.heap.size, 0, none⟩) := hbase 5 (by kernel_rfl)
              have hh5 := h5; rw [Array.getD_eq_getD_getElem?] at hh5
              have d85 : ac.tmps.getD 85 undef = .int .i64 (z2 : Int) := hdep 4 (by decide)
              have dd85 := d85; rw [Array.getD_eq_getD_getElem?] at dd85
              have d87 : ac.tmps.getD 87 undef = .int .i64 (X0.length : Int) := hdep 6 (by decide)
              have dd87 := d87; rw [Array.getD_eq_getD_getElem?] at dd87
              clear hbase hdep hms hdn hund
              refine opOk_run rfl (.inl ⟨_, W, ?_, rfl, Ext.refl _, hS1⟩)
              clear hsz hS hS0 hS1 hfi; simp [go_sem, Act.eval, *]
            · intro ac W fL hsz hfi hms hdn hS0 hdep hbase hund
              have hS : (fun W => Below w5.heap.size w5 W)  W := hS0
              have hS1 : (fun W => Below w5.heap.size w5 W)  W := by
                exact hS0
              obtain ⟨b0, b1, b2, b3⟩ := cells4 ((hS.block _ hww5).trans HBx5.out)
              have q0 := (hS.cell (p := ⟨ga, kk * 2, none⟩) hga5).trans HQ0.out
              have q1 := (hS.cell (p := ⟨ga, kk * 2 + 1, none⟩) hga5).trans HQ1.out
              have h11 : ac.tmps.getD 11 undef = .slice (some ⟨ga, 0, none⟩) X0.length c5 := hbase 11 (by kernel_rfl)
              have hh11 := h11; rw [Array.getD_eq_getD_getElem?] at hh11
              have h5 : ac.tmps.getD 5 undef = .pointer (some ⟨w.heap.size, 0, none⟩) := hbase 5 (by kernel_rfl)
              have hh5 := h5; rw [Array.getD_eq_getD_getElem?] at hh5
              have d81 : ac.tmps.getD 81 undef = .slice (some ⟨ga, 0, none⟩) X0.length c5 := hdep 0 (by decide)
              have dd81 := d81; rw [Array.getD_eq_getD_getElem?] at dd81
              have d88 : ac.tmps.getD 88 undef = .int .i64 (kk : Int) := hdep 7 (by decide)
              have dd88 := d88; rw [Array.getD_eq_getD_getElem?] at dd88
              clear hbase hdep hms hdn hund
              refine opOk_run rfl (.inl ⟨_, W, ?_, rfl, Ext.refl _, hS1⟩)
              clear hsz hS hS0 hS1 hfi; simp [go_sem, Act.eval, *]
            · intro ac W fL hsz hfi hms hdn hS0 hdep hbase hund
              have hS : (fun W => Below w5.heap.size w5 W)  W := hS0
              have hS1 : (fun W => Below w5.heap.size w5 W)  W := by
                exact hS0
              obtain ⟨b0, b1, b2, b3⟩ := cells4 ((hS.block _ hww5).trans HBx5.out)
              have q0 := (hS.cell (p := ⟨ga, kk * 2, none⟩) hga5).trans HQ0.out
              have q1 := (hS.cell (p := ⟨ga, kk * 2 + 1, none⟩) hga5).trans HQ1.out
              have h11 : ac.tmps.getD 11 undef = .slice (some ⟨ga, 0, none⟩) X0.length c5 := hbase 11 (by kernel_rfl)
              have hh11 := h11; rw [Array.getD_eq_getD_getElem?] at hh11
              have h5 : ac.tmps.getD 5 undef = .pointer (some ⟨w.heap.size, 0, none⟩) := hbase 5 (by kernel_rfl)
              have hh5 := h5; rw [Array.getD_eq_getD_getElem?] at hh5
              have d89 : ac.tmps.getD 89 undef = .pointer (some ⟨ga, kk * 2, none⟩) := hdep 8 (by decide)
              have dd89 := d89; rw [Array.getD_eq_getD_getElem?] at dd89
              clear hbase hdep hms hdn hund
              refine opOk_run rfl (.inl ⟨_, W, ?_, rfl, Ext.refl _, hS1⟩)
              clear hsz hS hS0 hS1 hfi; simp [go_sem, Act.eval, *]
            · intro ac W fL hsz hfi hms hdn hS0 hdep hbase hund
              have hS : (fun W => Below w5.heap.size w5 W)  W := hS0
              have hS1 : (fun W => Below w5.heap.size w5 W)  W := by
                exact hS0
              obtain ⟨b0, b1, b2, b3⟩ := cells4 ((hS.block _ hww5).trans HBx5.out)
              have q0 := (hS.cell (p := ⟨ga, kk * 2, none⟩) hga5).trans HQ0.out
              have q1 := (hS.cell (p := ⟨ga, kk * 2 + 1, none⟩) hga5).trans HQ1.out
              have h11 : ac.tmps.getD 11 undef = .slice (some ⟨ga, 0, none⟩) X0.length c5 := hbase 11 (by kernel_rfl)
              have hh11 := h11; rw [Array.getD_eq_getD_getElem?] at hh11
              have h5 : ac.tmps.getD 5 undef = .pointer (some ⟨w.heap.size, 0, none⟩) := hbase 5 (by kernel_rfl)
              have hh5 := h5; rw [Array.getD_eq_getD_getElem?] at hh5
              have d90 : ac.tmps.getD 90 undef = .pointer (some ⟨ga, kk * 2 + 1, none⟩) := hdep 9 (by decide)
              have dd90 := d90; rw [Array.getD_eq_getD_getElem?] at dd90
              clear hbase hdep hms hdn hund
              refine opOk_run rfl (.inl ⟨_, W, ?_, rfl, Ext.refl _, hS1⟩)
              clear hsz hS hS0 hS1 hfi; simp [go_sem, Act.eval, *]
            · intro ac W fL hsz hfi hms hdn hS0 hdep hbase hund
              have hS : (fun W => Below w5.heap.size w5 W)  W := hS0
              have hS1 : (fun W => Below w5.heap.size w5 W)  W := by
                exact hS0
              obtain ⟨b0, b1, b2, b3⟩ := cells4 ((hS.block _ hww5).trans HBx5.out)
              have q0 := (hS.cell (p := ⟨ga, kk * 2, none⟩) hga5).trans HQ0.out
              have q1 := (hS.cell (p := ⟨ga, kk * 2 + 1, none⟩) hga5).trans HQ1.out
              have h11 : ac.tmps.getD 11 undef = .slice (some ⟨ga, 0, none⟩) X0.length c5 := hbase 11 (by kernel_rfl)
              have hh11 := h11; rw [Array.getD_eq_getD_getElem?] at hh11
              have h5 : ac.tmps.getD 5 undef = .pointer (some ⟨w.heap.size, 0, none⟩) := hbase 5 (by kernel_rfl)
              have hh5 := h5; rw [Array.getD_eq_getD_getElem?] at hh5
              clear hbase hdep hms hdn hund
              refine opOk_run rfl (.inl ⟨_, W, ?_, rfl, Ext.refl _, hS1⟩)
              clear hsz hS hS0 hS1 hfi; simp [go_sem, Act.eval, *]
            · intro ac W fL hsz hfi hms hdn hS0 hdep hbase hund
              have hS : (fun W => Below w5.heap.size w5 W)  W := hS0
              have hS1 : (fun W => Below w5.heap.size w5 W)  W := by
                exact hS0
              obtain ⟨b0, b1, b2, b3⟩ := cells4 ((hS.block _ hww5).trans HBx5.out)
              have q0 := (hS.cell (p := ⟨ga, kk * 2, none⟩) hga5).trans HQ0.out
              have q1 := (hS.cell (p := ⟨ga, kk * 2 + 1, none⟩) hga5).trans HQ1.out
              have h11 : ac.tmps.getD 11 undef = .slice (some ⟨ga, 0, none⟩) X0.length c5 := hbase 11 (by kernel_rfl)
              have hh11 := h11; rw [Array.getD_eq_getD_getElem?] at hh11
              have h5 : ac.tmps.getD 5 undef = .pointer (some ⟨w.heap.size, 0, none⟩) := hbase 5 (by kernel_rfl)
              have hh5 := h5; rw [Array.getD_eq_getD_getElem?] at hh5
              have d92 : ac.tmps.getD 92 undef = .pointer (some ⟨w.heap.size, 3, none⟩) := hdep 11 (by decide)
              have dd92 := d92; rw [Array.getD_eq_getD_getElem?] at dd92
              clear hbase hdep hms hdn hund
              refine opOk_run rfl (.inl ⟨_, W, ?_, rfl, Ext.refl _, hS1⟩)
              clear hsz hS hS0 hS1 hfi; simp [go_sem, Act.eval, *]
            · intro ac W fL hsz hfi hms hdn hS0 hdep hbase hund
              have hS : (fun W => Below w5.heap.size w5 W)  W := hS0
              have hS1 : (fun W => Below w5.heap.size w5 W)  W := by
                exact hS0
              obtain ⟨b0, b1, b2, b3⟩ := cells4 ((hS.block _ hww5).trans HBx5.out)
              have q0 := (hS.cell (p := ⟨ga, kk * 2, none⟩) hga5).trans HQ0.out
              have q1 := (hS.cell (p := ⟨ga, kk * 2 + 1, none⟩) hga5).trans HQ1.out
              have h11 : ac.tmps.getD 11 undef = .slice (some ⟨ga, 0, none⟩) X0.length c5 := hbase 11 (by kernel_rfl)
              have hh11 := h11; rw [Array.getD_eq_getD_getElem?] at hh11
              have h5 : ac.tmps.getD 5 undef = .pointer (some ⟨w.heap.size, 0, none⟩) := hbase 5 (by kernel_rfl)
              have hh5 := h5; rw [Array.getD_eq_getD_getElem?] at hh5
              have d93 : ac.tmps.getD 93 undef = .int .i8 a3 := hdep 12 (by decide)
              have dd93 := d93; rw [Array.getD_eq_getD_getElem?] at dd93
              clear hbase hdep hms hdn hund
              refine opOk_run rfl (.inl ⟨_, W, ?_, rfl, Ext.refl _, hS1⟩)
              clear hsz hS hS0 hS1 hfi; simp [go_sem, Act.eval, *]
            · intro ac W fL hsz hfi hms hdn hS0 hdep hbase hund
              have hS : (fun W => Below w5.heap.size w5 W)  W := hS0
              have hS1 : (fun W => Below w5.heap.size w5 W)  W := by
                exact hS0
              obtain ⟨b0, b1, b2, b3⟩ := cells4 ((hS.block _ hww5).trans HBx5.out)
              have q0 := (hS.cell (p := ⟨ga, kk * 2, none⟩) hga5).trans HQ0.out
              have q1 := (hS.cell (p := ⟨ga, kk * 2 + 1, none⟩) hga5).trans HQ1.out
              have h11 : ac.tmps.getD 11 undef = .slice (some ⟨ga, 0, none⟩) X0.length c5 := hbase 11 (by kernel_rfl)
              have hh11 := h11; rw [Array.getD_eq_getD_getElem?] at hh11
              have h5 : ac.tmps.getD 5 undef = .pointer (some ⟨w.heap.size, 0, none⟩) := hbase 5 (by kernel_rfl)
              have hh5 := h5; rw [Array.getD_eq_getD_getElem?] at hh5
              have d94 : ac.tmps.getD 94 undef = .int .i64 a3 := hdep 13 (by decide)
              have dd94 := d94; rw [Array.getD_eq_getD_getElem?] at dd94
              clear hbase hdep hms hdn hund
              refine opOk_run rfl (.inl ⟨_, W, ?_, rfl, Ext.refl _, hS1⟩)
              clear hsz hS hS0 hS1 hfi; simp [go_sem, Act.eval, *]
            · intro ac W fL hsz hfi hms hdn hS0 hdep hbase hund
              have hS : (fun W => Below w5.heap.size w5 W)  W := hS0
              have hS1 : (fun W => Below w5.heap.size w5 W)  W := by
                exact hS0
              obtain ⟨b0, b1, b2, b3⟩ := cells4 ((hS.block _ hww5).trans HBx5.out)
              have q0 := (hS.cell (p := ⟨ga, kk * 2, none⟩) hga5).trans HQ0.out
              have q1 := (hS.cell (p := ⟨ga, kk * 2 + 1, none⟩) hga5).trans HQ1.out
              have h11 : ac.tmps.getD 11 undef = .slice (some ⟨ga, 0, none⟩) X0.length c5 := hbase 11 (by kernel_rfl)
              have hh11 := h11; rw [Array.getD_eq_getD_getElem?] at hh11
              have h5 : ac.tmps.getD 5 undef = .pointer (some ⟨w.heap.size, 0, none⟩) := hbase 5 (by kernel_rfl)
              have hh5 := h5; rw [Array.getD_eq_getD_getElem?] at hh5
              have d91 : ac.tmps.getD 91 undef = .int .i64 xt := hdep 10 (by decide)
              have dd91 := d91; rw [Array.getD_eq_getD_getElem?] at dd91
              have d95 : ac.tmps.getD 95 undef = .int .i64 d3 := hdep 14 (by decide)
              have dd95 := d95; rw [Array.getD_eq_getD_getElem?] at dd95
              clear hbase hdep hms hdn hund
              refine opOk_run rfl (.inl ⟨_, W, ?_, rfl, Ext.refl _, hS1⟩)
              clear hsz hS hS0 hS1 hfi; simp [go_sem, Act.eval, *]
            · intro ac W fL hsz hfi hms hdn hS0 hdep hbase hund
              have hS : (fun W => Below w5.heap.size w5 W)  W := hS0
              have hS1 : (fun W => Below w5.heap.size w5 W)  W := by
                exact hS0
              obtain ⟨b0, b1, b2, b3⟩ := cells4 ((hS.block _ hww5).trans HBx5.out)
              have q0 := (hS.cell (p := ⟨ga, kk * 2, none⟩) hga5).trans HQ0.out
              have q1 := (hS.cell (p := ⟨ga, kk * 2 + 1, none⟩) hga5).trans HQ1.out
              have h11 : ac.tmps.getD 11 undef = .slice (some ⟨ga, 0, none⟩) X0.length c5 := hbase 11 (by kernel_rfl)
              have hh11 := h11; rw [Array.getD_eq_getD_getElem?] at hh11
              have h5 : ac.tmps.getD 5 undef = .pointer (some ⟨w.heap.size, 0, none⟩) := hbase 5 (by kernel_rfl)
              have hh5 := h5; rw [Array.getD_eq_getD_getElem?] at hh5
              have d81 : ac.tmps.getD 81 undef = .slice (some ⟨ga, 0, none⟩) X0.length c5 := hdep 0 (by decide)
              have dd81 := d81; rw [Array.getD_eq_getD_getElem?] at dd81
              have d88 : ac.tmps.getD 88 undef = .int .i64 (kk : Int) := hdep 7 (by decide)
              have dd88 := d88; rw [Array.getD_eq_getD_getElem?] at dd88
              clear hbase hdep hms hdn hund
              refine opOk_run rfl (.inl ⟨_, W, ?_, rfl, Ext.refl _, hS1⟩)
              clear hsz hS hS0 hS1 hfi; simp [go_sem, Act.eval, *]
            · intro ac W fL hsz hfi hms hdn hS0 hdep hbase hund
              have hS : (fun W => Below w5.heap.size w5 W)  W := hS0
              have hS1 : (fun W => Below w5.heap.size w5 W)  W := by
                exact hS0
              obtain ⟨b0, b1, b2, b3⟩ := cells4 ((hS.block _ hww5).trans HBx5.out)
              have q0 := (hS.cell (p := ⟨ga, kk * 2, none⟩) hga5).trans HQ0.out
              have q1 := (hS.cell (p := ⟨ga, kk * 2 + 1, none⟩) hga5).trans HQ1.out
              have h11 : ac.tmps.getD 11 undef = .slice (some ⟨ga, 0, none⟩) X0.length c5 := hbase 11 (by kernel_rfl)
              have hh11 := h11; rw [Array.getD_eq_getD_getElem?] at hh11
              have h5 : ac.tmps.getD 5 undef = .pointer (some ⟨w.heap.size, 0, none⟩) := hbase 5 (by kernel_rfl)
              have hh5 := h5; rw [Array.getD_eq_getD_getElem?] at hh5
              have d97 : ac.tmps.getD 97 undef = .pointer (some ⟨ga, kk * 2, none⟩) := hdep 16 (by decide)
              have dd97 := d97; rw [Array.getD_eq_getD_getElem?] at dd97
              clear hbase hdep hms hdn hund
              refine opOk_run rfl (.inl ⟨_, W, ?_, rfl, Ext.refl _, hS1⟩)
              clear hsz hS hS0 hS1 hfi; simp [go_sem, Act.eval, *]
            · trivial
          case hfin =>
            intro h; exact absurd h (by decide)
          case hlast =>
            intro _ ac W hsz hdf fL hf hS0 hv hbase
            have hS : (fun W => Below w5.heap.size w5 W)  W := hS0
            clear hS0
            have hst : ac.tmps.getD 98 undef = .pointer (some ⟨ga, kk * 2 + 1, none⟩) := hv 17 (by decide)
            have hnv : ac.tmps.getD 96 undef = .int .i64 t3 := hv 15 (by decide)
            have q2 := (hS.cell (p := ⟨ga, kk * 2 + 1, none⟩) hga5).trans HQ1.out
            have q4 := (hS.block ga hga5).trans HCSA.out
            refine wpOp_store_int rfl rfl rfl rfl (eval_tmp hst) (eval_tmp hnv) (by simp [World.frozen?, q4]) q2 (by kernel_rfl) ?_
            have hSQ : SpS w3 (W.setCell ⟨ga, kk * 2 + 1, none⟩ (.int .i64 t3)) g c4 E (.slice (some ⟨ga, 0, none⟩) X0.length c5) (X0.set kk ⟨xc, t3⟩) := (HSP.out.go hS).setArc (k := kk) (j := 1) (x := ⟨xc, t3⟩) (u := .int .i64 t3) hkl (by decide) (by show [Value.int .u8 xc, Value.int .i64 t3] = List.set [Value.int .u8 X0[kk].c, Value.int .i64 X0[kk].t] 1 (.int .i64 t3); rw [hxc, hxt]; rfl)
            obtain ⟨w6, hw6⟩ : ∃ w6, W.setCell ⟨ga, kk * 2 + 1, none⟩ (.int .i64 t3) = w6 := ⟨_, rfl⟩
            rw [hw6] at hSQ ⊢
            have HSQ := Lib.hid hSQ
            clear hS q2 q4 hw6 hst hnv hSQ
            obtain ⟨sx, hsx, hsA⟩ := act_puts [81, 82, 83, 84, 85, 86, 87, 88, 89, 90, 91, 92, 93, 94, 95, 96, 97, 98] (by kernel_rfl) hsz hdf hbase
            rw [hsA]
            simp only [List.foldl]
            simp only [Act.put, List.setIfInBounds_toArray, List.set_cons_succ, List.set_cons_zero]
            clear hsA hsx hv hbase hsz hdf hf
            go_upto_region 22 with fail
            obtain ⟨E6, hE6⟩ : ∃ E6, E = E6 := ⟨_, rfl⟩
            obtain ⟨X6, hX6⟩ : ∃ X6, X0.set kk ⟨xc, t3⟩ = X6 := ⟨_, rfl⟩
            obtain ⟨a6, ha6⟩ : ∃ a6 : Option Addr, some (⟨ga, 0, none⟩ : Addr) = a6 := ⟨_, rfl⟩
            obtain ⟨c6, hc6⟩ : ∃ c6 : Nat, c5 = c6 := ⟨_, rfl⟩
            have hS6 := HSQ.out
            have hX6e : X0.length = X6.length := by rw [← hX6, List.length_set]
            rw [hE6, hX6, hX6e, ha6, hc6] at hS6
            rw [hX6e, ha6, hc6]
            have hX6l : X6.length ≤ 1001 := by omega
            have hxo6 : arcsOk X6 := by
              rw [← hX6]
              intro x hx
              rcases List.mem_or_eq_of_mem_set hx with h | h
              · exact HX0O.out x h
              · have h0 := HX0O.out _ (List.getElem_mem hkl)
                rw [hxc, hxt] at h0
                rw [h]
                exact ⟨by first | exact h0.1 | exact hbb.1, by first | exact h0.2.1 | exact hbb.2, by first | exact h0.2.2.1 | exact hbt.1, by first | exact h0.2.2.2 | exact hbt.2⟩
            clear hX6 ha6 hc6 HSQ HCSA HQ0 HQ1 hX6e hkk hwz2 hwkk hw3a hneX hneX2 hidxa hwd3 hd3 ht3 hb3' hxc hxt hbt hbb
            have hl6 : E6.length = n3 := by rw [← hE6]; have := HEL.out; first | (simp only [List.length_set]; omega) | omega
            have hc6 : CsOk E6 := by rw [← hE6]; first | exact HCE.out | exact csOk_set HCE.out hnE (fun x hx => HCE.out n hnE x hx)
            have ha6 : ∀ x ∈ E6, x.arcs.length ≤ 1000 := by
              rw [← hE6]
              first
                | exact HAR.out
                | (intro x hx
                   rcases List.mem_or_eq_of_mem_set hx with h | h
                   · exact HAR.out x h
                   · rw [h]; exact HAR.out E[n] (List.getElem_mem hnE))
            have hn6 : n < E6.length := by omega
            have HL6 := Lib.hid hl6
            have HC6 := Lib.hid hc6; have HA6 := Lib.hid ha6; have HS6 := Lib.hid hS6; have HXO6 := Lib.hid hxo6
            clear hE6 hl6 hc6 ha6 hS6 hxo6 bx0 bx1 bx2 bx3 HSP HX0O HAR HCE hj hwj hu1 hu2 hu3 HB5 HBx5
            obtain ⟨-, aq, cq, p1, -⟩ := HS6.out.node hn6
            have hfr6 := HS6.out.free (n * 2 + 1)
            have hidx6 := idx_nodes (some ⟨g, 0, none⟩) g 0 n3 c4 n rfl hnl
            rw [Nat.zero_add] at hidx6
            go_upto_region 23 with fail
            obtain ⟨hD7, hB7⟩ := HS6.out.setArcs hn6 (by omega) (fun x hx => by have := HA6.out x hx; omega)
            have hc7 : CsOk (E6.set n ⟨E6[n].fin, X6⟩) := csOk_set HC6.out hn6 HXO6.out
            have hl7 : n3 = (E6.set n ⟨E6[n].fin, X6⟩).length := by rw [List.length_set]; have := HL6.out; omega
            obtain ⟨w7, hw7⟩ : ∃ w7, w6.setCell ⟨g, n * 2 + 1, none⟩ (.slice a6 X6.length c6) = w7 := ⟨_, rfl⟩
            obtain ⟨D7, hD7e⟩ : ∃ D7, E6.set n ⟨E6[n].fin, X6⟩ = D7 := ⟨_, rfl⟩
            rw [hw7] at hD7 hB7 ⊢
            rw [hD7e] at hD7 hc7 hl7
            have HD7 := Lib.hid hD7; have HC7 := Lib.hid hc7; have HL7 := Lib.hid hl7
            have HSW : Hid (Since w w7) := ⟨HBW3.out.trans (hB7.mono hww3)⟩
            clear hw7 hD7e hD7 hB7 hc7 hl7 p1 hfr6 hidx6 HS6 HC6 HA6 HXO6
            go_wp2_with fail
            refine (valid_n D7 n3 _ c4 w7 HL7.out HD7.out (by omega) HC7.out (HT.out.go HSW.out.out)).mono ?_
            rintro e w8 ⟨rfl, hb⟩
            replace HD7 := Lib.hid (HD7.out.go hb); replace HSW := Lib.hid (HSW.out.go hb)
            clear hb
            go_wp2_with fail
            refine (rvalid_n D7 n3 _ c4 w8 HL7.out HD7.out (by omega) HC7.out).mono ?_
            rintro e w9 ⟨rfl, hb⟩
            replace HSW := Lib.hid (HSW.out.go hb)
            clear hb
            clear HD7 HC7 HL7
            go_wp2_with fail
            refine (valid_n D nd ad cd w9 HND.out (HD.out.go HSW.out.out) hndl HCS.out (HT.out.go HSW.out.out)).mono ?_
            rintro e w10 ⟨rfl, hb⟩
            replace HSW := Lib.hid (HSW.out.go hb)
            clear hb
            go_wp2_with fail
            refine (rvalid_n D nd ad cd w10 HND.out (HD.out.go HSW.out.out) hndl HCS.out).mono ?_
            rintro e w11 ⟨rfl, hb⟩
            replace HSW := Lib.hid (HSW.out.go hb)
            clear hb
            go_wp2
            go_ret
            exact ⟨rfl, HSW.out.out⟩
        · have hx1 : X0.length = 0 := by omega
          go_upto_region 22 with fail
          obtain ⟨w6, hw6⟩ : ∃ w6, w5 = w6 := ⟨_, rfl⟩
          obtain ⟨E6, hE6⟩ : ∃ E6, E = E6 := ⟨_, rfl⟩
          obtain ⟨X6, hX6⟩ : ∃ X6, X0 = X6 := ⟨_, rfl⟩
          obtain ⟨a6, ha6⟩ : ∃ a6 : Option Addr, a5 = a6 := ⟨_, rfl⟩
          obtain ⟨c6, hc6⟩ : ∃ c6 : Nat, c5 = c6 := ⟨_, rfl⟩
          have hS6 := HSP.out
          rw [hE6, hw6, hX6, ha6, hc6] at hS6
          rw [hw6, hX6, ha6, hc6]
          have hX6l : X6.length ≤ 1001 := by rw [← hX6]; omega
          have hxo6 : arcsOk X6 := by rw [← hX6]; exact HX0O.out
          clear hw6 hX6 ha6 hc6
          have hl6 : E6.length = n3 := by rw [← hE6]; have := HEL.out; first | (simp only [List.length_set]; omega) | omega
          have hc6 : CsOk E6 := by rw [← hE6]; first | exact HCE.out | exact csOk_set HCE.out hnE (fun x hx => HCE.out n hnE x hx)
          have ha6 : ∀ x ∈ E6, x.arcs.length ≤ 1000 := by
            rw [← hE6]
            first
              | exact HAR.out
              | (intro x hx
                 rcases List.mem_or_eq_of_mem_set hx with h | h
                 · exact HAR.out x h
                 · rw [h]; exact HAR.out E[n] (List.getElem_mem hnE))
          have hn6 : n < E6.length := by omega
          have HL6 := Lib.hid hl6
          have HC6 := Lib.hid hc6; have HA6 := Lib.hid ha6; have HS6 := Lib.hid hS6; have HXO6 := Lib.hid hxo6
          clear hE6 hl6 hc6 ha6 hS6 hxo6 bx0 bx1 bx2 bx3 HSP HX0O HAR HCE hj hwj hu1 hu2 hu3 HB5 HBx5
          obtain ⟨-, aq, cq, p1, -⟩ := HS6.out.node hn6
          have hfr6 := HS6.out.free (n * 2 + 1)
          have hidx6 := idx_nodes (some ⟨g, 0, none⟩) g 0 n3 c4 n rfl hnl
          rw [Nat.zero_add] at hidx6
          go_upto_region 23 with fail
          obtain ⟨hD7, hB7⟩ := HS6.out.setArcs hn6 (by omega) (fun x hx => by have := HA6.out x hx; omega)
          have hc7 : CsOk (E6.set n ⟨E6[n].fin, X6⟩) := csOk_set HC6.out hn6 HXO6.out
          have hl7 : n3 = (E6.set n ⟨E6[n].fin, X6⟩).length := by rw [List.length_set]; have := HL6.out; omega
          obtain ⟨w7, hw7⟩ : ∃ w7, w6.setCell ⟨g, n * 2 + 1, none⟩ (.slice a6 X6.length c6) = w7 := ⟨_, rfl⟩
          obtain ⟨D7, hD7e⟩ : ∃ D7, E6.set n ⟨E6[n].fin, X6⟩ = D7 := ⟨_, rfl⟩
          rw [hw7] at hD7 hB7 ⊢
          rw [hD7e] at hD7 hc7 hl7
          have HD7 := Lib.hid hD7; have HC7 := Lib.hid hc7; have HL7 := Lib.hid hl7
          have HSW : Hid (Since w w7) := ⟨HBW3.out.trans (hB7.mono hww3)⟩
          clear hw7 hD7e hD7 hB7 hc7 hl7 p1 hfr6 hidx6 HS6 HC6 HA6 HXO6
          go_wp2_with fail
          refine (valid_n D7 n3 _ c4 w7 HL7.out HD7.out (by omega) HC7.out (HT.out.go HSW.out.out)).mono ?_
          rintro e w8 ⟨rfl, hb⟩
          replace HD7 := Lib.hid (HD7.out.go hb); replace HSW := Lib.hid (HSW.out.go hb)
          clear hb
          go_wp2_with fail
          refine (rvalid_n D7 n3 _ c4 w8 HL7.out HD7.out (by omega) HC7.out).mono ?_
          rintro e w9 ⟨rfl, hb⟩
          replace HSW := Lib.hid (HSW.out.go hb)
          clear hb
          clear HD7 HC7 HL7
          go_wp2_with fail
          refine (valid_n D nd ad cd w9 HND.out (HD.out.go HSW.out.out) hndl HCS.out (HT.out.go HSW.out.out)).mono ?_
          rintro e w10 ⟨rfl, hb⟩
          replace HSW := Lib.hid (HSW.out.go hb)
          clear hb
          go_wp2_with fail
          refine (rvalid_n D nd ad cd w10 HND.out (HD.out.go HSW.out.out) hndl HCS.out).mono ?_
          rintro e w11 ⟨rfl, hb⟩
          replace HSW := Lib.hid (HSW.out.go hb)
          clear hb
          go_wp2
          go_ret
          exact ⟨rfl, HSW.out.out⟩
      · by_cases hx0 : 0 < X0.length
        · go_upto_region 21 with fail
          obtain ⟨ga, ca, hv5, hga, hga5, -⟩ := HSP.out.arcForm hx0
          injection hv5 with hv5a _ hv5c
          subst hv5a hv5c
          obtain ⟨kk, hkk⟩ : ∃ kk : Nat, (z2 : Int).tmod (X0.length : Int) = (kk : Int) := ⟨z2 % X0.length, Int.ofNat_tmod z2 X0.length⟩
          have hkl : kk < X0.length := by
            have h1 := Int.ofNat_tmod z2 X0.length
            rw [hkk] at h1
            have := Nat.mod_lt z2 hx0
            omega
          have hwz2 : IntKind.i64.wrap (z2 : Int) = (z2 : Int) := IntWalk.i64_in _ (by omega)
          have hwkk : IntKind.i64.wrap (kk : Int) = (kk : Int) := IntWalk.i64_in _ (by omega)
          have hw3a : IntKind.i64.wrap a3 = a3 := IntWalk.i64_in _ (by omega)
          have hneX : ¬ (X0.length : Int) = 0 := by omega
          obtain ⟨xc, hxc⟩ : ∃ xc, X0[kk].c = xc := ⟨_, rfl⟩
          obtain ⟨xt, hxt⟩ : ∃ xt, X0[kk].t = xt := ⟨_, rfl⟩
          have q0 : w5.cell? ⟨ga, kk * 2, none⟩ = some (.int .u8 X0[kk].c) := HSP.out.own.cell rowArc_ok (i := kk) (j := 0) hkl (by decide)
          have q1 : w5.cell? ⟨ga, kk * 2 + 1, none⟩ = some (.int .i64 X0[kk].t) := HSP.out.own.cell rowArc_ok (i := kk) (j := 1) hkl (by decide)
          rw [hxc] at q0
          rw [hxt] at q1
          have hidxa := idx_arcs (some ⟨ga, 0, none⟩) ga 0 X0.length c5 kk rfl hkl
          rw [Nat.zero_add] at hidxa
          have hneX2 : ¬ X0 = [] := fun h => by rw [h] at hx0; simp at hx0
          obtain ⟨d3, hd3⟩ : ∃ d3, a3.tmod 3 = d3 := ⟨_, rfl⟩
          have hwd3 : IntKind.i64.wrap d3 = d3 := by
            have h1 : d3.natAbs = a3.natAbs % 3 := by rw [← hd3]; exact Int.natAbs_tmod a3 3
            have h2 := Nat.mod_lt a3.natAbs (show 3 > 0 by omega)
            exact IntWalk.i64_in _ (by omega)
          obtain ⟨t3, ht3⟩ : ∃ t3, IntKind.i64.wrap (xt + d3) = t3 := ⟨_, rfl⟩
          obtain ⟨b3', hb3'⟩ : ∃ b3', IntKind.u8.wrap (xc + (z3 : Int)) = b3' := ⟨_, rfl⟩
          have hbt := bounds_i64 (Go.wf_wrap .i64 (xt + d3))
          rw [ht3] at hbt
          have hbb := bounds_u8 (Go.wf_wrap .u8 (xc + (z3 : Int)))
          rw [hb3'] at hbb
          obtain ⟨csa, hcsa⟩ := HSP.out.own.obj (g := ga) rfl
          have HCSA := Lib.hid hcsa
          have HQ0 := Lib.hid q0; have HQ1 := Lib.hid q1
          clear q0 q1 hcsa
          refine wp_region_st (by kernel_rfl) (Vs [fun v _ => v = .slice (some ⟨ga, 0, none⟩) X0.length c5, fun v _ => v = .pointer (some ⟨w.heap.size, 2, none⟩), fun v _ => v = .int .i8 a2, fun v _ => v = .int .u8 (z2 : Int), fun v _ => v = .int .i64 (z2 : Int), fun v _ => v = .slice (some ⟨ga, 0, none⟩) X0.length c5, fun v _ => v = .int .i64 (X0.length : Int), fun v _ => v = .int .i64 (kk : Int), fun v _ => v = .pointer (some ⟨ga, kk * 2, none⟩), fun v _ => v = .pointer (some ⟨ga, kk * 2, none⟩), fun v _ => v = .int .u8 xc, fun v _ => v = .pointer (some ⟨w.heap.size, 3, none⟩), fun v _ => v = .int .i8 a3, fun v _ => v = .int .u8 (z3 : Int), fun v _ => v = .int .u8 b3', fun v _ => v = .pointer (some ⟨ga, kk * 2, none⟩), fun v _ => v = .pointer (some ⟨ga, kk * 2, none⟩)]) (Xs [Ext, Ext, Ext, Ext, Ext, Ext, Ext, Ext, Ext, Ext, Ext, Ext, Ext, Ext, Ext, Ext, Ext]) (fun fL => (fun W => Below w5.heap.size w5 W) ) [0, 0, 2, 6, 14, 0, 32, 126, 255, 511, 1023, 0, 2048, 6144, 16383, 255, 33023] 141 17 (by kernel_rfl) rfl ?hV ?hS ?hop ?hfin ?hlast
          case hV =>
            refine xs_stays (vs_stays (by simp only [List.mem_cons, List.not_mem_nil, or_false, forall_eq_or_imp, forall_eq]; exact ⟨stays_const _, stays_const _, stays_const _, stays_const _, stays_const _, stays_const _, stays_const _, stays_const _, stays_const _, stays_const _, stays_const _, stays_const _, stays_const _, stays_const _, stays_const _, stays_const _, stays_const _⟩)) ?_
            exact ⟨.inl rfl, .inl rfl, .inl rfl, .inl rfl, .inl rfl, .inl rfl, .inl rfl, .inl rfl, .inl rfl, .inl rfl, .inl rfl, .inl rfl, .inl rfl, .inl rfl, .inl rfl, .inl rfl, .inl rfl, trivial⟩
          case hS =>
            intro fL hf
            show (fun W => Below w5.heap.size w5 W)  _
            exact (Below.refl _ w5).drew
          case hop =>
            refine ⟨?_, ?_, ?_, ?_, ?_, ?_, ?_, ?_, ?_, ?_, ?_, ?_, ?_, ?_, ?_, ?_, ?_, ?_, trivial⟩
            all_goals first | rw [if_neg (by decide)] | rw [if_pos (by decide)]
            · intro ac W fL hsz hfi hms hdn hS0 hdep hbase hund
              have hS : (fun W => Below w5.heap.size w5 W)  W := hS0
              have hS1 : (fun W => Below w5.heap.size w5 W)  W := by
                exact hS0
              obtain ⟨b0, b1, b2, b3⟩ := cells4 ((hS.block _ hww5).trans HBx5.out)
              have q0 := (hS.cell (p := ⟨ga, kk * 2, none⟩) hga5).trans HQ0.out
              have q1 := (hS.cell (p := ⟨ga, kk * 2 + 1, none⟩) hga5).trans HQ1.out
              have h11 : ac.tmps.getD 11 undef = .slice (some ⟨ga, 0, none⟩) X0.length c5 := hbase 11 (by kernel_rfl)
              have hh11 := h11; rw [Array.getD_eq_getD_getElem?] at hh11
              have h5 : ac.tmps.getD 5 undef = .pointer (some ⟨w.heap.size, 0, none⟩) := hbase 5 (by kernel_rfl)
              have hh5 := h5; rw [Array.getD_eq_getD_getElem?] at hh5
              clear hbase hdep hms hdn hund
              refine opOk_run rfl (.inl ⟨_, W, ?_, rfl, Ext.refl _, hS1⟩)
              clear hsz hS hS0 hS1 hfi; simp [go_sem, Act.eval, *]
            · intro ac W fL hsz hfi hms hdn hS0 hdep hbase hund
              have hS : (fun W => Below w5.heap.size w5 W)  W := hS0
              have hS1 : (fun W => Below w5.heap.size w5 W)  W := by
                exact hS0
              obtain ⟨b0, b1, b2, b3⟩ := cells4 ((hS.block _ hww5).trans HBx5.out)
              have q0 := (hS.cell (p := ⟨ga, kk * 2, none⟩) hga5).trans HQ0.out
              have q1 := (hS.cell (p := ⟨ga, kk * 2 + 1, none⟩) hga5).trans HQ1.out
              have h11 : ac.tmps.getD 11 undef = .slice (some ⟨ga, 0, none⟩) X0.length c5 := hbase 11 (by kernel_rfl)
              have hh11 := h11; rw [Array.getD_eq_getD_getElem?] at hh11
              have h5 : ac.tmps.getD 5 undef = .pointer (some ⟨w.heap.size, 0, none⟩) := hbase 5 (by kernel_rfl)
              have hh5 := h5; rw [Array.getD_eq_getD_getElem?] at hh5
              clear hbase hdep hms hdn hund
              refine opOk_run rfl (.inl ⟨_, W, ?_, rfl, Ext.refl _, hS1⟩)
              clear hsz hS hS0 hS1 hfi; simp [go_sem, Act.eval, *]
            · intro ac W fL hsz hfi hms hdn hS0 hdep hbase hund
              have hS : (fun W => Below w5.heap.size w5 W)  W := hS0
              have hS1 : (fun W => Below w5.heap.size w5 W)  W := by
                exact hS0
              obtain ⟨b0, b1, b2, b3⟩ := cells4 ((hS.block _ hww5).trans HBx5.out)
              have q0 := (hS.cell (p := ⟨ga, kk * 2, none⟩) hga5).trans HQ0.out
              have q1 := (hS.cell (p := ⟨ga, kk * 2 + 1, none⟩) hga5).trans HQ1.out
              have h11 : ac.tmps.getD 11 undef = .slice (some ⟨ga, 0, none⟩) X0.length c5 := hbase 11 (by kernel_rfl)
              have hh11 := h11; rw [Array.getD_eq_getD_getElem?] at hh11
              have h5 : ac.tmps.getD 5 undef = .pointer (some ⟨w.heap.size, 0, none⟩) := hbase 5 (by kernel_rfl)
              have hh5 := h5; rw [Array.getD_eq_getD_getElem?] at hh5
              have d105 : ac.tmps.getD 105 undef = .pointer (some ⟨w.heap.size, 2, none⟩) := hdep 1 (by decide)
              have dd105 := d105; rw [Array.getD_eq_getD_getElem?] at dd105
              clear hbase hdep hms hdn hund
              refine opOk_run rfl (.inl ⟨_, W, ?_, rfl, Ext.refl _, hS1⟩)
              clear hsz hS hS0 hS1 hfi; simp [go_sem, Act.eval, *]
            · intro ac W fL hsz hfi hms hdn hS0 hdep hbase hund
              have hS : (fun W => Below w5.heap.size w5 W)  W := hS0
              have hS1 : (fun W => Below w5.heap.size w5 W)  W := by
                exact hS0
              obtain ⟨b0, b1, b2, b3⟩ := cells4 ((hS.block _ hww5).trans HBx5.out)
              have q0 := (hS.cell (p := ⟨ga, kk * 2, none⟩) hga5).trans HQ0.out
              have q1 := (hS.cell (p := ⟨ga, kk * 2 + 1, none⟩) hga5).trans HQ1.out
              have h11 : ac.tmps.getD 11 undef = .slice (some ⟨ga, 0, none⟩) X0.length c5 := hbase 11 (by kernel_rfl)
              have hh11 := h11; rw [Array.getD_eq_getD_getElem?] at hh11
              have h5 : ac.tmps.getD 5 undef = .pointer (some ⟨w.heap.size, 0, none⟩) := hbase 5 (by kernel_rfl)
              have hh5 := h5; rw [Array.getD_eq_getD_getElem?] at hh5
              have d106 : ac.tmps.getD 106 undef = .int .i8 a2 := hdep 2 (by decide)
              have dd106 := d106; rw [Array.getD_eq_getD_getElem?] at dd106
              clear hbase hdep hms hdn hund
              refine opOk_run rfl (.inl ⟨_, W, ?_, rfl, Ext.refl _, hS1⟩)
              clear hsz hS hS0 hS1 hfi; simp [go_sem, Act.eval, *]
            · intro ac W fL hsz hfi hms hdn hS0 hdep hbase hund
              have hS : (fun W => Below w5.heap.size w5 W)  W := hS0
              have hS1 : (fun W => Below w5.heap.size w5 W)  W := by
                exact hS0
              obtain ⟨b0, b1, b2, b3⟩ := cells4 ((hS.block _ hww5).trans HBx5.out)
              have q0 := (hS.cell (p := ⟨ga, kk * 2, none⟩) hga5).trans HQ0.out
              have q1 := (hS.cell (p := ⟨ga, kk * 2 + 1, none⟩) hga5).trans HQ1.out
              have h11 : ac.tmps.getD 11 undef = .slice (some ⟨ga, 0, none⟩) X0.length c5 := hbase 11 (by kernel_rfl)
              have hh11 := h11; rw [Array.getD_eq_getD_getElem?] at hh11
              have h5 : ac.tmps.getD 5 undef = .pointer (some ⟨w.heap.size, 0, none⟩) := hbase 5 (by kernel_rfl)
              have hh5 := h5; rw [Array.getD_eq_getD_getElem?] at hh5
              have d107 : ac.tmps.getD 107 undef = .int .u8 (z2 : Int) := hdep 3 (by decide)
              have dd107 := d107; rw [Array.getD_eq_getD_getElem?] at dd107
              clear hbase hdep hms hdn hund
              refine opOk_run rfl (.inl ⟨_, W, ?_, rfl, Ext.refl _, hS1⟩)
              clear hsz hS hS0 hS1 hfi; simp [go_sem, Act.eval, *]
            · intro ac W fL hsz hfi hms hdn hS0 hdep hbase hund
              have hS : (fun W => Below w5.heap.size w5 W)  W := hS0
              have hS1 : (fun W => Below w5.heap.size w5 W)  W := by
                exact hS0
              obtain ⟨b0, b1, b2, b3⟩ := cells4 ((hS.block _ hww5).trans HBx5.out)
              have q0 := (hS.cell (p := ⟨ga, kk * 2, none⟩) hga5).trans HQ0.out
              have q1 := (hS.cell (p := ⟨ga, kk * 2 + 1, none⟩) hga5).trans HQ1.out
              have h11 : ac.tmps.getD 11 undef = .slice (some ⟨ga, 0, none⟩) X0.length c5 := hbase 11 (by kernel_rfl)
              have hh11 := h11; rw [Array.getD_eq_getD_getElem?] at hh11
              have h5 : ac.tmps.getD 5 undef = .pointer (some ⟨w.heap.size, 0, none⟩) := hbase 5 (by kernel_rfl)
              have hh5 := h5; rw [Array.getD_eq_getD_getElem?] at hh5
              clear hbase hdep hms hdn hund
              refine opOk_run rfl (.inl ⟨_, W, ?_, rfl, Ext.refl _, hS1⟩)
              clear hsz hS hS0 hS1 hfi; simp [go_sem, Act.eval, *]
            · intro ac W fL hsz hfi hms hdn hS0 hdep hbase hund
              have hS : (fun W => Below w5.heap.size w5 W)  W := hS0
              have hS1 : (fun W => Below w5.heap.size w5 W)  W := by
                exact hS0
              obtain ⟨b0, b1, b2, b3⟩ := cells4 ((hS.block _ hww5).trans HBx5.out)
              have q0 := (hS.cell (p := ⟨ga, kk * 2, none⟩) hga5).trans HQ0.out
              have q1 := (hS.cell (p := ⟨ga, kk * 2 + 1, none⟩) hga5).trans HQ1.out
              have h11 : ac.tmps.getD 11 undef = .slice (some ⟨ga, 0, none⟩) X0.length c5 := hbase 11 (by kernel_rfl)
              have hh11 := h11; rw [Array.getD_eq_getD_getElem?] at hh11
              have h5 : ac.tmps.getD 5 undef = .pointer (some ⟨w.heap.size, 0, none⟩) := hbase 5 (by kernel_rfl)
              have hh5 := h5; rw [Array.getD_eq_getD_getElem?] at hh5
              have d109 : ac.tmps.getD 109 undef = .slice (some ⟨ga, 0, none⟩) X0.length c5 := hdep 5 (by decide)
              have dd109 := d109; rw [Array.getD_eq_getD_getElem?] at dd109
              clear hbase hdep hms hdn hund
              refine opOk_run rfl (.inl ⟨_, W, ?_, rfl, Ext.refl _, hS1⟩)
              clear hsz hS hS0 hS1 hfi; simp [go_sem, Act.eval, *]
            · intro ac W fL hsz hfi hms hdn hS0 hdep hbase hund
              have hS : (fun W => Below w5.heap.size w5 W)  W := hS0
              have hS1 : (fun W => Below w5.heap.size w5 W)  W := by
                exact hS0
              obtain ⟨b0, b1, b2, b3⟩ := cells4 ((hS.block _ hww5).trans HBx5.out)
              have q0 := (hS.cell (p := ⟨ga, kk * 2, none⟩) hga5).trans HQ0.out
              have q1 := (hS.cell (p := ⟨ga, kk * 2 + 1, none⟩) hga5).trans HQ1.out
              have h11 : ac.tmps.getD 11 undef = .slice (some ⟨ga, 0, none⟩) X0.length c5 := hbase 11 (by kernel_rfl)
              have hh11 := h11; rw [Array.getD_eq_getD_getElem?] at hh11
              have h5 : ac.tmps.getD 5 undef = .pointer (some ⟨w.heap.size, 0, none⟩) := hbase 5 (by kernel_rfl)
              have hh5 := h5; rw [Array.getD_eq_getD_getElem?] at hh5
              have d108 : ac.tmps.getD 108 undef = .int .i64 (z2 : Int) := hdep 4 (by decide)
              have dd108 := d108; rw [Array.getD_eq_getD_getElem?] at dd108
              have d110 : ac.tmps.getD 110 undef = .int .i64 (X0.length : Int) := hdep 6 (by decide)
              have dd110 := d110; rw [Array.getD_eq_getD_getElem?] at dd110
              clear hbase hdep hms hdn hund
              refine opOk_run rfl (.inl ⟨_, W, ?_, rfl, Ext.refl _, hS1⟩)
              clear hsz hS hS0 hS1 hfi; simp [go_sem, Act.eval, *]
            · intro ac W fL hsz hfi hms hdn hS0 hdep hbase hund
              have hS : (fun W => Below w5.heap.size w5 W)  W := hS0
              have hS1 : (fun W => Below w5.heap.size w5 W)  W := by
                exact hS0
              obtain ⟨b0, b1, b2, b3⟩ := cells4 ((hS.block _ hww5).trans HBx5.out)
              have q0 := (hS.cell (p := ⟨ga, kk * 2, none⟩) hga5).trans HQ0.out
              have q1 := (hS.cell (p := ⟨ga, kk * 2 + 1, none⟩) hga5).trans HQ1.out
              have h11 : ac.tmps.getD 11 undef = .slice (some ⟨ga, 0, none⟩) X0.length c5 := hbase 11 (by kernel_rfl)
              have hh11 := h11; rw [Array.getD_eq_getD_getElem?] at hh11
              have h5 : ac.tmps.getD 5 undef = .pointer (some ⟨w.heap.size, 0, none⟩) := hbase 5 (by kernel_rfl)
              have hh5 := h5; rw [Array.getD_eq_getD_getElem?] at hh5
              have d104 : ac.tmps.getD 104 undef = .slice (some ⟨ga, 0, none⟩) X0.length c5 := hdep 0 (by decide)
              have dd104 := d104; rw [Array.getD_eq_getD_getElem?] at dd104
              have d111 : ac.tmps.getD 111 undef = .int .i64 (kk : Int) := hdep 7 (by decide)
              have dd111 := d111; rw [Array.getD_eq_getD_getElem?] at dd111
              clear hbase hdep hms hdn hund
              refine opOk_run rfl (.inl ⟨_, W, ?_, rfl, Ext.refl _, hS1⟩)
              clear hsz hS hS0 hS1 hfi; simp [go_sem, Act.eval, *]
            · intro ac W fL hsz hfi hms hdn hS0 hdep hbase hund
              have hS : (fun W => Below w5.heap.size w5 W)  W := hS0
              have hS1 : (fun W => Below w5.heap.size w5 W)  W := by
                exact hS0
              obtain ⟨b0, b1, b2, b3⟩ := cells4 ((hS.block _ hww5).trans HBx5.out)
              have q0 := (hS.cell (p := ⟨ga, kk * 2, none⟩) hga5).trans HQ0.out
              have q1 := (hS.cell (p := ⟨ga, kk * 2 + 1, none⟩) hga5).trans HQ1.out
              have h11 : ac.tmps.getD 11 undef = .slice (some ⟨ga, 0, none⟩) X0.length c5 := hbase 11 (by kernel_rfl)
              have hh11 := h11; rw [Array.getD_eq_getD_getElem?] at hh11
              have h5 : ac.tmps.getD 5 undef = .pointer (some ⟨w.heap.size, 0, none⟩) := hbase 5 (by kernel_rfl)
              have hh5 := h5; rw [Array.getD_eq_getD_getElem?] at hh5
              have d112 : ac.tmps.getD 112 undef = .pointer (some ⟨ga, kk * 2, none⟩) := hdep 8 (by decide)
              have dd112 := d112; rw [Array.getD_eq_getD_getElem?] at dd112
              clear hbase hdep hms hdn hund
              refine opOk_run rfl (.inl ⟨_, W, ?_, rfl, Ext.refl _, hS1⟩)
              clear hsz hS hS0 hS1 hfi; simp [go_sem, Act.eval, *]
            · intro ac W fL hsz hfi hms hdn hS0 hdep hbase hund
              have hS : (fun W => Below w5.heap.size w5 W)  W := hS0
              have hS1 : (fun W => Below w5.heap.size w5 W)  W := by
                exact hS0
              obtain ⟨b0, b1, b2, b3⟩ := cells4 ((hS.block _ hww5).trans HBx5.out)
              have q0 := (hS.cell (p := ⟨ga, kk * 2, none⟩) hga5).trans HQ0.out
              have q1 := (hS.cell (p := ⟨ga, kk * 2 + 1, none⟩) hga5).trans HQ1.out
              have h11 : ac.tmps.getD 11 undef = .slice (some ⟨ga, 0, none⟩) X0.length c5 := hbase 11 (by kernel_rfl)
              have hh11 := h11; rw [Array.getD_eq_getD_getElem?] at hh11
              have h5 : ac.tmps.getD 5 undef = .pointer (some ⟨w.heap.size, 0, none⟩) := hbase 5 (by kernel_rfl)
              have hh5 := h5; rw [Array.getD_eq_getD_getElem?] at hh5
              have d113 : ac.tmps.getD 113 undef = .pointer (some ⟨ga, kk * 2, none⟩) := hdep 9 (by decide)
              have dd113 := d113; rw [Array.getD_eq_getD_getElem?] at dd113
              clear hbase hdep hms hdn hund
              refine opOk_run rfl (.inl ⟨_, W, ?_, rfl, Ext.refl _, hS1⟩)
              clear hsz hS hS0 hS1 hfi; simp [go_sem, Act.eval, *]
            · intro ac W fL hsz hfi hms hdn hS0 hdep hbase hund
              have hS : (fun W => Below w5.heap.size w5 W)  W := hS0
              have hS1 : (fun W => Below w5.heap.size w5 W)  W := by
                exact hS0
              obtain ⟨b0, b1, b2, b3⟩ := cells4 ((hS.block _ hww5).trans HBx5.out)
              have q0 := (hS.cell (p := ⟨ga, kk * 2, none⟩) hga5).trans HQ0.out
              have q1 := (hS.cell (p := ⟨ga, kk * 2 + 1, none⟩) hga5).trans HQ1.out
              have h11 : ac.tmps.getD 11 undef = .slice (some ⟨ga, 0, none⟩) X0.length c5 := hbase 11 (by kernel_rfl)
              have hh11 := h11; rw [Array.getD_eq_getD_getElem?] at hh11
              have h5 : ac.tmps.getD 5 undef = .pointer (some ⟨w.heap.size, 0, none⟩) := hbase 5 (by kernel_rfl)
              have hh5 := h5; rw [Array.getD_eq_getD_getElem?] at hh5
              clear hbase hdep hms hdn hund
              refine opOk_run rfl (.inl ⟨_, W, ?_, rfl, Ext.refl _, hS1⟩)
              clear hsz hS hS0 hS1 hfi; simp [go_sem, Act.eval, *]
            · intro ac W fL hsz hfi hms hdn hS0 hdep hbase hund
              have hS : (fun W => Below w5.heap.size w5 W)  W := hS0
              have hS1 : (fun W => Below w5.heap.size w5 W)  W := by
                exact hS0
              obtain ⟨b0, b1, b2, b3⟩ := cells4 ((hS.block _ hww5).trans HBx5.out)
              have q0 := (hS.cell (p := ⟨ga, kk * 2, none⟩) hga5).trans HQ0.out
              have q1 := (hS.cell (p := ⟨ga, kk * 2 + 1, none⟩) hga5).trans HQ1.out
              have h11 : ac.tmps.getD 11 undef = .slice (some ⟨ga, 0, none⟩) X0.length c5 := hbase 11 (by kernel_rfl)
              have hh11 := h11; rw [Array.getD_eq_getD_getElem?] at hh11
              have h5 : ac.tmps.getD 5 undef = .pointer (some ⟨w.heap.size, 0, none⟩) := hbase 5 (by kernel_rfl)
              have hh5 := h5; rw [Array.getD_eq_getD_getElem?] at hh5
              have d115 : ac.tmps.getD 115 undef = .pointer (some ⟨w.heap.size, 3, none⟩) := hdep 11 (by decide)
              have dd115 := d115; rw [Array.getD_eq_getD_getElem?] at dd115
              clear hbase hdep hms hdn hund
              refine opOk_run rfl (.inl ⟨_, W, ?_, rfl, Ext.refl _, hS1⟩)
              clear hsz hS hS0 hS1 hfi; simp [go_sem, Act.eval, *]
            · intro ac W fL hsz hfi hms hdn hS0 hdep hbase hund
              have hS : (fun W => Below w5.heap.size w5 W)  W := hS0
              have hS1 : (fun W => Below w5.heap.size w5 W)  W := by
                exact hS0
              obtain ⟨b0, b1, b2, b3⟩ := cells4 ((hS.block _ hww5).trans HBx5.out)
              have q0 := (hS.cell (p := ⟨ga, kk * 2, none⟩) hga5).trans HQ0.out
              have q1 := (hS.cell (p := ⟨ga, kk * 2 + 1, none⟩) hga5).trans HQ1.out
              have h11 : ac.tmps.getD 11 undef = .slice (some ⟨ga, 0, none⟩) X0.length c5 := hbase 11 (by kernel_rfl)
              have hh11 := h11; rw [Array.getD_eq_getD_getElem?] at hh11
              have h5 : ac.tmps.getD 5 undef = .pointer (some ⟨w.heap.size, 0, none⟩) := hbase 5 (by kernel_rfl)
              have hh5 := h5; rw [Array.getD_eq_getD_getElem?] at hh5
              have d116 : ac.tmps.getD 116 undef = .int .i8 a3 := hdep 12 (by decide)
              have dd116 := d116; rw [Array.getD_eq_getD_getElem?] at dd116
              clear hbase hdep hms hdn hund
              refine opOk_run rfl (.inl ⟨_, W, ?_, rfl, Ext.refl _, hS1⟩)
              clear hsz hS hS0 hS1 hfi; simp [go_sem, Act.eval, *]
            · intro ac W fL hsz hfi hms hdn hS0 hdep hbase hund
              have hS : (fun W => Below w5.heap.size w5 W)  W := hS0
              have hS1 : (fun W => Below w5.heap.size w5 W)  W := by
                exact hS0
              obtain ⟨b0, b1, b2, b3⟩ := cells4 ((hS.block _ hww5).trans HBx5.out)
              have q0 := (hS.cell (p := ⟨ga, kk * 2, none⟩) hga5).trans HQ0.out
              have q1 := (hS.cell (p := ⟨ga, kk * 2 + 1, none⟩) hga5).trans HQ1.out
              have h11 : ac.tmps.getD 11 undef = .slice (some ⟨ga, 0, none⟩) X0.length c5 := hbase 11 (by kernel_rfl)
              have hh11 := h11; rw [Array.getD_eq_getD_getElem?] at hh11
              have h5 : ac.tmps.getD 5 undef = .pointer (some ⟨w.heap.size, 0, none⟩) := hbase 5 (by kernel_rfl)
              have hh5 := h5; rw [Array.getD_eq_getD_getElem?] at hh5
              have d114 : ac.tmps.getD 114 undef = .int .u8 xc := hdep 10 (by decide)
              have dd114 := d114; rw [Array.getD_eq_getD_getElem?] at dd114
              have d117 : ac.tmps.getD 117 undef = .int .u8 (z3 : Int) := hdep 13 (by decide)
              have dd117 := d117; rw [Array.getD_eq_getD_getElem?] at dd117
              clear hbase hdep hms hdn hund
              refine opOk_run rfl (.inl ⟨_, W, ?_, rfl, Ext.refl _, hS1⟩)
              clear hsz hS hS0 hS1 hfi; simp [go_sem, Act.eval, *]
            · intro ac W fL hsz hfi hms hdn hS0 hdep hbase hund
              have hS : (fun W => Below w5.heap.size w5 W)  W := hS0
              have hS1 : (fun W => Below w5.heap.size w5 W)  W := by
                exact hS0
              obtain ⟨b0, b1, b2, b3⟩ := cells4 ((hS.block _ hww5).trans HBx5.out)
              have q0 := (hS.cell (p := ⟨ga, kk * 2, none⟩) hga5).trans HQ0.out
              have q1 := (hS.cell (p := ⟨ga, kk * 2 + 1, none⟩) hga5).trans HQ1.out
              have h11 : ac.tmps.getD 11 undef = .slice (some ⟨ga, 0, none⟩) X0.length c5 := hbase 11 (by kernel_rfl)
              have hh11 := h11; rw [Array.getD_eq_getD_getElem?] at hh11
              have h5 : ac.tmps.getD 5 undef = .pointer (some ⟨w.heap.size, 0, none⟩) := hbase 5 (by kernel_rfl)
              have hh5 := h5; rw [Array.getD_eq_getD_getElem?] at hh5
              have d104 : ac.tmps.getD 104 undef = .slice (some ⟨ga, 0, none⟩) X0.length c5 := hdep 0 (by decide)
              have dd104 := d104; rw [Array.getD_eq_getD_getElem?] at dd104
              have d111 : ac.tmps.getD 111 undef = .int .i64 (kk : Int) := hdep 7 (by decide)
              have dd111 := d111; rw [Array.getD_eq_getD_getElem?] at dd111
              clear hbase hdep hms hdn hund
              refine opOk_run rfl (.inl ⟨_, W, ?_, rfl, Ext.refl _, hS1⟩)
              clear hsz hS hS0 hS1 hfi; simp [go_sem, Act.eval, *]
            · intro ac W fL hsz hfi hms hdn hS0 hdep hbase hund
              have hS : (fun W => Below w5.heap.size w5 W)  W := hS0
              have hS1 : (fun W => Below w5.heap.size w5 W)  W := by
                exact hS0
              obtain ⟨b0, b1, b2, b3⟩ := cells4 ((hS.block _ hww5).trans HBx5.out)
              have q0 := (hS.cell (p := ⟨ga, kk * 2, none⟩) hga5).trans HQ0.out
              have q1 := (hS.cell (p := ⟨ga, kk * 2 + 1, none⟩) hga5).trans HQ1.out
              have h11 : ac.tmps.getD 11 undef = .slice (some ⟨ga, 0, none⟩) X0.length c5 := hbase 11 (by kernel_rfl)
              have hh11 := h11; rw [Array.getD_eq_getD_getElem?] at hh11
              have h5 : ac.tmps.getD 5 undef = .pointer (some ⟨w.heap.size, 0, none⟩) := hbase 5 (by kernel_rfl)
              have hh5 := h5; rw [Array.getD_eq_getD_getElem?] at hh5
              have d119 : ac.tmps.getD 119 undef = .pointer (some ⟨ga, kk * 2, none⟩) := hdep 15 (by decide)
              have dd119 := d119; rw [Array.getD_eq_getD_getElem?] at dd119
              clear hbase hdep hms hdn hund
              refine opOk_run rfl (.inl ⟨_, W, ?_, rfl, Ext.refl _, hS1⟩)
              clear hsz hS hS0 hS1 hfi; simp [go_sem, Act.eval, *]
            · trivial
          case hfin =>
            intro h; exact absurd h (by decide)
          case hlast =>
            intro _ ac W hsz hdf fL hf hS0 hv hbase
            have hS : (fun W => Below w5.heap.size w5 W)  W := hS0
            clear hS0
            have hst : ac.tmps.getD 120 undef = .pointer (some ⟨ga, kk * 2, none⟩) := hv 16 (by decide)
            have hnv : ac.tmps.getD 118 undef = .int .u8 b3' := hv 14 (by decide)
            have q2 := (hS.cell (p := ⟨ga, kk * 2, none⟩) hga5).trans HQ0.out
            have q4 := (hS.block ga hga5).trans HCSA.out
            refine wpOp_store_int rfl rfl rfl rfl (eval_tmp hst) (eval_tmp hnv) (by simp [World.frozen?, q4]) q2 (by kernel_rfl) ?_
            have hSQ : SpS w3 (W.setCell ⟨ga, kk * 2, none⟩ (.int .u8 b3')) g c4 E (.slice (some ⟨ga, 0, none⟩) X0.length c5) (X0.set kk ⟨b3', xt⟩) := (HSP.out.go hS).setArc (k := kk) (j := 0) (x := ⟨b3', xt⟩) (u := .int .u8 b3') hkl (by decide) (by show [Value.int .u8 b3', Value.int .i64 xt] = List.set [Value.int .u8 X0[kk].c, Value.int .i64 X0[kk].t] 0 (.int .u8 b3'); rw [hxc, hxt]; rfl)
            obtain ⟨w6, hw6⟩ : ∃ w6, W.setCell ⟨ga, kk * 2, none⟩ (.int .u8 b3') = w6 := ⟨_, rfl⟩
            rw [hw6] at hSQ ⊢
            have HSQ := Lib.hid hSQ
            clear hS q2 q4 hw6 hst hnv hSQ
            obtain ⟨sx, hsx, hsA⟩ := act_puts [104, 105, 106, 107, 108, 109, 110, 111, 112, 113, 114, 115, 116, 117, 118, 119, 120] (by kernel_rfl) hsz hdf hbase
            rw [hsA]
            simp only [List.foldl]
            simp only [Act.put, List.setIfInBounds_toArray, List.set_cons_succ, List.set_cons_zero]
            clear hsA hsx hv hbase hsz hdf hf
            go_upto_region 22 with fail
            obtain ⟨E6, hE6⟩ : ∃ E6, E = E6 := ⟨_, rfl⟩
            obtain ⟨X6, hX6⟩ : ∃ X6, X0.set kk ⟨b3', xt⟩ = X6 := ⟨_, rfl⟩
            obtain ⟨a6, ha6⟩ : ∃ a6 : Option Addr, some (⟨ga, 0, none⟩ : Addr) = a6 := ⟨_, rfl⟩
            obtain ⟨c6, hc6⟩ : ∃ c6 : Nat, c5 = c6 := ⟨_, rfl⟩
            have hS6 := HSQ.out
            have hX6e : X0.length = X6.length := by rw [← hX6, List.length_set]
            rw [hE6, hX6, hX6e, ha6, hc6] at hS6
            rw [hX6e, ha6, hc6]
            have hX6l : X6.length ≤ 1001 := by omega
            have hxo6 : arcsOk X6 := by
              rw [← hX6]
              intro x hx
              rcases List.mem_or_eq_of_mem_set hx with h | h
              · exact HX0O.out x h
              · have h0 := HX0O.out _ (List.getElem_mem hkl)
                rw [hxc, hxt] at h0
                rw [h]
                exact ⟨by first | exact h0.1 | exact hbb.1, by first | exact h0.2.1 | exact hbb.2, by first | exact h0.2.2.1 | exact hbt.1, by first | exact h0.2.2.2 | exact hbt.2⟩
            clear hX6 ha6 hc6 HSQ HCSA HQ0 HQ1 hX6e hkk hwz2 hwkk hw3a hneX hneX2 hidxa hwd3 hd3 ht3 hb3' hxc hxt hbt hbb
            have hl6 : E6.length = n3 := by rw [← hE6]; have := HEL.out; first | (simp only [List.length_set]; omega) | omega
            have hc6 : CsOk E6 := by rw [← hE6]; first | exact HCE.out | exact csOk_set HCE.out hnE (fun x hx => HCE.out n hnE x hx)
            have ha6 : ∀ x ∈ E6, x.arcs.length ≤ 1000 := by
              rw [← hE6]
              first
                | exact HAR.out
                | (intro x hx
                   rcases List.mem_or_eq_of_mem_set hx with h | h
                   · exact HAR.out x h
                   · rw [h]; exact HAR.out E[n] (List.getElem_mem hnE))
            have hn6 : n < E6.length := by omega
            have HL6 := Lib.hid hl6
            have HC6 := Lib.hid hc6; have HA6 := Lib.hid ha6; have HS6 := Lib.hid hS6; have HXO6 := Lib.hid hxo6
            clear hE6 hl6 hc6 ha6 hS6 hxo6 bx0 bx1 bx2 bx3 HSP HX0O HAR HCE hj hwj hu1 hu2 hu3 HB5 HBx5
            obtain ⟨-, aq, cq, p1, -⟩ := HS6.out.node hn6
            have hfr6 := HS6.out.free (n * 2 + 1)
            have hidx6 := idx_nodes (some ⟨g, 0, none⟩) g 0 n3 c4 n rfl hnl
            rw [Nat.zero_add] at hidx6
            go_upto_region 23 with fail
            obtain ⟨hD7, hB7⟩ := HS6.out.setArcs hn6 (by omega) (fun x hx => by have := HA6.out x hx; omega)
            have hc7 : CsOk (E6.set n ⟨E6[n].fin, X6⟩) := csOk_set HC6.out hn6 HXO6.out
            have hl7 : n3 = (E6.set n ⟨E6[n].fin, X6⟩).length := by rw [List.length_set]; have := HL6.out; omega
            obtain ⟨w7, hw7⟩ : ∃ w7, w6.setCell ⟨g, n * 2 + 1, none⟩ (.slice a6 X6.length c6) = w7 := ⟨_, rfl⟩
            obtain ⟨D7, hD7e⟩ : ∃ D7, E6.set n ⟨E6[n].fin, X6⟩ = D7 := ⟨_, rfl⟩
            rw [hw7] at hD7 hB7 ⊢
            rw [hD7e] at hD7 hc7 hl7
            have HD7 := Lib.hid hD7; have HC7 := Lib.hid hc7; have HL7 := Lib.hid hl7
            have HSW : Hid (Since w w7) := ⟨HBW3.out.trans (hB7.mono hww3)⟩
            clear hw7 hD7e hD7 hB7 hc7 hl7 p1 hfr6 hidx6 HS6 HC6 HA6 HXO6
            go_wp2_with fail
            refine (valid_n D7 n3 _ c4 w7 HL7.out HD7.out (by omega) HC7.out (HT.out.go HSW.out.out)).mono ?_
            rintro e w8 ⟨rfl, hb⟩
            replace HD7 := Lib.hid (HD7.out.go hb); replace HSW := Lib.hid (HSW.out.go hb)
            clear hb
            go_wp2_with fail
            refine (rvalid_n D7 n3 _ c4 w8 HL7.out HD7.out (by omega) HC7.out).mono ?_
            rintro e w9 ⟨rfl, hb⟩
            replace HSW := Lib.hid (HSW.out.go hb)
            clear hb
            clear HD7 HC7 HL7
            go_wp2_with fail
            refine (valid_n D nd ad cd w9 HND.out (HD.out.go HSW.out.out) hndl HCS.out (HT.out.go HSW.out.out)).mono ?_
            rintro e w10 ⟨rfl, hb⟩
            replace HSW := Lib.hid (HSW.out.go hb)
            clear hb
            go_wp2_with fail
            refine (rvalid_n D nd ad cd w10 HND.out (HD.out.go HSW.out.out) hndl HCS.out).mono ?_
            rintro e w11 ⟨rfl, hb⟩
            replace HSW := Lib.hid (HSW.out.go hb)
            clear hb
            go_wp2
            go_ret
            exact ⟨rfl, HSW.out.out⟩
        · have hx1 : X0.length = 0 := by omega
          go_upto_region 22 with fail
          obtain ⟨w6, hw6⟩ : ∃ w6, w5 = w6 := ⟨_, rfl⟩
          obtain ⟨E6, hE6⟩ : ∃ E6, E = E6 := ⟨_, rfl⟩
          obtain ⟨X6, hX6⟩ : ∃ X6, X0 = X6 := ⟨_, rfl⟩
          obtain ⟨a6, ha6⟩ : ∃ a6 : Option Addr, a5 = a6 := ⟨_, rfl⟩
          obtain ⟨c6, hc6⟩ : ∃ c6 : Nat, c5 = c6 := ⟨_, rfl⟩
          have hS6 := HSP.out
          rw [hE6, hw6, hX6, ha6, hc6] at hS6
          rw [hw6, hX6, ha6, hc6]
          have hX6l : X6.length ≤ 1001 := by rw [← hX6]; omega
          have hxo6 : arcsOk X6 := by rw [← hX6]; exact HX0O.out
          clear hw6 hX6 ha6 hc6
          have hl6 : E6.length = n3 := by rw [← hE6]; have := HEL.out; first | (simp only [List.length_set]; omega) | omega
          have hc6 : CsOk E6 := by rw [← hE6]; first | exact HCE.out | exact csOk_set HCE.out hnE (fun x hx => HCE.out n hnE x hx)
          have ha6 : ∀ x ∈ E6, x.arcs.length ≤ 1000 := by
            rw [← hE6]
            first
              | exact HAR.out
              | (intro x hx
                 rcases List.mem_or_eq_of_mem_set hx with h | h
                 · exact HAR.out x h
                 · rw [h]; exact HAR.out E[n] (List.getElem_mem hnE))
          have hn6 : n < E6.length := by omega
          have HL6 := Lib.hid hl6
          have HC6 := Lib.hid hc6; have HA6 := Lib.hid ha6; have HS6 := Lib.hid hS6; have HXO6 := Lib.hid hxo6
          clear hE6 hl6 hc6 ha6 hS6 hxo6 bx0 bx1 bx2 bx3 HSP HX0O HAR HCE hj hwj hu1 hu2 hu3 HB5 HBx5
          obtain ⟨-, aq, cq, p1, -⟩ := HS6.out.node hn6
          have hfr6 := HS6.out.free (n * 2 + 1)
          have hidx6 := idx_nodes (some ⟨g, 0, none⟩) g 0 n3 c4 n rfl hnl
          rw [Nat.zero_add] at hidx6
          go_upto_region 23 with fail
          obtain ⟨hD7, hB7⟩ := HS6.out.setArcs hn6 (by omega) (fun x hx => by have := HA6.out x hx; omega)
          have hc7 : CsOk (E6.set n ⟨E6[n].fin, X6⟩) := csOk_set HC6.out hn6 HXO6.out
          have hl7 : n3 = (E6.set n ⟨E6[n].fin, X6⟩).length := by rw [List.length_set]; have := HL6.out; omega
          obtain ⟨w7, hw7⟩ : ∃ w7, w6.setCell ⟨g, n * 2 + 1, none⟩ (.slice a6 X6.length c6) = w7 := ⟨_, rfl⟩
          obtain ⟨D7, hD7e⟩ : ∃ D7, E6.set n ⟨E6[n].fin, X6⟩ = D7 := ⟨_, rfl⟩
          rw [hw7] at hD7 hB7 ⊢
          rw [hD7e] at hD7 hc7 hl7
          have HD7 := Lib.hid hD7; have HC7 := Lib.hid hc7; have HL7 := Lib.hid hl7
          have HSW : Hid (Since w w7) := ⟨HBW3.out.trans (hB7.mono hww3)⟩
          clear hw7 hD7e hD7 hB7 hc7 hl7 p1 hfr6 hidx6 HS6 HC6 HA6 HXO6
          go_wp2_with fail
          refine (valid_n D7 n3 _ c4 w7 HL7.out HD7.out (by omega) HC7.out (HT.out.go HSW.out.out)).mono ?_
          rintro e w8 ⟨rfl, hb⟩
          replace HD7 := Lib.hid (HD7.out.go hb); replace HSW := Lib.hid (HSW.out.go hb)
          clear hb
          go_wp2_with fail
          refine (rvalid_n D7 n3 _ c4 w8 HL7.out HD7.out (by omega) HC7.out).mono ?_
          rintro e w9 ⟨rfl, hb⟩
          replace HSW := Lib.hid (HSW.out.go hb)
          clear hb
          clear HD7 HC7 HL7
          go_wp2_with fail
          refine (valid_n D nd ad cd w9 HND.out (HD.out.go HSW.out.out) hndl HCS.out (HT.out.go HSW.out.out)).mono ?_
          rintro e w10 ⟨rfl, hb⟩
          replace HSW := Lib.hid (HSW.out.go hb)
          clear hb
          go_wp2_with fail
          refine (rvalid_n D nd ad cd w10 HND.out (HD.out.go HSW.out.out) hndl HCS.out).mono ?_
          rintro e w11 ⟨rfl, hb⟩
          replace HSW := Lib.hid (HSW.out.go hb)
          clear hb
          go_wp2
          go_ret
          exact ⟨rfl, HSW.out.out⟩
      · have HOA : Hid (OwnG rowArc (w5.alloc (.cells #[.int .u8 (z2 : Int), .int .i64 a3] 51)) (g + 1) (.slice a5 X0.length c5) X0) := HSP.out.own.later ((Below.refl _ w5).alloc (Nat.le_refl _) _) (Nat.le_refl _)
        have hg5 := HSP.out.gw
        have hw3a : IntKind.i64.wrap a3 = a3 := IntWalk.i64_in _ (by omega)
        go_upto_region 22 with (first | (at_builtin; go_loud (refine wpList_append_g rowArc_ok rfl _ _ rfl rfl HOA.out ⟨w5.heap.size, 0, none⟩ 1 [⟨(z2 : Int), a3⟩] rfl (cells_built (heap_alloc_new _ _)) (by simp only [List.length_singleton]; omega) (by simp only [World.size_alloc]; omega) ?_); intro v6 w6 hown6 hgrow6 hat6; have HO6 := Lib.hid hown6; have HG6 := Lib.hid hgrow6; clear hown6 hgrow6 hat6))
        obtain ⟨E6, hE6⟩ : ∃ E6, E = E6 := ⟨_, rfl⟩
        obtain ⟨X6, hX6⟩ : ∃ X6, X0 ++ [⟨(z2 : Int), a3⟩] = X6 := ⟨_, rfl⟩
        have hS6 := (HSP.out.go ((Below.refl _ w5).alloc (Nat.le_refl _) (.cells #[.int .u8 (z2 : Int), .int .i64 a3] 51))).more HO6.out HG6.out
        obtain ⟨a6, c6, hv6, -, -⟩ := HO6.out.form
        subst hv6
        rw [hE6] at hS6
        rw [hX6] at hS6 ⊢
        have hX6l : X6.length ≤ 1001 := by rw [← hX6]; simp only [List.length_append, List.length_singleton]; omega
        have hxo6 : arcsOk X6 := by
          rw [← hX6]
          intro x hx
          rcases List.mem_append.1 hx with h | h
          · exact HX0O.out x h
          · obtain rfl := List.mem_singleton.1 h
            exact ⟨by show 0 ≤ (z2 : Int); omega, by show (z2 : Int) ≤ 255; omega, by show _ ≤ a3; omega, by show a3 ≤ _; omega⟩
        clear hX6 HO6 HG6 HOA hg5 hw3a
        have hl6 : E6.length = n3 := by rw [← hE6]; have := HEL.out; first | (simp only [List.length_set]; omega) | omega
        have hc6 : CsOk E6 := by rw [← hE6]; first | exact HCE.out | exact csOk_set HCE.out hnE (fun x hx => HCE.out n hnE x hx)
        have ha6 : ∀ x ∈ E6, x.arcs.length ≤ 1000 := by
          rw [← hE6]
          first
            | exact HAR.out
            | (intro x hx
               rcases List.mem_or_eq_of_mem_set hx with h | h
               · exact HAR.out x h
               · rw [h]; exact HAR.out E[n] (List.getElem_mem hnE))
        have hn6 : n < E6.length := by omega
        have HL6 := Lib.hid hl6
        have HC6 := Lib.hid hc6; have HA6 := Lib.hid ha6; have HS6 := Lib.hid hS6; have HXO6 := Lib.hid hxo6
        clear hE6 hl6 hc6 ha6 hS6 hxo6 bx0 bx1 bx2 bx3 HSP HX0O HAR HCE hj hwj hu1 hu2 hu3 HB5 HBx5
        obtain ⟨-, aq, cq, p1, -⟩ := HS6.out.node hn6
        have hfr6 := HS6.out.free (n * 2 + 1)
        have hidx6 := idx_nodes (some ⟨g, 0, none⟩) g 0 n3 c4 n rfl hnl
        rw [Nat.zero_add] at hidx6
        go_upto_region 23 with fail
        obtain ⟨hD7, hB7⟩ := HS6.out.setArcs hn6 (by omega) (fun x hx => by have := HA6.out x hx; omega)
        have hc7 : CsOk (E6.set n ⟨E6[n].fin, X6⟩) := csOk_set HC6.out hn6 HXO6.out
        have hl7 : n3 = (E6.set n ⟨E6[n].fin, X6⟩).length := by rw [List.length_set]; have := HL6.out; omega
        obtain ⟨w7, hw7⟩ : ∃ w7, w6.setCell ⟨g, n * 2 + 1, none⟩ (.slice a6 X6.length c6) = w7 := ⟨_, rfl⟩
        obtain ⟨D7, hD7e⟩ : ∃ D7, E6.set n ⟨E6[n].fin, X6⟩ = D7 := ⟨_, rfl⟩
        rw [hw7] at hD7 hB7 ⊢
        rw [hD7e] at hD7 hc7 hl7
        have HD7 := Lib.hid hD7; have HC7 := Lib.hid hc7; have HL7 := Lib.hid hl7
        have HSW : Hid (Since w w7) := ⟨HBW3.out.trans (hB7.mono hww3)⟩
        clear hw7 hD7e hD7 hB7 hc7 hl7 p1 hfr6 hidx6 HS6 HC6 HA6 HXO6
        go_wp2_with fail
        refine (valid_n D7 n3 _ c4 w7 HL7.out HD7.out (by omega) HC7.out (HT.out.go HSW.out.out)).mono ?_
        rintro e w8 ⟨rfl, hb⟩
        replace HD7 := Lib.hid (HD7.out.go hb); replace HSW := Lib.hid (HSW.out.go hb)
        clear hb
        go_wp2_with fail
        refine (rvalid_n D7 n3 _ c4 w8 HL7.out HD7.out (by omega) HC7.out).mono ?_
        rintro e w9 ⟨rfl, hb⟩
        replace HSW := Lib.hid (HSW.out.go hb)
        clear hb
        clear HD7 HC7 HL7
        go_wp2_with fail
        refine (valid_n D nd ad cd w9 HND.out (HD.out.go HSW.out.out) hndl HCS.out (HT.out.go HSW.out.out)).mono ?_
        rintro e w10 ⟨rfl, hb⟩
        replace HSW := Lib.hid (HSW.out.go hb)
        clear hb
        go_wp2_with fail
        refine (rvalid_n D nd ad cd w10 HND.out (HD.out.go HSW.out.out) hndl HCS.out).mono ?_
        rintro e w11 ⟨rfl, hb⟩
        replace HSW := Lib.hid (HSW.out.go hb)
        clear hb
        go_wp2
        go_ret
        exact ⟨rfl, HSW.out.out⟩
end Go.Proofs.YtemdlfbcnnoglaaDoor
