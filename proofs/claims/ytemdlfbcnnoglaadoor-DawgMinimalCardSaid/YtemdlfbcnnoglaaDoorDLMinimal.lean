/- DawgMinimal: the walk. -/
import Derived.Test.YtemdlfbcnnoglaaDoorDMinM
import Derived.Test.YtemdlfbcnnoglaaDoorDViews
namespace Go.Proofs.YtemdlfbcnnoglaaDoor
open Go.RowKit Go.WideShapes
set_option linter.unusedVariables false
set_option linter.unusedSimpArgs false

/-- what is told of an automaton that is looked at -/
structure MinE (L : List ByteArray) (Mt : List Rst) (E : List Nd) (n : Nat) : Prop where
  tab : MTab (restAt 0 L) Mt E
  len : n = E.length
  cs : CsOk E
  ar : ∀ x ∈ E, x.arcs.length ≤ 1000
  rl : ∀ r ∈ Mt, r.length ≤ 200
  nd : ∀ k (hk : k < E.length), ∃ r, Mt[k]? = some r ∧ r ≠ [] ∧ (listedF (E.set 0 E[k])).2 = r ∧ fewB (E.set 0 E[k]) = true
theorem minE_of {L : List ByteArray} (hd : Dict L) {n : Nat} (hn : n = (ofF (restAt 0 L)).length) : ∃ Mt, MinE L Mt (ofF (restAt 0 L)) n := by
  obtain ⟨Mt, h⟩ := of_mtab hd.okR.1 hd.okR.2
  refine ⟨Mt, h, hn, csOk_of hd, fun x hx => ?_, fun r hr => ?_, fun k hk => listed_node hd h hk⟩
  · obtain ⟨i, hi, rfl⟩ := List.getElem_of_mem hx
    exact ofF_arcs hd i hi
  · obtain ⟨p, rfl⟩ := h.met r hr
    have := afterP_len p (restAt 0 L)
    have h4 : (restAt 0 L).length = L.length := by simp [restAt]
    have := hd.2.1
    omega
theorem NodesAs.go {w w1 : World} {N : List NV} {D : List Nd} (h : NodesAs w N D) (hb : Below w.heap.size w w1) : NodesAs w1 N D := h.later hb (Nat.le_refl _)
set_option maxHeartbeats 3200000 in
set_option maxRecDepth 100000 in
theorem dawgMinimal_view (xl : BytsA) (w : World) (hx : BytsOk w xl) (hT : Tab w) :
    Calls Tryd.prog 5 #[xl.val] w fun e w' => e = .returned (.bool true) ∧ Below w.heap.size w w' := by
  obtain ⟨a, len, cap, Q⟩ := xl
  obtain ⟨hQ, hl⟩ := hx
  simp only at hQ hl
  have hs0 := Since.refl w
  have HQ := Lib.hid hQ; have HT := Lib.hid hT; have HS := Lib.hid hs0
  clear hQ hT hs0
  show Calls Tryd.prog 5 #[.slice a len cap] w _
  go_enter Tryd.func5, Tryd.ntmps5
  go_wp2_with fail
  refine (sanity_any w HT.out).mono ?_
  rintro e w1 ⟨rfl, hb⟩
  replace HQ := Lib.hid (HQ.out.go hb); replace HT := Lib.hid (HT.out.go hb); replace HS := Lib.hid (HS.out.go hb)
  clear hb
  go_wp2_with fail
  refine (made_d 10 10 rfl (by decide) (by decide) HQ.out hl).mono ?_
  rintro e w2 ⟨L, b, o, c, -, rfl, hd, hm2, hsz4, hc, hR, hb⟩
  replace HT := Lib.hid (HT.out.go hb); replace HS := Lib.hid (HS.out.go hb)
  clear hb
  have HR := Lib.hid hR; have HD := Lib.hid hd; have HZ4 := Lib.hid hsz4; clear hR hd hsz4 HQ
  go_wp2_with fail
  refine (build_d HD.out HR.out rfl hc HT.out).mono ?_
  rintro e w3 ⟨a3, n3, c3, rfl, hA, hb⟩
  replace HR := Lib.hid (HR.out.go hb); replace HS := Lib.hid (HS.out.go hb)
  clear hb
  clear HT
  have h60 := ofF_le60 HD.out hm2 HZ4.out
  obtain ⟨-, h1⟩ := hA.small
  have hlen := hA.len
  have hrows := hA.rows
  obtain ⟨Mt, hME⟩ := minE_of HD.out hlen
  obtain ⟨E, hE⟩ : ∃ E, ofF (restAt 0 L) = E := ⟨_, rfl⟩
  rw [hE] at hME hlen hrows h60
  have h60' : n3 ≤ 60 := by omega
  have ha3 : ∃ b o, a3 = some ⟨b, o, none⟩ := by obtain ⟨b, o, h, _⟩ := hrows.at (k := 0) (by omega); exact ⟨b, o, h⟩
  obtain ⟨b3, o3, rfl⟩ := ha3
  have HEL := Lib.hid hlen; have HDW := Lib.hid hrows; have HME := Lib.hid hME
  clear hA hE hlen hrows hME h60 HZ4
  have hmk := make_bools n3 h60'
  go_upto_region 6 with fail
  refine wp_region_st (by kernel_rfl) (Vs [RowE0 w3.heap.size 25, fun v _ => v = .slice (some ⟨b3, o3, none⟩) n3 c3, fun v _ => v = .int .i64 (n3 : Int), BoolS w3.heap.size n3, RowE0 w3.heap.size 25, BoolS w3.heap.size n3]) (Xs [Ext, Ext, Ext, Ext, Ext, Ext]) (fun fL => (fun W => Below w3.heap.size w3 W) ) [0, 0, 2, 6, 1, 14] 171 6 (by kernel_rfl) rfl ?hV ?hS ?hop ?hfin ?hlast
  case hV =>
    refine xs_stays (vs_stays (by simp only [List.mem_cons, List.not_mem_nil, or_false, forall_eq_or_imp, forall_eq]; exact ⟨rowE0_stays _ _, stays_const _, stays_const _, boolS_stays _ _, rowE0_stays _ _, boolS_stays _ _⟩)) ?_
    exact ⟨.inl rfl, .inl rfl, .inl rfl, .inl rfl, .inl rfl, .inl rfl, trivial⟩
  case hS =>
    intro fL hf
    show (fun W => Below w3.heap.size w3 W)  _
    exact (Below.refl _ w3).drew
  case hop =>
    refine ⟨?_, ?_, ?_, ?_, ?_, ?_, trivial⟩
    all_goals first | rw [if_neg (by decide)] | rw [if_pos (by decide)]
    · intro ac W fL hsz hfi hms hdn hS0 hdep hbase hund
      have hS : (fun W => Below w3.heap.size w3 W)  W := hS0
      have hS1 : (fun W => Below w3.heap.size w3 W)  W := by
        exact hS0

      have h5 : ac.tmps.getD 5 undef = .slice (some ⟨b3, o3, none⟩) n3 c3 := hbase 5 (by kernel_rfl)
      have hh5 := h5; rw [Array.getD_eq_getD_getElem?] at hh5
      clear hbase hdep hms hdn hund
      refine opOk_run rfl (.inl ⟨.slice (some ⟨W.heap.size, 0, none⟩) 0 0, W.alloc (.cells #[] 25), ?_, ⟨_, rfl, heap_alloc_new _ _, hS.size⟩, (Below.refl _ _).alloc (Nat.le_refl _) _, (show Below w3.heap.size w3 _ from hS.alloc hS.size _)⟩)
      clear hsz hS hS0 hS1 hfi; simp [go_sem, Act.eval, *]
    · intro ac W fL hsz hfi hms hdn hS0 hdep hbase hund
      have hS : (fun W => Below w3.heap.size w3 W)  W := hS0
      have hS1 : (fun W => Below w3.heap.size w3 W)  W := by
        exact hS0

      have h5 : ac.tmps.getD 5 undef = .slice (some ⟨b3, o3, none⟩) n3 c3 := hbase 5 (by kernel_rfl)
      have hh5 := h5; rw [Array.getD_eq_getD_getElem?] at hh5
      clear hbase hdep hms hdn hund
      refine opOk_run rfl (.inl ⟨_, W, ?_, rfl, Ext.refl _, hS1⟩)
      clear hsz hS hS0 hS1 hfi; simp [go_sem, Act.eval, *]
    · intro ac W fL hsz hfi hms hdn hS0 hdep hbase hund
      have hS : (fun W => Below w3.heap.size w3 W)  W := hS0
      have hS1 : (fun W => Below w3.heap.size w3 W)  W := by
        exact hS0

      have h5 : ac.tmps.getD 5 undef = .slice (some ⟨b3, o3, none⟩) n3 c3 := hbase 5 (by kernel_rfl)
      have hh5 := h5; rw [Array.getD_eq_getD_getElem?] at hh5
      have d41 : ac.tmps.getD 41 undef = .slice (some ⟨b3, o3, none⟩) n3 c3 := hdep 1 (by decide)
      have dd41 := d41; rw [Array.getD_eq_getD_getElem?] at dd41
      clear hbase hdep hms hdn hund
      refine opOk_run rfl (.inl ⟨_, W, ?_, rfl, Ext.refl _, hS1⟩)
      clear hsz hS hS0 hS1 hfi; simp [go_sem, Act.eval, *]
    · intro ac W fL hsz hfi hms hdn hS0 hdep hbase hund
      have hS : (fun W => Below w3.heap.size w3 W)  W := hS0
      have hS1 : (fun W => Below w3.heap.size w3 W)  W := by
        exact hS0

      have h5 : ac.tmps.getD 5 undef = .slice (some ⟨b3, o3, none⟩) n3 c3 := hbase 5 (by kernel_rfl)
      have hh5 := h5; rw [Array.getD_eq_getD_getElem?] at hh5
      have d42 : ac.tmps.getD 42 undef = .int .i64 (n3 : Int) := hdep 2 (by decide)
      have dd42 := d42; rw [Array.getD_eq_getD_getElem?] at dd42
      clear hbase hdep hms hdn hund
      have hmkW := hmk W
      refine opOk_run rfl (.inl ⟨.slice (some ⟨W.heap.size, 0, none⟩) n3 n3, W.alloc (.cells ((maskF n3 fun _ => false).map Value.bool).toArray 4), ?_, ⟨_, rfl, heap_alloc_new _ _, hS.size⟩, (Below.refl _ _).alloc (Nat.le_refl _) _, (show Below w3.heap.size w3 _ from hS.alloc hS.size _)⟩)
      clear hsz hS hS0 hS1 hfi hmk; simp [go_sem, Act.eval, *]
    · intro ac W fL hsz hfi hms hdn hS0 hdep hbase hund
      have hS : (fun W => Below w3.heap.size w3 W)  W := hS0
      have hS1 : (fun W => Below w3.heap.size w3 W)  W := by
        exact hS0

      have h5 : ac.tmps.getD 5 undef = .slice (some ⟨b3, o3, none⟩) n3 c3 := hbase 5 (by kernel_rfl)
      have hh5 := h5; rw [Array.getD_eq_getD_getElem?] at hh5
      have d40 : (RowE0 w3.heap.size 25) (ac.tmps.getD 40 undef) W := hdep 0 (by decide)
      clear hbase hdep hms hdn hund
      obtain ⟨gg, ee, hh1, hh2⟩ := d40
      rw [Array.getD_eq_getD_getElem?] at ee
      refine opOk_run rfl (.inl ⟨_, W, ?_, ⟨gg, rfl, hh1, hh2⟩, Ext.refl _, hS1⟩)
      clear hsz hS hS0 hS1 hfi hmk; simp [go_sem, Act.eval, *]
    · intro ac W fL hsz hfi hms hdn hS0 hdep hbase hund
      have hS : (fun W => Below w3.heap.size w3 W)  W := hS0
      have hS1 : (fun W => Below w3.heap.size w3 W)  W := by
        exact hS0

      have h5 : ac.tmps.getD 5 undef = .slice (some ⟨b3, o3, none⟩) n3 c3 := hbase 5 (by kernel_rfl)
      have hh5 := h5; rw [Array.getD_eq_getD_getElem?] at hh5
      have d43 : (BoolS w3.heap.size n3) (ac.tmps.getD 43 undef) W := hdep 3 (by decide)
      clear hbase hdep hms hdn hund
      obtain ⟨gg, ee, hh1, hh2⟩ := d43
      rw [Array.getD_eq_getD_getElem?] at ee
      refine opOk_run rfl (.inl ⟨_, W, ?_, ⟨gg, rfl, hh1, hh2⟩, Ext.refl _, hS1⟩)
      clear hsz hS hS0 hS1 hfi hmk; simp [go_sem, Act.eval, *]
  case hlast =>
    intro h; exact absurd rfl h
  case hfin =>
    intro _ ac W hsz hdf fL hf hS0 hv hbase
    have hS : (fun W => Below w3.heap.size w3 W)  W := hS0
    clear hS0
    obtain ⟨sx, hsx, hsA⟩ := act_puts [40, 41, 42, 43, 7, 8] (by kernel_rfl) hsz hdf hbase
    have h40 : RowE0 w3.heap.size 25 (sx 7) W := by rw [hsx 7]; exact hv 4 (by decide)
    have h43 : BoolS w3.heap.size n3 (sx 8) W := by rw [hsx 8]; exact hv 5 (by decide)
    obtain ⟨g7, e40, hr7, hB7⟩ := h40
    obtain ⟨g8, e43, hr8, hB8⟩ := h43
    rw [hsA]
    simp only [List.foldl]
    simp only [Act.put, List.setIfInBounds_toArray, List.set_cons_succ, List.set_cons_zero]
    clear hsA hsx hv hbase hsz hdf hf
    rw [e40, e43]
    have hE7 : RestsAt W w3.heap.size Mt 0 (.slice (some ⟨g7, 0, none⟩) 0 0) := ⟨[], rfl, OwnG.empty rowRest hr7 hB7, fun k hk => by simp at hk⟩
    have HRS := Lib.hid hE7; have HBR := Lib.hid hr8; have HBW := Lib.hid hS
    clear e40 e43 hr7 hB7 hr8 hS hE7 hmk
    go_wp2
    go_loopw [9, 7] (fun i v wr => ∃ n : Nat, n ≤ n3 ∧ i = .int .i64 (n : Int) ∧ RestsAt wr w3.heap.size Mt n v ∧ BoolRow wr g8 n3 (fun _ => false) ∧ Below w3.heap.size w3 wr) (fun i _ _ => n3 - (intOf i).toNat)
    case atStart => exact ⟨0, Nat.zero_le _, rfl, HRS.out, HBR.out, HBW.out⟩
    case round =>
      obtain ⟨n, hn, rfl, hrs, hbr, hB⟩ := hrel
      have HRSr := Lib.hid hrs; have HBRr := Lib.hid hbr; have HBr := Lib.hid hB
      obtain ⟨ga7, ca7, rfl⟩ := hrs.form
      clear hrs hbr hB HRS HBR HBW
      by_cases hlt : n < n3
      · have hE := heap_alloc_new wr (.cells #[] 47)
        have hal : Below wr.heap.size wr (wr.alloc (.cells #[] 47)) := (Below.refl _ _).alloc (Nat.le_refl _) _
        have HAL := Lib.hid hal
        have HE := Lib.hid hE
        obtain ⟨N, hN, hcN⟩ := nodes_of ((HDW.out.later HBr.out (Nat.le_refl _)).later hal (Nat.le_refl _))
        have hNl : N.length = n3 := hN.1.trans HEL.out.symm
        have hNe : N ≠ [] := fun h => by rw [h] at hNl; simp at hNl; omega
        have HN := Lib.hid hN; have HCN := Lib.hid hcN
        clear hE hal hN hcN
        go_upto_region 11 with (first | (at_builtin; go_loud (refine wpList_copy_g rowNode_ok HE.out rfl _ _ rfl rfl (some ⟨b3, o3, none⟩) n3 c3 N hNl.symm rfl (fun _ => ⟨⟨b3, o3, none⟩, rfl, HCN.out⟩) (by omega) ?_); intro v5 w5 hown5 hown5' hx5; have HO5 := Lib.hid (hown5' hNe); have HX5 := Lib.hid hx5; clear hown5 hown5' hx5))
        obtain ⟨g, c5, rfl, hg3, hg5⟩ : ∃ g c, v5 = .slice (some ⟨g, 0, none⟩) n3 c ∧ wr.heap.size + 1 ≤ g ∧ g < w5.heap.size := by
          rcases HO5.out.blk with ⟨_, h⟩ | ⟨g, c, e, h1, h2, _⟩
          · exact absurd h hNe
          · rw [hNl] at e; exact ⟨g, c, e, by simpa using h1, h2⟩
        have hSP : SpS (wr.alloc (.cells #[] 47)) w5 g c5 E (.slice none 0 0) [] := ⟨HX5.out, by simpa using hg3, ⟨N, HN.out, by
          have h := HO5.out
          have e := HEL.out
          rw [e] at h
          exact h⟩, OwnG.nil _ _ _⟩
        have HSP := Lib.hid hSP
        have HBR5 : Hid (Below wr.heap.size wr w5) := HAL.out.trans (HX5.out.mono HAL.out.size)
        clear hSP HO5 HX5 HE HN HCN hNe
        by_cases hn0 : n = 0
        · have hn0' : ¬ 0 < n := by omega
          have HN0 := Lib.hid hn0
          clear hn0
          go_upto_region 13 with fail
          have hD6 := HSP.out.dawg (fun x hx => by have := HME.out.ar x hx; omega)
          have hnE : n < E.length := by have := HEL.out; omega
          rw [← (show E.set 0 E[n] = E from (show ∀ k (hk : k < E.length), k = 0 → E.set 0 E[k] = E from fun k hk h0 => by subst h0; exact set0_self hk) n hnE HN0.out)] at hD6
          obtain ⟨w6, hw6⟩ : ∃ w6, w5 = w6 := ⟨_, rfl⟩
          rw [hw6] at hD6 HBR5 ⊢
          have HD6 := Lib.hid hD6; have HB6 := Lib.hid HBR5.out
          clear hD6 HSP HBR5 hw6
          obtain ⟨r, hr, hrne, hl1, hl2⟩ := HME.out.nd n (by have := HEL.out; omega)
          have hrl := HME.out.rl r (List.mem_of_getElem? hr)
          have hrp : 1 ≤ r.length := List.length_pos_iff.2 hrne
          have HR7 := Lib.hid hr
          have HL1 := Lib.hid hl1; have HL2 := Lib.hid hl2
          clear hr hl1 hl2
          have hrz : ((r.length : Int) == 0) = false := by simp [hrne]
          clear hrne
          go_wp2_with fail
          refine (listed_n _ n3 (some ⟨g, 0, none⟩) c5 r w6 HD6.out (by rw [List.length_set]; exact HEL.out) (by omega) (csOk_set0 HME.out.cs _) HL1.out HL2.out).mono ?_
          rintro e w7 ⟨a7, c7, rfl, ho7, hb⟩
          have HB67 : Hid (Below wr.heap.size wr w7) := HB6.out.trans (hb.mono HB6.out.size)
          have HO7 : Hid (OwnG rowStr w7 w3.heap.size (.slice a7 r.length c7) (rowsB r)) := ho7.mono (Nat.le_trans HBr.out.size HB6.out.size)
          have HRS7 := Lib.hid (HRSr.out.go HB67.out); have HBR7 := Lib.hid (HBRr.out.go HB67.out); have HB7 : Hid (Below w3.heap.size w3 w7) := HBr.out.trans (HB67.out.mono HBr.out.size)
          clear hb ho7 HB67 HB6 HD6 HL1 HL2 HBr HBRr HRSr HAL
          go_wp2
          go_loopw [13] (fun k wr => ∃ m : Nat, m ≤ n ∧ k = .int .i64 (m : Int) ∧ Since w7 wr) (fun k _ => n - (intOf k).toNat)
          case atStart => exact ⟨0, Nat.zero_le _, rfl, Since.refl _⟩
          case round =>
            obtain ⟨m, hm, rfl, hS⟩ := hrel
            have HSq := Lib.hid hS
            clear hS
            by_cases hlm : m < n
            · obtain ⟨gq, cq, aq, mq, ccq, rq, eq, hcq, hgq, hrq, hmq, hsq⟩ := (HRS7.out.go HSq.out.out).at hlm
              injection eq with eq1 _ eq2
              have hidx : ∀ W, (Instr.indexAt 43 (.slice ga7 n ca7) (.int .i64 (m : Int))).run Tryd.prog W = .ok (.pointer (some ⟨gq, m, none⟩)) W := fun W => by rw [eq1]; exact idx_rests gq n ca7 m hlm W
              clear eq1 eq2
              have hrql := HME.out.rl rq (List.mem_of_getElem? hrq)
              have hmq2 : mq ≤ 200 := by rw [hmq, rowsB_len]; exact hrql
              have HSQ := Lib.hid hsq; have HMQ := Lib.hid hmq
              have HNE : Hid (rq ≠ r) := fun h => by
                have := nodup_idx HME.out.tab.tab.nodup hrq (by rw [h]; exact HR7.out)
                omega
              clear hsq hmq hrq hrql
              go_wp2_with fail
              refine (sameWords_any (rowsB rq) (rowsB r) mq r.length aq a7 ccq c7 wr HSQ.out (HO7.out.strs.1.go HSq.out.out) HMQ.out (rowsB_len r).symm (by omega) (by omega)).mono ?_
              rintro e w8 ⟨he, hb⟩
              rw [same_rows, decide_eq_false HNE.out] at he
              subst he
              replace HSq := Lib.hid (HSq.out.go hb)
              clear hb
              go_wp2
              go_roundw
              case rel => exact ⟨m + 1, by omega, by go_num, HSq.out⟩
              case measure => simp [intOf]; omega
            · have hRq := HRS7.out.go HSq.out.out
              obtain ⟨S, hSl, hSo, hSk⟩ := hRq
              have HOQ : Hid (OwnG rowStr wr w3.heap.size (.slice a7 r.length c7) (rowsB r)) := HO7.out.later HSq.out.out (Nat.le_refl _)
              have HBQ := Lib.hid (HBR7.out.go HSq.out.out)
              have HB8 : Hid (Below w3.heap.size w3 wr) := HB7.out.trans (HSq.out.out.mono HB7.out.size)
              have HSO := Lib.hid hSo; have HSK := Lib.hid hSk; have HSL := Lib.hid hSl
              have hz8 := HB8.out.size
              clear hSo hSk hSl
              have hxA : Below wr.heap.size wr (wr.alloc (.cells #[.slice a7 r.length c7] 25)) := (Below.refl _ wr).alloc (Nat.le_refl _) _
              have HXA := Lib.hid hxA
              clear hxA
              go_wp2_with (first | (at_builtin; go_loud (refine wpList_append_g rowRest_ok rfl _ _ rfl rfl (HSO.out.later HXA.out (Nat.le_refl _)) ⟨wr.heap.size, 0, none⟩ 1 [⟨a7, r.length, c7⟩] rfl (cells_built (heap_alloc_new _ _)) (by have := HSL.out; simp only [List.length_singleton]; omega) (by simp only [World.size_alloc]; omega) ?_); intro v9 w9 hown9 hgrow9 hat9; have HO9 := Lib.hid hown9; have HG9 := Lib.hid hgrow9; clear hown9 hgrow9 hat9))
              go_roundw
              case rel =>
                refine ⟨n + 1, by omega, by go_num, ?_, ?_, ?_⟩
                · refine RestsAt.more (w := wr.alloc (.cells #[.slice a7 r.length c7] 25)) HSL.out (HSO.out.later HXA.out (Nat.le_refl _)) (fun k h => ?_) HR7.out (HOQ.out.later HXA.out (Nat.le_refl _)) HO9.out HG9.out
                  obtain ⟨q, q1, q2, q3⟩ := HSK.out k h
                  exact ⟨q, q1, q2, q3.later HXA.out (Nat.le_refl _)⟩
                · exact (HBQ.out.go HXA.out).grown HG9.out ((HBQ.out.go HXA.out).ne_of (HSO.out.later HXA.out (Nat.le_refl _)) (by decide))
                · exact (HB8.out.trans (HXA.out.mono HB8.out.size)).trans (below_grown HG9.out (by simp only [World.size_alloc]; omega) HSO.out.ge)
              case measure => simp [intOf]; omega
        · have hn0' : 0 < n := by omega
          go_upto_region 12 with fail
          have hnE : n < E.length := by have := HEL.out; omega
          obtain ⟨bE, oE, eE, hbE, ce0, aE, cE, ce1, -, hAE⟩ := ((HDW.out.later HBr.out (Nat.le_refl _)).go HAL.out).at hnE
          injection eE with eE
          injection eE with eE1 eE2
          subst eE1 eE2
          obtain ⟨X, hX⟩ : ∃ X, E[n].arcs = X := ⟨_, rfl⟩
          obtain ⟨fb, hfb⟩ : ∃ b, E[n].fin = b := ⟨_, rfl⟩
          rw [hfb] at ce0
          rw [hX] at ce1 hAE
          have HXE : Hid (E[n] = ⟨fb, X⟩) := by show E[n] = _; rw [← hX, ← hfb]
          have ce0' := (HSP.out.bl.cell (p := ⟨b3, o3 + n * 2, none⟩) hbE).trans ce0
          have ce1' := (HSP.out.bl.cell (p := ⟨b3, o3 + n * 2 + 1, none⟩) hbE).trans ce1
          have hbE5 : b3 < w5.heap.size := Nat.lt_of_lt_of_le hbE HSP.out.bl.size
          have HAE := Lib.hid hAE; have HC0 := Lib.hid ce0'; have HC1 := Lib.hid ce1'
          have hidx := idx_nodes (some ⟨b3, o3, none⟩) b3 o3 n3 c3 n rfl hlt
          have hidx0 : ¬ n3 = 0 := by omega
          have h0E : 0 < E.length := by omega
          obtain ⟨-, a0x, c0x, -, -⟩ := HSP.out.node h0E
          clear hX hfb hAE ce0 ce1 ce0' ce1' hbE
          refine wp_region_st (by kernel_rfl) (Vs [fun v _ => v = .slice (some ⟨g, 0, none⟩) n3 c5, fun v _ => v = .slice (some ⟨b3, o3, none⟩) n3 c3, fun v _ => v = .int .i64 (n : Int), fun v _ => v = .pointer (some ⟨b3, o3 + n * 2, none⟩), fun v _ => v = .pointer (some ⟨b3, o3 + n * 2, none⟩), fun v _ => v = .bool fb, fun v _ => v = .slice (some ⟨b3, o3, none⟩) n3 c3, fun v _ => v = .int .i64 (n : Int), fun v _ => v = .pointer (some ⟨b3, o3 + n * 2, none⟩), fun v _ => v = .pointer (some ⟨b3, o3 + n * 2 + 1, none⟩), fun v _ => v = .slice aE X.length cE, fun v _ => v = .agg #[.bool fb, .slice aE X.length cE], fun v _ => v = .pointer (some ⟨g, 0, none⟩)]) (Xs [Ext, Ext, Ext, Ext, Ext, Ext, Ext, Ext, Ext, Ext, Ext, Ext, Ext]) (fun fL => (fun W => Below w5.heap.size w5 W) ) [0, 0, 0, 6, 14, 30, 0, 0, 192, 448, 960, 2046, 1] 171 13 (by kernel_rfl) rfl ?hV ?hS ?hop ?hfin ?hlast
          case hV =>
            refine xs_stays (vs_stays (by simp only [List.mem_cons, List.not_mem_nil, or_false, forall_eq_or_imp, forall_eq]; exact ⟨stays_const _, stays_const _, stays_const _, stays_const _, stays_const _, stays_const _, stays_const _, stays_const _, stays_const _, stays_const _, stays_const _, stays_const _, stays_const _⟩)) ?_
            exact ⟨.inl rfl, .inl rfl, .inl rfl, .inl rfl, .inl rfl, .inl rfl, .inl rfl, .inl rfl, .inl rfl, .inl rfl, .inl rfl, .inl rfl, .inl rfl, trivial⟩
          case hS =>
            intro fL hf
            show (fun W => Below w5.heap.size w5 W)  _
            exact (Below.refl _ w5).drew
          case hop =>
            refine ⟨?_, ?_, ?_, ?_, ?_, ?_, ?_, ?_, ?_, ?_, ?_, ?_, ?_, ?_, trivial⟩
            all_goals first | rw [if_neg (by decide)] | rw [if_pos (by decide)]
            · intro ac W fL hsz hfi hms hdn hS0 hdep hbase hund
              have hS : (fun W => Below w5.heap.size w5 W)  W := hS0
              have hS1 : (fun W => Below w5.heap.size w5 W)  W := by
                exact hS0
              have q0 := (hS.cell (p := ⟨b3, o3 + n * 2, none⟩) hbE5).trans HC0.out
              have q1 := (hS.cell (p := ⟨b3, o3 + n * 2 + 1, none⟩) hbE5).trans HC1.out
              have h10 : ac.tmps.getD 10 undef = .slice (some ⟨g, 0, none⟩) n3 c5 := hbase 10 (by kernel_rfl)
              have hh10 := h10; rw [Array.getD_eq_getD_getElem?] at hh10
              have h5 : ac.tmps.getD 5 undef = .slice (some ⟨b3, o3, none⟩) n3 c3 := hbase 5 (by kernel_rfl)
              have hh5 := h5; rw [Array.getD_eq_getD_getElem?] at hh5
              have h9 : ac.tmps.getD 9 undef = .int .i64 (n : Int) := hbase 9 (by kernel_rfl)
              have hh9 := h9; rw [Array.getD_eq_getD_getElem?] at hh9
              clear hbase hdep hms hdn hund
              refine opOk_run rfl (.inl ⟨_, W, ?_, rfl, Ext.refl _, hS1⟩)
              clear hsz hS hS0 hS1 hfi; simp [go_sem, Act.eval, *]
            · intro ac W fL hsz hfi hms hdn hS0 hdep hbase hund
              have hS : (fun W => Below w5.heap.size w5 W)  W := hS0
              have hS1 : (fun W => Below w5.heap.size w5 W)  W := by
                exact hS0
              have q0 := (hS.cell (p := ⟨b3, o3 + n * 2, none⟩) hbE5).trans HC0.out
              have q1 := (hS.cell (p := ⟨b3, o3 + n * 2 + 1, none⟩) hbE5).trans HC1.out
              have h10 : ac.tmps.getD 10 undef = .slice (some ⟨g, 0, none⟩) n3 c5 := hbase 10 (by kernel_rfl)
              have hh10 := h10; rw [Array.getD_eq_getD_getElem?] at hh10
              have h5 : ac.tmps.getD 5 undef = .slice (some ⟨b3, o3, none⟩) n3 c3 := hbase 5 (by kernel_rfl)
              have hh5 := h5; rw [Array.getD_eq_getD_getElem?] at hh5
              have h9 : ac.tmps.getD 9 undef = .int .i64 (n : Int) := hbase 9 (by kernel_rfl)
              have hh9 := h9; rw [Array.getD_eq_getD_getElem?] at hh9
              clear hbase hdep hms hdn hund
              refine opOk_run rfl (.inl ⟨_, W, ?_, rfl, Ext.refl _, hS1⟩)
              clear hsz hS hS0 hS1 hfi; simp [go_sem, Act.eval, *]
            · intro ac W fL hsz hfi hms hdn hS0 hdep hbase hund
              have hS : (fun W => Below w5.heap.size w5 W)  W := hS0
              have hS1 : (fun W => Below w5.heap.size w5 W)  W := by
                exact hS0
              have q0 := (hS.cell (p := ⟨b3, o3 + n * 2, none⟩) hbE5).trans HC0.out
              have q1 := (hS.cell (p := ⟨b3, o3 + n * 2 + 1, none⟩) hbE5).trans HC1.out
              have h10 : ac.tmps.getD 10 undef = .slice (some ⟨g, 0, none⟩) n3 c5 := hbase 10 (by kernel_rfl)
              have hh10 := h10; rw [Array.getD_eq_getD_getElem?] at hh10
              have h5 : ac.tmps.getD 5 undef = .slice (some ⟨b3, o3, none⟩) n3 c3 := hbase 5 (by kernel_rfl)
              have hh5 := h5; rw [Array.getD_eq_getD_getElem?] at hh5
              have h9 : ac.tmps.getD 9 undef = .int .i64 (n : Int) := hbase 9 (by kernel_rfl)
              have hh9 := h9; rw [Array.getD_eq_getD_getElem?] at hh9
              clear hbase hdep hms hdn hund
              refine opOk_run rfl (.inl ⟨_, W, ?_, rfl, Ext.refl _, hS1⟩)
              clear hsz hS hS0 hS1 hfi; simp [go_sem, Act.eval, *]
            · intro ac W fL hsz hfi hms hdn hS0 hdep hbase hund
              have hS : (fun W => Below w5.heap.size w5 W)  W := hS0
              have hS1 : (fun W => Below w5.heap.size w5 W)  W := by
                exact hS0
              have q0 := (hS.cell (p := ⟨b3, o3 + n * 2, none⟩) hbE5).trans HC0.out
              have q1 := (hS.cell (p := ⟨b3, o3 + n * 2 + 1, none⟩) hbE5).trans HC1.out
              have h10 : ac.tmps.getD 10 undef = .slice (some ⟨g, 0, none⟩) n3 c5 := hbase 10 (by kernel_rfl)
              have hh10 := h10; rw [Array.getD_eq_getD_getElem?] at hh10
              have h5 : ac.tmps.getD 5 undef = .slice (some ⟨b3, o3, none⟩) n3 c3 := hbase 5 (by kernel_rfl)
              have hh5 := h5; rw [Array.getD_eq_getD_getElem?] at hh5
              have h9 : ac.tmps.getD 9 undef = .int .i64 (n : Int) := hbase 9 (by kernel_rfl)
              have hh9 := h9; rw [Array.getD_eq_getD_getElem?] at hh9
              have d56 : ac.tmps.getD 56 undef = .slice (some ⟨b3, o3, none⟩) n3 c3 := hdep 1 (by decide)
              have dd56 := d56; rw [Array.getD_eq_getD_getElem?] at dd56
              have d57 : ac.tmps.getD 57 undef = .int .i64 (n : Int) := hdep 2 (by decide)
              have dd57 := d57; rw [Array.getD_eq_getD_getElem?] at dd57
              clear hbase hdep hms hdn hund
              refine opOk_run rfl (.inl ⟨_, W, ?_, rfl, Ext.refl _, hS1⟩)
              clear hsz hS hS0 hS1 hfi; simp [go_sem, Act.eval, *]
            · intro ac W fL hsz hfi hms hdn hS0 hdep hbase hund
              have hS : (fun W => Below w5.heap.size w5 W)  W := hS0
              have hS1 : (fun W => Below w5.heap.size w5 W)  W := by
                exact hS0
              have q0 := (hS.cell (p := ⟨b3, o3 + n * 2, none⟩) hbE5).trans HC0.out
              have q1 := (hS.cell (p := ⟨b3, o3 + n * 2 + 1, none⟩) hbE5).trans HC1.out
              have h10 : ac.tmps.getD 10 undef = .slice (some ⟨g, 0, none⟩) n3 c5 := hbase 10 (by kernel_rfl)
              have hh10 := h10; rw [Array.getD_eq_getD_getElem?] at hh10
              have h5 : ac.tmps.getD 5 undef = .slice (some ⟨b3, o3, none⟩) n3 c3 := hbase 5 (by kernel_rfl)
              have hh5 := h5; rw [Array.getD_eq_getD_getElem?] at hh5
              have h9 : ac.tmps.getD 9 undef = .int .i64 (n : Int) := hbase 9 (by kernel_rfl)
              have hh9 := h9; rw [Array.getD_eq_getD_getElem?] at hh9
              have d58 : ac.tmps.getD 58 undef = .pointer (some ⟨b3, o3 + n * 2, none⟩) := hdep 3 (by decide)
              have dd58 := d58; rw [Array.getD_eq_getD_getElem?] at dd58
              clear hbase hdep hms hdn hund
              refine opOk_run rfl (.inl ⟨_, W, ?_, rfl, Ext.refl _, hS1⟩)
              clear hsz hS hS0 hS1 hfi; simp [go_sem, Act.eval, *]
            · intro ac W fL hsz hfi hms hdn hS0 hdep hbase hund
              have hS : (fun W => Below w5.heap.size w5 W)  W := hS0
              have hS1 : (fun W => Below w5.heap.size w5 W)  W := by
                exact hS0
              have q0 := (hS.cell (p := ⟨b3, o3 + n * 2, none⟩) hbE5).trans HC0.out
              have q1 := (hS.cell (p := ⟨b3, o3 + n * 2 + 1, none⟩) hbE5).trans HC1.out
              have h10 : ac.tmps.getD 10 undef = .slice (some ⟨g, 0, none⟩) n3 c5 := hbase 10 (by kernel_rfl)
              have hh10 := h10; rw [Array.getD_eq_getD_getElem?] at hh10
              have h5 : ac.tmps.getD 5 undef = .slice (some ⟨b3, o3, none⟩) n3 c3 := hbase 5 (by kernel_rfl)
              have hh5 := h5; rw [Array.getD_eq_getD_getElem?] at hh5
              have h9 : ac.tmps.getD 9 undef = .int .i64 (n : Int) := hbase 9 (by kernel_rfl)
              have hh9 := h9; rw [Array.getD_eq_getD_getElem?] at hh9
              have d59 : ac.tmps.getD 59 undef = .pointer (some ⟨b3, o3 + n * 2, none⟩) := hdep 4 (by decide)
              have dd59 := d59; rw [Array.getD_eq_getD_getElem?] at dd59
              clear hbase hdep hms hdn hund
              refine opOk_run rfl (.inl ⟨_, W, ?_, rfl, Ext.refl _, hS1⟩)
              clear hsz hS hS0 hS1 hfi; simp [go_sem, Act.eval, *]
            · intro ac W fL hsz hfi hms hdn hS0 hdep hbase hund
              have hS : (fun W => Below w5.heap.size w5 W)  W := hS0
              have hS1 : (fun W => Below w5.heap.size w5 W)  W := by
                exact hS0
              have q0 := (hS.cell (p := ⟨b3, o3 + n * 2, none⟩) hbE5).trans HC0.out
              have q1 := (hS.cell (p := ⟨b3, o3 + n * 2 + 1, none⟩) hbE5).trans HC1.out
              have h10 : ac.tmps.getD 10 undef = .slice (some ⟨g, 0, none⟩) n3 c5 := hbase 10 (by kernel_rfl)
              have hh10 := h10; rw [Array.getD_eq_getD_getElem?] at hh10
              have h5 : ac.tmps.getD 5 undef = .slice (some ⟨b3, o3, none⟩) n3 c3 := hbase 5 (by kernel_rfl)
              have hh5 := h5; rw [Array.getD_eq_getD_getElem?] at hh5
              have h9 : ac.tmps.getD 9 undef = .int .i64 (n : Int) := hbase 9 (by kernel_rfl)
              have hh9 := h9; rw [Array.getD_eq_getD_getElem?] at hh9
              clear hbase hdep hms hdn hund
              refine opOk_run rfl (.inl ⟨_, W, ?_, rfl, Ext.refl _, hS1⟩)
              clear hsz hS hS0 hS1 hfi; simp [go_sem, Act.eval, *]
            · intro ac W fL hsz hfi hms hdn hS0 hdep hbase hund
              have hS : (fun W => Below w5.heap.size w5 W)  W := hS0
              have hS1 : (fun W => Below w5.heap.size w5 W)  W := by
                exact hS0
              have q0 := (hS.cell (p := ⟨b3, o3 + n * 2, none⟩) hbE5).trans HC0.out
              have q1 := (hS.cell (p := ⟨b3, o3 + n * 2 + 1, none⟩) hbE5).trans HC1.out
              have h10 : ac.tmps.getD 10 undef = .slice (some ⟨g, 0, none⟩) n3 c5 := hbase 10 (by kernel_rfl)
              have hh10 := h10; rw [Array.getD_eq_getD_getElem?] at hh10
              have h5 : ac.tmps.getD 5 undef = .slice (some ⟨b3, o3, none⟩) n3 c3 := hbase 5 (by kernel_rfl)
              have hh5 := h5; rw [Array.getD_eq_getD_getElem?] at hh5
              have h9 : ac.tmps.getD 9 undef = .int .i64 (n : Int) := hbase 9 (by kernel_rfl)
              have hh9 := h9; rw [Array.getD_eq_getD_getElem?] at hh9
              clear hbase hdep hms hdn hund
              refine opOk_run rfl (.inl ⟨_, W, ?_, rfl, Ext.refl _, hS1⟩)
              clear hsz hS hS0 hS1 hfi; simp [go_sem, Act.eval, *]
            · intro ac W fL hsz hfi hms hdn hS0 hdep hbase hund
              have hS : (fun W => Below w5.heap.size w5 W)  W := hS0
              have hS1 : (fun W => Below w5.heap.size w5 W)  W := by
                exact hS0
              have q0 := (hS.cell (p := ⟨b3, o3 + n * 2, none⟩) hbE5).trans HC0.out
              have q1 := (hS.cell (p := ⟨b3, o3 + n * 2 + 1, none⟩) hbE5).trans HC1.out
              have h10 : ac.tmps.getD 10 undef = .slice (some ⟨g, 0, none⟩) n3 c5 := hbase 10 (by kernel_rfl)
              have hh10 := h10; rw [Array.getD_eq_getD_getElem?] at hh10
              have h5 : ac.tmps.getD 5 undef = .slice (some ⟨b3, o3, none⟩) n3 c3 := hbase 5 (by kernel_rfl)
              have hh5 := h5; rw [Array.getD_eq_getD_getElem?] at hh5
              have h9 : ac.tmps.getD 9 undef = .int .i64 (n : Int) := hbase 9 (by kernel_rfl)
              have hh9 := h9; rw [Array.getD_eq_getD_getElem?] at hh9
              have d61 : ac.tmps.getD 61 undef = .slice (some ⟨b3, o3, none⟩) n3 c3 := hdep 6 (by decide)
              have dd61 := d61; rw [Array.getD_eq_getD_getElem?] at dd61
              have d62 : ac.tmps.getD 62 undef = .int .i64 (n : Int) := hdep 7 (by decide)
              have dd62 := d62; rw [Array.getD_eq_getD_getElem?] at dd62
              clear hbase hdep hms hdn hund
              refine opOk_run rfl (.inl ⟨_, W, ?_, rfl, Ext.refl _, hS1⟩)
              clear hsz hS hS0 hS1 hfi; simp [go_sem, Act.eval, *]
            · intro ac W fL hsz hfi hms hdn hS0 hdep hbase hund
              have hS : (fun W => Below w5.heap.size w5 W)  W := hS0
              have hS1 : (fun W => Below w5.heap.size w5 W)  W := by
                exact hS0
              have q0 := (hS.cell (p := ⟨b3, o3 + n * 2, none⟩) hbE5).trans HC0.out
              have q1 := (hS.cell (p := ⟨b3, o3 + n * 2 + 1, none⟩) hbE5).trans HC1.out
              have h10 : ac.tmps.getD 10 undef = .slice (some ⟨g, 0, none⟩) n3 c5 := hbase 10 (by kernel_rfl)
              have hh10 := h10; rw [Array.getD_eq_getD_getElem?] at hh10
              have h5 : ac.tmps.getD 5 undef = .slice (some ⟨b3, o3, none⟩) n3 c3 := hbase 5 (by kernel_rfl)
              have hh5 := h5; rw [Array.getD_eq_getD_getElem?] at hh5
              have h9 : ac.tmps.getD 9 undef = .int .i64 (n : Int) := hbase 9 (by kernel_rfl)
              have hh9 := h9; rw [Array.getD_eq_getD_getElem?] at hh9
              have d63 : ac.tmps.getD 63 undef = .pointer (some ⟨b3, o3 + n * 2, none⟩) := hdep 8 (by decide)
              have dd63 := d63; rw [Array.getD_eq_getD_getElem?] at dd63
              clear hbase hdep hms hdn hund
              refine opOk_run rfl (.inl ⟨_, W, ?_, rfl, Ext.refl _, hS1⟩)
              clear hsz hS hS0 hS1 hfi; simp [go_sem, Act.eval, *]
            · intro ac W fL hsz hfi hms hdn hS0 hdep hbase hund
              have hS : (fun W => Below w5.heap.size w5 W)  W := hS0
              have hS1 : (fun W => Below w5.heap.size w5 W)  W := by
                exact hS0
              have q0 := (hS.cell (p := ⟨b3, o3 + n * 2, none⟩) hbE5).trans HC0.out
              have q1 := (hS.cell (p := ⟨b3, o3 + n * 2 + 1, none⟩) hbE5).trans HC1.out
              have h10 : ac.tmps.getD 10 undef = .slice (some ⟨g, 0, none⟩) n3 c5 := hbase 10 (by kernel_rfl)
              have hh10 := h10; rw [Array.getD_eq_getD_getElem?] at hh10
              have h5 : ac.tmps.getD 5 undef = .slice (some ⟨b3, o3, none⟩) n3 c3 := hbase 5 (by kernel_rfl)
              have hh5 := h5; rw [Array.getD_eq_getD_getElem?] at hh5
              have h9 : ac.tmps.getD 9 undef = .int .i64 (n : Int) := hbase 9 (by kernel_rfl)
              have hh9 := h9; rw [Array.getD_eq_getD_getElem?] at hh9
              have d64 : ac.tmps.getD 64 undef = .pointer (some ⟨b3, o3 + n * 2 + 1, none⟩) := hdep 9 (by decide)
              have dd64 := d64; rw [Array.getD_eq_getD_getElem?] at dd64
              clear hbase hdep hms hdn hund
              refine opOk_run rfl (.inl ⟨_, W, ?_, rfl, Ext.refl _, hS1⟩)
              clear hsz hS hS0 hS1 hfi; simp [go_sem, Act.eval, *]
            · intro ac W fL hsz hfi hms hdn hS0 hdep hbase hund
              have hS : (fun W => Below w5.heap.size w5 W)  W := hS0
              have hS1 : (fun W => Below w5.heap.size w5 W)  W := by
                exact hS0
              have q0 := (hS.cell (p := ⟨b3, o3 + n * 2, none⟩) hbE5).trans HC0.out
              have q1 := (hS.cell (p := ⟨b3, o3 + n * 2 + 1, none⟩) hbE5).trans HC1.out
              have h10 : ac.tmps.getD 10 undef = .slice (some ⟨g, 0, none⟩) n3 c5 := hbase 10 (by kernel_rfl)
              have hh10 := h10; rw [Array.getD_eq_getD_getElem?] at hh10
              have h5 : ac.tmps.getD 5 undef = .slice (some ⟨b3, o3, none⟩) n3 c3 := hbase 5 (by kernel_rfl)
              have hh5 := h5; rw [Array.getD_eq_getD_getElem?] at hh5
              have h9 : ac.tmps.getD 9 undef = .int .i64 (n : Int) := hbase 9 (by kernel_rfl)
              have hh9 := h9; rw [Array.getD_eq_getD_getElem?] at hh9
              have d60 : ac.tmps.getD 60 undef = .bool fb := hdep 5 (by decide)
              have dd60 := d60; rw [Array.getD_eq_getD_getElem?] at dd60
              have d65 : ac.tmps.getD 65 undef = .slice aE X.length cE := hdep 10 (by decide)
              have dd65 := d65; rw [Array.getD_eq_getD_getElem?] at dd65
              clear hbase hdep hms hdn hund
              refine opOk_run rfl (.inl ⟨_, W, ?_, rfl, Ext.refl _, hS1⟩)
              clear hsz hS hS0 hS1 hfi; simp [go_sem, Act.eval, *]
            · intro ac W fL hsz hfi hms hdn hS0 hdep hbase hund
              have hS : (fun W => Below w5.heap.size w5 W)  W := hS0
              have hS1 : (fun W => Below w5.heap.size w5 W)  W := by
                exact hS0
              have q0 := (hS.cell (p := ⟨b3, o3 + n * 2, none⟩) hbE5).trans HC0.out
              have q1 := (hS.cell (p := ⟨b3, o3 + n * 2 + 1, none⟩) hbE5).trans HC1.out
              have h10 : ac.tmps.getD 10 undef = .slice (some ⟨g, 0, none⟩) n3 c5 := hbase 10 (by kernel_rfl)
              have hh10 := h10; rw [Array.getD_eq_getD_getElem?] at hh10
              have h5 : ac.tmps.getD 5 undef = .slice (some ⟨b3, o3, none⟩) n3 c3 := hbase 5 (by kernel_rfl)
              have hh5 := h5; rw [Array.getD_eq_getD_getElem?] at hh5
              have h9 : ac.tmps.getD 9 undef = .int .i64 (n : Int) := hbase 9 (by kernel_rfl)
              have hh9 := h9; rw [Array.getD_eq_getD_getElem?] at hh9
              have d55 : ac.tmps.getD 55 undef = .slice (some ⟨g, 0, none⟩) n3 c5 := hdep 0 (by decide)
              have dd55 := d55; rw [Array.getD_eq_getD_getElem?] at dd55
              clear hbase hdep hms hdn hund
              refine opOk_run rfl (.inl ⟨_, W, ?_, rfl, Ext.refl _, hS1⟩)
              clear hsz hS hS0 hS1 hfi; simp [go_sem, Act.eval, *]
            · trivial
          case hfin =>
            intro h; exact absurd h (by decide)
          case hlast =>
            intro _ ac W hsz hdf fL hf hS0 hv hbase
            have hS : (fun W => Below w5.heap.size w5 W)  W := hS0
            clear hS0
            have hst : ac.tmps.getD 67 undef = .pointer (some ⟨g, 0, none⟩) := hv 12 (by decide)
            have hnv : ac.tmps.getD 66 undef = .agg #[.bool fb, .slice aE X.length cE] := hv 11 (by decide)
            have hSPW := HSP.out.go hS
            obtain ⟨q0, aq0, cq0, q1, -⟩ := hSPW.node h0E
            rw [Nat.zero_mul] at q0 q1
            rw [Nat.zero_add] at q1
            refine wpOp_store_nd rfl rfl rfl rfl (eval_tmp hst) (eval_tmp hnv) (hSPW.free 0) (hSPW.free 1) q0 q1 (by kernel_rfl) ?_
            have hD6 := (hSPW.setNode (f := fb) (cc := cE) (aa := aE) (X := X) HAE.out h0E).dawg (fun x hx => by
              rcases List.mem_or_eq_of_mem_set hx with h | h
              · have := HME.out.ar x h; omega
              · have h2 := HME.out.ar _ (List.getElem_mem hnE)
                rw [h, ← HXE.out]; omega)
            rw [← HXE.out] at hD6
            have hB6 : Below wr.heap.size wr ((W.setCell ⟨g, 0, none⟩ (.bool fb)).setCell ⟨g, 1, none⟩ (.slice aE X.length cE)) := ((Below.trans HBR5.out (Below.mono hS HBR5.out.size)).setCell (p := ⟨g, 0, none⟩) (by show wr.heap.size ≤ g; omega) _).setCell (p := ⟨g, 1, none⟩) (by show wr.heap.size ≤ g; omega) _
            obtain ⟨w6, hw6⟩ : ∃ w6, (W.setCell ⟨g, 0, none⟩ (.bool fb)).setCell ⟨g, 1, none⟩ (.slice aE X.length cE) = w6 := ⟨_, rfl⟩
            rw [hw6] at hD6 hB6 ⊢
            have HD6 := Lib.hid hD6; have HB6 := Lib.hid hB6
            clear hS hSPW q0 q1 hD6 hB6 hw6 hst hnv
            obtain ⟨sx, hsx, hsA⟩ := act_puts [55, 56, 57, 58, 59, 60, 61, 62, 63, 64, 65, 66, 67] (by kernel_rfl) hsz hdf hbase
            rw [hsA]
            simp only [List.foldl]
            simp only [Act.put, List.setIfInBounds_toArray, List.set_cons_succ, List.set_cons_zero]
            clear hsA hsx hv hbase hsz hdf hf
            clear HSP HBR5 HAE HC0 HC1 HXE hidx hidx0
            obtain ⟨r, hr, hrne, hl1, hl2⟩ := HME.out.nd n (by have := HEL.out; omega)
            have hrl := HME.out.rl r (List.mem_of_getElem? hr)
            have hrp : 1 ≤ r.length := List.length_pos_iff.2 hrne
            have HR7 := Lib.hid hr
            have HL1 := Lib.hid hl1; have HL2 := Lib.hid hl2
            clear hr hl1 hl2
            have hrz : ((r.length : Int) == 0) = false := by simp [hrne]
            clear hrne
            go_wp2_with fail
            refine (listed_n _ n3 (some ⟨g, 0, none⟩) c5 r w6 HD6.out (by rw [List.length_set]; exact HEL.out) (by omega) (csOk_set0 HME.out.cs _) HL1.out HL2.out).mono ?_
            rintro e w7 ⟨a7, c7, rfl, ho7, hb⟩
            have HB67 : Hid (Below wr.heap.size wr w7) := HB6.out.trans (hb.mono HB6.out.size)
            have HO7 : Hid (OwnG rowStr w7 w3.heap.size (.slice a7 r.length c7) (rowsB r)) := ho7.mono (Nat.le_trans HBr.out.size HB6.out.size)
            have HRS7 := Lib.hid (HRSr.out.go HB67.out); have HBR7 := Lib.hid (HBRr.out.go HB67.out); have HB7 : Hid (Below w3.heap.size w3 w7) := HBr.out.trans (HB67.out.mono HBr.out.size)
            clear hb ho7 HB67 HB6 HD6 HL1 HL2 HBr HBRr HRSr HAL
            go_wp2
            go_loopw [13] (fun k wr => ∃ m : Nat, m ≤ n ∧ k = .int .i64 (m : Int) ∧ Since w7 wr) (fun k _ => n - (intOf k).toNat)
            case atStart => exact ⟨0, Nat.zero_le _, rfl, Since.refl _⟩
            case round =>
              obtain ⟨m, hm, rfl, hS⟩ := hrel
              have HSq := Lib.hid hS
              clear hS
              by_cases hlm : m < n
              · obtain ⟨gq, cq, aq, mq, ccq, rq, eq, hcq, hgq, hrq, hmq, hsq⟩ := (HRS7.out.go HSq.out.out).at hlm
                injection eq with eq1 _ eq2
                have hidx : ∀ W, (Instr.indexAt 43 (.slice ga7 n ca7) (.int .i64 (m : Int))).run Tryd.prog W = .ok (.pointer (some ⟨gq, m, none⟩)) W := fun W => by rw [eq1]; exact idx_rests gq n ca7 m hlm W
                clear eq1 eq2
                have hrql := HME.out.rl rq (List.mem_of_getElem? hrq)
                have hmq2 : mq ≤ 200 := by rw [hmq, rowsB_len]; exact hrql
                have HSQ := Lib.hid hsq; have HMQ := Lib.hid hmq
                have HNE : Hid (rq ≠ r) := fun h => by
                  have := nodup_idx HME.out.tab.tab.nodup hrq (by rw [h]; exact HR7.out)
                  omega
                clear hsq hmq hrq hrql
                go_wp2_with fail
                refine (sameWords_any (rowsB rq) (rowsB r) mq r.length aq a7 ccq c7 wr HSQ.out (HO7.out.strs.1.go HSq.out.out) HMQ.out (rowsB_len r).symm (by omega) (by omega)).mono ?_
                rintro e w8 ⟨he, hb⟩
                rw [same_rows, decide_eq_false HNE.out] at he
                subst he
                replace HSq := Lib.hid (HSq.out.go hb)
                clear hb
                go_wp2
                go_roundw
                case rel => exact ⟨m + 1, by omega, by go_num, HSq.out⟩
                case measure => simp [intOf]; omega
              · have hRq := HRS7.out.go HSq.out.out
                obtain ⟨S, hSl, hSo, hSk⟩ := hRq
                have HOQ : Hid (OwnG rowStr wr w3.heap.size (.slice a7 r.length c7) (rowsB r)) := HO7.out.later HSq.out.out (Nat.le_refl _)
                have HBQ := Lib.hid (HBR7.out.go HSq.out.out)
                have HB8 : Hid (Below w3.heap.size w3 wr) := HB7.out.trans (HSq.out.out.mono HB7.out.size)
                have HSO := Lib.hid hSo; have HSK := Lib.hid hSk; have HSL := Lib.hid hSl
                have hz8 := HB8.out.size
                clear hSo hSk hSl
                have hxA : Below wr.heap.size wr (wr.alloc (.cells #[.slice a7 r.length c7] 25)) := (Below.refl _ wr).alloc (Nat.le_refl _) _
                have HXA := Lib.hid hxA
                clear hxA
                go_wp2_with (first | (at_builtin; go_loud (refine wpList_append_g rowRest_ok rfl _ _ rfl rfl (HSO.out.later HXA.out (Nat.le_refl _)) ⟨wr.heap.size, 0, none⟩ 1 [⟨a7, r.length, c7⟩] rfl (cells_built (heap_alloc_new _ _)) (by have := HSL.out; simp only [List.length_singleton]; omega) (by simp only [World.size_alloc]; omega) ?_); intro v9 w9 hown9 hgrow9 hat9; have HO9 := Lib.hid hown9; have HG9 := Lib.hid hgrow9; clear hown9 hgrow9 hat9))
                go_roundw
                case rel =>
                  refine ⟨n + 1, by omega, by go_num, ?_, ?_, ?_⟩
                  · refine RestsAt.more (w := wr.alloc (.cells #[.slice a7 r.length c7] 25)) HSL.out (HSO.out.later HXA.out (Nat.le_refl _)) (fun k h => ?_) HR7.out (HOQ.out.later HXA.out (Nat.le_refl _)) HO9.out HG9.out
                    obtain ⟨q, q1, q2, q3⟩ := HSK.out k h
                    exact ⟨q, q1, q2, q3.later HXA.out (Nat.le_refl _)⟩
                  · exact (HBQ.out.go HXA.out).grown HG9.out ((HBQ.out.go HXA.out).ne_of (HSO.out.later HXA.out (Nat.le_refl _)) (by decide))
                  · exact (HB8.out.trans (HXA.out.mono HB8.out.size)).trans (below_grown HG9.out (by simp only [World.size_alloc]; omega) HSO.out.ge)
                case measure => simp [intOf]; omega
      · clear HRSr hn
        have h0m : MetTo (restAt 0 L) Mt L (fun _ => false) 0 := fun j hj hj2 => absurd hj2 (Nat.not_lt_zero j)
        have HM0 := Lib.hid h0m
        clear h0m
        go_wp2
        go_loopw [14] (fun i wr => ∃ m : Nat, m ≤ L.length ∧ i = .int .i64 (m : Int) ∧ ∃ f, BoolRow wr g8 n3 f ∧ MetTo (restAt 0 L) Mt L f m ∧ Below w3.heap.size w3 wr) (fun i _ => L.length - (intOf i).toNat)
        case atStart => exact ⟨0, Nat.zero_le _, rfl, _, HBRr.out, HM0.out, HBr.out⟩
        case round =>
          clear HBRr HBr HM0
          obtain ⟨m, hm, rfl, f, hbr, hmt, hB⟩ := hrel
          have HBW := Lib.hid hB; have HMT := Lib.hid hmt; have HBL := Lib.hid hbr
          clear hB hmt hbr
          by_cases hlm : m < L.length
          · obtain ⟨s, hs⟩ : ∃ s, L[m] = s := ⟨_, rfl⟩
            have HSE := Lib.hid hs
            have HSM : Hid (s.data.toList ∈ restAt 0 L) := List.mem_map.2 ⟨s, by rw [← hs]; exact List.getElem_mem _, by rw [List.drop_zero]⟩
            have hsz : s.size ≤ 20 := by rw [← hs]; exact (word_facts (HD.out.word _ (List.getElem_mem _))).2.1
            have q8 := HBL.out.cell (i := 0) (by omega)
            have q8f := HBL.out.free (i := 0)
            have hi8 : ∀ W, (Instr.indexAt 44 (.slice (some ⟨g8, 0, none⟩) n3 n3) (.int .i64 0)).run Tryd.prog W = .ok (.pointer (some ⟨g8, 0, none⟩)) W := fun W => idx_bools g8 n3 n3 0 (by omega) W
            clear hs
            go_upto_region 27 with fail
            have hbr := HBL.out.set (i := 0) (b := true)
            have hB := HBW.out.setCell (p := ⟨g8, 0, none⟩) (by show w3.heap.size ≤ g8; omega) (.bool true)
            obtain ⟨w5, hw5⟩ : ∃ w5, wr.setCell ⟨g8, 0, none⟩ (.bool true) = w5 := ⟨_, rfl⟩
            rw [hw5] at hbr hB ⊢
            obtain ⟨f1, hf1⟩ : ∃ f1, (fun j => if j = 0 then true else f j) = f1 := ⟨_, rfl⟩
            have HMT1 : Hid (MetTo (restAt 0 L) Mt L f1 m) := HMT.out.mono fun t ht => by rw [← hf1]; simp only; split; rfl; exact ht
            have HF1 : Hid (f1 0 = true) := by show _ = _; rw [← hf1]; simp
            rw [hf1] at hbr
            have HBL1 := Lib.hid hbr; have HBW1 := Lib.hid hB
            clear hbr hB hw5 hf1 q8 q8f hi8 HMT HBL HBW
            go_wp2
            go_loopw [15, 16] (fun at' k wr => ∃ q t : Nat, q ≤ s.size ∧ k = .int .i64 (q : Int) ∧ at' = .int .i64 (t : Int) ∧ t < n3 ∧ Mt[t]? = some (aftW (restAt 0 L) s q) ∧ ∃ f, BoolRow wr g8 n3 f ∧ MetTo (restAt 0 L) Mt L f m ∧ (∀ q', q' ≤ q → ∀ t' : Nat, Mt[t']? = some (aftW (restAt 0 L) s q') → f t' = true) ∧ Below w3.heap.size w3 wr) (fun _ k _ => s.size - (intOf k).toNat)
            case atStart =>
              refine ⟨0, 0, Nat.zero_le _, rfl, rfl, by omega, by rw [aftW_zero]; exact HME.out.tab.first, f1, HBL1.out, HMT1.out, fun q' hq t' ht => ?_, HBW1.out⟩
              obtain rfl : q' = 0 := by omega
              rw [aftW_zero] at ht
              obtain rfl := nodup_idx HME.out.tab.tab.nodup HME.out.tab.first ht
              exact HF1.out
            case round =>
              clear HBL1 HMT1 HF1 HBW1
              obtain ⟨q, t, hq, rfl, rfl, ht, hMt, f2, hbr, hmt, hall, hB⟩ := hrel
              have HBW := Lib.hid hB; have HMT := Lib.hid hmt; have HBL := Lib.hid hbr; have HALL := Lib.hid hall; have HTT := Lib.hid hMt
              have hbw := hB.size
              obtain ⟨bw, ow, ew, hbw1, q0⟩ := (HR.out.later hB (Nat.le_refl _)).at hlm
              injection ew with ew
              injection ew with ew1 ew2
              subst ew1 ew2
              rw [HSE.out] at q0
              have hidxw := idx_strs (some ⟨b, o, none⟩) b o L.length c m rfl hlm
              clear hB hmt hbr hall hMt
              by_cases hlq : q < s.size
              · obtain ⟨bE, oE, eE, hbE, -, aE, cE, ce1, hXl, hAE⟩ := (HDW.out.later HBW.out (Nat.le_refl _)).at (k := t) (by have := HEL.out; omega)
                injection eE with eE
                injection eE with eE1 eE2
                subst eE1 eE2
                have htE : t < E.length := by have := HEL.out; omega
                obtain ⟨X, hX⟩ : ∃ X, E[t].arcs = X := ⟨_, rfl⟩
                rw [hX] at ce1 hAE hXl
                have hidx := idx_nodes (some ⟨b3, o3, none⟩) b3 o3 n3 c3 t rfl ht
                have HXE := Lib.hid hX; have HAE := Lib.hid hAE
                clear hX hAE
                have HC1 := Lib.hid ce1; have HQ0 := Lib.hid q0
                have hqI : (q : Int) < (s.size : Int) := by omega
                go_wp2
                clear ce1 q0
                go_loopw [18, 17] (fun k nx wv => ∃ (j : Nat) (nv : Int), j ≤ X.length ∧ k = .int .i64 (j : Int) ∧ nx = .int .i64 nv ∧ nv = nextL ((s[q]'hlq).toNat : Int) (X.take j) ∧ Below wr.heap.size wr wv) (fun k _ _ => X.length - (intOf k).toNat)
                case atStart => exact ⟨0, -1, Nat.zero_le _, rfl, rfl, rfl, Below.refl _ _⟩
                case round =>
                  obtain ⟨j, nv, hj, rfl, rfl, hnv, hB⟩ := hrel
                  have HNV := Lib.hid hnv; have HB5 := Lib.hid hB
                  have hb5 := hB.size
                  clear hnv hB
                  have ce1 := (HB5.out.cell (p := ⟨b3, o3 + t * 2 + 1, none⟩) hbE).trans HC1.out
                  have q0 := (HB5.out.cell (p := ⟨b, o + m, none⟩) hbw1).trans HQ0.out
                  have hbE' : b3 < wr.heap.size := by omega
                  have hbw' : b < wr.heap.size := by omega
                  by_cases hlj : j < X.length
                  · obtain ⟨ba, oa, ea, hba, p0, p1⟩ := (HAE.out.later HB5.out (Nat.le_refl _)).at hlj
                    have hidxa := idx_arcs aE ba oa X.length cE j ea hlj
                    have HSU := Lib.hid (nextL_succ (c := ((s[q]'hlq).toNat : Int)) hlj)
                    obtain ⟨x, hx⟩ : ∃ x, X[j] = x := ⟨_, rfl⟩
                    rw [hx] at p0 p1 HSU
                    obtain ⟨xc, xt⟩ := x
                    simp only at p0 p1 HSU
                    have HP0 := Lib.hid p0; have HP1 := Lib.hid p1; have HCE := Lib.hid ce1; have HQE := Lib.hid q0
                    clear hx ea p0 p1
                    by_cases hc : xc = ((s[q]'hlq).toNat : Int)
                    · have hcb : (xc == ((s[q]'hlq).toNat : Int)) = true := by simp [hc]
                      have HN : Hid (nextL ((s[q]'hlq).toNat : Int) (X.take (j + 1)) = xt) := by show _ = _; rw [HSU.out, if_pos hc]
                      clear hc HSU
                      go_upto_region 34 with fail
                      clear ce1 q0
                      refine wp_region_st (by kernel_rfl) (Vs [fun v _ => v = .slice (some ⟨b3, o3, none⟩) n3 c3, fun v _ => v = .int .i64 (t : Int), fun v _ => v = .pointer (some ⟨b3, o3 + t * 2, none⟩), fun v _ => v = .pointer (some ⟨b3, o3 + t * 2 + 1, none⟩), fun v _ => v = .slice aE X.length cE, fun v _ => v = .int .i64 (j : Int), fun v _ => v = .pointer (some ⟨ba, oa + j * 2, none⟩), fun v _ => v = .pointer (some ⟨ba, oa + j * 2, none⟩), fun v _ => v = .int .u8 xc, fun v _ => v = .slice (some ⟨b, o, none⟩) L.length c, fun v _ => v = .int .i64 (m : Int), fun v _ => v = .pointer (some ⟨b, o + m, none⟩), fun v _ => v = .string s, fun v _ => v = .int .i64 (q : Int), fun v _ => v = .int .u8 ((s[q]'hlq).toNat : Int), fun v _ => v = .bool true]) (Xs [Ext, Ext, Ext, Ext, Ext, Ext, Ext, Ext, Ext, Ext, Ext, Ext, Ext, Ext, Ext, Ext]) (fun fL => (fun W => Below wr.heap.size wr W) ) [0, 0, 3, 7, 15, 0, 63, 127, 255, 0, 0, 1536, 3584, 0, 15872, 32767] 171 16 (by kernel_rfl) rfl ?hV ?hS ?hop ?hfin ?hlast
                      case hV =>
                        refine xs_stays (vs_stays (by simp only [List.mem_cons, List.not_mem_nil, or_false, forall_eq_or_imp, forall_eq]; exact ⟨stays_const _, stays_const _, stays_const _, stays_const _, stays_const _, stays_const _, stays_const _, stays_const _, stays_const _, stays_const _, stays_const _, stays_const _, stays_const _, stays_const _, stays_const _, stays_const _⟩)) ?_
                        exact ⟨.inl rfl, .inl rfl, .inl rfl, .inl rfl, .inl rfl, .inl rfl, .inl rfl, .inl rfl, .inl rfl, .inl rfl, .inl rfl, .inl rfl, .inl rfl, .inl rfl, .inl rfl, .inl rfl, trivial⟩
                      case hS =>
                        intro fL hf
                        show (fun W => Below wr.heap.size wr W)  _
                        exact (Below.refl _ wr).drew
                      case hop =>
                        refine ⟨?_, ?_, ?_, ?_, ?_, ?_, ?_, ?_, ?_, ?_, ?_, ?_, ?_, ?_, ?_, ?_, trivial⟩
                        all_goals first | rw [if_neg (by decide)] | rw [if_pos (by decide)]
                        · intro ac W fL hsz hfi hms hdn hS0 hdep hbase hund
                          have hS : (fun W => Below wr.heap.size wr W)  W := hS0
                          have hS1 : (fun W => Below wr.heap.size wr W)  W := by
                            exact hS0
                          have ce1 := (hS.cell (p := ⟨b3, o3 + t * 2 + 1, none⟩) hbE').trans HCE.out
                          have q0 := (hS.cell (p := ⟨b, o + m, none⟩) hbw').trans HQE.out
                          have p0 := (hS.cell (p := ⟨ba, oa + j * 2, none⟩) hba).trans HP0.out
                          have h5 : ac.tmps.getD 5 undef = .slice (some ⟨b3, o3, none⟩) n3 c3 := hbase 5 (by kernel_rfl)
                          have hh5 := h5; rw [Array.getD_eq_getD_getElem?] at hh5
                          have h15 : ac.tmps.getD 15 undef = .int .i64 (t : Int) := hbase 15 (by kernel_rfl)
                          have hh15 := h15; rw [Array.getD_eq_getD_getElem?] at hh15
                          have h18 : ac.tmps.getD 18 undef = .int .i64 (j : Int) := hbase 18 (by kernel_rfl)
                          have hh18 := h18; rw [Array.getD_eq_getD_getElem?] at hh18
                          have h4 : ac.tmps.getD 4 undef = .slice (some ⟨b, o, none⟩) L.length c := hbase 4 (by kernel_rfl)
                          have hh4 := h4; rw [Array.getD_eq_getD_getElem?] at hh4
                          have h14 : ac.tmps.getD 14 undef = .int .i64 (m : Int) := hbase 14 (by kernel_rfl)
                          have hh14 := h14; rw [Array.getD_eq_getD_getElem?] at hh14
                          have h16 : ac.tmps.getD 16 undef = .int .i64 (q : Int) := hbase 16 (by kernel_rfl)
                          have hh16 := h16; rw [Array.getD_eq_getD_getElem?] at hh16
                          clear hbase hdep hms hdn hund
                          refine opOk_run rfl (.inl ⟨_, W, ?_, rfl, Ext.refl _, hS1⟩)
                          clear hsz hS hS0 hS1 hfi; simp [go_sem, Act.eval, *]
                        · intro ac W fL hsz hfi hms hdn hS0 hdep hbase hund
                          have hS : (fun W => Below wr.heap.size wr W)  W := hS0
                          have hS1 : (fun W => Below wr.heap.size wr W)  W := by
                            exact hS0
                          have ce1 := (hS.cell (p := ⟨b3, o3 + t * 2 + 1, none⟩) hbE').trans HCE.out
                          have q0 := (hS.cell (p := ⟨b, o + m, none⟩) hbw').trans HQE.out
                          have p0 := (hS.cell (p := ⟨ba, oa + j * 2, none⟩) hba).trans HP0.out
                          have h5 : ac.tmps.getD 5 undef = .slice (some ⟨b3, o3, none⟩) n3 c3 := hbase 5 (by kernel_rfl)
                          have hh5 := h5; rw [Array.getD_eq_getD_getElem?] at hh5
                          have h15 : ac.tmps.getD 15 undef = .int .i64 (t : Int) := hbase 15 (by kernel_rfl)
                          have hh15 := h15; rw [Array.getD_eq_getD_getElem?] at hh15
                          have h18 : ac.tmps.getD 18 undef = .int .i64 (j : Int) := hbase 18 (by kernel_rfl)
                          have hh18 := h18; rw [Array.getD_eq_getD_getElem?] at hh18
                          have h4 : ac.tmps.getD 4 undef = .slice (some ⟨b, o, none⟩) L.length c := hbase 4 (by kernel_rfl)
                          have hh4 := h4; rw [Array.getD_eq_getD_getElem?] at hh4
                          have h14 : ac.tmps.getD 14 undef = .int .i64 (m : Int) := hbase 14 (by kernel_rfl)
                          have hh14 := h14; rw [Array.getD_eq_getD_getElem?] at hh14
                          have h16 : ac.tmps.getD 16 undef = .int .i64 (q : Int) := hbase 16 (by kernel_rfl)
                          have hh16 := h16; rw [Array.getD_eq_getD_getElem?] at hh16
                          clear hbase hdep hms hdn hund
                          refine opOk_run rfl (.inl ⟨_, W, ?_, rfl, Ext.refl _, hS1⟩)
                          clear hsz hS hS0 hS1 hfi; simp [go_sem, Act.eval, *]
                        · intro ac W fL hsz hfi hms hdn hS0 hdep hbase hund
                          have hS : (fun W => Below wr.heap.size wr W)  W := hS0
                          have hS1 : (fun W => Below wr.heap.size wr W)  W := by
                            exact hS0
                          have ce1 := (hS.cell (p := ⟨b3, o3 + t * 2 + 1, none⟩) hbE').trans HCE.out
                          have q0 := (hS.cell (p := ⟨b, o + m, none⟩) hbw').trans HQE.out
                          have p0 := (hS.cell (p := ⟨ba, oa + j * 2, none⟩) hba).trans HP0.out
                          have h5 : ac.tmps.getD 5 undef = .slice (some ⟨b3, o3, none⟩) n3 c3 := hbase 5 (by kernel_rfl)
                          have hh5 := h5; rw [Array.getD_eq_getD_getElem?] at hh5
                          have h15 : ac.tmps.getD 15 undef = .int .i64 (t : Int) := hbase 15 (by kernel_rfl)
                          have hh15 := h15; rw [Array.getD_eq_getD_getElem?] at hh15
                          have h18 : ac.tmps.getD 18 undef = .int .i64 (j : Int) := hbase 18 (by kernel_rfl)
                          have hh18 := h18; rw [Array.getD_eq_getD_getElem?] at hh18
                          have h4 : ac.tmps.getD 4 undef = .slice (some ⟨b, o, none⟩) L.length c := hbase 4 (by kernel_rfl)
                          have hh4 := h4; rw [Array.getD_eq_getD_getElem?] at hh4
                          have h14 : ac.tmps.getD 14 undef = .int .i64 (m : Int) := hbase 14 (by kernel_rfl)
                          have hh14 := h14; rw [Array.getD_eq_getD_getElem?] at hh14
                          have h16 : ac.tmps.getD 16 undef = .int .i64 (q : Int) := hbase 16 (by kernel_rfl)
                          have hh16 := h16; rw [Array.getD_eq_getD_getElem?] at hh16
                          have d122 : ac.tmps.getD 122 undef = .slice (some ⟨b3, o3, none⟩) n3 c3 := hdep 0 (by decide)
                          have dd122 := d122; rw [Array.getD_eq_getD_getElem?] at dd122
                          have d123 : ac.tmps.getD 123 undef = .int .i64 (t : Int) := hdep 1 (by decide)
                          have dd123 := d123; rw [Array.getD_eq_getD_getElem?] at dd123
                          clear hbase hdep hms hdn hund
                          refine opOk_run rfl (.inl ⟨_, W, ?_, rfl, Ext.refl _, hS1⟩)
                          clear hsz hS hS0 hS1 hfi; simp [go_sem, Act.eval, *]
                        · intro ac W fL hsz hfi hms hdn hS0 hdep hbase hund
                          have hS : (fun W => Below wr.heap.size wr W)  W := hS0
                          have hS1 : (fun W => Below wr.heap.size wr W)  W := by
                            exact hS0
                          have ce1 := (hS.cell (p := ⟨b3, o3 + t * 2 + 1, none⟩) hbE').trans HCE.out
                          have q0 := (hS.cell (p := ⟨b, o + m, none⟩) hbw').trans HQE.out
                          have p0 := (hS.cell (p := ⟨ba, oa + j * 2, none⟩) hba).trans HP0.out
                          have h5 : ac.tmps.getD 5 undef = .slice (some ⟨b3, o3, none⟩) n3 c3 := hbase 5 (by kernel_rfl)
                          have hh5 := h5; rw [Array.getD_eq_getD_getElem?] at hh5
                          have h15 : ac.tmps.getD 15 undef = .int .i64 (t : Int) := hbase 15 (by kernel_rfl)
                          have hh15 := h15; rw [Array.getD_eq_getD_getElem?] at hh15
                          have h18 : ac.tmps.getD 18 undef = .int .i64 (j : Int) := hbase 18 (by kernel_rfl)
                          have hh18 := h18; rw [Array.getD_eq_getD_getElem?] at hh18
                          have h4 : ac.tmps.getD 4 undef = .slice (some ⟨b, o, none⟩) L.length c := hbase 4 (by kernel_rfl)
                          have hh4 := h4; rw [Array.getD_eq_getD_getElem?] at hh4
                          have h14 : ac.tmps.getD 14 undef = .int .i64 (m : Int) := hbase 14 (by kernel_rfl)
                          have hh14 := h14; rw [Array.getD_eq_getD_getElem?] at hh14
                          have h16 : ac.tmps.getD 16 undef = .int .i64 (q : Int) := hbase 16 (by kernel_rfl)
                          have hh16 := h16; rw [Array.getD_eq_getD_getElem?] at hh16
                          have d124 : ac.tmps.getD 124 undef = .pointer (some ⟨b3, o3 + t * 2, none⟩) := hdep 2 (by decide)
                          have dd124 := d124; rw [Array.getD_eq_getD_getElem?] at dd124
                          clear hbase hdep hms hdn hund
                          refine opOk_run rfl (.inl ⟨_, W, ?_, rfl, Ext.refl _, hS1⟩)
                          clear hsz hS hS0 hS1 hfi; simp [go_sem, Act.eval, *]
                        · intro ac W fL hsz hfi hms hdn hS0 hdep hbase hund
                          have hS : (fun W => Below wr.heap.size wr W)  W := hS0
                          have hS1 : (fun W => Below wr.heap.size wr W)  W := by
                            exact hS0
                          have ce1 := (hS.cell (p := ⟨b3, o3 + t * 2 + 1, none⟩) hbE').trans HCE.out
                          have q0 := (hS.cell (p := ⟨b, o + m, none⟩) hbw').trans HQE.out
                          have p0 := (hS.cell (p := ⟨ba, oa + j * 2, none⟩) hba).trans HP0.out
                          have h5 : ac.tmps.getD 5 undef = .slice (some ⟨b3, o3, none⟩) n3 c3 := hbase 5 (by kernel_rfl)
                          have hh5 := h5; rw [Array.getD_eq_getD_getElem?] at hh5
                          have h15 : ac.tmps.getD 15 undef = .int .i64 (t : Int) := hbase 15 (by kernel_rfl)
                          have hh15 := h15; rw [Array.getD_eq_getD_getElem?] at hh15
                          have h18 : ac.tmps.getD 18 undef = .int .i64 (j : Int) := hbase 18 (by kernel_rfl)
                          have hh18 := h18; rw [Array.getD_eq_getD_getElem?] at hh18
                          have h4 : ac.tmps.getD 4 undef = .slice (some ⟨b, o, none⟩) L.length c := hbase 4 (by kernel_rfl)
                          have hh4 := h4; rw [Array.getD_eq_getD_getElem?] at hh4
                          have h14 : ac.tmps.getD 14 undef = .int .i64 (m : Int) := hbase 14 (by kernel_rfl)
                          have hh14 := h14; rw [Array.getD_eq_getD_getElem?] at hh14
                          have h16 : ac.tmps.getD 16 undef = .int .i64 (q : Int) := hbase 16 (by kernel_rfl)
                          have hh16 := h16; rw [Array.getD_eq_getD_getElem?] at hh16
                          have d125 : ac.tmps.getD 125 undef = .pointer (some ⟨b3, o3 + t * 2 + 1, none⟩) := hdep 3 (by decide)
                          have dd125 := d125; rw [Array.getD_eq_getD_getElem?] at dd125
                          clear hbase hdep hms hdn hund
                          refine opOk_run rfl (.inl ⟨_, W, ?_, rfl, Ext.refl _, hS1⟩)
                          clear hsz hS hS0 hS1 hfi; simp [go_sem, Act.eval, *]
                        · intro ac W fL hsz hfi hms hdn hS0 hdep hbase hund
                          have hS : (fun W => Below wr.heap.size wr W)  W := hS0
                          have hS1 : (fun W => Below wr.heap.size wr W)  W := by
                            exact hS0
                          have ce1 := (hS.cell (p := ⟨b3, o3 + t * 2 + 1, none⟩) hbE').trans HCE.out
                          have q0 := (hS.cell (p := ⟨b, o + m, none⟩) hbw').trans HQE.out
                          have p0 := (hS.cell (p := ⟨ba, oa + j * 2, none⟩) hba).trans HP0.out
                          have h5 : ac.tmps.getD 5 undef = .slice (some ⟨b3, o3, none⟩) n3 c3 := hbase 5 (by kernel_rfl)
                          have hh5 := h5; rw [Array.getD_eq_getD_getElem?] at hh5
                          have h15 : ac.tmps.getD 15 undef = .int .i64 (t : Int) := hbase 15 (by kernel_rfl)
                          have hh15 := h15; rw [Array.getD_eq_getD_getElem?] at hh15
                          have h18 : ac.tmps.getD 18 undef = .int .i64 (j : Int) := hbase 18 (by kernel_rfl)
                          have hh18 := h18; rw [Array.getD_eq_getD_getElem?] at hh18
                          have h4 : ac.tmps.getD 4 undef = .slice (some ⟨b, o, none⟩) L.length c := hbase 4 (by kernel_rfl)
                          have hh4 := h4; rw [Array.getD_eq_getD_getElem?] at hh4
                          have h14 : ac.tmps.getD 14 undef = .int .i64 (m : Int) := hbase 14 (by kernel_rfl)
                          have hh14 := h14; rw [Array.getD_eq_getD_getElem?] at hh14
                          have h16 : ac.tmps.getD 16 undef = .int .i64 (q : Int) := hbase 16 (by kernel_rfl)
                          have hh16 := h16; rw [Array.getD_eq_getD_getElem?] at hh16
                          clear hbase hdep hms hdn hund
                          refine opOk_run rfl (.inl ⟨_, W, ?_, rfl, Ext.refl _, hS1⟩)
                          clear hsz hS hS0 hS1 hfi; simp [go_sem, Act.eval, *]
                        · intro ac W fL hsz hfi hms hdn hS0 hdep hbase hund
                          have hS : (fun W => Below wr.heap.size wr W)  W := hS0
                          have hS1 : (fun W => Below wr.heap.size wr W)  W := by
                            exact hS0
                          have ce1 := (hS.cell (p := ⟨b3, o3 + t * 2 + 1, none⟩) hbE').trans HCE.out
                          have q0 := (hS.cell (p := ⟨b, o + m, none⟩) hbw').trans HQE.out
                          have p0 := (hS.cell (p := ⟨ba, oa + j * 2, none⟩) hba).trans HP0.out
                          have h5 : ac.tmps.getD 5 undef = .slice (some ⟨b3, o3, none⟩) n3 c3 := hbase 5 (by kernel_rfl)
                          have hh5 := h5; rw [Array.getD_eq_getD_getElem?] at hh5
                          have h15 : ac.tmps.getD 15 undef = .int .i64 (t : Int) := hbase 15 (by kernel_rfl)
                          have hh15 := h15; rw [Array.getD_eq_getD_getElem?] at hh15
                          have h18 : ac.tmps.getD 18 undef = .int .i64 (j : Int) := hbase 18 (by kernel_rfl)
                          have hh18 := h18; rw [Array.getD_eq_getD_getElem?] at hh18
                          have h4 : ac.tmps.getD 4 undef = .slice (some ⟨b, o, none⟩) L.length c := hbase 4 (by kernel_rfl)
                          have hh4 := h4; rw [Array.getD_eq_getD_getElem?] at hh4
                          have h14 : ac.tmps.getD 14 undef = .int .i64 (m : Int) := hbase 14 (by kernel_rfl)
                          have hh14 := h14; rw [Array.getD_eq_getD_getElem?] at hh14
                          have h16 : ac.tmps.getD 16 undef = .int .i64 (q : Int) := hbase 16 (by kernel_rfl)
                          have hh16 := h16; rw [Array.getD_eq_getD_getElem?] at hh16
                          have d126 : ac.tmps.getD 126 undef = .slice aE X.length cE := hdep 4 (by decide)
                          have dd126 := d126; rw [Array.getD_eq_getD_getElem?] at dd126
                          have d127 : ac.tmps.getD 127 undef = .int .i64 (j : Int) := hdep 5 (by decide)
                          have dd127 := d127; rw [Array.getD_eq_getD_getElem?] at dd127
                          clear hbase hdep hms hdn hund
                          refine opOk_run rfl (.inl ⟨_, W, ?_, rfl, Ext.refl _, hS1⟩)
                          clear hsz hS hS0 hS1 hfi; simp [go_sem, Act.eval, *]
                        · intro ac W fL hsz hfi hms hdn hS0 hdep hbase hund
                          have hS : (fun W => Below wr.heap.size wr W)  W := hS0
                          have hS1 : (fun W => Below wr.heap.size wr W)  W := by
                            exact hS0
                          have ce1 := (hS.cell (p := ⟨b3, o3 + t * 2 + 1, none⟩) hbE').trans HCE.out
                          have q0 := (hS.cell (p := ⟨b, o + m, none⟩) hbw').trans HQE.out
                          have p0 := (hS.cell (p := ⟨ba, oa + j * 2, none⟩) hba).trans HP0.out
                          have h5 : ac.tmps.getD 5 undef = .slice (some ⟨b3, o3, none⟩) n3 c3 := hbase 5 (by kernel_rfl)
                          have hh5 := h5; rw [Array.getD_eq_getD_getElem?] at hh5
                          have h15 : ac.tmps.getD 15 undef = .int .i64 (t : Int) := hbase 15 (by kernel_rfl)
                          have hh15 := h15; rw [Array.getD_eq_getD_getElem?] at hh15
                          have h18 : ac.tmps.getD 18 undef = .int .i64 (j : Int) := hbase 18 (by kernel_rfl)
                          have hh18 := h18; rw [Array.getD_eq_getD_getElem?] at hh18
                          have h4 : ac.tmps.getD 4 undef = .slice (some ⟨b, o, none⟩) L.length c := hbase 4 (by kernel_rfl)
                          have hh4 := h4; rw [Array.getD_eq_getD_getElem?] at hh4
                          have h14 : ac.tmps.getD 14 undef = .int .i64 (m : Int) := hbase 14 (by kernel_rfl)
                          have hh14 := h14; rw [Array.getD_eq_getD_getElem?] at hh14
                          have h16 : ac.tmps.getD 16 undef = .int .i64 (q : Int) := hbase 16 (by kernel_rfl)
                          have hh16 := h16; rw [Array.getD_eq_getD_getElem?] at hh16
                          have d128 : ac.tmps.getD 128 undef = .pointer (some ⟨ba, oa + j * 2, none⟩) := hdep 6 (by decide)
                          have dd128 := d128; rw [Array.getD_eq_getD_getElem?] at dd128
                          clear hbase hdep hms hdn hund
                          refine opOk_run rfl (.inl ⟨_, W, ?_, rfl, Ext.refl _, hS1⟩)
                          clear hsz hS hS0 hS1 hfi; simp [go_sem, Act.eval, *]
                        · intro ac W fL hsz hfi hms hdn hS0 hdep hbase hund
                          have hS : (fun W => Below wr.heap.size wr W)  W := hS0
                          have hS1 : (fun W => Below wr.heap.size wr W)  W := by
                            exact hS0
                          have ce1 := (hS.cell (p := ⟨b3, o3 + t * 2 + 1, none⟩) hbE').trans HCE.out
                          have q0 := (hS.cell (p := ⟨b, o + m, none⟩) hbw').trans HQE.out
                          have p0 := (hS.cell (p := ⟨ba, oa + j * 2, none⟩) hba).trans HP0.out
                          have h5 : ac.tmps.getD 5 undef = .slice (some ⟨b3, o3, none⟩) n3 c3 := hbase 5 (by kernel_rfl)
                          have hh5 := h5; rw [Array.getD_eq_getD_getElem?] at hh5
                          have h15 : ac.tmps.getD 15 undef = .int .i64 (t : Int) := hbase 15 (by kernel_rfl)
                          have hh15 := h15; rw [Array.getD_eq_getD_getElem?] at hh15
                          have h18 : ac.tmps.getD 18 undef = .int .i64 (j : Int) := hbase 18 (by kernel_rfl)
                          have hh18 := h18; rw [Array.getD_eq_getD_getElem?] at hh18
                          have h4 : ac.tmps.getD 4 undef = .slice (some ⟨b, o, none⟩) L.length c := hbase 4 (by kernel_rfl)
                          have hh4 := h4; rw [Array.getD_eq_getD_getElem?] at hh4
                          have h14 : ac.tmps.getD 14 undef = .int .i64 (m : Int) := hbase 14 (by kernel_rfl)
                          have hh14 := h14; rw [Array.getD_eq_getD_getElem?] at hh14
                          have h16 : ac.tmps.getD 16 undef = .int .i64 (q : Int) := hbase 16 (by kernel_rfl)
                          have hh16 := h16; rw [Array.getD_eq_getD_getElem?] at hh16
                          have d129 : ac.tmps.getD 129 undef = .pointer (some ⟨ba, oa + j * 2, none⟩) := hdep 7 (by decide)
                          have dd129 := d129; rw [Array.getD_eq_getD_getElem?] at dd129
                          clear hbase hdep hms hdn hund
                          refine opOk_run rfl (.inl ⟨_, W, ?_, rfl, Ext.refl _, hS1⟩)
                          clear hsz hS hS0 hS1 hfi; simp [go_sem, Act.eval, *]
                        · intro ac W fL hsz hfi hms hdn hS0 hdep hbase hund
                          have hS : (fun W => Below wr.heap.size wr W)  W := hS0
                          have hS1 : (fun W => Below wr.heap.size wr W)  W := by
                            exact hS0
                          have ce1 := (hS.cell (p := ⟨b3, o3 + t * 2 + 1, none⟩) hbE').trans HCE.out
                          have q0 := (hS.cell (p := ⟨b, o + m, none⟩) hbw').trans HQE.out
                          have p0 := (hS.cell (p := ⟨ba, oa + j * 2, none⟩) hba).trans HP0.out
                          have h5 : ac.tmps.getD 5 undef = .slice (some ⟨b3, o3, none⟩) n3 c3 := hbase 5 (by kernel_rfl)
                          have hh5 := h5; rw [Array.getD_eq_getD_getElem?] at hh5
                          have h15 : ac.tmps.getD 15 undef = .int .i64 (t : Int) := hbase 15 (by kernel_rfl)
                          have hh15 := h15; rw [Array.getD_eq_getD_getElem?] at hh15
                          have h18 : ac.tmps.getD 18 undef = .int .i64 (j : Int) := hbase 18 (by kernel_rfl)
                          have hh18 := h18; rw [Array.getD_eq_getD_getElem?] at hh18
                          have h4 : ac.tmps.getD 4 undef = .slice (some ⟨b, o, none⟩) L.length c := hbase 4 (by kernel_rfl)
                          have hh4 := h4; rw [Array.getD_eq_getD_getElem?] at hh4
                          have h14 : ac.tmps.getD 14 undef = .int .i64 (m : Int) := hbase 14 (by kernel_rfl)
                          have hh14 := h14; rw [Array.getD_eq_getD_getElem?] at hh14
                          have h16 : ac.tmps.getD 16 undef = .int .i64 (q : Int) := hbase 16 (by kernel_rfl)
                          have hh16 := h16; rw [Array.getD_eq_getD_getElem?] at hh16
                          clear hbase hdep hms hdn hund
                          refine opOk_run rfl (.inl ⟨_, W, ?_, rfl, Ext.refl _, hS1⟩)
                          clear hsz hS hS0 hS1 hfi; simp [go_sem, Act.eval, *]
                        · intro ac W fL hsz hfi hms hdn hS0 hdep hbase hund
                          have hS : (fun W => Below wr.heap.size wr W)  W := hS0
                          have hS1 : (fun W => Below wr.heap.size wr W)  W := by
                            exact hS0
                          have ce1 := (hS.cell (p := ⟨b3, o3 + t * 2 + 1, none⟩) hbE').trans HCE.out
                          have q0 := (hS.cell (p := ⟨b, o + m, none⟩) hbw').trans HQE.out
                          have p0 := (hS.cell (p := ⟨ba, oa + j * 2, none⟩) hba).trans HP0.out
                          have h5 : ac.tmps.getD 5 undef = .slice (some ⟨b3, o3, none⟩) n3 c3 := hbase 5 (by kernel_rfl)
                          have hh5 := h5; rw [Array.getD_eq_getD_getElem?] at hh5
                          have h15 : ac.tmps.getD 15 undef = .int .i64 (t : Int) := hbase 15 (by kernel_rfl)
                          have hh15 := h15; rw [Array.getD_eq_getD_getElem?] at hh15
                          have h18 : ac.tmps.getD 18 undef = .int .i64 (j : Int) := hbase 18 (by kernel_rfl)
                          have hh18 := h18; rw [Array.getD_eq_getD_getElem?] at hh18
                          have h4 : ac.tmps.getD 4 undef = .slice (some ⟨b, o, none⟩) L.length c := hbase 4 (by kernel_rfl)
                          have hh4 := h4; rw [Array.getD_eq_getD_getElem?] at hh4
                          have h14 : ac.tmps.getD 14 undef = .int .i64 (m : Int) := hbase 14 (by kernel_rfl)
                          have hh14 := h14; rw [Array.getD_eq_getD_getElem?] at hh14
                          have h16 : ac.tmps.getD 16 undef = .int .i64 (q : Int) := hbase 16 (by kernel_rfl)
                          have hh16 := h16; rw [Array.getD_eq_getD_getElem?] at hh16
                          clear hbase hdep hms hdn hund
                          refine opOk_run rfl (.inl ⟨_, W, ?_, rfl, Ext.refl _, hS1⟩)
                          clear hsz hS hS0 hS1 hfi; simp [go_sem, Act.eval, *]
                        · intro ac W fL hsz hfi hms hdn hS0 hdep hbase hund
                          have hS : (fun W => Below wr.heap.size wr W)  W := hS0
                          have hS1 : (fun W => Below wr.heap.size wr W)  W := by
                            exact hS0
                          have ce1 := (hS.cell (p := ⟨b3, o3 + t * 2 + 1, none⟩) hbE').trans HCE.out
                          have q0 := (hS.cell (p := ⟨b, o + m, none⟩) hbw').trans HQE.out
                          have p0 := (hS.cell (p := ⟨ba, oa + j * 2, none⟩) hba).trans HP0.out
                          have h5 : ac.tmps.getD 5 undef = .slice (some ⟨b3, o3, none⟩) n3 c3 := hbase 5 (by kernel_rfl)
                          have hh5 := h5; rw [Array.getD_eq_getD_getElem?] at hh5
                          have h15 : ac.tmps.getD 15 undef = .int .i64 (t : Int) := hbase 15 (by kernel_rfl)
                          have hh15 := h15; rw [Array.getD_eq_getD_getElem?] at hh15
                          have h18 : ac.tmps.getD 18 undef = .int .i64 (j : Int) := hbase 18 (by kernel_rfl)
                          have hh18 := h18; rw [Array.getD_eq_getD_getElem?] at hh18
                          have h4 : ac.tmps.getD 4 undef = .slice (some ⟨b, o, none⟩) L.length c := hbase 4 (by kernel_rfl)
                          have hh4 := h4; rw [Array.getD_eq_getD_getElem?] at hh4
                          have h14 : ac.tmps.getD 14 undef = .int .i64 (m : Int) := hbase 14 (by kernel_rfl)
                          have hh14 := h14; rw [Array.getD_eq_getD_getElem?] at hh14
                          have h16 : ac.tmps.getD 16 undef = .int .i64 (q : Int) := hbase 16 (by kernel_rfl)
                          have hh16 := h16; rw [Array.getD_eq_getD_getElem?] at hh16
                          have d131 : ac.tmps.getD 131 undef = .slice (some ⟨b, o, none⟩) L.length c := hdep 9 (by decide)
                          have dd131 := d131; rw [Array.getD_eq_getD_getElem?] at dd131
                          have d132 : ac.tmps.getD 132 undef = .int .i64 (m : Int) := hdep 10 (by decide)
                          have dd132 := d132; rw [Array.getD_eq_getD_getElem?] at dd132
                          clear hbase hdep hms hdn hund
                          refine opOk_run rfl (.inl ⟨_, W, ?_, rfl, Ext.refl _, hS1⟩)
                          clear hsz hS hS0 hS1 hfi; simp [go_sem, Act.eval, *]
                        · intro ac W fL hsz hfi hms hdn hS0 hdep hbase hund
                          have hS : (fun W => Below wr.heap.size wr W)  W := hS0
                          have hS1 : (fun W => Below wr.heap.size wr W)  W := by
                            exact hS0
                          have ce1 := (hS.cell (p := ⟨b3, o3 + t * 2 + 1, none⟩) hbE').trans HCE.out
                          have q0 := (hS.cell (p := ⟨b, o + m, none⟩) hbw').trans HQE.out
                          have p0 := (hS.cell (p := ⟨ba, oa + j * 2, none⟩) hba).trans HP0.out
                          have h5 : ac.tmps.getD 5 undef = .slice (some ⟨b3, o3, none⟩) n3 c3 := hbase 5 (by kernel_rfl)
                          have hh5 := h5; rw [Array.getD_eq_getD_getElem?] at hh5
                          have h15 : ac.tmps.getD 15 undef = .int .i64 (t : Int) := hbase 15 (by kernel_rfl)
                          have hh15 := h15; rw [Array.getD_eq_getD_getElem?] at hh15
                          have h18 : ac.tmps.getD 18 undef = .int .i64 (j : Int) := hbase 18 (by kernel_rfl)
                          have hh18 := h18; rw [Array.getD_eq_getD_getElem?] at hh18
                          have h4 : ac.tmps.getD 4 undef = .slice (some ⟨b, o, none⟩) L.length c := hbase 4 (by kernel_rfl)
                          have hh4 := h4; rw [Array.getD_eq_getD_getElem?] at hh4
                          have h14 : ac.tmps.getD 14 undef = .int .i64 (m : Int) := hbase 14 (by kernel_rfl)
                          have hh14 := h14; rw [Array.getD_eq_getD_getElem?] at hh14
                          have h16 : ac.tmps.getD 16 undef = .int .i64 (q : Int) := hbase 16 (by kernel_rfl)
                          have hh16 := h16; rw [Array.getD_eq_getD_getElem?] at hh16
                          have d133 : ac.tmps.getD 133 undef = .pointer (some ⟨b, o + m, none⟩) := hdep 11 (by decide)
                          have dd133 := d133; rw [Array.getD_eq_getD_getElem?] at dd133
                          clear hbase hdep hms hdn hund
                          refine opOk_run rfl (.inl ⟨_, W, ?_, rfl, Ext.refl _, hS1⟩)
                          clear hsz hS hS0 hS1 hfi; simp [go_sem, Act.eval, *]
                        · intro ac W fL hsz hfi hms hdn hS0 hdep hbase hund
                          have hS : (fun W => Below wr.heap.size wr W)  W := hS0
                          have hS1 : (fun W => Below wr.heap.size wr W)  W := by
                            exact hS0
                          have ce1 := (hS.cell (p := ⟨b3, o3 + t * 2 + 1, none⟩) hbE').trans HCE.out
                          have q0 := (hS.cell (p := ⟨b, o + m, none⟩) hbw').trans HQE.out
                          have p0 := (hS.cell (p := ⟨ba, oa + j * 2, none⟩) hba).trans HP0.out
                          have h5 : ac.tmps.getD 5 undef = .slice (some ⟨b3, o3, none⟩) n3 c3 := hbase 5 (by kernel_rfl)
                          have hh5 := h5; rw [Array.getD_eq_getD_getElem?] at hh5
                          have h15 : ac.tmps.getD 15 undef = .int .i64 (t : Int) := hbase 15 (by kernel_rfl)
                          have hh15 := h15; rw [Array.getD_eq_getD_getElem?] at hh15
                          have h18 : ac.tmps.getD 18 undef = .int .i64 (j : Int) := hbase 18 (by kernel_rfl)
                          have hh18 := h18; rw [Array.getD_eq_getD_getElem?] at hh18
                          have h4 : ac.tmps.getD 4 undef = .slice (some ⟨b, o, none⟩) L.length c := hbase 4 (by kernel_rfl)
                          have hh4 := h4; rw [Array.getD_eq_getD_getElem?] at hh4
                          have h14 : ac.tmps.getD 14 undef = .int .i64 (m : Int) := hbase 14 (by kernel_rfl)
                          have hh14 := h14; rw [Array.getD_eq_getD_getElem?] at hh14
                          have h16 : ac.tmps.getD 16 undef = .int .i64 (q : Int) := hbase 16 (by kernel_rfl)
                          have hh16 := h16; rw [Array.getD_eq_getD_getElem?] at hh16
                          clear hbase hdep hms hdn hund
                          refine opOk_run rfl (.inl ⟨_, W, ?_, rfl, Ext.refl _, hS1⟩)
                          clear hsz hS hS0 hS1 hfi; simp [go_sem, Act.eval, *]
                        · intro ac W fL hsz hfi hms hdn hS0 hdep hbase hund
                          have hS : (fun W => Below wr.heap.size wr W)  W := hS0
                          have hS1 : (fun W => Below wr.heap.size wr W)  W := by
                            exact hS0
                          have ce1 := (hS.cell (p := ⟨b3, o3 + t * 2 + 1, none⟩) hbE').trans HCE.out
                          have q0 := (hS.cell (p := ⟨b, o + m, none⟩) hbw').trans HQE.out
                          have p0 := (hS.cell (p := ⟨ba, oa + j * 2, none⟩) hba).trans HP0.out
                          have h5 : ac.tmps.getD 5 undef = .slice (some ⟨b3, o3, none⟩) n3 c3 := hbase 5 (by kernel_rfl)
                          have hh5 := h5; rw [Array.getD_eq_getD_getElem?] at hh5
                          have h15 : ac.tmps.getD 15 undef = .int .i64 (t : Int) := hbase 15 (by kernel_rfl)
                          have hh15 := h15; rw [Array.getD_eq_getD_getElem?] at hh15
                          have h18 : ac.tmps.getD 18 undef = .int .i64 (j : Int) := hbase 18 (by kernel_rfl)
                          have hh18 := h18; rw [Array.getD_eq_getD_getElem?] at hh18
                          have h4 : ac.tmps.getD 4 undef = .slice (some ⟨b, o, none⟩) L.length c := hbase 4 (by kernel_rfl)
                          have hh4 := h4; rw [Array.getD_eq_getD_getElem?] at hh4
                          have h14 : ac.tmps.getD 14 undef = .int .i64 (m : Int) := hbase 14 (by kernel_rfl)
                          have hh14 := h14; rw [Array.getD_eq_getD_getElem?] at hh14
                          have h16 : ac.tmps.getD 16 undef = .int .i64 (q : Int) := hbase 16 (by kernel_rfl)
                          have hh16 := h16; rw [Array.getD_eq_getD_getElem?] at hh16
                          have d134 : ac.tmps.getD 134 undef = .string s := hdep 12 (by decide)
                          have dd134 := d134; rw [Array.getD_eq_getD_getElem?] at dd134
                          have d135 : ac.tmps.getD 135 undef = .int .i64 (q : Int) := hdep 13 (by decide)
                          have dd135 := d135; rw [Array.getD_eq_getD_getElem?] at dd135
                          clear hbase hdep hms hdn hund
                          refine opOk_run rfl (.inl ⟨_, W, ?_, rfl, Ext.refl _, hS1⟩)
                          clear hsz hS hS0 hS1 hfi; simp [go_sem, Act.eval, *]
                        · intro ac W fL hsz hfi hms hdn hS0 hdep hbase hund
                          have hS : (fun W => Below wr.heap.size wr W)  W := hS0
                          have hS1 : (fun W => Below wr.heap.size wr W)  W := by
                            exact hS0
                          have ce1 := (hS.cell (p := ⟨b3, o3 + t * 2 + 1, none⟩) hbE').trans HCE.out
                          have q0 := (hS.cell (p := ⟨b, o + m, none⟩) hbw').trans HQE.out
                          have p0 := (hS.cell (p := ⟨ba, oa + j * 2, none⟩) hba).trans HP0.out
                          have h5 : ac.tmps.getD 5 undef = .slice (some ⟨b3, o3, none⟩) n3 c3 := hbase 5 (by kernel_rfl)
                          have hh5 := h5; rw [Array.getD_eq_getD_getElem?] at hh5
                          have h15 : ac.tmps.getD 15 undef = .int .i64 (t : Int) := hbase 15 (by kernel_rfl)
                          have hh15 := h15; rw [Array.getD_eq_getD_getElem?] at hh15
                          have h18 : ac.tmps.getD 18 undef = .int .i64 (j : Int) := hbase 18 (by kernel_rfl)
                          have hh18 := h18; rw [Array.getD_eq_getD_getElem?] at hh18
                          have h4 : ac.tmps.getD 4 undef = .slice (some ⟨b, o, none⟩) L.length c := hbase 4 (by kernel_rfl)
                          have hh4 := h4; rw [Array.getD_eq_getD_getElem?] at hh4
                          have h14 : ac.tmps.getD 14 undef = .int .i64 (m : Int) := hbase 14 (by kernel_rfl)
                          have hh14 := h14; rw [Array.getD_eq_getD_getElem?] at hh14
                          have h16 : ac.tmps.getD 16 undef = .int .i64 (q : Int) := hbase 16 (by kernel_rfl)
                          have hh16 := h16; rw [Array.getD_eq_getD_getElem?] at hh16
                          have d130 : ac.tmps.getD 130 undef = .int .u8 xc := hdep 8 (by decide)
                          have dd130 := d130; rw [Array.getD_eq_getD_getElem?] at dd130
                          have d136 : ac.tmps.getD 136 undef = .int .u8 ((s[q]'hlq).toNat : Int) := hdep 14 (by decide)
                          have dd136 := d136; rw [Array.getD_eq_getD_getElem?] at dd136
                          clear hbase hdep hms hdn hund
                          refine opOk_run rfl (.inl ⟨_, W, ?_, rfl, Ext.refl _, hS1⟩)
                          clear hsz hS hS0 hS1 hfi; simp [go_sem, Act.eval, *]
                      case hlast =>
                        intro h; exact absurd rfl h
                      case hfin =>
                        intro _ ac W hsz hdf fL hf hS0 hv hbase
                        have hS : (fun W => Below wr.heap.size wr W)  W := hS0
                        clear hS0
                        obtain ⟨sx, hsx, hsA⟩ := act_puts [122, 123, 124, 125, 126, 127, 128, 129, 130, 131, 132, 133, 134, 135, 136, 137] (by kernel_rfl) hsz hdf hbase
                        have e137 : sx 137 = .bool true := (hsx 137).trans (hv 15 (by decide))
                        rw [hsA]
                        simp only [List.foldl]
                        rw [e137]
                        clear e137
                        simp only [Act.put, List.setIfInBounds_toArray, List.set_cons_succ, List.set_cons_zero]
                        clear hsA hsx hv hbase hsz hdf hf
                        have ce1 := (hS.cell (p := ⟨b3, o3 + t * 2 + 1, none⟩) hbE').trans HCE.out
                        have p1 := (hS.cell (p := ⟨ba, oa + j * 2 + 1, none⟩) hba).trans HP1.out
                        have HB7 := Lib.hid (Below.trans HB5.out (Below.mono hS HB5.out.size))
                        clear hS HCE HP0 HP1 HQE HB5
                        go_wp2
                        go_roundw
                        case rel => exact ⟨j + 1, _, by omega, by go_num, rfl, HN.out.symm, HB7.out⟩
                        case measure => simp [intOf]; omega

                    · have hcb : (xc == ((s[q]'hlq).toNat : Int)) = false := by rw [beq_eq_false_iff_ne]; exact hc
                      have HN : Hid (nextL ((s[q]'hlq).toNat : Int) (X.take (j + 1)) = nv) := by show _ = _; rw [HSU.out, if_neg hc, HNV.out]
                      clear hc HSU
                      go_upto_region 34 with fail
                      clear ce1 q0
                      refine wp_region_st (by kernel_rfl) (Vs [fun v _ => v = .slice (some ⟨b3, o3, none⟩) n3 c3, fun v _ => v = .int .i64 (t : Int), fun v _ => v = .pointer (some ⟨b3, o3 + t * 2, none⟩), fun v _ => v = .pointer (some ⟨b3, o3 + t * 2 + 1, none⟩), fun v _ => v = .slice aE X.length cE, fun v _ => v = .int .i64 (j : Int), fun v _ => v = .pointer (some ⟨ba, oa + j * 2, none⟩), fun v _ => v = .pointer (some ⟨ba, oa + j * 2, none⟩), fun v _ => v = .int .u8 xc, fun v _ => v = .slice (some ⟨b, o, none⟩) L.length c, fun v _ => v = .int .i64 (m : Int), fun v _ => v = .pointer (some ⟨b, o + m, none⟩), fun v _ => v = .string s, fun v _ => v = .int .i64 (q : Int), fun v _ => v = .int .u8 ((s[q]'hlq).toNat : Int), fun v _ => v = .bool false]) (Xs [Ext, Ext, Ext, Ext, Ext, Ext, Ext, Ext, Ext, Ext, Ext, Ext, Ext, Ext, Ext, Ext]) (fun fL => (fun W => Below wr.heap.size wr W) ) [0, 0, 3, 7, 15, 0, 63, 127, 255, 0, 0, 1536, 3584, 0, 15872, 32767] 171 16 (by kernel_rfl) rfl ?hV ?hS ?hop ?hfin ?hlast
                      case hV =>
                        refine xs_stays (vs_stays (by simp only [List.mem_cons, List.not_mem_nil, or_false, forall_eq_or_imp, forall_eq]; exact ⟨stays_const _, stays_const _, stays_const _, stays_const _, stays_const _, stays_const _, stays_const _, stays_const _, stays_const _, stays_const _, stays_const _, stays_const _, stays_const _, stays_const _, stays_const _, stays_const _⟩)) ?_
                        exact ⟨.inl rfl, .inl rfl, .inl rfl, .inl rfl, .inl rfl, .inl rfl, .inl rfl, .inl rfl, .inl rfl, .inl rfl, .inl rfl, .inl rfl, .inl rfl, .inl rfl, .inl rfl, .inl rfl, trivial⟩
                      case hS =>
                        intro fL hf
                        show (fun W => Below wr.heap.size wr W)  _
                        exact (Below.refl _ wr).drew
                      case hop =>
                        refine ⟨?_, ?_, ?_, ?_, ?_, ?_, ?_, ?_, ?_, ?_, ?_, ?_, ?_, ?_, ?_, ?_, trivial⟩
                        all_goals first | rw [if_neg (by decide)] | rw [if_pos (by decide)]
                        · intro ac W fL hsz hfi hms hdn hS0 hdep hbase hund
                          have hS : (fun W => Below wr.heap.size wr W)  W := hS0
                          have hS1 : (fun W => Below wr.heap.size wr W)  W := by
                            exact hS0
                          have ce1 := (hS.cell (p := ⟨b3, o3 + t * 2 + 1, none⟩) hbE').trans HCE.out
                          have q0 := (hS.cell (p := ⟨b, o + m, none⟩) hbw').trans HQE.out
                          have p0 := (hS.cell (p := ⟨ba, oa + j * 2, none⟩) hba).trans HP0.out
                          have h5 : ac.tmps.getD 5 undef = .slice (some ⟨b3, o3, none⟩) n3 c3 := hbase 5 (by kernel_rfl)
                          have hh5 := h5; rw [Array.getD_eq_getD_getElem?] at hh5
                          have h15 : ac.tmps.getD 15 undef = .int .i64 (t : Int) := hbase 15 (by kernel_rfl)
                          have hh15 := h15; rw [Array.getD_eq_getD_getElem?] at hh15
                          have h18 : ac.tmps.getD 18 undef = .int .i64 (j : Int) := hbase 18 (by kernel_rfl)
                          have hh18 := h18; rw [Array.getD_eq_getD_getElem?] at hh18
                          have h4 : ac.tmps.getD 4 undef = .slice (some ⟨b, o, none⟩) L.length c := hbase 4 (by kernel_rfl)
                          have hh4 := h4; rw [Array.getD_eq_getD_getElem?] at hh4
                          have h14 : ac.tmps.getD 14 undef = .int .i64 (m : Int) := hbase 14 (by kernel_rfl)
                          have hh14 := h14; rw [Array.getD_eq_getD_getElem?] at hh14
                          have h16 : ac.tmps.getD 16 undef = .int .i64 (q : Int) := hbase 16 (by kernel_rfl)
                          have hh16 := h16; rw [Array.getD_eq_getD_getElem?] at hh16
                          clear hbase hdep hms hdn hund
                          refine opOk_run rfl (.inl ⟨_, W, ?_, rfl, Ext.refl _, hS1⟩)
                          clear hsz hS hS0 hS1 hfi; simp [go_sem, Act.eval, *]
                        · intro ac W fL hsz hfi hms hdn hS0 hdep hbase hund
                          have hS : (fun W => Below wr.heap.size wr W)  W := hS0
                          have hS1 : (fun W => Below wr.heap.size wr W)  W := by
                            exact hS0
                          have ce1 := (hS.cell (p := ⟨b3, o3 + t * 2 + 1, none⟩) hbE').trans HCE.out
                          have q0 := (hS.cell (p := ⟨b, o + m, none⟩) hbw').trans HQE.out
                          have p0 := (hS.cell (p := ⟨ba, oa + j * 2, none⟩) hba).trans HP0.out
                          have h5 : ac.tmps.getD 5 undef = .slice (some ⟨b3, o3, none⟩) n3 c3 := hbase 5 (by kernel_rfl)
                          have hh5 := h5; rw [Array.getD_eq_getD_getElem?] at hh5
                          have h15 : ac.tmps.getD 15 undef = .int .i64 (t : Int) := hbase 15 (by kernel_rfl)
                          have hh15 := h15; rw [Array.getD_eq_getD_getElem?] at hh15
                          have h18 : ac.tmps.getD 18 undef = .int .i64 (j : Int) := hbase 18 (by kernel_rfl)
                          have hh18 := h18; rw [Array.getD_eq_getD_getElem?] at hh18
                          have h4 : ac.tmps.getD 4 undef = .slice (some ⟨b, o, none⟩) L.length c := hbase 4 (by kernel_rfl)
                          have hh4 := h4; rw [Array.getD_eq_getD_getElem?] at hh4
                          have h14 : ac.tmps.getD 14 undef = .int .i64 (m : Int) := hbase 14 (by kernel_rfl)
                          have hh14 := h14; rw [Array.getD_eq_getD_getElem?] at hh14
                          have h16 : ac.tmps.getD 16 undef = .int .i64 (q : Int) := hbase 16 (by kernel_rfl)
                          have hh16 := h16; rw [Array.getD_eq_getD_getElem?] at hh16
                          clear hbase hdep hms hdn hund
                          refine opOk_run rfl (.inl ⟨_, W, ?_, rfl, Ext.refl _, hS1⟩)
                          clear hsz hS hS0 hS1 hfi; simp [go_sem, Act.eval, *]
                        · intro ac W fL hsz hfi hms hdn hS0 hdep hbase hund
                          have hS : (fun W => Below wr.heap.size wr W)  W := hS0
                          have hS1 : (fun W => Below wr.heap.size wr W)  W := by
                            exact hS0
                          have ce1 := (hS.cell (p := ⟨b3, o3 + t * 2 + 1, none⟩) hbE').trans HCE.out
                          have q0 := (hS.cell (p := ⟨b, o + m, none⟩) hbw').trans HQE.out
                          have p0 := (hS.cell (p := ⟨ba, oa + j * 2, none⟩) hba).trans HP0.out
                          have h5 : ac.tmps.getD 5 undef = .slice (some ⟨b3, o3, none⟩) n3 c3 := hbase 5 (by kernel_rfl)
                          have hh5 := h5; rw [Array.getD_eq_getD_getElem?] at hh5
                          have h15 : ac.tmps.getD 15 undef = .int .i64 (t : Int) := hbase 15 (by kernel_rfl)
                          have hh15 := h15; rw [Array.getD_eq_getD_getElem?] at hh15
                          have h18 : ac.tmps.getD 18 undef = .int .i64 (j : Int) := hbase 18 (by kernel_rfl)
                          have hh18 := h18; rw [Array.getD_eq_getD_getElem?] at hh18
                          have h4 : ac.tmps.getD 4 undef = .slice (some ⟨b, o, none⟩) L.length c := hbase 4 (by kernel_rfl)
                          have hh4 := h4; rw [Array.getD_eq_getD_getElem?] at hh4
                          have h14 : ac.tmps.getD 14 undef = .int .i64 (m : Int) := hbase 14 (by kernel_rfl)
                          have hh14 := h14; rw [Array.getD_eq_getD_getElem?] at hh14
                          have h16 : ac.tmps.getD 16 undef = .int .i64 (q : Int) := hbase 16 (by kernel_rfl)
                          have hh16 := h16; rw [Array.getD_eq_getD_getElem?] at hh16
                          have d122 : ac.tmps.getD 122 undef = .slice (some ⟨b3, o3, none⟩) n3 c3 := hdep 0 (by decide)
                          have dd122 := d122; rw [Array.getD_eq_getD_getElem?] at dd122
                          have d123 : ac.tmps.getD 123 undef = .int .i64 (t : Int) := hdep 1 (by decide)
                          have dd123 := d123; rw [Array.getD_eq_getD_getElem?] at dd123
                          clear hbase hdep hms hdn hund
                          refine opOk_run rfl (.inl ⟨_, W, ?_, rfl, Ext.refl _, hS1⟩)
                          clear hsz hS hS0 hS1 hfi; simp [go_sem, Act.eval, *]
                        · intro ac W fL hsz hfi hms hdn hS0 hdep hbase hund
                          have hS : (fun W => Below wr.heap.size wr W)  W := hS0
                          have hS1 : (fun W => Below wr.heap.size wr W)  W := by
                            exact hS0
                          have ce1 := (hS.cell (p := ⟨b3, o3 + t * 2 + 1, none⟩) hbE').trans HCE.out
                          have q0 := (hS.cell (p := ⟨b, o + m, none⟩) hbw').trans HQE.out
                          have p0 := (hS.cell (p := ⟨ba, oa + j * 2, none⟩) hba).trans HP0.out
                          have h5 : ac.tmps.getD 5 undef = .slice (some ⟨b3, o3, none⟩) n3 c3 := hbase 5 (by kernel_rfl)
                          have hh5 := h5; rw [Array.getD_eq_getD_getElem?] at hh5
                          have h15 : ac.tmps.getD 15 undef = .int .i64 (t : Int) := hbase 15 (by kernel_rfl)
                          have hh15 := h15; rw [Array.getD_eq_getD_getElem?] at hh15
                          have h18 : ac.tmps.getD 18 undef = .int .i64 (j : Int) := hbase 18 (by kernel_rfl)
                          have hh18 := h18; rw [Array.getD_eq_getD_getElem?] at hh18
                          have h4 : ac.tmps.getD 4 undef = .slice (some ⟨b, o, none⟩) L.length c := hbase 4 (by kernel_rfl)
                          have hh4 := h4; rw [Array.getD_eq_getD_getElem?] at hh4
                          have h14 : ac.tmps.getD 14 undef = .int .i64 (m : Int) := hbase 14 (by kernel_rfl)
                          have hh14 := h14; rw [Array.getD_eq_getD_getElem?] at hh14
                          have h16 : ac.tmps.getD 16 undef = .int .i64 (q : Int) := hbase 16 (by kernel_rfl)
                          have hh16 := h16; rw [Array.getD_eq_getD_getElem?] at hh16
                          have d124 : ac.tmps.getD 124 undef = .pointer (some ⟨b3, o3 + t * 2, none⟩) := hdep 2 (by decide)
                          have dd124 := d124; rw [Array.getD_eq_getD_getElem?] at dd124
                          clear hbase hdep hms hdn hund
                          refine opOk_run rfl (.inl ⟨_, W, ?_, rfl, Ext.refl _, hS1⟩)
                          clear hsz hS hS0 hS1 hfi; simp [go_sem, Act.eval, *]
                        · intro ac W fL hsz hfi hms hdn hS0 hdep hbase hund
                          have hS : (fun W => Below wr.heap.size wr W)  W := hS0
                          have hS1 : (fun W => Below wr.heap.size wr W)  W := by
                            exact hS0
                          have ce1 := (hS.cell (p := ⟨b3, o3 + t * 2 + 1, none⟩) hbE').trans HCE.out
                          have q0 := (hS.cell (p := ⟨b, o + m, none⟩) hbw').trans HQE.out
                          have p0 := (hS.cell (p := ⟨ba, oa + j * 2, none⟩) hba).trans HP0.out
                          have h5 : ac.tmps.getD 5 undef = .slice (some ⟨b3, o3, none⟩) n3 c3 := hbase 5 (by kernel_rfl)
                          have hh5 := h5; rw [Array.getD_eq_getD_getElem?] at hh5
                          have h15 : ac.tmps.getD 15 undef = .int .i64 (t : Int) := hbase 15 (by kernel_rfl)
                          have hh15 := h15; rw [Array.getD_eq_getD_getElem?] at hh15
                          have h18 : ac.tmps.getD 18 undef = .int .i64 (j : Int) := hbase 18 (by kernel_rfl)
                          have hh18 := h18; rw [Array.getD_eq_getD_getElem?] at hh18
                          have h4 : ac.tmps.getD 4 undef = .slice (some ⟨b, o, none⟩) L.length c := hbase 4 (by kernel_rfl)
                          have hh4 := h4; rw [Array.getD_eq_getD_getElem?] at hh4
                          have h14 : ac.tmps.getD 14 undef = .int .i64 (m : Int) := hbase 14 (by kernel_rfl)
                          have hh14 := h14; rw [Array.getD_eq_getD_getElem?] at hh14
                          have h16 : ac.tmps.getD 16 undef = .int .i64 (q : Int) := hbase 16 (by kernel_rfl)
                          have hh16 := h16; rw [Array.getD_eq_getD_getElem?] at hh16
                          have d125 : ac.tmps.getD 125 undef = .pointer (some ⟨b3, o3 + t * 2 + 1, none⟩) := hdep 3 (by decide)
                          have dd125 := d125; rw [Array.getD_eq_getD_getElem?] at dd125
                          clear hbase hdep hms hdn hund
                          refine opOk_run rfl (.inl ⟨_, W, ?_, rfl, Ext.refl _, hS1⟩)
                          clear hsz hS hS0 hS1 hfi; simp [go_sem, Act.eval, *]
                        · intro ac W fL hsz hfi hms hdn hS0 hdep hbase hund
                          have hS : (fun W => Below wr.heap.size wr W)  W := hS0
                          have hS1 : (fun W => Below wr.heap.size wr W)  W := by
                            exact hS0
                          have ce1 := (hS.cell (p := ⟨b3, o3 + t * 2 + 1, none⟩) hbE').trans HCE.out
                          have q0 := (hS.cell (p := ⟨b, o + m, none⟩) hbw').trans HQE.out
                          have p0 := (hS.cell (p := ⟨ba, oa + j * 2, none⟩) hba).trans HP0.out
                          have h5 : ac.tmps.getD 5 undef = .slice (some ⟨b3, o3, none⟩) n3 c3 := hbase 5 (by kernel_rfl)
                          have hh5 := h5; rw [Array.getD_eq_getD_getElem?] at hh5
                          have h15 : ac.tmps.getD 15 undef = .int .i64 (t : Int) := hbase 15 (by kernel_rfl)
                          have hh15 := h15; rw [Array.getD_eq_getD_getElem?] at hh15
                          have h18 : ac.tmps.getD 18 undef = .int .i64 (j : Int) := hbase 18 (by kernel_rfl)
                          have hh18 := h18; rw [Array.getD_eq_getD_getElem?] at hh18
                          have h4 : ac.tmps.getD 4 undef = .slice (some ⟨b, o, none⟩) L.length c := hbase 4 (by kernel_rfl)
                          have hh4 := h4; rw [Array.getD_eq_getD_getElem?] at hh4
                          have h14 : ac.tmps.getD 14 undef = .int .i64 (m : Int) := hbase 14 (by kernel_rfl)
                          have hh14 := h14; rw [Array.getD_eq_getD_getElem?] at hh14
                          have h16 : ac.tmps.getD 16 undef = .int .i64 (q : Int) := hbase 16 (by kernel_rfl)
                          have hh16 := h16; rw [Array.getD_eq_getD_getElem?] at hh16
                          clear hbase hdep hms hdn hund
                          refine opOk_run rfl (.inl ⟨_, W, ?_, rfl, Ext.refl _, hS1⟩)
                          clear hsz hS hS0 hS1 hfi; simp [go_sem, Act.eval, *]
                        · intro ac W fL hsz hfi hms hdn hS0 hdep hbase hund
                          have hS : (fun W => Below wr.heap.size wr W)  W := hS0
                          have hS1 : (fun W => Below wr.heap.size wr W)  W := by
                            exact hS0
                          have ce1 := (hS.cell (p := ⟨b3, o3 + t * 2 + 1, none⟩) hbE').trans HCE.out
                          have q0 := (hS.cell (p := ⟨b, o + m, none⟩) hbw').trans HQE.out
                          have p0 := (hS.cell (p := ⟨ba, oa + j * 2, none⟩) hba).trans HP0.out
                          have h5 : ac.tmps.getD 5 undef = .slice (some ⟨b3, o3, none⟩) n3 c3 := hbase 5 (by kernel_rfl)
                          have hh5 := h5; rw [Array.getD_eq_getD_getElem?] at hh5
                          have h15 : ac.tmps.getD 15 undef = .int .i64 (t : Int) := hbase 15 (by kernel_rfl)
                          have hh15 := h15; rw [Array.getD_eq_getD_getElem?] at hh15
                          have h18 : ac.tmps.getD 18 undef = .int .i64 (j : Int) := hbase 18 (by kernel_rfl)
                          have hh18 := h18; rw [Array.getD_eq_getD_getElem?] at hh18
                          have h4 : ac.tmps.getD 4 undef = .slice (some ⟨b, o, none⟩) L.length c := hbase 4 (by kernel_rfl)
                          have hh4 := h4; rw [Array.getD_eq_getD_getElem?] at hh4
                          have h14 : ac.tmps.getD 14 undef = .int .i64 (m : Int) := hbase 14 (by kernel_rfl)
                          have hh14 := h14; rw [Array.getD_eq_getD_getElem?] at hh14
                          have h16 : ac.tmps.getD 16 undef = .int .i64 (q : Int) := hbase 16 (by kernel_rfl)
                          have hh16 := h16; rw [Array.getD_eq_getD_getElem?] at hh16
                          have d126 : ac.tmps.getD 126 undef = .slice aE X.length cE := hdep 4 (by decide)
                          have dd126 := d126; rw [Array.getD_eq_getD_getElem?] at dd126
                          have d127 : ac.tmps.getD 127 undef = .int .i64 (j : Int) := hdep 5 (by decide)
                          have dd127 := d127; rw [Array.getD_eq_getD_getElem?] at dd127
                          clear hbase hdep hms hdn hund
                          refine opOk_run rfl (.inl ⟨_, W, ?_, rfl, Ext.refl _, hS1⟩)
                          clear hsz hS hS0 hS1 hfi; simp [go_sem, Act.eval, *]
                        · intro ac W fL hsz hfi hms hdn hS0 hdep hbase hund
                          have hS : (fun W => Below wr.heap.size wr W)  W := hS0
                          have hS1 : (fun W => Below wr.heap.size wr W)  W := by
                            exact hS0
                          have ce1 := (hS.cell (p := ⟨b3, o3 + t * 2 + 1, none⟩) hbE').trans HCE.out
                          have q0 := (hS.cell (p := ⟨b, o + m, none⟩) hbw').trans HQE.out
                          have p0 := (hS.cell (p := ⟨ba, oa + j * 2, none⟩) hba).trans HP0.out
                          have h5 : ac.tmps.getD 5 undef = .slice (some ⟨b3, o3, none⟩) n3 c3 := hbase 5 (by kernel_rfl)
                          have hh5 := h5; rw [Array.getD_eq_getD_getElem?] at hh5
                          have h15 : ac.tmps.getD 15 undef = .int .i64 (t : Int) := hbase 15 (by kernel_rfl)
                          have hh15 := h15; rw [Array.getD_eq_getD_getElem?] at hh15
                          have h18 : ac.tmps.getD 18 undef = .int .i64 (j : Int) := hbase 18 (by kernel_rfl)
                          have hh18 := h18; rw [Array.getD_eq_getD_getElem?] at hh18
                          have h4 : ac.tmps.getD 4 undef = .slice (some ⟨b, o, none⟩) L.length c := hbase 4 (by kernel_rfl)
                          have hh4 := h4; rw [Array.getD_eq_getD_getElem?] at hh4
                          have h14 : ac.tmps.getD 14 undef = .int .i64 (m : Int) := hbase 14 (by kernel_rfl)
                          have hh14 := h14; rw [Array.getD_eq_getD_getElem?] at hh14
                          have h16 : ac.tmps.getD 16 undef = .int .i64 (q : Int) := hbase 16 (by kernel_rfl)
                          have hh16 := h16; rw [Array.getD_eq_getD_getElem?] at hh16
                          have d128 : ac.tmps.getD 128 undef = .pointer (some ⟨ba, oa + j * 2, none⟩) := hdep 6 (by decide)
                          have dd128 := d128; rw [Array.getD_eq_getD_getElem?] at dd128
                          clear hbase hdep hms hdn hund
                          refine opOk_run rfl (.inl ⟨_, W, ?_, rfl, Ext.refl _, hS1⟩)
                          clear hsz hS hS0 hS1 hfi; simp [go_sem, Act.eval, *]
                        · intro ac W fL hsz hfi hms hdn hS0 hdep hbase hund
                          have hS : (fun W => Below wr.heap.size wr W)  W := hS0
                          have hS1 : (fun W => Below wr.heap.size wr W)  W := by
                            exact hS0
                          have ce1 := (hS.cell (p := ⟨b3, o3 + t * 2 + 1, none⟩) hbE').trans HCE.out
                          have q0 := (hS.cell (p := ⟨b, o + m, none⟩) hbw').trans HQE.out
                          have p0 := (hS.cell (p := ⟨ba, oa + j * 2, none⟩) hba).trans HP0.out
                          have h5 : ac.tmps.getD 5 undef = .slice (some ⟨b3, o3, none⟩) n3 c3 := hbase 5 (by kernel_rfl)
                          have hh5 := h5; rw [Array.getD_eq_getD_getElem?] at hh5
                          have h15 : ac.tmps.getD 15 undef = .int .i64 (t : Int) := hbase 15 (by kernel_rfl)
                          have hh15 := h15; rw [Array.getD_eq_getD_getElem?] at hh15
                          have h18 : ac.tmps.getD 18 undef = .int .i64 (j : Int) := hbase 18 (by kernel_rfl)
                          have hh18 := h18; rw [Array.getD_eq_getD_getElem?] at hh18
                          have h4 : ac.tmps.getD 4 undef = .slice (some ⟨b, o, none⟩) L.length c := hbase 4 (by kernel_rfl)
                          have hh4 := h4; rw [Array.getD_eq_getD_getElem?] at hh4
                          have h14 : ac.tmps.getD 14 undef = .int .i64 (m : Int) := hbase 14 (by kernel_rfl)
                          have hh14 := h14; rw [Array.getD_eq_getD_getElem?] at hh14
                          have h16 : ac.tmps.getD 16 undef = .int .i64 (q : Int) := hbase 16 (by kernel_rfl)
                          have hh16 := h16; rw [Array.getD_eq_getD_getElem?] at hh16
                          have d129 : ac.tmps.getD 129 undef = .pointer (some ⟨ba, oa + j * 2, none⟩) := hdep 7 (by decide)
                          have dd129 := d129; rw [Array.getD_eq_getD_getElem?] at dd129
                          clear hbase hdep hms hdn hund
                          refine opOk_run rfl (.inl ⟨_, W, ?_, rfl, Ext.refl _, hS1⟩)
                          clear hsz hS hS0 hS1 hfi; simp [go_sem, Act.eval, *]
                        · intro ac W fL hsz hfi hms hdn hS0 hdep hbase hund
                          have hS : (fun W => Below wr.heap.size wr W)  W := hS0
                          have hS1 : (fun W => Below wr.heap.size wr W)  W := by
                            exact hS0
                          have ce1 := (hS.cell (p := ⟨b3, o3 + t * 2 + 1, none⟩) hbE').trans HCE.out
                          have q0 := (hS.cell (p := ⟨b, o + m, none⟩) hbw').trans HQE.out
                          have p0 := (hS.cell (p := ⟨ba, oa + j * 2, none⟩) hba).trans HP0.out
                          have h5 : ac.tmps.getD 5 undef = .slice (some ⟨b3, o3, none⟩) n3 c3 := hbase 5 (by kernel_rfl)
                          have hh5 := h5; rw [Array.getD_eq_getD_getElem?] at hh5
                          have h15 : ac.tmps.getD 15 undef = .int .i64 (t : Int) := hbase 15 (by kernel_rfl)
                          have hh15 := h15; rw [Array.getD_eq_getD_getElem?] at hh15
                          have h18 : ac.tmps.getD 18 undef = .int .i64 (j : Int) := hbase 18 (by kernel_rfl)
                          have hh18 := h18; rw [Array.getD_eq_getD_getElem?] at hh18
                          have h4 : ac.tmps.getD 4 undef = .slice (some ⟨b, o, none⟩) L.length c := hbase 4 (by kernel_rfl)
                          have hh4 := h4; rw [Array.getD_eq_getD_getElem?] at hh4
                          have h14 : ac.tmps.getD 14 undef = .int .i64 (m : Int) := hbase 14 (by kernel_rfl)
                          have hh14 := h14; rw [Array.getD_eq_getD_getElem?] at hh14
                          have h16 : ac.tmps.getD 16 undef = .int .i64 (q : Int) := hbase 16 (by kernel_rfl)
                          have hh16 := h16; rw [Array.getD_eq_getD_getElem?] at hh16
                          clear hbase hdep hms hdn hund
                          refine opOk_run rfl (.inl ⟨_, W, ?_, rfl, Ext.refl _, hS1⟩)
                          clear hsz hS hS0 hS1 hfi; simp [go_sem, Act.eval, *]
                        · intro ac W fL hsz hfi hms hdn hS0 hdep hbase hund
                          have hS : (fun W => Below wr.heap.size wr W)  W := hS0
                          have hS1 : (fun W => Below wr.heap.size wr W)  W := by
                            exact hS0
                          have ce1 := (hS.cell (p := ⟨b3, o3 + t * 2 + 1, none⟩) hbE').trans HCE.out
                          have q0 := (hS.cell (p := ⟨b, o + m, none⟩) hbw').trans HQE.out
                          have p0 := (hS.cell (p := ⟨ba, oa + j * 2, none⟩) hba).trans HP0.out
                          have h5 : ac.tmps.getD 5 undef = .slice (some ⟨b3, o3, none⟩) n3 c3 := hbase 5 (by kernel_rfl)
                          have hh5 := h5; rw [Array.getD_eq_getD_getElem?] at hh5
                          have h15 : ac.tmps.getD 15 undef = .int .i64 (t : Int) := hbase 15 (by kernel_rfl)
                          have hh15 := h15; rw [Array.getD_eq_getD_getElem?] at hh15
                          have h18 : ac.tmps.getD 18 undef = .int .i64 (j : Int) := hbase 18 (by kernel_rfl)
                          have hh18 := h18; rw [Array.getD_eq_getD_getElem?] at hh18
                          have h4 : ac.tmps.getD 4 undef = .slice (some ⟨b, o, none⟩) L.length c := hbase 4 (by kernel_rfl)
                          have hh4 := h4; rw [Array.getD_eq_getD_getElem?] at hh4
                          have h14 : ac.tmps.getD 14 undef = .int .i64 (m : Int) := hbase 14 (by kernel_rfl)
                          have hh14 := h14; rw [Array.getD_eq_getD_getElem?] at hh14
                          have h16 : ac.tmps.getD 16 undef = .int .i64 (q : Int) := hbase 16 (by kernel_rfl)
                          have hh16 := h16; rw [Array.getD_eq_getD_getElem?] at hh16
                          clear hbase hdep hms hdn hund
                          refine opOk_run rfl (.inl ⟨_, W, ?_, rfl, Ext.refl _, hS1⟩)
                          clear hsz hS hS0 hS1 hfi; simp [go_sem, Act.eval, *]
                        · intro ac W fL hsz hfi hms hdn hS0 hdep hbase hund
                          have hS : (fun W => Below wr.heap.size wr W)  W := hS0
                          have hS1 : (fun W => Below wr.heap.size wr W)  W := by
                            exact hS0
                          have ce1 := (hS.cell (p := ⟨b3, o3 + t * 2 + 1, none⟩) hbE').trans HCE.out
                          have q0 := (hS.cell (p := ⟨b, o + m, none⟩) hbw').trans HQE.out
                          have p0 := (hS.cell (p := ⟨ba, oa + j * 2, none⟩) hba).trans HP0.out
                          have h5 : ac.tmps.getD 5 undef = .slice (some ⟨b3, o3, none⟩) n3 c3 := hbase 5 (by kernel_rfl)
                          have hh5 := h5; rw [Array.getD_eq_getD_getElem?] at hh5
                          have h15 : ac.tmps.getD 15 undef = .int .i64 (t : Int) := hbase 15 (by kernel_rfl)
                          have hh15 := h15; rw [Array.getD_eq_getD_getElem?] at hh15
                          have h18 : ac.tmps.getD 18 undef = .int .i64 (j : Int) := hbase 18 (by kernel_rfl)
                          have hh18 := h18; rw [Array.getD_eq_getD_getElem?] at hh18
                          have h4 : ac.tmps.getD 4 undef = .slice (some ⟨b, o, none⟩) L.length c := hbase 4 (by kernel_rfl)
                          have hh4 := h4; rw [Array.getD_eq_getD_getElem?] at hh4
                          have h14 : ac.tmps.getD 14 undef = .int .i64 (m : Int) := hbase 14 (by kernel_rfl)
                          have hh14 := h14; rw [Array.getD_eq_getD_getElem?] at hh14
                          have h16 : ac.tmps.getD 16 undef = .int .i64 (q : Int) := hbase 16 (by kernel_rfl)
                          have hh16 := h16; rw [Array.getD_eq_getD_getElem?] at hh16
                          have d131 : ac.tmps.getD 131 undef = .slice (some ⟨b, o, none⟩) L.length c := hdep 9 (by decide)
                          have dd131 := d131; rw [Array.getD_eq_getD_getElem?] at dd131
                          have d132 : ac.tmps.getD 132 undef = .int .i64 (m : Int) := hdep 10 (by decide)
                          have dd132 := d132; rw [Array.getD_eq_getD_getElem?] at dd132
                          clear hbase hdep hms hdn hund
                          refine opOk_run rfl (.inl ⟨_, W, ?_, rfl, Ext.refl _, hS1⟩)
                          clear hsz hS hS0 hS1 hfi; simp [go_sem, Act.eval, *]
                        · intro ac W fL hsz hfi hms hdn hS0 hdep hbase hund
                          have hS : (fun W => Below wr.heap.size wr W)  W := hS0
                          have hS1 : (fun W => Below wr.heap.size wr W)  W := by
                            exact hS0
                          have ce1 := (hS.cell (p := ⟨b3, o3 + t * 2 + 1, none⟩) hbE').trans HCE.out
                          have q0 := (hS.cell (p := ⟨b, o + m, none⟩) hbw').trans HQE.out
                          have p0 := (hS.cell (p := ⟨ba, oa + j * 2, none⟩) hba).trans HP0.out
                          have h5 : ac.tmps.getD 5 undef = .slice (some ⟨b3, o3, none⟩) n3 c3 := hbase 5 (by kernel_rfl)
                          have hh5 := h5; rw [Array.getD_eq_getD_getElem?] at hh5
                          have h15 : ac.tmps.getD 15 undef = .int .i64 (t : Int) := hbase 15 (by kernel_rfl)
                          have hh15 := h15; rw [Array.getD_eq_getD_getElem?] at hh15
                          have h18 : ac.tmps.getD 18 undef = .int .i64 (j : Int) := hbase 18 (by kernel_rfl)
                          have hh18 := h18; rw [Array.getD_eq_getD_getElem?] at hh18
                          have h4 : ac.tmps.getD 4 undef = .slice (some ⟨b, o, none⟩) L.length c := hbase 4 (by kernel_rfl)
                          have hh4 := h4; rw [Array.getD_eq_getD_getElem?] at hh4
                          have h14 : ac.tmps.getD 14 undef = .int .i64 (m : Int) := hbase 14 (by kernel_rfl)
                          have hh14 := h14; rw [Array.getD_eq_getD_getElem?] at hh14
                          have h16 : ac.tmps.getD 16 undef = .int .i64 (q : Int) := hbase 16 (by kernel_rfl)
                          have hh16 := h16; rw [Array.getD_eq_getD_getElem?] at hh16
                          have d133 : ac.tmps.getD 133 undef = .pointer (some ⟨b, o + m, none⟩) := hdep 11 (by decide)
                          have dd133 := d133; rw [Array.getD_eq_getD_getElem?] at dd133
                          clear hbase hdep hms hdn hund
                          refine opOk_run rfl (.inl ⟨_, W, ?_, rfl, Ext.refl _, hS1⟩)
                          clear hsz hS hS0 hS1 hfi; simp [go_sem, Act.eval, *]
                        · intro ac W fL hsz hfi hms hdn hS0 hdep hbase hund
                          have hS : (fun W => Below wr.heap.size wr W)  W := hS0
                          have hS1 : (fun W => Below wr.heap.size wr W)  W := by
                            exact hS0
                          have ce1 := (hS.cell (p := ⟨b3, o3 + t * 2 + 1, none⟩) hbE').trans HCE.out
                          have q0 := (hS.cell (p := ⟨b, o + m, none⟩) hbw').trans HQE.out
                          have p0 := (hS.cell (p := ⟨ba, oa + j * 2, none⟩) hba).trans HP0.out
                          have h5 : ac.tmps.getD 5 undef = .slice (some ⟨b3, o3, none⟩) n3 c3 := hbase 5 (by kernel_rfl)
                          have hh5 := h5; rw [Array.getD_eq_getD_getElem?] at hh5
                          have h15 : ac.tmps.getD 15 undef = .int .i64 (t : Int) := hbase 15 (by kernel_rfl)
                          have hh15 := h15; rw [Array.getD_eq_getD_getElem?] at hh15
                          have h18 : ac.tmps.getD 18 undef = .int .i64 (j : Int) := hbase 18 (by kernel_rfl)
                          have hh18 := h18; rw [Array.getD_eq_getD_getElem?] at hh18
                          have h4 : ac.tmps.getD 4 undef = .slice (some ⟨b, o, none⟩) L.length c := hbase 4 (by kernel_rfl)
                          have hh4 := h4; rw [Array.getD_eq_getD_getElem?] at hh4
                          have h14 : ac.tmps.getD 14 undef = .int .i64 (m : Int) := hbase 14 (by kernel_rfl)
                          have hh14 := h14; rw [Array.getD_eq_getD_getElem?] at hh14
                          have h16 : ac.tmps.getD 16 undef = .int .i64 (q : Int) := hbase 16 (by kernel_rfl)
                          have hh16 := h16; rw [Array.getD_eq_getD_getElem?] at hh16
                          clear hbase hdep hms hdn hund
                          refine opOk_run rfl (.inl ⟨_, W, ?_, rfl, Ext.refl _, hS1⟩)
                          clear hsz hS hS0 hS1 hfi; simp [go_sem, Act.eval, *]
                        · intro ac W fL hsz hfi hms hdn hS0 hdep hbase hund
                          have hS : (fun W => Below wr.heap.size wr W)  W := hS0
                          have hS1 : (fun W => Below wr.heap.size wr W)  W := by
                            exact hS0
                          have ce1 := (hS.cell (p := ⟨b3, o3 + t * 2 + 1, none⟩) hbE').trans HCE.out
                          have q0 := (hS.cell (p := ⟨b, o + m, none⟩) hbw').trans HQE.out
                          have p0 := (hS.cell (p := ⟨ba, oa + j * 2, none⟩) hba).trans HP0.out
                          have h5 : ac.tmps.getD 5 undef = .slice (some ⟨b3, o3, none⟩) n3 c3 := hbase 5 (by kernel_rfl)
                          have hh5 := h5; rw [Array.getD_eq_getD_getElem?] at hh5
                          have h15 : ac.tmps.getD 15 undef = .int .i64 (t : Int) := hbase 15 (by kernel_rfl)
                          have hh15 := h15; rw [Array.getD_eq_getD_getElem?] at hh15
                          have h18 : ac.tmps.getD 18 undef = .int .i64 (j : Int) := hbase 18 (by kernel_rfl)
                          have hh18 := h18; rw [Array.getD_eq_getD_getElem?] at hh18
                          have h4 : ac.tmps.getD 4 undef = .slice (some ⟨b, o, none⟩) L.length c := hbase 4 (by kernel_rfl)
                          have hh4 := h4; rw [Array.getD_eq_getD_getElem?] at hh4
                          have h14 : ac.tmps.getD 14 undef = .int .i64 (m : Int) := hbase 14 (by kernel_rfl)
                          have hh14 := h14; rw [Array.getD_eq_getD_getElem?] at hh14
                          have h16 : ac.tmps.getD 16 undef = .int .i64 (q : Int) := hbase 16 (by kernel_rfl)
                          have hh16 := h16; rw [Array.getD_eq_getD_getElem?] at hh16
                          have d134 : ac.tmps.getD 134 undef = .string s := hdep 12 (by decide)
                          have dd134 := d134; rw [Array.getD_eq_getD_getElem?] at dd134
                          have d135 : ac.tmps.getD 135 undef = .int .i64 (q : Int) := hdep 13 (by decide)
                          have dd135 := d135; rw [Array.getD_eq_getD_getElem?] at dd135
                          clear hbase hdep hms hdn hund
                          refine opOk_run rfl (.inl ⟨_, W, ?_, rfl, Ext.refl _, hS1⟩)
                          clear hsz hS hS0 hS1 hfi; simp [go_sem, Act.eval, *]
                        · intro ac W fL hsz hfi hms hdn hS0 hdep hbase hund
                          have hS : (fun W => Below wr.heap.size wr W)  W := hS0
                          have hS1 : (fun W => Below wr.heap.size wr W)  W := by
                            exact hS0
                          have ce1 := (hS.cell (p := ⟨b3, o3 + t * 2 + 1, none⟩) hbE').trans HCE.out
                          have q0 := (hS.cell (p := ⟨b, o + m, none⟩) hbw').trans HQE.out
                          have p0 := (hS.cell (p := ⟨ba, oa + j * 2, none⟩) hba).trans HP0.out
                          have h5 : ac.tmps.getD 5 undef = .slice (some ⟨b3, o3, none⟩) n3 c3 := hbase 5 (by kernel_rfl)
                          have hh5 := h5; rw [Array.getD_eq_getD_getElem?] at hh5
                          have h15 : ac.tmps.getD 15 undef = .int .i64 (t : Int) := hbase 15 (by kernel_rfl)
                          have hh15 := h15; rw [Array.getD_eq_getD_getElem?] at hh15
                          have h18 : ac.tmps.getD 18 undef = .int .i64 (j : Int) := hbase 18 (by kernel_rfl)
                          have hh18 := h18; rw [Array.getD_eq_getD_getElem?] at hh18
                          have h4 : ac.tmps.getD 4 undef = .slice (some ⟨b, o, none⟩) L.length c := hbase 4 (by kernel_rfl)
                          have hh4 := h4; rw [Array.getD_eq_getD_getElem?] at hh4
                          have h14 : ac.tmps.getD 14 undef = .int .i64 (m : Int) := hbase 14 (by kernel_rfl)
                          have hh14 := h14; rw [Array.getD_eq_getD_getElem?] at hh14
                          have h16 : ac.tmps.getD 16 undef = .int .i64 (q : Int) := hbase 16 (by kernel_rfl)
                          have hh16 := h16; rw [Array.getD_eq_getD_getElem?] at hh16
                          have d130 : ac.tmps.getD 130 undef = .int .u8 xc := hdep 8 (by decide)
                          have dd130 := d130; rw [Array.getD_eq_getD_getElem?] at dd130
                          have d136 : ac.tmps.getD 136 undef = .int .u8 ((s[q]'hlq).toNat : Int) := hdep 14 (by decide)
                          have dd136 := d136; rw [Array.getD_eq_getD_getElem?] at dd136
                          clear hbase hdep hms hdn hund
                          refine opOk_run rfl (.inl ⟨_, W, ?_, rfl, Ext.refl _, hS1⟩)
                          clear hsz hS hS0 hS1 hfi; simp [go_sem, Act.eval, *]
                      case hlast =>
                        intro h; exact absurd rfl h
                      case hfin =>
                        intro _ ac W hsz hdf fL hf hS0 hv hbase
                        have hS : (fun W => Below wr.heap.size wr W)  W := hS0
                        clear hS0
                        obtain ⟨sx, hsx, hsA⟩ := act_puts [122, 123, 124, 125, 126, 127, 128, 129, 130, 131, 132, 133, 134, 135, 136, 137] (by kernel_rfl) hsz hdf hbase
                        have e137 : sx 137 = .bool false := (hsx 137).trans (hv 15 (by decide))
                        rw [hsA]
                        simp only [List.foldl]
                        rw [e137]
                        clear e137
                        simp only [Act.put, List.setIfInBounds_toArray, List.set_cons_succ, List.set_cons_zero]
                        clear hsA hsx hv hbase hsz hdf hf
                        have ce1 := (hS.cell (p := ⟨b3, o3 + t * 2 + 1, none⟩) hbE').trans HCE.out
                        have p1 := (hS.cell (p := ⟨ba, oa + j * 2 + 1, none⟩) hba).trans HP1.out
                        have HB7 := Lib.hid (Below.trans HB5.out (Below.mono hS HB5.out.size))
                        clear hS HCE HP0 HP1 HQE HB5
                        go_wp2
                        go_roundw
                        case rel => exact ⟨j + 1, _, by omega, by go_num, rfl, HN.out.symm, HB7.out⟩
                        case measure => simp [intOf]; omega

                  · have HJ : Hid (X.take j = X) := List.take_of_length_le (by omega)
                    obtain ⟨t', ht1, ht2, ht3⟩ := HME.out.tab.next htE HTT.out (c := s[q]'hlq) (s := s.data.toList.drop (q + 1)) (by
                      have := aftW_mem HSM.out q
                      rw [drop_byte s hlq] at this
                      exact this)
                    rw [HXE.out] at ht1
                    have hnv2 : nv = (t' : Int) := by rw [HNV.out, HJ.out, ht1]
                    subst hnv2
                    have ht4 : t' < n3 := by have := HEL.out; omega
                    have HT3 : Hid (Mt[t']? = some (aftW (restAt 0 L) s (q + 1))) := by show _ = _; rw [ht3, aftW_succ _ _ hlq]
                    have hBR := HBL.out.go HB5.out
                    have q8 := hBR.cell ht4
                    have q8f := hBR.free (i := t')
                    have HBR := Lib.hid hBR
                    have hi8 := idx_bools g8 n3 n3 t' ht4
                    have HB6 : Hid (Below w3.heap.size w3 wr) := HBW.out.trans (HB5.out.mono HBW.out.size)
                    clear ht1 ht2 ht3 hBR HNV HJ
                    go_wp2
                    go_roundw
                    case rel =>
                      refine ⟨q + 1, t', by omega, by go_num, rfl, ht4, HT3.out, _, HBR.out.set (i := t') (b := true), HMT.out.mono fun u hu => ?_, fun q' hq' u hu => ?_, HB6.out.setCell (p := ⟨g8, t', none⟩) (by show w3.heap.size ≤ g8; omega) _⟩
                      · show (if u = t' then true else f2 u) = true
                        split
                        · rfl
                        · exact hu
                      · show (if u = t' then true else f2 u) = true
                        split
                        · rfl
                        · rename_i hne
                          by_cases e : q' ≤ q
                          · exact HALL.out q' e u hu
                          · obtain rfl : q' = q + 1 := by omega
                            exact absurd (nodup_idx HME.out.tab.tab.nodup hu HT3.out) hne
                    case measure => simp [intOf]; omega

              · obtain rfl : q = s.size := by omega
                have HMT3 : Hid (MetTo (restAt 0 L) Mt L f2 (m + 1)) := fun j hj hj2 q' hq' t' ht' => by
                  by_cases e : j < m
                  · exact HMT.out j hj e q' hq' t' ht'
                  · obtain rfl : j = m := by omega
                    rw [HSE.out] at hq' ht'
                    exact HALL.out q' hq' t' ht'
                go_wp2
                go_roundw
                case rel => exact ⟨m + 1, by omega, by go_num, f2, HBL.out, HMT3.out, HBW.out⟩
                case measure => simp [intOf]; omega
          · obtain rfl : m = L.length := by omega
            go_wp2
            go_loopw [19] (fun i wv => ∃ j : Nat, j ≤ n3 ∧ i = .int .i64 (j : Int) ∧ wr = wv) (fun i _ => n3 - (intOf i).toNat)
            case atStart => exact ⟨0, Nat.zero_le _, rfl, rfl⟩
            case round =>
              obtain ⟨j, hj, rfl, rfl⟩ := hrel
              by_cases hlj : j < n3
              · have q8 := HBL.out.cell hlj
                rw [HMT.out.all HME.out.tab (by have := HEL.out; omega)] at q8
                have hi8 := idx_bools g8 n3 n3 j hlj
                go_wp2
                go_roundw
                case rel => exact ⟨j + 1, by omega, by go_num, trivial⟩
                case measure => simp [intOf]; omega
              · go_wp2
                go_ret
                exact ⟨rfl, HS.out.out.trans (HBW.out.mono HS.out.out.size)⟩
end Go.Proofs.YtemdlfbcnnoglaaDoor
