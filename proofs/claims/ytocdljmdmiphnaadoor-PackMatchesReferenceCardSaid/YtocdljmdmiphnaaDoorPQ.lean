
/- Pack: the reference's reader. -/
import Derived.Test.YtocdljmdmiphnaaDoorPG
namespace Go.Proofs.YtocdljmdmiphnaaDoor
open Go.RowKit Go.WideShapes
set_option linter.unusedVariables false
set_option linter.unusedSimpArgs false

theorem cells4 {w : World} {g : Nat} {a b c d : Value} {t : TypeId} {f : Nat × Nat} (h : w.heap[g]? = some (.cells #[a, b, c, d] t f)) : w.cell? ⟨g, 0, none⟩ = some a ∧ w.cell? ⟨g, 1, none⟩ = some b ∧ w.cell? ⟨g, 2, none⟩ = some c ∧ w.cell? ⟨g, 3, none⟩ = some d := by
  refine ⟨?_, ?_, ?_, ?_⟩ <;> simp [World.cell?, h]
/-- the reference's reader: what is left to read, whether it has failed, the nodes -/
def RQ (wW w : World) (gR : Nat) (bb bs : Wd) (bad : Bool) (vn : Value) : Prop := ∃ (ar : Option Addr) (cr p : Nat), w.heap[gR]? = some (.cells #[.slice ar bb.length cr, .int .i64 (p : Int), .bool bad, vn] 87 (0, 0)) ∧ BytS wW ar bb ∧ bb.length ≤ cr ∧ p ≤ bb.length ∧ bs = bb.drop p
theorem RQ.size {wW w : World} {gR : Nat} {bb bs : Wd} {bad : Bool} {vn : Value} (h : RQ wW w gR bb bs bad vn) : gR < w.heap.size := by
  obtain ⟨ar, cr, p, hrep, _⟩ := h
  exact (Array.getElem?_eq_some_iff.1 hrep).1
theorem RQ.le {wW w : World} {gR : Nat} {bb bs : Wd} {bad : Bool} {vn : Value} (h : RQ wW w gR bb bs bad vn) : bs.length ≤ bb.length := by
  obtain ⟨ar, cr, p, _, _, _, _, rfl⟩ := h
  rw [List.length_drop]; omega
def OctP (wW w : World) (gR : Nat) (bb bs : Wd) (bad : Bool) (vn : Value) (e : Ending) (w' : World) : Prop := w.grownBy w' (some gR) ∧ match bs with
  | [] => e = .returned (.int .i64 0) ∧ RQ wW w' gR bb [] true vn
  | c :: r => e = .returned (.int .i64 (c.toNat : Int)) ∧ RQ wW w' gR bb r bad vn
theorem RQ.go {wW w w1 : World} {gR : Nat} {bb bs : Wd} {bad : Bool} {vn : Value} (h : RQ wW w gR bb bs bad vn) (hx : Ext w w1) : RQ wW w1 gR bb bs bad vn := by
  obtain ⟨ar, cr, p, hrep, h2⟩ := h
  exact ⟨ar, cr, p, (Below.block hx _ (Array.getElem?_eq_some_iff.1 hrep).1).trans hrep, h2⟩
set_option maxHeartbeats 1600000 in
set_option maxRecDepth 100000 in
theorem octet_any (wW : World) (B gR : Nat) (bb bs : Wd) (bad : Bool) (vn : Value) (w : World) (hWB : wW.heap.size ≤ B) (hBR : B ≤ gR) (hB : Below B wW w) (hbb : bb.length ≤ 1000000) (h : RQ wW w gR bb bs bad vn) :
    Calls Tryd.prog 55 #[.pointer (some ⟨gR, 0, none⟩)] w (OctP wW w gR bb bs bad vn) := by
  have hgl := h.size
  obtain ⟨ar, cr, p, hrep, hby, hcr, hp, hbs⟩ := h
  obtain ⟨c0, c1, c2, c3⟩ := cells4 hrep
  have HREP := Lib.hid hrep
  have HBY := Lib.hid hby
  obtain ⟨n, hn⟩ : ∃ n, bb.length = n := ⟨_, rfl⟩
  rw [hn] at c0 hp hcr hbb
  have HC0 := Lib.hid c0; have HC1 := Lib.hid c1; have HC2 := Lib.hid c2
  have HSZ := Lib.hid hB.size
  clear c0 c1 c2 c3
  by_cases hlt : p < n
  · have hpl : p < bb.length := by omega
    have hcons : bs = bb[p] :: bb.drop (p + 1) := by rw [hbs]; exact (List.getElem_cons_drop hpl).symm
    obtain ⟨b, o, rfl, hb, q0⟩ := hby.at hpl
    have q0' := (hB.cell (p := ⟨b, o + p, none⟩) (by show b < B; omega)).trans q0
    have hidx := idx_u8 (some ⟨b, o, none⟩) b o n cr p rfl hlt
    have hbl : b < w.heap.size := by have := HSZ.out; omega
    have hbne : b ≠ gR := by omega
    obtain ⟨c, hc⟩ : ∃ c, bb[p] = c := ⟨_, rfl⟩
    rw [hc] at q0' hcons
    have HQ0 := Lib.hid q0'
    have HRQ : Hid (∀ w2, Ext w w2 → RQ wW (w2.setCell ⟨gR, 1, none⟩ (.int .i64 ((p : Int) + 1))) gR bb (bb.drop (p + 1)) bad vn ∧ w.grownBy (w2.setCell ⟨gR, 1, none⟩ (.int .i64 ((p : Int) + 1))) (some gR)) := fun w2 hx =>
      ⟨⟨some ⟨b, o, none⟩, cr, p + 1, by rw [show ((p + 1 : Nat) : Int) = (p : Int) + 1 by omega]; exact set_one ((Below.block hx gR hgl).trans HREP.out) rfl, HBY.out, by omega, by omega, rfl⟩, grownBy_trans (grownBy_ext hx _) (grownBy_set _ _ _ _)⟩
    have HCONS := Lib.hid hcons
    have hge : ¬ (n : Int) ≤ (p : Int) := by omega
    have hwp : IntKind.i64.wrap ((p : Int) + 1) = (p : Int) + 1 := IntWalk.i64_in _ (by omega)
    have hwp2 : IntKind.i64.wrap ((p : Int) + 1 - 1) = (p : Int) := by rw [show (p : Int) + 1 - 1 = (p : Int) by omega]; exact IntWalk.i64_in _ (by omega)
    have hwp3 : IntKind.i64.wrap (p : Int) = (p : Int) := IntWalk.i64_in _ (by omega)
    clear hcons hbs hpl q0 q0' hc hn hrep hby HBY
    go_enter Tryd.func55, Tryd.ntmps55
    go_upto_region 1 with fail
    refine wp_region_st (by kernel_rfl) (Vs [fun v _ => v = .pointer (some ⟨gR, 0, none⟩), fun v _ => v = .pointer (some ⟨gR, 0, none⟩), fun v _ => v = .pointer (some ⟨gR, 1, none⟩), fun v _ => v = .int .i64 (p : Int), fun v _ => v = .pointer (some ⟨gR, 0, none⟩), fun v _ => v = .pointer (some ⟨gR, 0, none⟩), fun v _ => v = .pointer (some ⟨gR, 0, none⟩), fun v _ => v = .slice (some ⟨b, o, none⟩) n cr, fun v _ => v = .int .i64 (n : Int), fun v _ => v = .bool false]) (Xs [Ext, Ext, Ext, Ext, Ext, Ext, Ext, Ext, Ext, Ext]) (fun fL => (fun W => Below w.heap.size w W) ) [0, 1, 3, 7, 0, 16, 48, 112, 240, 511] 35 10 (by kernel_rfl) rfl ?hV ?hS ?hop ?hfin ?hlast
    case hV =>
      refine xs_stays (vs_stays (by simp only [List.mem_cons, List.not_mem_nil, or_false, forall_eq_or_imp, forall_eq]; exact ⟨stays_const _, stays_const _, stays_const _, stays_const _, stays_const _, stays_const _, stays_const _, stays_const _, stays_const _, stays_const _⟩)) ?_
      exact ⟨.inl rfl, .inl rfl, .inl rfl, .inl rfl, .inl rfl, .inl rfl, .inl rfl, .inl rfl, .inl rfl, .inl rfl, trivial⟩
    case hS =>
      intro fL hf
      show (fun W => Below w.heap.size w W)  _
      exact (Below.refl _ w).drew
    case hop =>
      refine ⟨?_, ?_, ?_, ?_, ?_, ?_, ?_, ?_, ?_, ?_, trivial⟩
      all_goals first | rw [if_neg (by decide)] | rw [if_pos (by decide)]
      all_goals try intro ac W fL hsz hfi hms hdn hS0 hdep hbase hund
      all_goals try have hS : (fun W => Below w.heap.size w W)  W := hS0
      all_goals try (
        have x0 := (hS.cell (p := ⟨gR, 0, none⟩) hgl).trans HC0.out
        have x1 := (hS.cell (p := ⟨gR, 1, none⟩) hgl).trans HC1.out)
      all_goals try (have h0 : ac.tmps.getD 0 undef = .pointer (some ⟨gR, 0, none⟩) := hbase 0 (by kernel_rfl); have hh0 := h0; rw [Array.getD_eq_getD_getElem?] at hh0)
      all_goals try (have d3 : ac.tmps.getD 3 undef = .pointer (some ⟨gR, 0, none⟩) := hdep 0 (by decide); have dd3 := d3; rw [Array.getD_eq_getD_getElem?] at dd3)
      all_goals try (have d4 : ac.tmps.getD 4 undef = .pointer (some ⟨gR, 0, none⟩) := hdep 1 (by decide); have dd4 := d4; rw [Array.getD_eq_getD_getElem?] at dd4)
      all_goals try (have d5 : ac.tmps.getD 5 undef = .pointer (some ⟨gR, 1, none⟩) := hdep 2 (by decide); have dd5 := d5; rw [Array.getD_eq_getD_getElem?] at dd5)
      all_goals try (have d6 : ac.tmps.getD 6 undef = .int .i64 (p : Int) := hdep 3 (by decide); have dd6 := d6; rw [Array.getD_eq_getD_getElem?] at dd6)
      all_goals try (have d7 : ac.tmps.getD 7 undef = .pointer (some ⟨gR, 0, none⟩) := hdep 4 (by decide); have dd7 := d7; rw [Array.getD_eq_getD_getElem?] at dd7)
      all_goals try (have d8 : ac.tmps.getD 8 undef = .pointer (some ⟨gR, 0, none⟩) := hdep 5 (by decide); have dd8 := d8; rw [Array.getD_eq_getD_getElem?] at dd8)
      all_goals try (have d9 : ac.tmps.getD 9 undef = .pointer (some ⟨gR, 0, none⟩) := hdep 6 (by decide); have dd9 := d9; rw [Array.getD_eq_getD_getElem?] at dd9)
      all_goals try (have d10 : ac.tmps.getD 10 undef = .slice (some ⟨b, o, none⟩) n cr := hdep 7 (by decide); have dd10 := d10; rw [Array.getD_eq_getD_getElem?] at dd10)
      all_goals try (have d11 : ac.tmps.getD 11 undef = .int .i64 (n : Int) := hdep 8 (by decide); have dd11 := d11; rw [Array.getD_eq_getD_getElem?] at dd11)
      all_goals try clear hbase hdep hms hdn hund
      all_goals (refine opOk_run rfl (.inl ⟨_, W, ?_, rfl, Ext.refl _, hS0⟩); clear hsz hS hS0 hfi; simp [go_sem, Act.eval, *]; done)
    case hlast =>
      intro h; exact absurd rfl h
    case hfin =>
      intro _ ac W hsz hdf fL hf hS0 hv hbase
      have hS : (fun W => Below w.heap.size w W)  W := hS0
      clear hS0
      obtain ⟨sx, hsx, hsA⟩ := act_puts [3, 4, 5, 6, 7, 8, 9, 10, 11, 12] (by kernel_rfl) hsz hdf hbase
      have e12 : sx 12 = .bool false := (hsx 12).trans (hv 9 (by decide))
      rw [hsA]
      simp only [List.foldl]
      rw [e12]
      clear e12
      simp only [Act.put, List.setIfInBounds_toArray, List.set_cons_succ, List.set_cons_zero]
      clear hsA hsx hv hbase hsz hdf hf
      obtain ⟨w2, hw2⟩ : ∃ w2, W = w2 := ⟨_, rfl⟩
      rw [hw2] at hS ⊢
      have k0 := (hS.cell (p := ⟨gR, 0, none⟩) hgl).trans HC0.out
      have k1 := (hS.cell (p := ⟨gR, 1, none⟩) hgl).trans HC1.out
      have k2 := (hS.cell (p := ⟨b, o + p, none⟩) hbl).trans HQ0.out
      have hrp := (hS.block gR hgl).trans HREP.out
      have f1 : w2.frozen? ⟨gR, 1, none⟩ = false := by simp [World.frozen?, hrp]
      have HX2 := Lib.hid (HRQ.out w2 hS)
      have hg3 : gR < (w2.setCell ⟨gR, 1, none⟩ (.int .i64 ((p : Int) + 1))).heap.size := by rw [World.size_setCell]; exact Nat.lt_of_lt_of_le hgl hS.size
      have hb3 : b < (w2.setCell ⟨gR, 1, none⟩ (.int .i64 ((p : Int) + 1))).heap.size := by rw [World.size_setCell]; exact Nat.lt_of_lt_of_le hbl hS.size
      have y0 : (w2.setCell ⟨gR, 1, none⟩ (.int .i64 ((p : Int) + 1))).cell? ⟨gR, 0, none⟩ = some (.slice (some ⟨b, o, none⟩) n cr) := by simp [go_sem, k0]
      have y1 : (w2.setCell ⟨gR, 1, none⟩ (.int .i64 ((p : Int) + 1))).cell? ⟨gR, 1, none⟩ = some (.int .i64 ((p : Int) + 1)) := by simp [go_sem, k1]
      have y2 : (w2.setCell ⟨gR, 1, none⟩ (.int .i64 ((p : Int) + 1))).cell? ⟨b, o + p, none⟩ = some (.int .u8 (c.toNat : Int)) := by rw [← k2]; simp [go_sem, hbne]
      have HY0 := Lib.hid y0; have HY1 := Lib.hid y1; have HY2 := Lib.hid y2
      clear hw2 hS hrp k2 y0 y1 y2
      go_upto_region 5 with fail
      clear k0 k1 f1
      obtain ⟨w3, hw3⟩ : ∃ w3, w2.setCell ⟨gR, 1, none⟩ (.int .i64 ((p : Int) + 1)) = w3 := ⟨_, rfl⟩
      rw [hw3] at HX2 HY0 HY1 HY2 hg3 hb3 ⊢
      clear hw3
      refine wp_region_st (by kernel_rfl) (Vs [fun v _ => v = .pointer (some ⟨gR, 0, none⟩), fun v _ => v = .pointer (some ⟨gR, 0, none⟩), fun v _ => v = .pointer (some ⟨gR, 0, none⟩), fun v _ => v = .slice (some ⟨b, o, none⟩) n cr, fun v _ => v = .pointer (some ⟨gR, 0, none⟩), fun v _ => v = .pointer (some ⟨gR, 0, none⟩), fun v _ => v = .pointer (some ⟨gR, 1, none⟩), fun v _ => v = .int .i64 ((p : Int) + 1), fun v _ => v = .int .i64 (p : Int), fun v _ => v = .pointer (some ⟨b, o + p, none⟩), fun v _ => v = .int .u8 (c.toNat : Int), fun v _ => v = .int .i64 (c.toNat : Int), fun v _ => v = .int .i64 (c.toNat : Int)]) (Xs [Ext, Ext, Ext, Ext, Ext, Ext, Ext, Ext, Ext, Ext, Ext, Ext, Ext]) (fun fL => (fun W => Below w3.heap.size w3 W) ) [0, 1, 3, 7, 0, 16, 48, 112, 240, 511, 1023, 2047, 4095] 35 13 (by kernel_rfl) rfl ?hV ?hS ?hop ?hfin ?hlast
      case hV =>
        refine xs_stays (vs_stays (by simp only [List.mem_cons, List.not_mem_nil, or_false, forall_eq_or_imp, forall_eq]; exact ⟨stays_const _, stays_const _, stays_const _, stays_const _, stays_const _, stays_const _, stays_const _, stays_const _, stays_const _, stays_const _, stays_const _, stays_const _, stays_const _⟩)) ?_
        exact ⟨.inl rfl, .inl rfl, .inl rfl, .inl rfl, .inl rfl, .inl rfl, .inl rfl, .inl rfl, .inl rfl, .inl rfl, .inl rfl, .inl rfl, .inl rfl, trivial⟩
      case hS =>
        intro fL hf
        show (fun W => Below w3.heap.size w3 W)  _
        exact (Below.refl _ w3).drew
      case hop =>
        refine ⟨?_, ?_, ?_, ?_, ?_, ?_, ?_, ?_, ?_, ?_, ?_, ?_, ?_, trivial⟩
        all_goals first | rw [if_neg (by decide)] | rw [if_pos (by decide)]
        all_goals try intro ac W fL hsz hfi hms hdn hS0 hdep hbase hund
        all_goals try have hS : (fun W => Below w3.heap.size w3 W)  W := hS0
        all_goals try (
          have x0 := (hS.cell (p := ⟨gR, 0, none⟩) hg3).trans HY0.out
          have x1 := (hS.cell (p := ⟨gR, 1, none⟩) hg3).trans HY1.out
          have x2 := (hS.cell (p := ⟨b, o + p, none⟩) hb3).trans HY2.out
          have hcu := UInt8.toNat_lt c
          have hwc : IntKind.i64.wrap (c.toNat : Int) = (c.toNat : Int) := IntWalk.i64_in _ (by omega))
        all_goals try (have h0 : ac.tmps.getD 0 undef = .pointer (some ⟨gR, 0, none⟩) := hbase 0 (by kernel_rfl); have hh0 := h0; rw [Array.getD_eq_getD_getElem?] at hh0)
        all_goals try (have d23 : ac.tmps.getD 23 undef = .pointer (some ⟨gR, 0, none⟩) := hdep 0 (by decide); have dd23 := d23; rw [Array.getD_eq_getD_getElem?] at dd23)
        all_goals try (have d24 : ac.tmps.getD 24 undef = .pointer (some ⟨gR, 0, none⟩) := hdep 1 (by decide); have dd24 := d24; rw [Array.getD_eq_getD_getElem?] at dd24)
        all_goals try (have d25 : ac.tmps.getD 25 undef = .pointer (some ⟨gR, 0, none⟩) := hdep 2 (by decide); have dd25 := d25; rw [Array.getD_eq_getD_getElem?] at dd25)
        all_goals try (have d26 : ac.tmps.getD 26 undef = .slice (some ⟨b, o, none⟩) n cr := hdep 3 (by decide); have dd26 := d26; rw [Array.getD_eq_getD_getElem?] at dd26)
        all_goals try (have d27 : ac.tmps.getD 27 undef = .pointer (some ⟨gR, 0, none⟩) := hdep 4 (by decide); have dd27 := d27; rw [Array.getD_eq_getD_getElem?] at dd27)
        all_goals try (have d28 : ac.tmps.getD 28 undef = .pointer (some ⟨gR, 0, none⟩) := hdep 5 (by decide); have dd28 := d28; rw [Array.getD_eq_getD_getElem?] at dd28)
        all_goals try (have d29 : ac.tmps.getD 29 undef = .pointer (some ⟨gR, 1, none⟩) := hdep 6 (by decide); have dd29 := d29; rw [Array.getD_eq_getD_getElem?] at dd29)
        all_goals try (have d30 : ac.tmps.getD 30 undef = .int .i64 ((p : Int) + 1) := hdep 7 (by decide); have dd30 := d30; rw [Array.getD_eq_getD_getElem?] at dd30)
        all_goals try (have d31 : ac.tmps.getD 31 undef = .int .i64 (p : Int) := hdep 8 (by decide); have dd31 := d31; rw [Array.getD_eq_getD_getElem?] at dd31)
        all_goals try (have d32 : ac.tmps.getD 32 undef = .pointer (some ⟨b, o + p, none⟩) := hdep 9 (by decide); have dd32 := d32; rw [Array.getD_eq_getD_getElem?] at dd32)
        all_goals try (have d33 : ac.tmps.getD 33 undef = .int .u8 (c.toNat : Int) := hdep 10 (by decide); have dd33 := d33; rw [Array.getD_eq_getD_getElem?] at dd33)
        all_goals try (have d34 : ac.tmps.getD 34 undef = .int .i64 (c.toNat : Int) := hdep 11 (by decide); have dd34 := d34; rw [Array.getD_eq_getD_getElem?] at dd34)
        all_goals try clear hbase hdep hms hdn hund
        all_goals (refine opOk_run rfl (.inl ⟨_, W, ?_, rfl, Ext.refl _, hS0⟩); clear hsz hS hS0 hfi; simp [go_sem, Act.eval, *]; done)
      case hlast =>
        intro h; exact absurd rfl h
      case hfin =>
        intro _ ac W hsz hdf fL hf hS0 hv hbase
        have hS : (fun W => Below w3.heap.size w3 W)  W := hS0
        clear hS0
        obtain ⟨sx, hsx, hsA⟩ := act_puts [23, 24, 25, 26, 27, 28, 29, 30, 31, 32, 33, 34, 2] (by kernel_rfl) hsz hdf hbase
        have e2 : sx 2 = .int .i64 (c.toNat : Int) := (hsx 2).trans (hv 12 (by decide))
        rw [hsA]
        simp only [List.foldl]
        rw [e2]
        clear e2
        simp only [Act.put, List.setIfInBounds_toArray, List.set_cons_succ, List.set_cons_zero]
        clear hsA hsx hv hbase hsz hdf hf
        go_wp2
        go_ret
        rw [HCONS.out]
        exact ⟨grownBy_trans HX2.out.2 (grownBy_ext hS _), rfl, HX2.out.1.go hS⟩
  · have hpn : p = n := by omega
    have hnil : bs = [] := by rw [hbs]; exact List.drop_of_length_le (by omega)
    have HNIL := Lib.hid hnil
    have HRQ : Hid (∀ w2, Ext w w2 → RQ wW (w2.setCell ⟨gR, 2, none⟩ (.bool true)) gR bb [] true vn ∧ w.grownBy (w2.setCell ⟨gR, 2, none⟩ (.bool true)) (some gR)) := fun w2 hx =>
      ⟨⟨ar, cr, p, set_one ((Below.block hx gR hgl).trans HREP.out) rfl, HBY.out, by omega, by omega, by rw [← hbs]; exact hnil.symm⟩, grownBy_trans (grownBy_ext hx _) (grownBy_set _ _ _ _)⟩
    have hge : (n : Int) ≤ (p : Int) := by omega
    clear hnil hbs hpn hn hrep hby HBY
    go_enter Tryd.func55, Tryd.ntmps55
    go_upto_region 1 with fail
    refine wp_region_st (by kernel_rfl) (Vs [fun v _ => v = .pointer (some ⟨gR, 0, none⟩), fun v _ => v = .pointer (some ⟨gR, 0, none⟩), fun v _ => v = .pointer (some ⟨gR, 1, none⟩), fun v _ => v = .int .i64 (p : Int), fun v _ => v = .pointer (some ⟨gR, 0, none⟩), fun v _ => v = .pointer (some ⟨gR, 0, none⟩), fun v _ => v = .pointer (some ⟨gR, 0, none⟩), fun v _ => v = .slice ar n cr, fun v _ => v = .int .i64 (n : Int), fun v _ => v = .bool true]) (Xs [Ext, Ext, Ext, Ext, Ext, Ext, Ext, Ext, Ext, Ext]) (fun fL => (fun W => Below w.heap.size w W) ) [0, 1, 3, 7, 0, 16, 48, 112, 240, 511] 35 10 (by kernel_rfl) rfl ?hV ?hS ?hop ?hfin ?hlast
    case hV =>
      refine xs_stays (vs_stays (by simp only [List.mem_cons, List.not_mem_nil, or_false, forall_eq_or_imp, forall_eq]; exact ⟨stays_const _, stays_const _, stays_const _, stays_const _, stays_const _, stays_const _, stays_const _, stays_const _, stays_const _, stays_const _⟩)) ?_
      exact ⟨.inl rfl, .inl rfl, .inl rfl, .inl rfl, .inl rfl, .inl rfl, .inl rfl, .inl rfl, .inl rfl, .inl rfl, trivial⟩
    case hS =>
      intro fL hf
      show (fun W => Below w.heap.size w W)  _
      exact (Below.refl _ w).drew
    case hop =>
      refine ⟨?_, ?_, ?_, ?_, ?_, ?_, ?_, ?_, ?_, ?_, trivial⟩
      all_goals first | rw [if_neg (by decide)] | rw [if_pos (by decide)]
      all_goals try intro ac W fL hsz hfi hms hdn hS0 hdep hbase hund
      all_goals try have hS : (fun W => Below w.heap.size w W)  W := hS0
      all_goals try (
        have x0 := (hS.cell (p := ⟨gR, 0, none⟩) hgl).trans HC0.out
        have x1 := (hS.cell (p := ⟨gR, 1, none⟩) hgl).trans HC1.out)
      all_goals try (have h0 : ac.tmps.getD 0 undef = .pointer (some ⟨gR, 0, none⟩) := hbase 0 (by kernel_rfl); have hh0 := h0; rw [Array.getD_eq_getD_getElem?] at hh0)
      all_goals try (have d3 : ac.tmps.getD 3 undef = .pointer (some ⟨gR, 0, none⟩) := hdep 0 (by decide); have dd3 := d3; rw [Array.getD_eq_getD_getElem?] at dd3)
      all_goals try (have d4 : ac.tmps.getD 4 undef = .pointer (some ⟨gR, 0, none⟩) := hdep 1 (by decide); have dd4 := d4; rw [Array.getD_eq_getD_getElem?] at dd4)
      all_goals try (have d5 : ac.tmps.getD 5 undef = .pointer (some ⟨gR, 1, none⟩) := hdep 2 (by decide); have dd5 := d5; rw [Array.getD_eq_getD_getElem?] at dd5)
      all_goals try (have d6 : ac.tmps.getD 6 undef = .int .i64 (p : Int) := hdep 3 (by decide); have dd6 := d6; rw [Array.getD_eq_getD_getElem?] at dd6)
      all_goals try (have d7 : ac.tmps.getD 7 undef = .pointer (some ⟨gR, 0, none⟩) := hdep 4 (by decide); have dd7 := d7; rw [Array.getD_eq_getD_getElem?] at dd7)
      all_goals try (have d8 : ac.tmps.getD 8 undef = .pointer (some ⟨gR, 0, none⟩) := hdep 5 (by decide); have dd8 := d8; rw [Array.getD_eq_getD_getElem?] at dd8)
      all_goals try (have d9 : ac.tmps.getD 9 undef = .pointer (some ⟨gR, 0, none⟩) := hdep 6 (by decide); have dd9 := d9; rw [Array.getD_eq_getD_getElem?] at dd9)
      all_goals try (have d10 : ac.tmps.getD 10 undef = .slice ar n cr := hdep 7 (by decide); have dd10 := d10; rw [Array.getD_eq_getD_getElem?] at dd10)
      all_goals try (have d11 : ac.tmps.getD 11 undef = .int .i64 (n : Int) := hdep 8 (by decide); have dd11 := d11; rw [Array.getD_eq_getD_getElem?] at dd11)
      all_goals try clear hbase hdep hms hdn hund
      all_goals (refine opOk_run rfl (.inl ⟨_, W, ?_, rfl, Ext.refl _, hS0⟩); clear hsz hS hS0 hfi; simp [go_sem, Act.eval, *]; done)
    case hlast =>
      intro h; exact absurd rfl h
    case hfin =>
      intro _ ac W hsz hdf fL hf hS0 hv hbase
      have hS : (fun W => Below w.heap.size w W)  W := hS0
      clear hS0
      obtain ⟨sx, hsx, hsA⟩ := act_puts [3, 4, 5, 6, 7, 8, 9, 10, 11, 12] (by kernel_rfl) hsz hdf hbase
      have e12 : sx 12 = .bool true := (hsx 12).trans (hv 9 (by decide))
      rw [hsA]
      simp only [List.foldl]
      rw [e12]
      clear e12
      simp only [Act.put, List.setIfInBounds_toArray, List.set_cons_succ, List.set_cons_zero]
      clear hsA hsx hv hbase hsz hdf hf
      obtain ⟨w2, hw2⟩ : ∃ w2, W = w2 := ⟨_, rfl⟩
      rw [hw2] at hS ⊢
      have k2 := (hS.cell (p := ⟨gR, 2, none⟩) hgl).trans HC2.out
      have hrp := (hS.block gR hgl).trans HREP.out
      have f2 : w2.frozen? ⟨gR, 2, none⟩ = false := by simp [World.frozen?, hrp]
      have HX2 := Lib.hid (HRQ.out w2 hS)
      clear hw2 hS hrp
      go_wp2
      go_ret
      rw [HNIL.out]
      exact ⟨HX2.out.2, rfl, HX2.out.1⟩
def OctC (bd b1 : Bool) (bj r : Wd) (x : Nat) : Prop := (b1 = true ∧ x = 0 ∧ (bj = [] ∨ bd = true)) ∨ (b1 = bd ∧ ∃ c : UInt8, x = c.toNat ∧ bj = c :: r)
theorem octP_form {wW w w' : World} {gR : Nat} {bb bs : Wd} {bad : Bool} {vn : Value} {e : Ending} (h : OctP wW w gR bb bs bad vn e w') :
    ∃ (x : Nat) (r : Wd) (b' : Bool), e = .returned (.int .i64 (x : Int)) ∧ x < 256 ∧ RQ wW w' gR bb r b' vn ∧ w.grownBy w' (some gR) ∧ r.length ≤ bs.length ∧ OctC bad b' bs r x := by
  obtain ⟨hg, h⟩ := h
  cases bs with
  | nil => exact ⟨0, [], true, h.1, by omega, h.2, hg, Nat.le_refl _, .inl ⟨rfl, rfl, .inl rfl⟩⟩
  | cons c r => exact ⟨c.toNat, r, bad, h.1, UInt8.toNat_lt c, h.2, hg, by simp, .inr ⟨rfl, c, rfl, rfl⟩⟩
/-- the state of a reader behind what it has read -/
def After {α : Type} (bad b' : Bool) (o : Option (α × Wd)) (x : α) (r : Wd) : Prop := if b' = true then bad = true ∨ o = none else bad = false ∧ o = some (x, r)
def NuP (wW w : World) (gR : Nat) (bb bs : Wd) (bad : Bool) (vn : Value) (e : Ending) (w' : World) : Prop :=
  ∃ (n : Nat) (r : Wd) (b' : Bool), e = .returned (.int .i64 (n : Int)) ∧ n < 34359738368 ∧ RQ wW w' gR bb r b' vn ∧ w.grownBy w' (some gR) ∧ r.length ≤ bs.length ∧ After bad b' (rdNum okT bs) n r
theorem rdNumT (bs : Wd) : rdNum okT bs = rdNumA 5 1 0 bs := by
  unfold rdNum
  cases rdNumA 5 1 0 bs with
  | none => rfl
  | some p => rfl
def NuI (bad bd : Bool) (bs bj : Wd) (j a : Nat) : Prop := if bd = true then bad = true ∨ rdNum okT bs = none else bad = false ∧ rdNumA 5 1 0 bs = rdNumA (5 - j) (128 ^ j) a bj
theorem nuI_end {bad bd b1 : Bool} {bs bj r : Wd} {j a x : Nat} (h : NuI bad bd bs bj j a) (hc : OctC bd b1 bj r x) (hj : j < 5) (hx : x < 128) : After bad b1 (rdNum okT bs) (a + x % 128 * 128 ^ j) r := by
  unfold NuI at h
  rcases hc with ⟨rfl, rfl, hc⟩ | ⟨rfl, c, rfl, rfl⟩
  · refine (if_pos rfl).mpr ?_
    cases bd with
    | true => rw [if_pos rfl] at h; exact h
    | false =>
      rw [if_neg (by decide)] at h
      rcases hc with rfl | hc
      · refine .inr ?_
        rw [rdNumT, h.2, show 5 - j = (5 - (j + 1)) + 1 by omega, rdNumA]
      · cases hc
  · cases b1 with
    | true => rw [if_pos rfl] at h; exact (if_pos rfl).mpr h
    | false =>
      rw [if_neg (by decide)] at h
      refine (if_neg (by decide)).mpr ⟨h.1, ?_⟩
      rw [rdNumT]
      exact (num_step hj h.2).1 hx
theorem nuI_next {bad bd b1 : Bool} {bs bj r : Wd} {j a x : Nat} (h : NuI bad bd bs bj j a) (hc : OctC bd b1 bj r x) (hj : j < 5) (hx : ¬ x < 128) : NuI bad b1 bs r (j + 1) (a + x % 128 * 128 ^ j) := by
  unfold NuI at h ⊢
  rcases hc with ⟨rfl, rfl, hc⟩ | ⟨rfl, c, rfl, rfl⟩
  · omega
  · cases b1 with
    | true => rw [if_pos rfl] at h ⊢; exact h
    | false =>
      rw [if_neg (by decide)] at h ⊢
      exact ⟨h.1, (num_step hj h.2).2 hx⟩
theorem nuI_five {bad bd : Bool} {bs bj : Wd} {a n : Nat} {r : Wd} (h : NuI bad bd bs bj 5 a) : After bad true (rdNum okT bs) n r := by
  unfold NuI at h
  refine (if_pos rfl).mpr ?_
  cases bd with
  | true => rw [if_pos rfl] at h; exact h
  | false =>
    rw [if_neg (by decide)] at h
    refine .inr ?_
    rw [rdNumT, h.2]; rfl
theorem RQ.fail {wW w : World} {gR : Nat} {bb bs : Wd} {bad : Bool} {vn : Value} (h : RQ wW w gR bb bs bad vn) : RQ wW (w.setCell ⟨gR, 2, none⟩ (.bool true)) gR bb bs true vn ∧ w.grownBy (w.setCell ⟨gR, 2, none⟩ (.bool true)) (some gR) ∧ w.cell? ⟨gR, 2, none⟩ = some (.bool bad) ∧ w.frozen? ⟨gR, 2, none⟩ = false := by
  obtain ⟨ar, cr, p, hrep, h2⟩ := h
  exact ⟨⟨ar, cr, p, set_one hrep rfl, h2⟩, grownBy_set _ _ _ _, (cells4 hrep).2.2.1, by simp [World.frozen?, hrep]⟩
set_option maxHeartbeats 3200000 in
set_option maxRecDepth 100000 in
theorem nu_any (wW : World) (B gR : Nat) (bb bs : Wd) (bad : Bool) (vn : Value) (w : World) (hWB : wW.heap.size ≤ B) (hBR : B ≤ gR) (hB : Below B wW w) (hbb : bb.length ≤ 1000000) (h : RQ wW w gR bb bs bad vn) :
    Calls Tryd.prog 41 #[.pointer (some ⟨gR, 0, none⟩)] w (NuP wW w gR bb bs bad vn) := by
  have HB := Lib.hid hB; have HR := Lib.hid h
  clear hB h
  go_enter Tryd.func41, Tryd.ntmps41
  go_wp2
  go_loopw [4, 3] (fun i q wr => ∃ (j a : Nat) (bj : Wd) (bd : Bool), j ≤ 5 ∧ i = .int .i64 (j : Int) ∧ q = .int .i64 (a : Int) ∧ a < 128 ^ j ∧ RQ wW wr gR bb bj bd vn ∧ w.grownBy wr (some gR) ∧ bj.length ≤ bs.length ∧ NuI bad bd bs bj j a) (fun i _ _ => 5 - (intOf i).toNat)
  case atStart => exact ⟨0, 0, bs, bad, by omega, rfl, rfl, by simp, HR.out, grownBy_refl _ _, Nat.le_refl _, by
    unfold NuI
    cases bad with
    | true => rw [if_pos rfl]; exact .inl rfl
    | false => rw [if_neg (by decide)]; exact ⟨rfl, rfl⟩⟩
  case round =>
    obtain ⟨j, a, bj, bd, hj, rfl, rfl, ha, hr, hg, hlj, hrd⟩ := hrel
    have HRD := Lib.hid hrd; have HRj := Lib.hid hr; have HGj := Lib.hid hg; have HLJ := Lib.hid hlj
    have HBj : Hid (Below B wW wr) := HB.out.trans (below_grown hg (by have := HR.out.size; omega) (fun q hq => by injection hq with hq; omega))
    clear hrd hr hg hlj
    by_cases hlt : j < 5
    · have h5' : (j : Int) < 5 := by omega
      have HCALL := Lib.hid (octet_any wW B gR bb bj bd vn wr hWB hBR HBj.out hbb HRj.out)
      go_wp2_with fail
      refine HCALL.out.mono ?_
      rintro e w1 hp
      obtain ⟨x, r, b1, rfl, hx, hr1, hg1, hl1, hcase⟩ := octP_form hp
      have HR1 := Lib.hid hr1
      have HG1 := Lib.hid (grownBy_trans HGj.out hg1)
      have HL1 := Lib.hid (Nat.le_trans hl1 HLJ.out)
      have HCS := Lib.hid hcase
      have hw3 : wrap64 (7 * (j : Int)) = 7 * (j : Int) := IntWalk.wrap64_in _ (by omega)
      obtain ⟨d, hd⟩ : ∃ d, x % 128 * 128 ^ j = d := ⟨_, rfl⟩
      have hp5 : (128 : Nat) ^ j ≤ 128 ^ 4 := Nat.pow_le_pow_right (by omega) (by omega)
      have hdl : d ≤ 127 * 128 ^ j := by rw [← hd]; exact Nat.mul_le_mul_right _ (by omega)
      have hsum : a + d < 128 ^ (j + 1) := by rw [Nat.pow_succ]; omega
      have h4 : (128 : Nat) ^ 4 = 268435456 := by decide
      have hd8 : a + d < 34359738368 := by omega
      have hp7 : (2 : Int) ^ (7 * j) = ((128 ^ j : Nat) : Int) := by
        have h5 : j = 0 ∨ j = 1 ∨ j = 2 ∨ j = 3 ∨ j = 4 := by omega
        rcases h5 with rfl | rfl | rfl | rfl | rfl <;> rfl
      have hx8 : (x : Int) % 128 = ((x % 128 : Nat) : Int) := by omega
      have hpw : ((x : Int) % 128 * 2 ^ (7 * j)) = (d : Int) := by rw [hp7, hx8, ← Int.natCast_mul, hd]
      have hw1 : wrap64 ((x : Int) % 128 * 2 ^ (7 * j)) = (d : Int) := by rw [hpw]; exact w64n d (by omega)
      have hw2 : wrap64 ((a : Int) + (d : Int)) = (a : Int) + (d : Int) := w64a a d (Nat.le_of_lt hd8)
      have htm : (x : Int).tmod 128 = ((x % 128 : Nat) : Int) := Int.ofNat_tmod x 128
      have HSUM := Lib.hid hsum
      have HDD := Lib.hid hd
      have HW1 := Lib.hid hw1; have HW2 := Lib.hid hw2
      have HD8 := Lib.hid hd8
      clear hw1 hw2 ha hd8 htm
      clear hx8 hp hr1 hg1 hl1 hcase HCALL hd hpw hp7 hp5 hdl hsum h4
      by_cases hc : x < 128
      · have hcI : (x : Int) < 128 := by omega
        have HAF := Lib.hid (nuI_end HRD.out HCS.out hlt hc)
        rw [HDD.out] at HAF
        clear hc
        have hw1 := HW1.out; have hw2 := HW2.out
        go_wp2
        clear hw1 hw2
        go_ret
        exact ⟨a + d, r, b1, ret_int (by rw [HW2.out]; exact (Int.natCast_add a d).symm), HD8.out, HR1.out, HG1.out, HL1.out, HAF.out⟩
      · have hcI : ¬ (x : Int) < 128 := by omega
        have HNX := Lib.hid (nuI_next HRD.out HCS.out hlt hc)
        rw [HDD.out] at HNX
        clear hc
        have hw1 := HW1.out; have hw2 := HW2.out
        go_wp2
        clear hw1 hw2
        go_roundw
        case rel => exact ⟨j + 1, a + d, r, b1, by omega, by go_num, by rw [HW2.out, Int.natCast_add], HSUM.out, HR1.out, HG1.out, HL1.out, HNX.out⟩
        case measure => simp [intOf]; omega
    · have hj5 : j = 5 := by omega
      subst hj5
      obtain ⟨hr9, hg9, c9, f9⟩ := HRj.out.fail
      have HR9 := Lib.hid hr9; have HG9 := Lib.hid (grownBy_trans HGj.out hg9)
      have HAF := Lib.hid (nuI_five (n := 0) (r := bj) HRD.out)
      clear hr9 hg9
      go_wp2
      go_ret
      exact ⟨0, bj, true, rfl, by omega, HR9.out, HG9.out, HLJ.out, HAF.out⟩
/-! ### the reader and the nodes read -/
structure RK (wW : World) (B gR : Nat) (bb bs : Wd) (bad : Bool) (vn : Value) (N : List NV) (D : List Nd) (w : World) : Prop where
  rr : RQ wW w gR bb bs bad vn
  own : OwnG rowNode w B vn N
  len : N.length = D.length
  arcs : ∀ k (h1 : k < N.length) (h2 : k < D.length), N[k].fin = D[k].fin ∧ OwnG rowArc w B (.slice N[k].a N[k].n N[k].c) D[k].arcs
  dis : ∀ j k (h1 : j < N.length) (h2 : k < N.length), j ≠ k → ∀ q, nvB N[j] = some q → nvB N[k] ≠ some q
  bl : Below B wW w
  hg : B ≤ gR
section
variable {wW w w1 : World} {B gR : Nat} {bb bs b1 : Wd} {bad bad1 : Bool} {vn v1 : Value} {N : List NV} {D : List Nd}
theorem RQ.ne {q : Nat} {cs : Array Value} {t : TypeId} {f : Nat × Nat} (h : RQ wW w gR bb bs bad vn) (hq : w.heap[q]? = some (.cells cs t f)) (ht : t ≠ 87) : q ≠ gR := by
  obtain ⟨ar, cr, p, hrep, _⟩ := h
  exact cells_ne hq hrep ht
/-- the reader's block is the same -/
theorem RQ.keep (h : RQ wW w gR bb bs bad vn) (hk : w1.heap[gR]? = w.heap[gR]?) : RQ wW w1 gR bb bs bad vn := by
  obtain ⟨ar, cr, p, hrep, h2⟩ := h
  exact ⟨ar, cr, p, hk.trans hrep, h2⟩
theorem RK.size (h : RK wW B gR bb bs bad vn N D w) : B ≤ w.heap.size := Nat.le_of_lt (Nat.lt_of_le_of_lt h.hg h.rr.size)
theorem RK.own_ne (h : RK wW B gR bb bs bad vn N D w) : ∀ q, vn.ownBlock = some q → q ≠ gR := fun q hq => by
  obtain ⟨cs, hc⟩ := h.own.obj hq
  exact h.rr.ne hc (by decide)
theorem RK.arc_ne (h : RK wW B gR bb bs bad vn N D w) {v : Value} {X : List Ar} {C : Nat} (ho : OwnG rowArc w C v X) : ∀ q, v.ownBlock = some q → q ≠ gR ∧ some q ≠ vn.ownBlock := fun q hq => by
  obtain ⟨cs, hc⟩ := ho.obj hq
  refine ⟨h.rr.ne hc (by decide), fun e => ?_⟩
  obtain ⟨c2, h2⟩ := h.own.obj e.symm
  exact cells_ne hc h2 (by decide) rfl
/-- a call that changed nothing but the reader's cells -/
theorem RK.rest (h : RK wW B gR bb bs bad vn N D w) (hr : RQ wW w1 gR bb b1 bad1 vn) (hg : w.grownBy w1 (some gR)) : RK wW B gR bb b1 bad1 vn N D w1 := by
  have hb : Below B w w1 := below_grown hg h.size (fun q hq => by injection hq with hq; rw [← hq]; exact h.hg)
  refine ⟨hr, h.own.grown hg fun q hq e => ?_, h.len, fun k h1 h2 => ⟨(h.arcs k h1 h2).1, (h.arcs k h1 h2).2.grown hg fun q hq e => ?_⟩, h.dis, h.bl.trans hb, h.hg⟩
  · injection e with e; exact h.own_ne q hq e
  · injection e with e; exact (h.arc_ne (h.arcs k h1 h2).2 q hq).1 e
theorem RK.go (h : RK wW B gR bb bs bad vn N D w) (hx : Ext w w1) : RK wW B gR bb bs bad vn N D w1 :=
  ⟨h.rr.go hx, h.own.later hx (Nat.le_refl _), h.len, fun k h1 h2 => ⟨(h.arcs k h1 h2).1, (h.arcs k h1 h2).2.later hx (Nat.le_refl _)⟩, h.dis, h.bl.trans (Below.mono hx h.size), h.hg⟩
theorem RK.lt (h : RK wW B gR bb bs bad vn N D w) : ∀ x ∈ N, ∀ q, nvB x = some q → q < w.heap.size := fun x hx q hq => by
  obtain ⟨k, hk, rfl⟩ := List.getElem_of_mem hx
  exact (h.arcs k hk (by rw [← h.len]; exact hk)).2.lt q hq
/-- the nodes' row has grown by a node without arcs, and is stored -/
theorem RK.node (h : RK wW B gR bb bs bad vn N D w) {f : Bool} (ho : OwnG rowNode w1 B v1 (N ++ [⟨f, none, 0, 0⟩])) (hg : w.grownBy w1 vn.ownBlock) : RK wW B gR bb bs bad v1 (N ++ [⟨f, none, 0, 0⟩]) (D ++ [⟨f, []⟩]) (w1.setCell ⟨gR, 3, none⟩ v1) := by
  obtain ⟨ar, cr, p, hrep, h2⟩ := h.rr
  have hrep1 : w1.heap[gR]? = some (.cells #[.slice ar bb.length cr, .int .i64 (p : Int), .bool bad, vn] 87 (0, 0)) := (hg.block _ (Array.getElem?_eq_some_iff.1 hrep).1 (fun e => h.own_ne gR e.symm rfl)).trans hrep
  have hne : ∀ q, q ≠ gR → (w1.setCell ⟨gR, 3, none⟩ v1).heap[q]? = w1.heap[q]? := fun q hq => Below.heap_setCell _ _ _ _ hq
  have hk : ∀ {C : Nat} {v : Value} {X : List Ar}, OwnG rowArc w C v X → OwnG rowArc (w1.setCell ⟨gR, 3, none⟩ v1) C v X := fun {C v X} hX => by
    have h3 := hX.grown hg fun q hq => (h.arc_ne hX q hq).2
    exact h3.keep fun q hq => hne q (h.arc_ne hX q hq).1
  refine ⟨⟨ar, cr, p, set_one hrep1 rfl, h2⟩, ho.keep fun q hq => hne q fun e => ?_, by simp [h.len], fun k h1 h2 => ?_, fun j k h1 h2 hjk q hq => ?_, (h.bl.trans (below_grown hg h.size h.own.ge)).setCell (p := ⟨gR, 3, none⟩) h.hg _, h.hg⟩
  · obtain ⟨c2, hc2⟩ := ho.obj hq
    rw [e] at hc2
    exact cells_ne hrep1 hc2 (by decide) rfl
  · by_cases hkN : k < N.length
    · have hkD : k < D.length := by rw [← h.len]; exact hkN
      simp only [List.getElem_append_left hkN, List.getElem_append_left hkD]
      exact ⟨(h.arcs k hkN hkD).1, hk (h.arcs k hkN hkD).2⟩
    · obtain rfl : k = N.length := by rw [List.length_append] at h1; simp at h1; omega
      have e1 : (N ++ [(⟨f, none, 0, 0⟩ : NV)])[N.length] = ⟨f, none, 0, 0⟩ := by simp
      have e2 : (D ++ [(⟨f, []⟩ : Nd)])[N.length] = ⟨f, []⟩ := by simp [h.len]
      rw [e1, e2]
      exact ⟨rfl, OwnG.nil _ _ _⟩
  · by_cases hjN : j < N.length
    · rw [List.getElem_append_left hjN] at hq
      by_cases hkN : k < N.length
      · rw [List.getElem_append_left hkN]; exact h.dis j k hjN hkN hjk q hq
      · obtain rfl : k = N.length := by rw [List.length_append] at h2; simp at h2; omega
        rw [List.getElem_concat_length rfl]
        intro e; cases e
    · obtain rfl : j = N.length := by rw [List.length_append] at h1; simp at h1; omega
      rw [List.getElem_concat_length rfl] at hq
      cases hq
/-- a cell of a box is written -/
theorem RK.set (h : RK wW B gR bb bs bad vn N D w) {g i : Nat} {u : Value} (h1 : g ≠ gR) (h2 : some g ≠ vn.ownBlock) (h4 : ∀ x ∈ N, nvB x ≠ some g) (h5 : B ≤ g) : RK wW B gR bb bs bad vn N D (w.setCell ⟨g, i, none⟩ u) := by
  have hne : ∀ q, q ≠ g → (w.setCell ⟨g, i, none⟩ u).heap[q]? = w.heap[q]? := fun q hq => Below.heap_setCell _ _ _ _ hq
  exact ⟨h.rr.keep (hne gR fun e => h1 e.symm), h.own.keep fun q hq => hne q fun e => h2 (by rw [← e]; exact hq.symm), h.len, fun k k1 k2 => ⟨(h.arcs k k1 k2).1, (h.arcs k k1 k2).2.keep fun q hq => hne q fun e => h4 _ (List.getElem_mem k1) (by rw [← e]; exact hq)⟩, h.dis, h.bl.setCell (p := ⟨g, i, none⟩) h5 _, h.hg⟩
/-- the arcs of a node have grown, and are stored -/
theorem RK.arc (h : RK wW B gR bb bs bad vn N D w) {a : Option Addr} {c i g cn : Nat} {X : List Ar} (hi : i < N.length) (hiD : i < D.length) (hvn : vn = .slice (some ⟨g, 0, none⟩) N.length cn) (ho : OwnG rowArc w1 B (.slice a X.length c) X) (hg : w.grownBy w1 (nvB N[i]))
    (hat : (Value.slice a X.length c).ownBlock = nvB N[i] ∨ ∀ q, (Value.slice a X.length c).ownBlock = some q → w.heap.size ≤ q) :
    RK wW B gR bb bs bad vn (N.set i ⟨N[i].fin, a, X.length, c⟩) (D.set i ⟨D[i].fin, X⟩) (w1.setCell ⟨g, i * 2 + 1, none⟩ (.slice a X.length c)) := by
  subst hvn
  have hri := (h.arcs i hi hiD).2
  have hgg : g ≠ gR := h.own_ne g rfl
  have hne : ∀ q, q ≠ g → (w1.setCell ⟨g, i * 2 + 1, none⟩ (.slice a X.length c)).heap[q]? = w1.heap[q]? := fun q hq => Below.heap_setCell _ _ _ _ hq
  have hrr : RQ wW w1 gR bb bs bad (.slice (some ⟨g, 0, none⟩) N.length cn) := h.rr.keep (hg.block gR h.rr.size fun e => (h.arc_ne hri gR e.symm).1 rfl)
  have hown1 : OwnG rowNode w1 B (.slice (some ⟨g, 0, none⟩) N.length cn) N := h.own.grown hg fun q hq e => (h.arc_ne hri q e.symm).2 hq.symm
  have hag : ∀ {C : Nat} {v : Value} {Y : List Ar}, OwnG rowArc w1 C v Y → ∀ q, v.ownBlock = some q → q ≠ g := fun {C v Y} hY q hq e => by
    obtain ⟨c1, k1⟩ := hY.obj hq
    obtain ⟨c2, k2⟩ := hown1.obj (g := g) rfl
    exact cells_ne k1 k2 (by decide) e
  refine ⟨hrr.keep (hne gR fun e => hgg e.symm), ?_, by simp [h.len], fun k h1 h2 => ?_, fun j k h1 h2 hjk q hq => ?_, (h.bl.trans (below_grown hg h.size hri.ge)).setCell (p := ⟨g, i * 2 + 1, none⟩) (h.own.ge g rfl) _, h.hg⟩
  · rw [show (Value.slice (some ⟨g, 0, none⟩) N.length cn) = .slice (some ⟨g, 0, none⟩) N.length cn from rfl]
    exact hown1.setArcs hi a X.length c
  · have hkN : k < N.length := by simpa using h1
    have hkD : k < D.length := by simpa using h2
    by_cases e : i = k
    · subst e
      simp only [List.getElem_set_self]
      exact ⟨(h.arcs i hi hiD).1, ho.keep fun q hq => hne q (hag ho q hq)⟩
    · simp only [List.getElem_set_ne e]
      have h3 := (h.arcs k hkN hkD).2.grown hg fun q hq e2 => h.dis k i hkN hi (Ne.symm e) q hq e2.symm
      exact ⟨(h.arcs k hkN hkD).1, h3.keep fun q hq => hne q (hag h3 q hq)⟩
  · have hjN : j < N.length := by simpa using h1
    have hkN : k < N.length := by simpa using h2
    have hnew : ∀ m (hm : m < N.length), i ≠ m → ∀ q, nvB N[m] = some q → (Value.slice a X.length c).ownBlock ≠ some q := fun m hm hne2 q hq e => by
      rcases hat with h3 | h3
      · rw [h3] at e; exact h.dis i m hi hm hne2 q e hq
      · have h5 := h3 q e
        have := h.lt _ (List.getElem_mem hm) q hq
        omega
    by_cases e1 : i = j
    · subst e1
      simp only [List.getElem_set_self] at hq
      rw [List.getElem_set_ne hjk]
      exact fun e => hnew k hkN hjk q e hq
    · rw [List.getElem_set_ne e1] at hq
      by_cases e2 : i = k
      · subst e2
        simp only [List.getElem_set_self]
        exact hnew j hjN e1 q hq
      · rw [List.getElem_set_ne e2]
        exact h.dis j k hjN hkN hjk q hq
end
theorem RK.failed {wW w : World} {B gR : Nat} {bb bs : Wd} {bad : Bool} {vn : Value} {N : List NV} {D : List Nd} (h : RK wW B gR bb bs bad vn N D w) : RK wW B gR bb bs true vn N D (w.setCell ⟨gR, 2, none⟩ (.bool true)) ∧ w.grownBy (w.setCell ⟨gR, 2, none⟩ (.bool true)) (some gR) ∧ w.cell? ⟨gR, 2, none⟩ = some (.bool bad) ∧ w.frozen? ⟨gR, 2, none⟩ = false := by
  obtain ⟨h1, h2, h3, h4⟩ := h.rr.fail
  exact ⟨h.rest h1 h2, h2, h3, h4⟩
/-- inside the loop over the arcs of a node -/
structure LR (wW w0 : World) (B gR : Nat) (bb : Wd) (vb0 : Option Nat) (N0 : List NV) (D0 : List Nd) (f : Bool) (bj : Wd) (bad : Bool) (vn : Value) (x : NV) (X : List Ar) (E : List NV) (nw : List Nd) (w : World) : Prop where
  rk : RK wW B gR bb bj bad vn (N0 ++ x :: E) (D0 ++ ⟨f, X⟩ :: nw) w
  me : ∀ q, nvB x = some q → w0.heap.size ≤ q
  ex : ∀ y ∈ E, ∀ q, nvB y = some q → w0.heap.size ≤ q
  fr : Fr2 gR vb0 w0 w
  nr : NewRow vb0 vn.ownBlock w0.heap.size
  hB : B ≤ w0.heap.size
  hl : N0.length = D0.length
section
variable {wW w0 w w1 : World} {B gR : Nat} {bb : Wd} {vb0 : Option Nat} {N0 : List NV} {D0 : List Nd} {f : Bool} {bj b1 : Wd} {bad bad1 : Bool} {vn v1 : Value} {x : NV} {X : List Ar} {E E2 : List NV} {nw nw2 : List Nd}
theorem LR.rest (h : LR wW w0 B gR bb vb0 N0 D0 f bj bad vn x X E nw w) (hr : RQ wW w1 gR bb b1 bad1 vn) (hg : w.grownBy w1 (some gR)) : LR wW w0 B gR bb vb0 N0 D0 f b1 bad1 vn x X E nw w1 :=
  ⟨h.rk.rest hr hg, h.me, h.ex, h.fr.trans (Fr2.of_gr hg) h.nr, h.nr, h.hB, h.hl⟩
theorem LR.go (h : LR wW w0 B gR bb vb0 N0 D0 f bj bad vn x X E nw w) (hx : Ext w w1) : LR wW w0 B gR bb vb0 N0 D0 f bj bad vn x X E nw w1 :=
  ⟨h.rk.go hx, h.me, h.ex, h.fr.trans (Fr2.of_ext hx) h.nr, h.nr, h.hB, h.hl⟩
theorem LR.called (h : LR wW w0 B gR bb vb0 N0 D0 f bj bad vn x X E nw w) (hr : RK wW B gR bb b1 bad1 v1 ((N0 ++ x :: E) ++ E2) ((D0 ++ ⟨f, X⟩ :: nw) ++ nw2) w1) (hf : Fr2 gR vn.ownBlock w w1) (hn : NewRow vn.ownBlock v1.ownBlock w.heap.size) (he : ∀ y ∈ E2, ∀ q, nvB y = some q → w.heap.size ≤ q) :
    LR wW w0 B gR bb vb0 N0 D0 f b1 bad1 v1 x X (E ++ E2) (nw ++ nw2) w1 := by
  rw [List.append_assoc, List.append_assoc, List.cons_append, List.cons_append] at hr
  refine ⟨hr, h.me, fun y hy q hq => ?_, h.fr.trans hf h.nr, h.nr.trans hn h.fr.size, h.hB, h.hl⟩
  rcases List.mem_append.1 hy with hy | hy
  · exact h.ex y hy q hq
  · exact Nat.le_trans h.fr.size (he y hy q hq)
theorem LR.set (h : LR wW w0 B gR bb vb0 N0 D0 f bj bad vn x X E nw w) {g i : Nat} {u : Value} (h1 : g ≠ gR) (h2 : some g ≠ vn.ownBlock) (h4 : ∀ y ∈ N0 ++ x :: E, nvB y ≠ some g) (h5 : w0.heap.size ≤ g) : LR wW w0 B gR bb vb0 N0 D0 f bj bad vn x X E nw (w.setCell ⟨g, i, none⟩ u) := by
  have hne : ∀ q, q ≠ g → (w.setCell ⟨g, i, none⟩ u).heap[q]? = w.heap[q]? := fun q hq => Below.heap_setCell _ _ _ _ hq
  exact ⟨h.rk.set h1 h2 h4 (Nat.le_trans h.hB h5), h.me, h.ex, ⟨by rw [World.size_setCell]; exact h.fr.size, fun q hq h6 h7 => (hne q (by omega)).trans (h.fr.block q hq h6 h7)⟩, h.nr, h.hB, h.hl⟩
theorem LR.arc (h : LR wW w0 B gR bb vb0 N0 D0 f bj bad vn x X E nw w) {a : Option Addr} {c g nn cn : Nat} {Y : List Ar} (hvn : vn = .slice (some ⟨g, 0, none⟩) nn cn) (hnn : nn = (N0 ++ x :: E).length) (ho : OwnG rowArc w1 B (.slice a Y.length c) Y) (hg : w.grownBy w1 (nvB x))
    (hat : (Value.slice a Y.length c).ownBlock = nvB x ∨ ∀ q, (Value.slice a Y.length c).ownBlock = some q → w.heap.size ≤ q) :
    LR wW w0 B gR bb vb0 N0 D0 f bj bad vn ⟨x.fin, a, Y.length, c⟩ Y E nw (w1.setCell ⟨g, N0.length * 2 + 1, none⟩ (.slice a Y.length c)) := by
  subst hnn
  have hi : N0.length < (N0 ++ x :: E).length := by simp
  have hiD : N0.length < (D0 ++ (⟨f, X⟩ : Nd) :: nw).length := by rw [h.hl]; simp
  have hx : (N0 ++ x :: E)[N0.length] = x := get_mid N0 E x hi
  have hxD : (D0 ++ (⟨f, X⟩ : Nd) :: nw)[N0.length] = ⟨f, X⟩ := by simp only [h.hl]; exact get_mid D0 nw _ (by simp)
  have hrk := h.rk.arc hi hiD hvn ho (by rw [hx]; exact hg) (by rw [hx]; exact hat)
  rw [hx, hxD, set_mid, show (D0 ++ (⟨f, X⟩ : Nd) :: nw).set N0.length ⟨f, Y⟩ = D0 ++ ⟨f, Y⟩ :: nw by rw [h.hl]; exact set_mid _ _ _ _] at hrk
  have hfrs := h.fr.size
  refine ⟨hrk, fun q hq => ?_, h.ex, ⟨by rw [World.size_setCell]; exact Nat.le_trans hfrs hg.size, fun q hq h3 h4 => ?_⟩, h.nr, h.hB, h.hl⟩
  · rcases hat with h3 | h3
    · exact h.me q (h3.symm.trans hq)
    · have := h3 q hq
      omega
  · rw [Below.heap_setCell _ _ _ _ (show q ≠ g from fun e => by
      subst hvn
      rcases h.nr with h5 | h5
      · exact h4 (by rw [← h5, e]; rfl)
      · have := h5 g rfl; omega)]
    exact (hg.block q (Nat.lt_of_lt_of_le hq hfrs) fun e => by have := h.me q e.symm; omega).trans (h.fr.block q hq h3 h4)
end
theorem LR.row {wW w0 w : World} {B gR : Nat} {bb : Wd} {vb0 : Option Nat} {N0 : List NV} {D0 : List Nd} {f : Bool} {bj : Wd} {bad : Bool} {vn : Value} {x : NV} {X : List Ar} {E : List NV} {nw : List Nd} (h : LR wW w0 B gR bb vb0 N0 D0 f bj bad vn x X E nw w) : OwnG rowArc w B (.slice x.a x.n x.c) X ∧ x.n = X.length := by
  have hi : N0.length < (N0 ++ x :: E).length := by simp
  have hiD : N0.length < (D0 ++ (⟨f, X⟩ : Nd) :: nw).length := by rw [h.hl]; simp
  have hx : (N0 ++ x :: E)[N0.length] = x := get_mid N0 E x hi
  have hxD : (D0 ++ (⟨f, X⟩ : Nd) :: nw)[N0.length] = ⟨f, X⟩ := by simp only [h.hl]; exact get_mid D0 nw _ (by simp)
  have h1 := (h.rk.arcs N0.length hi hiD).2
  rw [hx, hxD] at h1
  refine ⟨h1, ?_⟩
  obtain ⟨a, c, e, _⟩ := h1.form
  injection e
theorem LR.cells {wW w0 w : World} {B gR : Nat} {bb : Wd} {vb0 : Option Nat} {N0 : List NV} {D0 : List Nd} {f : Bool} {bj : Wd} {bad : Bool} {vn : Value} {x : NV} {X : List Ar} {E : List NV} {nw : List Nd} (h : LR wW w0 B gR bb vb0 N0 D0 f bj bad vn x X E nw w) :
    ∃ g c cs, vn = .slice (some ⟨g, 0, none⟩) (D0.length + 1 + nw.length) c ∧ w.heap[g]? = some (.cells cs 53 (0, 0)) ∧ w.cell? ⟨g, N0.length * 2 + 1, none⟩ = some (.slice x.a x.n x.c) ∧ (N0 ++ x :: E).length = D0.length + 1 + nw.length := by
  have hi : N0.length < (N0 ++ x :: E).length := by simp
  have hx : (N0 ++ x :: E)[N0.length] = x := get_mid N0 E x hi
  have hlen : (N0 ++ x :: E).length = D0.length + 1 + nw.length := by rw [h.rk.len]; simp; omega
  have hown := h.rk.own
  rcases hown.blk with ⟨_, h2⟩ | ⟨g, c, h2, _⟩
  · simp at h2
  · rw [h2] at hown
    obtain ⟨cs, hcs⟩ := hown.obj (g := g) rfl
    have c1 := hown.cell rowNode_ok (i := N0.length) (j := 1) hi (by decide)
    rw [hx, rowNode_k] at c1
    exact ⟨g, c, cs, by rw [h2, hlen], hcs, c1, hlen⟩
theorem heap_lt' {w : World} {g : Nat} {o : Obj} (h : w.heap[g]? = some o) : g < w.heap.size := (Array.getElem?_eq_some_iff.1 h).1
theorem cell_of_heap {w w1 : World} {g i : Nat} (h : w1.heap[g]? = w.heap[g]?) : w1.cell? ⟨g, i, none⟩ = w.cell? ⟨g, i, none⟩ := by simp [World.cell?, h]
/-- around an append of an arc -/
def MR (wr : World) (row : Option Nat) (b : Bool) (w : World) : Prop := match b with
  | false => Ext wr w
  | true => ∃ wb, Ext wr wb ∧ wb.grownBy w row
theorem grown_ext {w w1 w2 : World} {row : Option Nat} (h : w.grownBy w1 row) (hx : Ext w1 w2) : w.grownBy w2 row := grownBy_trans h (grownBy_ext hx _)
theorem MR.ext {wr : World} {row : Option Nat} : ∀ (b : Bool) (w w' : World), MR wr row b w → Ext w w' → MR wr row b w'
  | false, _, _, h, hx => Below.trans h (Below.mono hx h.size)
  | true, _, _, ⟨wb, h, hg⟩, hx => ⟨wb, h, grown_ext hg hx⟩
theorem MR.block {wr w : World} {row : Option Nat} {g : Nat} (hg : g < wr.heap.size) (hr : some g ≠ row) : ∀ b : Bool, MR wr row b w → w.heap[g]? = wr.heap[g]?
  | false, h => Below.block h g hg
  | true, ⟨wb, h, hgr⟩ => (hgr.block g (Nat.lt_of_lt_of_le hg h.size) hr).trans (h.block g hg)
theorem MR.grown {wr w : World} {row : Option Nat} (h : MR wr row true w) : wr.grownBy w row := by
  obtain ⟨wb, h1, h2⟩ := h
  exact grownBy_trans (grownBy_ext h1 _) h2
def NewA (B S : Nat) (row : Option Nat) (Y : List Ar) (v : Value) (w : World) : Prop := OwnG rowArc w B v Y ∧ (v.ownBlock = row ∨ ∀ q, v.ownBlock = some q → S ≤ q)
theorem newA_stays (B S : Nat) (row : Option Nat) (Y : List Ar) : Stays (NewA B S row Y) := by
  rintro v w w' ⟨h1, h2⟩ hx
  exact ⟨h1.later hx (Nat.le_refl _), h2⟩
def ArcI (rec : Wd → Nat → Option (Wd × List Nd)) (kh n0 : Nat) (b1 : Wd) (j : Nat) (bj : Wd) (bd : Bool) (X : List Ar) (nw : List Nd) : Prop :=
  if bd = true then rdArcs okT rec kh b1 n0 = none else rdArcs okT rec kh b1 n0 = accA X nw (rdArcs okT rec (kh - j) bj (n0 + nw.length))
def okR (k : Nat) : Bool := decide (k / 2 ≤ 62)
def AfterN (bad b' : Bool) (o : Option (Wd × List Nd)) (r : Wd) (nw : List Nd) : Prop := if b' = true then bad = true ∨ o = none else bad = false ∧ o = some (r, nw)
theorem AfterN.fail {bad : Bool} {o : Option (Wd × List Nd)} {r : Wd} {nw : List Nd} (h : bad = true ∨ o = none) : AfterN bad true o r nw := (if_pos rfl).mpr h
def NodeP (wW : World) (B gR : Nat) (bb bs : Wd) (bad : Bool) (vn : Value) (N : List NV) (D : List Nd) (o : Option (Wd × List Nd)) (w : World) (e : Ending) (w' : World) : Prop :=
  e = .returned (.tuple #[]) ∧ ∃ (r : Wd) (b' : Bool) (vn' : Value) (E : List NV) (nw : List Nd), RK wW B gR bb r b' vn' (N ++ E) (D ++ nw) w' ∧ Fr2 gR vn.ownBlock w w' ∧ NewRow vn.ownBlock vn'.ownBlock w.heap.size ∧ (∀ x ∈ E, ∀ q, nvB x = some q → w.heap.size ≤ q) ∧ r.length + nw.length ≤ bs.length ∧ AfterN bad b' o r nw
theorem arcI_oct {rec : Wd → Nat → Option (Wd × List Nd)} {kh n0 j c : Nat} {b1 bj r : Wd} {X : List Ar} {nw : List Nd} {b2 : Bool} (h : ArcI rec kh n0 b1 j bj false X nw) (hj : j < kh) (hc : OctC false b2 bj r c) :
    (b2 = true ∧ rdArcs okT rec kh b1 n0 = none) ∨ (b2 = false ∧ ∃ cu : UInt8, c = cu.toNat ∧ bj = cu :: r ∧ rdArcs okT rec kh b1 n0 = accA X nw (rdArcs okT rec (kh - (j + 1) + 1) (cu :: r) (n0 + nw.length))) := by
  have h := (if_neg (by decide)).mp h
  rw [show kh - j = kh - (j + 1) + 1 by omega] at h
  rcases hc with ⟨rfl, rfl, hc⟩ | ⟨rfl, cu, rfl, rfl⟩
  · rcases hc with rfl | hc
    · exact .inl ⟨rfl, by rw [h, accA_no0]⟩
    · cases hc
  · exact .inr ⟨rfl, cu, rfl, rfl, h⟩
theorem arcI_old {rec : Wd → Nat → Option (Wd × List Nd)} {kh n0 j c t : Nat} {b1 bj r b3 : Wd} {X : List Ar} {nw : List Nd} {b2 bad3 : Bool} (h : ArcI rec kh n0 b1 j bj false X nw) (hj : j < kh) (hc : OctC false b2 bj r c) (hn : After b2 bad3 (rdNum okT r) t b3) (ht : t ≠ 0) :
    ArcI rec kh n0 b1 (j + 1) b3 bad3 (X ++ [⟨(c : Int), (t : Int) - 1⟩]) nw := by
  rcases arcI_oct h hj hc with ⟨rfl, h2⟩ | ⟨rfl, cu, rfl, rfl, h2⟩
  · cases bad3 with
    | true => exact (if_pos rfl).mpr h2
    | false => have := ((if_neg (by decide)).mp hn).1; cases this
  · cases bad3 with
    | true =>
      refine (if_pos rfl).mpr ?_
      rcases (if_pos rfl).mp hn with h3 | h3
      · cases h3
      · rw [h2, accA_no1 h3]
    | false =>
      obtain ⟨-, h3⟩ := (if_neg (by decide)).mp hn
      exact (if_neg (by decide)).mpr (by rw [h2, accA_old h3 ht])
theorem arcI_new {okN okK : Nat → Bool} {kh n0 j c m nd : Nat} {b1 bj r b3 r7 : Wd} {X : List Ar} {nw nw7 : List Nd} {b2 bad3 bad7 : Bool} (h : ArcI (rdNode okN okK m) kh n0 b1 j bj false X nw) (hj : j < kh) (hc : OctC false b2 bj r c) (hn : After b2 bad3 (rdNum okT r) 0 b3)
    (hd : nd = n0 + nw.length) (h7 : AfterN bad3 bad7 (rdNode okN okK m b3 nd) r7 nw7) : ArcI (rdNode okN okK m) kh n0 b1 (j + 1) r7 bad7 (X ++ [⟨(c : Int), (nd : Int)⟩]) (nw ++ nw7) := by
  subst hd
  rcases arcI_oct h hj hc with ⟨rfl, h2⟩ | ⟨rfl, cu, rfl, rfl, h2⟩
  · cases bad7 with
    | true => exact (if_pos rfl).mpr h2
    | false =>
      have h3 := ((if_neg (by decide)).mp h7).1
      subst h3
      have := ((if_neg (by decide)).mp hn).1
      cases this
  · cases bad7 with
    | true =>
      refine (if_pos rfl).mpr ?_
      rcases (if_pos rfl).mp h7 with h3 | h3
      · subst h3
        rcases (if_pos rfl).mp hn with h4 | h4
        · cases h4
        · rw [h2, accA_no1 h4]
      · cases bad3 with
        | true =>
          rcases (if_pos rfl).mp hn with h4 | h4
          · cases h4
          · rw [h2, accA_no1 h4]
        | false => rw [h2, accA_no2 ((if_neg (by decide)).mp hn).2 h3]
    | false =>
      obtain ⟨rfl, h3⟩ := (if_neg (by decide)).mp h7
      refine (if_neg (by decide)).mpr ?_
      rw [h2, accA_new ((if_neg (by decide)).mp hn).2 h3, List.length_append, Nat.add_assoc]
theorem arcI_end {rec : Wd → Nat → Option (Wd × List Nd)} {kh n0 j : Nat} {b1 bj : Wd} {X : List Ar} {nw : List Nd} {bd f : Bool} (h : ArcI rec kh n0 b1 j bj bd X nw) (hj : bd = true ∨ kh ≤ j) :
    AfterN false bd (nodeA f (rdArcs okT rec kh b1 n0)) bj (⟨f, X⟩ :: nw) := by
  cases bd with
  | true => exact (if_pos rfl).mpr (.inr (by rw [(if_pos rfl).mp h]; rfl))
  | false =>
    rcases hj with hj | hj
    · cases hj
    · refine (if_neg (by decide)).mpr ⟨rfl, ?_⟩
      rw [(if_neg (by decide)).mp h, show kh - j = 0 by omega, rdArcs]
      simp [accA, nodeA]
theorem NodeP.failed {wW w w1 : World} {B gR : Nat} {bb bs b1 : Wd} {bad bad1 : Bool} {vn : Value} {N : List NV} {D : List Nd} {o : Option (Wd × List Nd)} (h : RK wW B gR bb b1 bad1 vn N D w1) (hg : w.grownBy w1 (some gR)) (hl : b1.length ≤ bs.length) (ho : bad = true ∨ o = none) :
    NodeP wW B gR bb bs bad vn N D o w (.returned (.tuple #[])) (w1.setCell ⟨gR, 2, none⟩ (.bool true)) := by
  obtain ⟨h1, h2, -, -⟩ := h.failed
  exact ⟨rfl, b1, true, vn, [], [], by rw [List.append_nil, List.append_nil]; exact h1, Fr2.of_gr (grownBy_trans hg h2), .inl rfl, fun x hx => (by cases hx), by simpa using hl, AfterN.fail ho⟩
set_option maxHeartbeats 6400000 in
set_option maxRecDepth 100000 in
theorem nodeQ_any (wW : World) (B gR : Nat) (bb : Wd) (hWB : wW.heap.size ≤ B) (hBR : B ≤ gR) (hbb : bb.length ≤ 1000000) : ∀ (m d : Nat) (bs : Wd) (bad : Bool) (vn : Value) (N : List NV) (D : List Nd) (w : World), d + m = 21 → D.length + bs.length ≤ 20000 → RK wW B gR bb bs bad vn N D w →
    Calls Tryd.prog 40 #[.pointer (some ⟨gR, 0, none⟩), .int .i64 (d : Int)] w (NodeP wW B gR bb bs bad vn N D (rdNode okT okR m bs D.length) w) := by
  intro m
  induction m with
  | zero =>
    intro d bs bad vn N D w hd hl hst
    have HST := Lib.hid hst
    have HCALL := Lib.hid (nu_any wW B gR bb bs bad vn w hWB hBR hst.bl hbb hst.rr)
    clear hst
    have hd20 : 20 < d := by omega
    have hd20I : (20 : Int) < (d : Int) := by omega
    go_enter Tryd.func40, Tryd.ntmps40
    go_wp2_with fail
    refine HCALL.out.mono ?_
    rintro e w1 ⟨k, b1, bad1, rfl, hk, hr1, hg1, hl1, haf⟩
    have hst1 := HST.out.rest hr1 hg1
    obtain ⟨-, -, c2, f2⟩ := hst1.failed
    have HP := Lib.hid (NodeP.failed (bs := bs) (bad := bad) (o := rdNode okT okR 0 bs D.length) hst1 hg1 hl1 (.inr rfl))
    clear hr1 hg1 hl1 haf hst1 HCALL
    cases bad1 with
    | true =>
      go_wp2
      refine bodyPost_ret (results_none rfl _ _ _) rfl ?_
      exact HP.out
    | false =>
      go_wp2
      refine bodyPost_ret (results_none rfl _ _ _) rfl ?_
      exact HP.out
  | succ m ih =>
    intro d bs bad vn N D w hd hl hst
    have HIH := Lib.hid ih; have HST := Lib.hid hst
    obtain ⟨an, cn, hvn, -, -⟩ := hst.own.form
    subst hvn
    have hd20 : ¬ 20 < d := by omega
    have hd20I : ¬ (20 : Int) < (d : Int) := by omega
    have HCALL := Lib.hid (nu_any wW B gR bb bs bad _ w hWB hBR hst.bl hbb hst.rr)
    have hDl : D.length ≤ 20000 := by omega
    have hNl : N.length ≤ 20000 := by have := hst.len; omega
    have HL0 := Lib.hid hl
    clear ih hst hl
    go_enter Tryd.func40, Tryd.ntmps40
    go_wp2_with fail
    refine HCALL.out.mono ?_
    rintro e w1 ⟨k, b1, bad1, rfl, hk, hr1, hg1, hl1, haf⟩
    have hst1 := HST.out.rest hr1 hg1
    obtain ⟨-, -, c2, f2⟩ := hst1.failed
    have HST1 := Lib.hid hst1; have HG1 := Lib.hid hg1; have HL1 := Lib.hid hl1; have HAF := Lib.hid haf
    clear hr1 hg1 hl1 haf hst1 HCALL
    have hdiv : (k : Int).tdiv 2 = ((k / 2 : Nat) : Int) := Int.ofNat_tdiv k 2
    cases bad1 with
    | true =>
      have HO : Hid (bad = true ∨ rdNode okT okR (m + 1) bs D.length = none) := by
        show _ ∨ _
        rcases (if_pos rfl).mp HAF.out with h | h
        · exact .inl h
        · exact .inr (by rw [rdNode, h])
      have HP := Lib.hid (NodeP.failed (bs := bs) HST1.out HG1.out HL1.out HO.out)
      go_wp2
      refine bodyPost_ret (results_none rfl _ _ _) rfl ?_
      exact HP.out
    | false =>
      obtain ⟨rfl, hq⟩ := (if_neg (by decide)).mp HAF.out
      by_cases h62 : 62 < k / 2
      · have h62I : (62 : Int) < ((k / 2 : Nat) : Int) := by omega
        have HO : Hid (false = true ∨ rdNode okT okR (m + 1) bs D.length = none) := by
          show _ ∨ _
          refine .inr ?_
          rw [rdNode, hq]
          simp only
          rw [if_neg (by unfold okR; simp; omega)]
        have HP := Lib.hid (NodeP.failed (bs := bs) HST1.out HG1.out HL1.out HO.out)
        clear hq
        go_wp2
        refine bodyPost_ret (results_none rfl _ _ _) rfl ?_
        exact HP.out
      · have h62I : ¬ (62 : Int) < ((k / 2 : Nat) : Int) := by omega
        have hb1 := rdNum_len hq
        have HRD : Hid (rdNode okT okR (m + 1) bs D.length = nodeA (decide (k % 2 = 1)) (rdArcs okT (rdNode okT okR m) (k / 2) b1 (D.length + 1))) := by
          show _ = _
          rw [rdNode, hq]
          simp only
          rw [if_pos (show okR k = true by unfold okR; simp; omega)]
          cases rdArcs okT (rdNode okT okR m) (k / 2) b1 (D.length + 1) with
          | none => rfl
          | some p => rfl
        have hl1 : D.length + 1 + b1.length ≤ 20000 := by have := HL0.out; omega
        have hlb : b1.length + 1 ≤ bs.length := by omega
        clear hq hb1 HAF
        obtain ⟨ar1, cr1, p1, hrep1, -⟩ := id HST1.out.rr
        obtain ⟨e0, e1, e2, e3⟩ := cells4 hrep1
        have hgl1 : gR < w1.heap.size := HST1.out.rr.size
        have hmod : (k : Int).tmod 2 = ((k % 2 : Nat) : Int) := Int.ofNat_tmod k 2
        obtain ⟨f, hf⟩ : ∃ f, decide (k % 2 = 1) = f := ⟨_, rfl⟩
        have hfb : (((k % 2 : Nat) : Int) == 1) = f := by
          rw [← hf]
          rcases Nat.mod_two_eq_zero_or_one k with h | h <;> simp [h]
        obtain ⟨kr, hkr⟩ : ∃ kr, k % 2 = kr := ⟨_, rfl⟩
        rw [hkr] at hmod hfb
        obtain ⟨kh, hkh⟩ : ∃ kh, k / 2 = kh := ⟨_, rfl⟩
        rw [hkh] at hdiv HRD h62 h62I
        have hdiv2 : (k : Int) / 2 = (kh : Int) := by omega
        have hkr2 : kr < 2 := by omega
        have hkh2 : kh ≤ 62 := by omega
        rw [hf] at HRD
        clear hf hkr hkh e0 e1 h62
        have hxA : Below w1.heap.size w1 (w1.alloc (.cells #[.bool f, .slice none 0 0] 53)) := (Below.refl _ w1).alloc (Nat.le_refl _) _
        have HXA := Lib.hid hxA
        have H9 := Lib.hid (heap_alloc_new w1 (.cells #[.bool f, .slice none 0 0] 53))
        have HSTA := Lib.hid (HST1.out.go hxA)
        have HBZ := Lib.hid HST1.out.size
        have HFR1 := Lib.hid (Fr2.of_gr (vb := (Value.slice an N.length cn).ownBlock) HG1.out)
        clear hxA hrep1
        go_upto_region 5 with (first | (at_builtin; go_loud (refine wpList_append_g rowNode_ok rfl _ _ rfl rfl HSTA.out.own ⟨w1.heap.size, 0, none⟩ 1 [(⟨f, none, 0, 0⟩ : NV)] rfl (cells_built H9.out) (by simp only [List.length_singleton]; omega) (by have := HBZ.out; simp only [World.size_alloc]; omega) ?_); intro v2 w2 hown2 hg2 hat2; have HO2 := Lib.hid hown2; have HG2 := Lib.hid hg2; have HAT2 := Lib.hid hat2; obtain ⟨ar2, cr2, p2, hrep2, -⟩ := id HSTA.out.rr; have hrep2' : w2.heap[gR]? = some (.cells #[.slice ar2 bb.length cr2, .int .i64 (p2 : Int), .bool false, .slice an N.length cn] 87 (0, 0)) := (hg2.block _ (by simp only [World.size_alloc]; omega) (fun e => HSTA.out.own_ne gR e.symm rfl)).trans hrep2; obtain ⟨g0, g1, g2, g3⟩ := cells4 hrep2'; have fz2 : w2.frozen? ⟨gR, 3, none⟩ = false := (by simp [World.frozen?, hrep2']); obtain ⟨a2, c2', hv2, -, -⟩ := hown2.form; subst hv2; clear hown2 hg2 hat2 hrep2 hrep2' g0 g1 g2))
        have hnd := HST1.out.node (w1 := w2) (f := f) (v1 := .slice a2 (N ++ [(⟨f, none, 0, 0⟩ : NV)]).length c2') HO2.out (GrowV.pre (v1 := .slice a2 (N ++ [(⟨f, none, 0, 0⟩ : NV)]).length c2') HXA.out ⟨HG2.out, by
          rcases HAT2.out with h | h
          · exact .inl h
          · exact .inr fun q hq => by rw [h] at hq; injection hq with hq; rw [← hq]; exact Nat.le_refl _⟩).gr
        have hnr : NewRow (Value.slice an N.length cn).ownBlock (Value.slice a2 (N ++ [(⟨f, none, 0, 0⟩ : NV)]).length c2').ownBlock w.heap.size := by
          rcases HAT2.out with h | h
          · exact .inl h
          · exact .inr fun q hq => by rw [h] at hq; injection hq with hq; rw [← hq]; have := HFR1.out.size; simp only [World.size_alloc]; omega
        have hfr2 : Fr2 gR (Value.slice an N.length cn).ownBlock w (w2.setCell ⟨gR, 3, none⟩ (.slice a2 (N ++ [(⟨f, none, 0, 0⟩ : NV)]).length c2')) := by
          refine ⟨by rw [World.size_setCell]; have h1 := HG2.out.size; have h2 := HFR1.out.size; simp only [World.size_alloc] at h1; omega, fun q hq h3 h4 => ?_⟩
          rw [Below.heap_setCell _ _ _ _ h3]
          have h2 := HFR1.out.size
          exact ((HG2.out.block q (by simp only [World.size_alloc]; omega) h4).trans (HXA.out.block q (by omega))).trans (HFR1.out.block q hq h3 h4)
        have hlenN : (N ++ [(⟨f, none, 0, 0⟩ : NV)]).length = N.length + 1 := by simp
        rw [hlenN] at hnd hnr hfr2
        obtain ⟨w3, hw3⟩ : ∃ w3, w2.setCell ⟨gR, 3, none⟩ (.slice a2 (N.length + 1) c2') = w3 := ⟨_, rfl⟩
        rw [hw3] at hnd hfr2 ⊢
        have hli : LR wW w B gR bb (Value.slice an N.length cn).ownBlock N D f b1 false (.slice a2 (N.length + 1) c2') ⟨f, none, 0, 0⟩ [] [] [] w3 :=
          ⟨hnd, fun q e => (by cases e), fun x hx => (by cases hx), hfr2, hnr, HST.out.size, HST.out.len⟩
        have HLI := Lib.hid hli
        clear hli hnd hnr hfr2 hlenN hw3 HO2 HG2 HAT2 HSTA HXA H9 HST1 HFR1 HBZ g3 fz2 e2 e3 hgl1 hmod hfb hkr2 HG1 HL1 c2 f2
        go_wp2
        go_loopw [6] (fun q wr => ∃ (j : Nat) (bj : Wd) (bd : Bool) (vn : Value) (x : NV) (X : List Ar) (E : List NV) (nw : List Nd), j ≤ kh ∧ q = .int .i64 (j : Int) ∧ LR wW w B gR bb (Value.slice an N.length cn).ownBlock N D f bj bd vn x X E nw wr ∧ nw.length + bj.length ≤ b1.length ∧ X.length ≤ j ∧
          ArcI (rdNode okT okR m) kh (D.length + 1) b1 j bj bd X nw) (fun q _ => kh - (intOf q).toNat)
        case atStart => exact ⟨0, b1, false, _, _, [], [], [], Nat.zero_le _, rfl, HLI.out, by simp, by simp, (if_neg (by decide)).mpr (accA_nil _).symm⟩
        case round =>
          clear HLI
          obtain ⟨j, bj, bd, vn, x, X, E, nw, hj, rfl, hli, hlj, hxj, hai⟩ := hrel
          have HLI := Lib.hid hli; have HAI := Lib.hid hai
          obtain ⟨-, -, c2, f2⟩ := hli.rk.failed
          clear hli hai
          by_cases hex : bd = true ∨ kh ≤ j
          · have HFIN : Hid (NodeP wW B gR bb bs false (.slice an N.length cn) N D (rdNode okT okR (m + 1) bs D.length) w (.returned (.tuple #[])) wr) := by
              refine ⟨rfl, bj, bd, vn, x :: E, ⟨f, X⟩ :: nw, HLI.out.rk, HLI.out.fr, HLI.out.nr, fun y hy q hq => ?_, by rw [List.length_cons]; omega, ?_⟩
              · rcases List.mem_cons.1 hy with rfl | hy
                · exact HLI.out.me q hq
                · exact HLI.out.ex y hy q hq
              · rw [HRD.out]
                exact arcI_end HAI.out hex
            by_cases hlt : j < kh
            · obtain rfl : bd = true := by rcases hex with h | h; exact h; omega
              go_wp2
              refine bodyPost_end (results_none rfl _ _ _) rfl ?_
              exact HFIN.out
            · go_wp2
              refine bodyPost_end (results_none rfl _ _ _) rfl ?_
              exact HFIN.out
          · obtain rfl : bd = false := by cases bd with | true => exact absurd (.inl rfl) hex | false => rfl
            have hlt : j < kh := by rcases Nat.lt_or_ge j kh with h | h; exact h; exact absurd (.inr h) hex
            obtain ⟨xf, xa, xn, xc⟩ := x
            have HOC := Lib.hid (octet_any wW B gR bb bj false vn wr hWB hBR HLI.out.rk.bl hbb HLI.out.rk.rr)
            clear hex
            go_wp2_with fail
            refine HOC.out.mono ?_
            rintro e w4 hp
            obtain ⟨c, r, b2, rfl, hc, hr4, hg4, hl4, hoc⟩ := octP_form hp
            have HLI4 := Lib.hid (HLI.out.rest hr4 hg4)
            have HOCC := Lib.hid hoc
            have hwc : IntKind.u8.wrap (c : Int) = (c : Int) := IntWalk.u8_in _ (by omega)
            clear hp hr4 hg4 hoc HOC c2 f2 HLI
            go_upto_region 9 with fail
            have hxB : Below w4.heap.size w4 (w4.alloc (.cells #[.int .u8 (c : Int), .int .i64 0] 56)) := (Below.refl _ w4).alloc (Nat.le_refl _) _
            have hli5 := HLI4.out.go hxB
            have hbx5 := heap_alloc_new w4 (.cells #[.int .u8 (c : Int), .int .i64 0] 56)
            have hlt4 := HLI4.out.rk.lt
            have hwg := HLI4.out.fr.size
            obtain ⟨w5, hw5⟩ : ∃ w5, w4.alloc (.cells #[.int .u8 (c : Int), .int .i64 0] 56) = w5 := ⟨_, rfl⟩
            obtain ⟨gb, hgb⟩ : ∃ gb, w4.heap.size = gb := ⟨_, rfl⟩
            rw [hw5, hgb] at hbx5
            rw [hw5] at hli5
            rw [hw5, hgb]
            rw [hgb] at hlt4 hwg
            have HLI5 := Lib.hid hli5; have HBX5 := Lib.hid hbx5; have HLT := Lib.hid hlt4
            have HNU := Lib.hid (nu_any wW B gR bb r b2 vn w5 hWB hBR hli5.rk.bl hbb hli5.rk.rr)
            clear hxB hli5 hbx5 hlt4 hw5 hgb HLI4
            go_wp2_with fail
            refine HNU.out.mono ?_
            rintro e w6 ⟨t, b3, bad3, rfl, ht, hr6, hg6, hl6, haf6⟩
            have hli6 := HLI5.out.rest hr6 hg6
            have hgbR : gb ≠ gR := HLI5.out.rk.rr.ne HBX5.out (by decide)
            have hbx6 : w6.heap[gb]? = some (.cells #[.int .u8 (c : Int), .int .i64 0] 56) := (hg6.block gb (Array.getElem?_eq_some_iff.1 HBX5.out).1 (fun e => hgbR (by injection e))).trans HBX5.out
            have HAF6 := Lib.hid haf6
            have hne6 : some gb ≠ vn.ownBlock := fun e => by
              obtain ⟨c2, h2⟩ := hli6.rk.own.obj e.symm
              exact cells_ne hbx6 h2 (by decide) rfl
            have hli7 := hli6.set (g := gb) (i := 1) (u := .int .i64 ((t : Int) - 1)) hgbR hne6 (fun y hy e => by have := HLT.out y hy gb e; omega) hwg
            have hbx7 : (w6.setCell ⟨gb, 1, none⟩ (.int .i64 ((t : Int) - 1))).heap[gb]? = some (.cells #[.int .u8 (c : Int), .int .i64 ((t : Int) - 1)] 56) := set_one hbx6 rfl
            have fz6 : w6.frozen? ⟨gb, 1, none⟩ = false := by simp [World.frozen?, hbx6]
            obtain ⟨y0, y1⟩ := cells2 hbx6
            have hwt : IntKind.i64.wrap ((t : Int) - 1) = (t : Int) - 1 := IntWalk.i64_in _ (by omega)
            have HLI7 := Lib.hid hli7; have HBX7 := Lib.hid hbx7
            clear hr6 hg6 haf6 hli6 hbx6 hne6 hli7 hbx7 HLI5 HBX5 HNU
            go_upto_region 11 with fail
            clear fz6 y0 y1 hwt
            obtain ⟨w7, hw7⟩ : ∃ w7, w6.setCell ⟨gb, 1, none⟩ (.int .i64 ((t : Int) - 1)) = w7 := ⟨_, rfl⟩
            rw [hw7] at HLI7 HBX7 ⊢
            clear hw7
            by_cases ht0 : t = 0
            · have htb : ((t : Int) == 0) = true := by simp [ht0]
              have HT0 := Lib.hid ht0
              obtain ⟨gn7, cn7, cs7, hvn7, hob7, -, hln7⟩ := HLI7.out.cells
              obtain ⟨nd, hnd⟩ : ∃ nd, D.length + 1 + nw.length = nd := ⟨_, rfl⟩
              have HND := Lib.hid hnd
              rw [hnd] at hvn7 hln7
              subst hvn7
              have hnd5 : nd ≤ 20000 := by omega
              obtain ⟨ar7, cr7, p7, hrep7, -⟩ := id HLI7.out.rk.rr
              obtain ⟨k0, k1, k2, k3⟩ := cells4 hrep7
              obtain ⟨y0, y1⟩ := cells2 HBX7.out
              have fz7 : w7.frozen? ⟨gb, 1, none⟩ = false := by simp [World.frozen?, HBX7.out]
              have hne7 : some gb ≠ (Value.slice (some ⟨gn7, 0, none⟩) nd cn7).ownBlock := fun e => by
                obtain ⟨c2, h2⟩ := HLI7.out.rk.own.obj e.symm
                exact cells_ne HBX7.out h2 (by decide) rfl
              have hli8 := HLI7.out.set (g := gb) (i := 1) (u := .int .i64 (nd : Int)) hgbR hne7 (fun y hy e => by have := HLT.out y hy gb e; omega) hwg
              have hbx8 : (w7.setCell ⟨gb, 1, none⟩ (.int .i64 (nd : Int))).heap[gb]? = some (.cells #[.int .u8 (c : Int), .int .i64 (nd : Int)] 56) := set_one HBX7.out rfl
              have HLI8 := Lib.hid hli8; have HBX8 := Lib.hid hbx8
              have HNE7 := Lib.hid hne7
              clear ht0 hnd hob7 hrep7 k0 k1 k2 y0 hli8 hbx8 hne7 HLI7
              go_upto_region 13 with fail
              clear k3 y1 fz7 htb
              obtain ⟨w8, hw8⟩ : ∃ w8, w7.setCell ⟨gb, 1, none⟩ (.int .i64 (nd : Int)) = w8 := ⟨_, rfl⟩
              rw [hw8] at HLI8 HBX8 ⊢
              have hgb8 : gb < w8.heap.size := heap_lt' HBX8.out
              have hnl : (D ++ (⟨f, X⟩ : Nd) :: nw).length = nd := by have := HND.out; simp; omega
              have hcall := HIH.out (d + 1) b3 bad3 _ _ _ w8 (by omega) (by rw [hnl]; have := HND.out; omega) HLI8.out.rk
              rw [hnl] at hcall
              obtain ⟨d1, hd1⟩ : ∃ d1, d + 1 = d1 := ⟨_, rfl⟩
              have hwd : IntKind.i64.wrap ((d : Int) + 1) = (d1 : Int) := by rw [IntWalk.i64_in _ (by omega)]; omega
              rw [hd1] at hcall
              have HCALL := Lib.hid hcall
              clear hcall hd1 hw8
              go_wp2_with fail
              refine HCALL.out.mono ?_
              rintro e w9 ⟨rfl, r9, bad9, vn9, E9, nw9, hrk9, hfr9, hnr9, hex9, hl9, haf9⟩
              have HLIX := Lib.hid (HLI8.out.called hrk9 hfr9 hnr9 hex9)
              have HBXX : Hid (w9.heap[gb]? = some (.cells #[.int .u8 (c : Int), .int .i64 (nd : Int)] 56)) := (hfr9.block gb hgb8 hgbR HNE7.out).trans HBX8.out
              have HAX : Hid (ArcI (rdNode okT okR m) kh (D.length + 1) b1 (j + 1) r9 bad9 (X ++ [⟨(c : Int), (nd : Int)⟩]) (nw ++ nw9)) := by
                have h6 := HAF6.out
                rw [HT0.out] at h6
                exact arcI_new HAI.out hlt HOCC.out h6 HND.out.symm haf9
              clear hrk9 hfr9 hnr9 hex9 haf9 HCALL HLI8 HBX8 HNE7 hwd hgb8 hnl
              obtain ⟨gn, cn8, cs8, hvn8, hob8, hcl8, hln8⟩ := HLIX.out.cells
              obtain ⟨nd8, hnd8⟩ : ∃ n, D.length + 1 + (nw ++ nw9).length = n := ⟨_, rfl⟩
              rw [hnd8] at hvn8 hln8
              subst hvn8
              obtain ⟨hrow8, hxn8⟩ := HLIX.out.row
              have hxn9 : xn = X.length := hxn8
              have hNl8 : N.length < nd8 := by rw [← hln8]; simp
              have hidx8 := idx_nodes (some ⟨gn, 0, none⟩) gn 0 nd8 cn8 N.length rfl hNl8
              rw [Nat.zero_add] at hidx8
              obtain ⟨ar8, cr8, p8, hrep8, -⟩ := id HLIX.out.rk.rr
              have hgn8 : gn < w9.heap.size := heap_lt' hob8
              have hgb8 : gb < w9.heap.size := heap_lt' HBXX.out
              have hgR8 : gR < w9.heap.size := heap_lt' hrep8
              have hrg : some gn ≠ (Value.slice xa xn xc).ownBlock := fun e => by
                obtain ⟨c2, h2⟩ := OwnG.obj hrow8 e.symm
                exact cells_ne hob8 h2 (by decide) rfl
              have hrR : some gR ≠ (Value.slice xa xn xc).ownBlock := fun e => (HLIX.out.rk.arc_ne hrow8 gR e.symm).1 rfl
              have HOB8 := Lib.hid hob8; have HCL8 := Lib.hid hcl8; have HRW8 := Lib.hid hrow8; have HRP8 := Lib.hid hrep8; have HLN8 := Lib.hid hln8
              have hszB := HLIX.out.rk.size
              clear hob8 hcl8 hrow8 hrep8 hxn8 hln8
              subst hxn9
              go_upto_region 14 with fail
              refine wp_region_st (by kernel_rfl) (Vs [fun v _ => v = .pointer (some ⟨gR, 0, none⟩), fun v _ => v = .pointer (some ⟨gR, 0, none⟩), fun v _ => v = .pointer (some ⟨gR, 3, none⟩), fun v _ => v = .slice (some ⟨gn, 0, none⟩) nd8 cn8, fun v _ => v = .int .i64 (N.length : Int), fun v _ => v = .pointer (some ⟨gR, 0, none⟩), fun v _ => v = .pointer (some ⟨gR, 0, none⟩), fun v _ => v = .pointer (some ⟨gR, 3, none⟩), fun v _ => v = .slice (some ⟨gn, 0, none⟩) nd8 cn8, fun v _ => v = .int .i64 (N.length : Int), fun v _ => v = .pointer (some ⟨gn, N.length * 2, none⟩), fun v _ => v = .pointer (some ⟨gn, N.length * 2 + 1, none⟩), fun v _ => v = .slice xa X.length xc, fun v _ => v = .agg #[.int .u8 (c : Int), .int .i64 (nd : Int)], RowArc1 (.slice xa X.length xc) ⟨(c : Int), (nd : Int)⟩, NewA B w9.heap.size (Value.slice xa X.length xc).ownBlock (X ++ [(⟨(c : Int), (nd : Int)⟩ : Ar)]), fun v _ => v = .pointer (some ⟨gn, N.length * 2, none⟩), fun v _ => v = .pointer (some ⟨gn, N.length * 2 + 1, none⟩)]) (Xs [Ext, Ext, Ext, Ext, Ext, Ext, Ext, Ext, Ext, Ext, Ext, Ext, Ext, Ext, Ext, (fun w w' => w.grownBy w' (Value.slice xa X.length xc).ownBlock), Ext, Ext]) (fun fL => (fun b1 W => MR w9 (Value.slice xa X.length xc).ownBlock b1 W) (fL 15)) [0, 1, 3, 7, 0, 0, 32, 96, 224, 0, 992, 2016, 4064, 0, 8192, 32736, 31, 65567] 97 18 (by kernel_rfl) rfl ?hV ?hS ?hop ?hfin ?hlast
              case hV =>
                refine xs_stays (vs_stays (by simp only [List.mem_cons, List.not_mem_nil, or_false, forall_eq_or_imp, forall_eq]; exact ⟨stays_const _, stays_const _, stays_const _, stays_const _, stays_const _, stays_const _, stays_const _, stays_const _, stays_const _, stays_const _, stays_const _, stays_const _, stays_const _, stays_const _, rowArc1_stays _ _, newA_stays _ _ _ _, stays_const _, stays_const _⟩)) ?_
                exact ⟨.inl rfl, .inl rfl, .inl rfl, .inl rfl, .inl rfl, .inl rfl, .inl rfl, .inl rfl, .inl rfl, .inl rfl, .inl rfl, .inl rfl, .inl rfl, .inl rfl, .inl rfl, .inr (staysM_all ⟨fun _ _ => fun _ _ _ h _ => h, fun _ _ => fun _ _ _ h _ => h, fun _ _ => fun _ _ _ h _ => h, fun _ _ => fun _ _ _ h _ => h, fun _ _ => fun _ _ _ h _ => h, fun _ _ => fun _ _ _ h _ => h, fun _ _ => fun _ _ _ h _ => h, fun _ _ => fun _ _ _ h _ => h, fun _ _ => fun _ _ _ h _ => h, fun _ _ => fun _ _ _ h _ => h, fun _ _ => fun _ _ _ h _ => h, fun _ _ => fun _ _ _ h _ => h, fun _ _ => fun _ _ _ h _ => h, fun _ _ => fun _ _ _ h _ => h, fun _ _ => rowArc1_grown _ _, fun h => absurd rfl h, fun _ _ => fun _ _ _ h _ => h, fun _ _ => fun _ _ _ h _ => h, trivial⟩), .inl rfl, .inl rfl, trivial⟩
              case hS =>
                intro fL hf
                show (fun b1 W => MR w9 (Value.slice xa X.length xc).ownBlock b1 W) (fL 15) _
                rw [hf 15 (by decide)]
                exact MR.ext false _ _ (show MR w9 (Value.slice xa X.length xc).ownBlock false w9 from Ext.refl _) ⟨rfl, rfl, rfl, Nat.le_refl _, fun _ _ => rfl⟩
              case hop =>
                refine ⟨?_, ?_, ?_, ?c3, ?_, ?_, ?_, ?_, ?c8, ?_, ?_, ?_, ?c12, ?c13, ?c14, ?c15, ?_, ?_, ?_, trivial⟩
                all_goals first | rw [if_neg (by decide)] | rw [if_pos (by decide)]
                all_goals try exact True.intro
                all_goals try intro ac W fL hsz hfi hms hdn hS0 hdep hbase hund
                all_goals try have hS : (fun b1 W => MR w9 (Value.slice xa X.length xc).ownBlock b1 W) (fL 15) W := hS0
                all_goals try (have hfl15 : fL 15 = true := hms 15 (by decide); rw [hfl15] at hS)
                all_goals try (have hfl15 : fL 15 = false := (by first | exact hfi | exact hdn 15 (by decide) (by decide)); rw [hfl15] at hS)
                all_goals try (have h0 : ac.tmps.getD 0 undef = .pointer (some ⟨gR, 0, none⟩) := hbase 0 (by kernel_rfl); have hh0 := h0; rw [Array.getD_eq_getD_getElem?] at hh0)
                all_goals try (have h5 : ac.tmps.getD 5 undef = .int .i64 (N.length : Int) := hbase 5 (by kernel_rfl); have hh5 := h5; rw [Array.getD_eq_getD_getElem?] at hh5)
                all_goals try (have h7 : ac.tmps.getD 7 undef = .pointer (some ⟨gb, 0, none⟩) := hbase 7 (by kernel_rfl); have hh7 := h7; rw [Array.getD_eq_getD_getElem?] at hh7)
                all_goals try (have d79 : ac.tmps.getD 79 undef = .pointer (some ⟨gR, 0, none⟩) := hdep 0 (by decide); have dd79 := d79; rw [Array.getD_eq_getD_getElem?] at dd79)
                all_goals try (have d80 : ac.tmps.getD 80 undef = .pointer (some ⟨gR, 0, none⟩) := hdep 1 (by decide); have dd80 := d80; rw [Array.getD_eq_getD_getElem?] at dd80)
                all_goals try (have d81 : ac.tmps.getD 81 undef = .pointer (some ⟨gR, 3, none⟩) := hdep 2 (by decide); have dd81 := d81; rw [Array.getD_eq_getD_getElem?] at dd81)
                all_goals try (have d82 : ac.tmps.getD 82 undef = .slice (some ⟨gn, 0, none⟩) nd8 cn8 := hdep 3 (by decide); have dd82 := d82; rw [Array.getD_eq_getD_getElem?] at dd82)
                all_goals try (have d83 : ac.tmps.getD 83 undef = .int .i64 (N.length : Int) := hdep 4 (by decide); have dd83 := d83; rw [Array.getD_eq_getD_getElem?] at dd83)
                all_goals try (have d84 : ac.tmps.getD 84 undef = .pointer (some ⟨gR, 0, none⟩) := hdep 5 (by decide); have dd84 := d84; rw [Array.getD_eq_getD_getElem?] at dd84)
                all_goals try (have d85 : ac.tmps.getD 85 undef = .pointer (some ⟨gR, 0, none⟩) := hdep 6 (by decide); have dd85 := d85; rw [Array.getD_eq_getD_getElem?] at dd85)
                all_goals try (have d86 : ac.tmps.getD 86 undef = .pointer (some ⟨gR, 3, none⟩) := hdep 7 (by decide); have dd86 := d86; rw [Array.getD_eq_getD_getElem?] at dd86)
                all_goals try (have d87 : ac.tmps.getD 87 undef = .slice (some ⟨gn, 0, none⟩) nd8 cn8 := hdep 8 (by decide); have dd87 := d87; rw [Array.getD_eq_getD_getElem?] at dd87)
                all_goals try (have d88 : ac.tmps.getD 88 undef = .int .i64 (N.length : Int) := hdep 9 (by decide); have dd88 := d88; rw [Array.getD_eq_getD_getElem?] at dd88)
                all_goals try (have d89 : ac.tmps.getD 89 undef = .pointer (some ⟨gn, N.length * 2, none⟩) := hdep 10 (by decide); have dd89 := d89; rw [Array.getD_eq_getD_getElem?] at dd89)
                all_goals try (have d90 : ac.tmps.getD 90 undef = .pointer (some ⟨gn, N.length * 2 + 1, none⟩) := hdep 11 (by decide); have dd90 := d90; rw [Array.getD_eq_getD_getElem?] at dd90)
                all_goals try (have d91 : ac.tmps.getD 91 undef = .slice xa X.length xc := hdep 12 (by decide); have dd91 := d91; rw [Array.getD_eq_getD_getElem?] at dd91)
                all_goals try (have d92 : ac.tmps.getD 92 undef = .agg #[.int .u8 (c : Int), .int .i64 (nd : Int)] := hdep 13 (by decide); have dd92 := d92; rw [Array.getD_eq_getD_getElem?] at dd92)
                all_goals try have d93 : (RowArc1 (.slice xa X.length xc) ⟨(c : Int), (nd : Int)⟩) (ac.tmps.getD 93 undef) W := hdep 14 (by decide)
                all_goals try (have d95 : ac.tmps.getD 95 undef = .pointer (some ⟨gn, N.length * 2, none⟩) := hdep 16 (by decide); have dd95 := d95; rw [Array.getD_eq_getD_getElem?] at dd95)
                all_goals try clear hbase hdep hms hdn hund
                case c3 =>
                  have hS1 : (fun b1 W => MR w9 (Value.slice xa X.length xc).ownBlock b1 W) ((upd fL 3) 15) W := hS0
                  have k3 := (cell_of_heap (i := 3) (MR.block hgR8 hrR _ hS0)).trans (cells4 HRP8.out).2.2.2
                  refine opOk_run rfl (.inl ⟨_, W, ?_, rfl, Ext.refl _, hS1⟩)
                  clear hsz hS hS0 hS1 hfi; simp [go_sem, Act.eval, *]
                case c8 =>
                  have hS1 : (fun b1 W => MR w9 (Value.slice xa X.length xc).ownBlock b1 W) ((upd fL 8) 15) W := hS0
                  have hx : Ext w9 W := hS
                  have k3 := (cell_of_heap (i := 3) (Below.block hx gR hgR8)).trans (cells4 HRP8.out).2.2.2
                  refine opOk_run rfl (.inl ⟨_, W, ?_, rfl, Ext.refl _, hS1⟩)
                  clear hsz hS hS0 hS1 hfi hx; simp [go_sem, Act.eval, *]
                case c12 =>
                  have hS1 : (fun b1 W => MR w9 (Value.slice xa X.length xc).ownBlock b1 W) ((upd fL 12) 15) W := hS0
                  have hx : Ext w9 W := hS
                  have k3 := (cell_of_heap (i := N.length * 2 + 1) (Below.block hx gn hgn8)).trans HCL8.out
                  refine opOk_run rfl (.inl ⟨_, W, ?_, rfl, Ext.refl _, hS1⟩)
                  clear hsz hS hS0 hS1 hfi hx; simp [go_sem, Act.eval, *]
                case c13 =>
                  have hS1 : (fun b1 W => MR w9 (Value.slice xa X.length xc).ownBlock b1 W) ((upd fL 13) 15) W := hS0
                  have hx : Ext w9 W := hS
                  obtain ⟨m0, m1⟩ := cells2 ((Below.block hx gb hgb8).trans HBXX.out)
                  refine opOk_run rfl (.inl ⟨_, W, ?_, rfl, Ext.refl _, hS1⟩)
                  clear hsz hS hS0 hS1 hfi hx; simp [go_sem, Act.eval, *]
                case c14 =>
                  have hS1 : (fun b1 W => MR w9 (Value.slice xa X.length xc).ownBlock b1 W) ((upd fL 14) 15) W := hS0
                  have hx : Ext w9 W := hS
                  have hlt93 : (Value.slice xa X.length xc).ownBlock ≠ some W.heap.size := fun e => by
                    have h1 := OwnG.lt HRW8.out _ e
                    have h2 := hx.size
                    omega
                  have hx5 : Ext W (W.alloc (.cells #[.int .u8 (c : Int), .int .i64 (nd : Int)] 56)) := (Below.refl _ _).alloc (Nat.le_refl _) _
                  refine opOk_run rfl (.inl ⟨.slice (some ⟨W.heap.size, 0, none⟩) 1 1, W.alloc (.cells #[.int .u8 (c : Int), .int .i64 (nd : Int)] 56), ?_, ⟨_, rfl, heap_alloc_new _ _, hlt93⟩, hx5, (show (fun b1 W => MR w9 (Value.slice xa X.length xc).ownBlock b1 W) ((upd fL 14) 15) _ by
                    rw [show upd fL 14 15 = fL 15 from if_neg (by decide)]
                    exact MR.ext _ _ _ hS0 hx5)⟩)
                  clear hsz hS hS0 hS1 hfi hx hx5 hlt93; simp [go_sem, Act.eval, *]
                case c15 =>
                  have hx : Ext w9 W := hS
                  obtain ⟨g93, e93, hg93, hn93⟩ := d93
                  refine opOk_run rfl ((opres_append_g rowArc_ok (.tmp 91) (.tmp 93) rfl (eval_tmp d91) (OwnG.later HRW8.out hx (Nat.le_refl _)) ⟨g93, 0, none⟩ 1 [⟨(c : Int), (nd : Int)⟩] (eval_tmp e93) (cells_built hg93) (by simp only [List.length_singleton]; omega) (Nat.le_trans hszB hx.size)).mono ?_)
                  rintro va w' ⟨ho, hgr, hat⟩
                  refine ⟨⟨ho, ?_⟩, hgr, ?_⟩
                  · rcases hat with h | h
                    · exact .inl h
                    · exact .inr fun q hq => by rw [h] at hq; injection hq with hq; have := hx.size; omega
                  show MR w9 (Value.slice xa X.length xc).ownBlock (upd fL 15 15) w'
                  rw [show upd fL 15 15 = true from if_pos rfl]
                  exact ⟨W, hx, hgr⟩
                all_goals (refine opOk_run rfl (.inl ⟨_, W, ?_, rfl, Ext.refl _, hS0⟩); clear hsz hS hS0 hfi; simp [go_sem, Act.eval, *]; done)
              case hfin =>
                intro h; exact absurd h (by decide)
              case hlast =>
                intro _ ac W hsz hdf fL hf hS0 hv hbase
                have hS : (fun b1 W => MR w9 (Value.slice xa X.length xc).ownBlock b1 W) (fL 15) W := hS0
                clear hS0
                rw [hf 15 (by decide)] at hS
                have hst : ac.tmps.getD 96 undef = .pointer (some ⟨gn, N.length * 2 + 1, none⟩) := hv 17 (by decide)
                have hnv : NewA B w9.heap.size (Value.slice xa X.length xc).ownBlock (X ++ [(⟨(c : Int), (nd : Int)⟩ : Ar)]) (ac.tmps.getD 94 undef) W := hv 15 (by decide)
                have hgw : w9.grownBy W (Value.slice xa X.length xc).ownBlock := MR.grown hS
                obtain ⟨hn1, hn2⟩ := hnv
                obtain ⟨xq, xk, hxq, -, -⟩ := OwnG.form hn1
                rw [hxq] at hn1 hn2
                have hob9 := (hgw.block gn hgn8 hrg).trans HOB8.out
                have hcl9 := (cell_of_heap (i := N.length * 2 + 1) (hgw.block gn hgn8 hrg)).trans HCL8.out
                refine wpOp_store rfl rfl rfl rfl (eval_tmp hst) (eval_tmp hxq) (by simp [World.frozen?, hob9]) hcl9 (by kernel_rfl) ?_
                have hlr9 := HLIX.out.arc rfl HLN8.out.symm hn1 hgw hn2
                obtain ⟨w9', hw9'⟩ : ∃ w9', W.setCell ⟨gn, N.length * 2 + 1, none⟩ (.slice xq (X ++ [(⟨(c : Int), (nd : Int)⟩ : Ar)]).length xk) = w9' := ⟨_, rfl⟩
                rw [hw9'] at hlr9 ⊢
                have HLR9 := Lib.hid hlr9
                clear hS hst hn1 hn2 hgw hob9 hcl9 hlr9 hw9' hxq
                obtain ⟨sx, hsx, hsA⟩ := act_puts [79, 80, 81, 82, 83, 84, 85, 86, 87, 88, 89, 90, 91, 92, 93, 94, 95, 96] (by kernel_rfl) hsz hdf hbase
                rw [hsA]
                simp only [List.foldl]
                simp only [Act.put, List.setIfInBounds_toArray, List.set_cons_succ, List.set_cons_zero]
                clear hsA hsx hv hbase hsz hdf hf
                go_wp2_with fail
                go_roundw
                case rel => exact ⟨j + 1, r9, bad9, _, _, X ++ [⟨(c : Int), (nd : Int)⟩], E ++ E9, nw ++ nw9, by omega, by go_num, HLR9.out, by simp only [List.length_append]; omega, by simp only [List.length_append, List.length_singleton]; omega, HAX.out⟩
                case measure => simp [intOf]; omega
            · have htb : ((t : Int) == 0) = false := by simp; omega
              have HAX := Lib.hid (arcI_old HAI.out hlt HOCC.out HAF6.out ht0)
              clear ht0
              obtain ⟨gn, cn8, cs8, hvn8, hob8, hcl8, hln8⟩ := HLI7.out.cells
              obtain ⟨nd8, hnd8⟩ : ∃ n, D.length + 1 + (nw).length = n := ⟨_, rfl⟩
              rw [hnd8] at hvn8 hln8
              subst hvn8
              obtain ⟨hrow8, hxn8⟩ := HLI7.out.row
              have hxn9 : xn = X.length := hxn8
              have hNl8 : N.length < nd8 := by rw [← hln8]; simp
              have hidx8 := idx_nodes (some ⟨gn, 0, none⟩) gn 0 nd8 cn8 N.length rfl hNl8
              rw [Nat.zero_add] at hidx8
              obtain ⟨ar8, cr8, p8, hrep8, -⟩ := id HLI7.out.rk.rr
              have hgn8 : gn < w7.heap.size := heap_lt' hob8
              have hgb8 : gb < w7.heap.size := heap_lt' HBX7.out
              have hgR8 : gR < w7.heap.size := heap_lt' hrep8
              have hrg : some gn ≠ (Value.slice xa xn xc).ownBlock := fun e => by
                obtain ⟨c2, h2⟩ := OwnG.obj hrow8 e.symm
                exact cells_ne hob8 h2 (by decide) rfl
              have hrR : some gR ≠ (Value.slice xa xn xc).ownBlock := fun e => (HLI7.out.rk.arc_ne hrow8 gR e.symm).1 rfl
              have HOB8 := Lib.hid hob8; have HCL8 := Lib.hid hcl8; have HRW8 := Lib.hid hrow8; have HRP8 := Lib.hid hrep8; have HLN8 := Lib.hid hln8
              have hszB := HLI7.out.rk.size
              clear hob8 hcl8 hrow8 hrep8 hxn8 hln8
              subst hxn9
              go_upto_region 14 with fail
              refine wp_region_st (by kernel_rfl) (Vs [fun v _ => v = .pointer (some ⟨gR, 0, none⟩), fun v _ => v = .pointer (some ⟨gR, 0, none⟩), fun v _ => v = .pointer (some ⟨gR, 3, none⟩), fun v _ => v = .slice (some ⟨gn, 0, none⟩) nd8 cn8, fun v _ => v = .int .i64 (N.length : Int), fun v _ => v = .pointer (some ⟨gR, 0, none⟩), fun v _ => v = .pointer (some ⟨gR, 0, none⟩), fun v _ => v = .pointer (some ⟨gR, 3, none⟩), fun v _ => v = .slice (some ⟨gn, 0, none⟩) nd8 cn8, fun v _ => v = .int .i64 (N.length : Int), fun v _ => v = .pointer (some ⟨gn, N.length * 2, none⟩), fun v _ => v = .pointer (some ⟨gn, N.length * 2 + 1, none⟩), fun v _ => v = .slice xa X.length xc, fun v _ => v = .agg #[.int .u8 (c : Int), .int .i64 ((t : Int) - 1)], RowArc1 (.slice xa X.length xc) ⟨(c : Int), ((t : Int) - 1)⟩, NewA B w7.heap.size (Value.slice xa X.length xc).ownBlock (X ++ [(⟨(c : Int), ((t : Int) - 1)⟩ : Ar)]), fun v _ => v = .pointer (some ⟨gn, N.length * 2, none⟩), fun v _ => v = .pointer (some ⟨gn, N.length * 2 + 1, none⟩)]) (Xs [Ext, Ext, Ext, Ext, Ext, Ext, Ext, Ext, Ext, Ext, Ext, Ext, Ext, Ext, Ext, (fun w w' => w.grownBy w' (Value.slice xa X.length xc).ownBlock), Ext, Ext]) (fun fL => (fun b1 W => MR w7 (Value.slice xa X.length xc).ownBlock b1 W) (fL 15)) [0, 1, 3, 7, 0, 0, 32, 96, 224, 0, 992, 2016, 4064, 0, 8192, 32736, 31, 65567] 97 18 (by kernel_rfl) rfl ?hV ?hS ?hop ?hfin ?hlast
              case hV =>
                refine xs_stays (vs_stays (by simp only [List.mem_cons, List.not_mem_nil, or_false, forall_eq_or_imp, forall_eq]; exact ⟨stays_const _, stays_const _, stays_const _, stays_const _, stays_const _, stays_const _, stays_const _, stays_const _, stays_const _, stays_const _, stays_const _, stays_const _, stays_const _, stays_const _, rowArc1_stays _ _, newA_stays _ _ _ _, stays_const _, stays_const _⟩)) ?_
                exact ⟨.inl rfl, .inl rfl, .inl rfl, .inl rfl, .inl rfl, .inl rfl, .inl rfl, .inl rfl, .inl rfl, .inl rfl, .inl rfl, .inl rfl, .inl rfl, .inl rfl, .inl rfl, .inr (staysM_all ⟨fun _ _ => fun _ _ _ h _ => h, fun _ _ => fun _ _ _ h _ => h, fun _ _ => fun _ _ _ h _ => h, fun _ _ => fun _ _ _ h _ => h, fun _ _ => fun _ _ _ h _ => h, fun _ _ => fun _ _ _ h _ => h, fun _ _ => fun _ _ _ h _ => h, fun _ _ => fun _ _ _ h _ => h, fun _ _ => fun _ _ _ h _ => h, fun _ _ => fun _ _ _ h _ => h, fun _ _ => fun _ _ _ h _ => h, fun _ _ => fun _ _ _ h _ => h, fun _ _ => fun _ _ _ h _ => h, fun _ _ => fun _ _ _ h _ => h, fun _ _ => rowArc1_grown _ _, fun h => absurd rfl h, fun _ _ => fun _ _ _ h _ => h, fun _ _ => fun _ _ _ h _ => h, trivial⟩), .inl rfl, .inl rfl, trivial⟩
              case hS =>
                intro fL hf
                show (fun b1 W => MR w7 (Value.slice xa X.length xc).ownBlock b1 W) (fL 15) _
                rw [hf 15 (by decide)]
                exact MR.ext false _ _ (show MR w7 (Value.slice xa X.length xc).ownBlock false w7 from Ext.refl _) ⟨rfl, rfl, rfl, Nat.le_refl _, fun _ _ => rfl⟩
              case hop =>
                refine ⟨?_, ?_, ?_, ?c3, ?_, ?_, ?_, ?_, ?c8, ?_, ?_, ?_, ?c12, ?c13, ?c14, ?c15, ?_, ?_, ?_, trivial⟩
                all_goals first | rw [if_neg (by decide)] | rw [if_pos (by decide)]
                all_goals try exact True.intro
                all_goals try intro ac W fL hsz hfi hms hdn hS0 hdep hbase hund
                all_goals try have hS : (fun b1 W => MR w7 (Value.slice xa X.length xc).ownBlock b1 W) (fL 15) W := hS0
                all_goals try (have hfl15 : fL 15 = true := hms 15 (by decide); rw [hfl15] at hS)
                all_goals try (have hfl15 : fL 15 = false := (by first | exact hfi | exact hdn 15 (by decide) (by decide)); rw [hfl15] at hS)
                all_goals try (have h0 : ac.tmps.getD 0 undef = .pointer (some ⟨gR, 0, none⟩) := hbase 0 (by kernel_rfl); have hh0 := h0; rw [Array.getD_eq_getD_getElem?] at hh0)
                all_goals try (have h5 : ac.tmps.getD 5 undef = .int .i64 (N.length : Int) := hbase 5 (by kernel_rfl); have hh5 := h5; rw [Array.getD_eq_getD_getElem?] at hh5)
                all_goals try (have h7 : ac.tmps.getD 7 undef = .pointer (some ⟨gb, 0, none⟩) := hbase 7 (by kernel_rfl); have hh7 := h7; rw [Array.getD_eq_getD_getElem?] at hh7)
                all_goals try (have d79 : ac.tmps.getD 79 undef = .pointer (some ⟨gR, 0, none⟩) := hdep 0 (by decide); have dd79 := d79; rw [Array.getD_eq_getD_getElem?] at dd79)
                all_goals try (have d80 : ac.tmps.getD 80 undef = .pointer (some ⟨gR, 0, none⟩) := hdep 1 (by decide); have dd80 := d80; rw [Array.getD_eq_getD_getElem?] at dd80)
                all_goals try (have d81 : ac.tmps.getD 81 undef = .pointer (some ⟨gR, 3, none⟩) := hdep 2 (by decide); have dd81 := d81; rw [Array.getD_eq_getD_getElem?] at dd81)
                all_goals try (have d82 : ac.tmps.getD 82 undef = .slice (some ⟨gn, 0, none⟩) nd8 cn8 := hdep 3 (by decide); have dd82 := d82; rw [Array.getD_eq_getD_getElem?] at dd82)
                all_goals try (have d83 : ac.tmps.getD 83 undef = .int .i64 (N.length : Int) := hdep 4 (by decide); have dd83 := d83; rw [Array.getD_eq_getD_getElem?] at dd83)
                all_goals try (have d84 : ac.tmps.getD 84 undef = .pointer (some ⟨gR, 0, none⟩) := hdep 5 (by decide); have dd84 := d84; rw [Array.getD_eq_getD_getElem?] at dd84)
                all_goals try (have d85 : ac.tmps.getD 85 undef = .pointer (some ⟨gR, 0, none⟩) := hdep 6 (by decide); have dd85 := d85; rw [Array.getD_eq_getD_getElem?] at dd85)
                all_goals try (have d86 : ac.tmps.getD 86 undef = .pointer (some ⟨gR, 3, none⟩) := hdep 7 (by decide); have dd86 := d86; rw [Array.getD_eq_getD_getElem?] at dd86)
                all_goals try (have d87 : ac.tmps.getD 87 undef = .slice (some ⟨gn, 0, none⟩) nd8 cn8 := hdep 8 (by decide); have dd87 := d87; rw [Array.getD_eq_getD_getElem?] at dd87)
                all_goals try (have d88 : ac.tmps.getD 88 undef = .int .i64 (N.length : Int) := hdep 9 (by decide); have dd88 := d88; rw [Array.getD_eq_getD_getElem?] at dd88)
                all_goals try (have d89 : ac.tmps.getD 89 undef = .pointer (some ⟨gn, N.length * 2, none⟩) := hdep 10 (by decide); have dd89 := d89; rw [Array.getD_eq_getD_getElem?] at dd89)
                all_goals try (have d90 : ac.tmps.getD 90 undef = .pointer (some ⟨gn, N.length * 2 + 1, none⟩) := hdep 11 (by decide); have dd90 := d90; rw [Array.getD_eq_getD_getElem?] at dd90)
                all_goals try (have d91 : ac.tmps.getD 91 undef = .slice xa X.length xc := hdep 12 (by decide); have dd91 := d91; rw [Array.getD_eq_getD_getElem?] at dd91)
                all_goals try (have d92 : ac.tmps.getD 92 undef = .agg #[.int .u8 (c : Int), .int .i64 ((t : Int) - 1)] := hdep 13 (by decide); have dd92 := d92; rw [Array.getD_eq_getD_getElem?] at dd92)
                all_goals try have d93 : (RowArc1 (.slice xa X.length xc) ⟨(c : Int), ((t : Int) - 1)⟩) (ac.tmps.getD 93 undef) W := hdep 14 (by decide)
                all_goals try (have d95 : ac.tmps.getD 95 undef = .pointer (some ⟨gn, N.length * 2, none⟩) := hdep 16 (by decide); have dd95 := d95; rw [Array.getD_eq_getD_getElem?] at dd95)
                all_goals try clear hbase hdep hms hdn hund
                case c3 =>
                  have hS1 : (fun b1 W => MR w7 (Value.slice xa X.length xc).ownBlock b1 W) ((upd fL 3) 15) W := hS0
                  have k3 := (cell_of_heap (i := 3) (MR.block hgR8 hrR _ hS0)).trans (cells4 HRP8.out).2.2.2
                  refine opOk_run rfl (.inl ⟨_, W, ?_, rfl, Ext.refl _, hS1⟩)
                  clear hsz hS hS0 hS1 hfi; simp [go_sem, Act.eval, *]
                case c8 =>
                  have hS1 : (fun b1 W => MR w7 (Value.slice xa X.length xc).ownBlock b1 W) ((upd fL 8) 15) W := hS0
                  have hx : Ext w7 W := hS
                  have k3 := (cell_of_heap (i := 3) (Below.block hx gR hgR8)).trans (cells4 HRP8.out).2.2.2
                  refine opOk_run rfl (.inl ⟨_, W, ?_, rfl, Ext.refl _, hS1⟩)
                  clear hsz hS hS0 hS1 hfi hx; simp [go_sem, Act.eval, *]
                case c12 =>
                  have hS1 : (fun b1 W => MR w7 (Value.slice xa X.length xc).ownBlock b1 W) ((upd fL 12) 15) W := hS0
                  have hx : Ext w7 W := hS
                  have k3 := (cell_of_heap (i := N.length * 2 + 1) (Below.block hx gn hgn8)).trans HCL8.out
                  refine opOk_run rfl (.inl ⟨_, W, ?_, rfl, Ext.refl _, hS1⟩)
                  clear hsz hS hS0 hS1 hfi hx; simp [go_sem, Act.eval, *]
                case c13 =>
                  have hS1 : (fun b1 W => MR w7 (Value.slice xa X.length xc).ownBlock b1 W) ((upd fL 13) 15) W := hS0
                  have hx : Ext w7 W := hS
                  obtain ⟨m0, m1⟩ := cells2 ((Below.block hx gb hgb8).trans HBX7.out)
                  refine opOk_run rfl (.inl ⟨_, W, ?_, rfl, Ext.refl _, hS1⟩)
                  clear hsz hS hS0 hS1 hfi hx; simp [go_sem, Act.eval, *]
                case c14 =>
                  have hS1 : (fun b1 W => MR w7 (Value.slice xa X.length xc).ownBlock b1 W) ((upd fL 14) 15) W := hS0
                  have hx : Ext w7 W := hS
                  have hlt93 : (Value.slice xa X.length xc).ownBlock ≠ some W.heap.size := fun e => by
                    have h1 := OwnG.lt HRW8.out _ e
                    have h2 := hx.size
                    omega
                  have hx5 : Ext W (W.alloc (.cells #[.int .u8 (c : Int), .int .i64 ((t : Int) - 1)] 56)) := (Below.refl _ _).alloc (Nat.le_refl _) _
                  refine opOk_run rfl (.inl ⟨.slice (some ⟨W.heap.size, 0, none⟩) 1 1, W.alloc (.cells #[.int .u8 (c : Int), .int .i64 ((t : Int) - 1)] 56), ?_, ⟨_, rfl, heap_alloc_new _ _, hlt93⟩, hx5, (show (fun b1 W => MR w7 (Value.slice xa X.length xc).ownBlock b1 W) ((upd fL 14) 15) _ by
                    rw [show upd fL 14 15 = fL 15 from if_neg (by decide)]
                    exact MR.ext _ _ _ hS0 hx5)⟩)
                  clear hsz hS hS0 hS1 hfi hx hx5 hlt93; simp [go_sem, Act.eval, *]
                case c15 =>
                  have hx : Ext w7 W := hS
                  obtain ⟨g93, e93, hg93, hn93⟩ := d93
                  refine opOk_run rfl ((opres_append_g rowArc_ok (.tmp 91) (.tmp 93) rfl (eval_tmp d91) (OwnG.later HRW8.out hx (Nat.le_refl _)) ⟨g93, 0, none⟩ 1 [⟨(c : Int), ((t : Int) - 1)⟩] (eval_tmp e93) (cells_built hg93) (by simp only [List.length_singleton]; omega) (Nat.le_trans hszB hx.size)).mono ?_)
                  rintro va w' ⟨ho, hgr, hat⟩
                  refine ⟨⟨ho, ?_⟩, hgr, ?_⟩
                  · rcases hat with h | h
                    · exact .inl h
                    · exact .inr fun q hq => by rw [h] at hq; injection hq with hq; have := hx.size; omega
                  show MR w7 (Value.slice xa X.length xc).ownBlock (upd fL 15 15) w'
                  rw [show upd fL 15 15 = true from if_pos rfl]
                  exact ⟨W, hx, hgr⟩
                all_goals (refine opOk_run rfl (.inl ⟨_, W, ?_, rfl, Ext.refl _, hS0⟩); clear hsz hS hS0 hfi; simp [go_sem, Act.eval, *]; done)
              case hfin =>
                intro h; exact absurd h (by decide)
              case hlast =>
                intro _ ac W hsz hdf fL hf hS0 hv hbase
                have hS : (fun b1 W => MR w7 (Value.slice xa X.length xc).ownBlock b1 W) (fL 15) W := hS0
                clear hS0
                rw [hf 15 (by decide)] at hS
                have hst : ac.tmps.getD 96 undef = .pointer (some ⟨gn, N.length * 2 + 1, none⟩) := hv 17 (by decide)
                have hnv : NewA B w7.heap.size (Value.slice xa X.length xc).ownBlock (X ++ [(⟨(c : Int), ((t : Int) - 1)⟩ : Ar)]) (ac.tmps.getD 94 undef) W := hv 15 (by decide)
                have hgw : w7.grownBy W (Value.slice xa X.length xc).ownBlock := MR.grown hS
                obtain ⟨hn1, hn2⟩ := hnv
                obtain ⟨xq, xk, hxq, -, -⟩ := OwnG.form hn1
                rw [hxq] at hn1 hn2
                have hob9 := (hgw.block gn hgn8 hrg).trans HOB8.out
                have hcl9 := (cell_of_heap (i := N.length * 2 + 1) (hgw.block gn hgn8 hrg)).trans HCL8.out
                refine wpOp_store rfl rfl rfl rfl (eval_tmp hst) (eval_tmp hxq) (by simp [World.frozen?, hob9]) hcl9 (by kernel_rfl) ?_
                have hlr9 := HLI7.out.arc rfl HLN8.out.symm hn1 hgw hn2
                obtain ⟨w9', hw9'⟩ : ∃ w9', W.setCell ⟨gn, N.length * 2 + 1, none⟩ (.slice xq (X ++ [(⟨(c : Int), ((t : Int) - 1)⟩ : Ar)]).length xk) = w9' := ⟨_, rfl⟩
                rw [hw9'] at hlr9 ⊢
                have HLR9 := Lib.hid hlr9
                clear hS hst hn1 hn2 hgw hob9 hcl9 hlr9 hw9' hxq
                obtain ⟨sx, hsx, hsA⟩ := act_puts [79, 80, 81, 82, 83, 84, 85, 86, 87, 88, 89, 90, 91, 92, 93, 94, 95, 96] (by kernel_rfl) hsz hdf hbase
                rw [hsA]
                simp only [List.foldl]
                simp only [Act.put, List.setIfInBounds_toArray, List.set_cons_succ, List.set_cons_zero]
                clear hsA hsx hv hbase hsz hdf hf
                go_wp2_with fail
                go_roundw
                case rel => exact ⟨j + 1, b3, bad3, _, _, X ++ [⟨(c : Int), ((t : Int) - 1)⟩], E, nw, by omega, by go_num, HLR9.out, by omega, by simp only [List.length_append, List.length_singleton]; omega, HAX.out⟩
                case measure => simp [intOf]; omega
end Go.Proofs.YtocdljmdmiphnaaDoor
