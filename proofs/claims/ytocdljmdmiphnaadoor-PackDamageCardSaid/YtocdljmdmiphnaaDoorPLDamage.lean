
/- PackDamage: the walk. -/
import Derived.Test.YtocdljmdmiphnaaDoorPG
namespace Go.Proofs.YtocdljmdmiphnaaDoor
open Go.RowKit Go.WideShapes
set_option linter.unusedVariables false
set_option linter.unusedSimpArgs false

/-! ### plain -/
/-- a pack of which one byte is another one is no pack -/
theorem changed_no (D : List Nd) (c : List Int) {i : Nat} {y : UInt8} (hi : i < (packB D c).length) (hy : y ≠ (packB D c)[i]) : unpF ((packB D c).set i y) = none := by
  refine no_sum fun ⟨h4, hs⟩ => ?_
  have hlen : (packB D c).length = (dataB D c).length + 4 := packB_len D c
  have hb : packB D c = dataB D c ++ sumB (dataB D c) := rfl
  rw [List.length_set, hlen, Nat.add_sub_cancel] at hs
  by_cases h : i < (dataB D c).length
  · rw [hb, List.set_append_left _ _ h] at hs
    have hl : ((dataB D c).set i y).length = (dataB D c).length := List.length_set
    rw [List.take_append_of_le_length (by omega), List.drop_append_of_le_length (by omega), List.take_of_length_le (by omega), List.drop_of_length_le (by omega), List.nil_append] at hs
    have hx : (packB D c)[i] = (dataB D c)[i] := by
      have : (packB D c)[i]? = (dataB D c)[i]? := by rw [hb, List.getElem?_append_left h]
      rw [List.getElem?_eq_getElem hi, List.getElem?_eq_getElem h] at this
      exact Option.some.inj this
    rw [hx] at hy
    have e1 : (dataB D c).set i y = (dataB D c).take i ++ y :: (dataB D c).drop (i + 1) := by
      rw [List.set_eq_take_append_cons_drop, if_pos h]
    have e2 : dataB D c = (dataB D c).take i ++ (dataB D c)[i] :: (dataB D c).drop (i + 1) := by
      rw [List.getElem_cons_drop, List.take_append_drop]
    rw [e1] at hs
    have hs2 : sumB ((dataB D c).take i ++ y :: (dataB D c).drop (i + 1)) = sumB ((dataB D c).take i ++ (dataB D c)[i] :: (dataB D c).drop (i + 1)) := by rw [hs, ← e2]
    exact hy (sumB_change hs2)
  · rw [hb, List.set_append_right _ _ (by omega)] at hs
    rw [List.take_append_of_le_length (by omega), List.drop_append_of_le_length (by omega), List.take_of_length_le (by omega), List.drop_of_length_le (by omega), List.nil_append] at hs
    have hj : i - (dataB D c).length < (sumB (dataB D c)).length := by rw [sumB_len]; omega
    have h1 : ((sumB (dataB D c)).set (i - (dataB D c).length) y)[i - (dataB D c).length]? = some y := by rw [List.getElem?_set_self hj]
    rw [← hs] at h1
    have hx : (packB D c)[i]? = some y := by rw [hb, List.getElem?_append_right (by omega)]; exact h1
    rw [List.getElem?_eq_getElem hi] at hx
    exact hy (Option.some.inj hx).symm
theorem odd_no {D : List Nd} {c : List Int} {l m : Wd} (hl : packB D c = l) (h : m.length = l.length + 1 ∨ m.length + 1 = l.length) : unpF m = none := no_odd (by have := packB_even D c; rw [hl] at this; omega)
/-- a bitwise sum with a number that is not zero -/
theorem xor_ne {x m : UInt8} (hm : m ≠ 0) : x ^^^ m ≠ x := fun e => hm (by
  have h : x ^^^ (x ^^^ m) = x ^^^ x := by rw [e]
  rw [← UInt8.xor_assoc, UInt8.xor_self, UInt8.zero_xor] at h
  exact h)
theorem run_xor8 (x m : UInt8) : bits .xor .u8 (x.toNat : Int) (m.toNat : Int) = ((x ^^^ m).toNat : Int) := by
  have h1 : ∀ z : UInt8, BitVec.ofInt 8 (z.toNat : Int) = z.toBitVec := fun z => by
    rw [BitVec.ofInt_natCast]; exact BitVec.eq_of_toNat_eq (by simp)
  have h2 : (BitVec.ofInt 8 (x.toNat : Int) ^^^ BitVec.ofInt 8 (m.toNat : Int)).toNat = (x ^^^ m).toNat := by rw [h1, h1]; rfl
  have h3 : (x ^^^ m).toNat < 256 := UInt8.toNat_lt _
  show IntKind.u8.wrap ((BitVec.ofInt 8 (x.toNat : Int) ^^^ BitVec.ofInt 8 (m.toNat : Int)).toNat : Int) = _
  rw [h2, IntWalk.u8_in _ (by omega)]
theorem byte_of (z : Int) (h0 : 0 ≤ z) (h1 : z ≤ 255) : ∃ b : UInt8, z = (b.toNat : Int) := ⟨UInt8.ofNat z.toNat, by simp; omega⟩
theorem wpOp_store_int {P : Program} {ops : Array Oper} {Q : Exit → Act → World → Prop} {L : Nat} {K : Act → World → Prop} {o : Oper} {A : Act} {W : World} {ty : TypeId} {p v : Operand} {ad : Addr} {k : IntKind} {s : Int} {y : Value}
    (ho : ops[L]? = some o) (hg : o.guard = none) (hop : o.op = .store ty p v) (hd : o.dst = none) (hp : A.eval p = .pointer (some ad)) (hv : A.eval v = .int k s) (hf : W.frozen? ad = false) (hc : W.cell? ad = some y) (hsz : (sizeOf ty).run P W = .ok 1 W) (hK : K A (W.setCell ad (.int k s))) : wpOp P ops Q L K A W := by
  unfold wpOp
  rw [ho]
  have hw : Region.wanted o (yielded ops A.tmps) = true := by unfold Region.wanted; rw [hg]
  simp only [hw, if_pos]
  refine .inl ?_
  unfold Oper.wp execOp
  simp only [hop, hp, hv]
  simp [go_sem, hf, hc, hsz]
  rw [hd]
  exact hK
/-- a block that stays -/
structure BoxC (w : World) (g : Nat) (cs : Array Value) (t : TypeId) : Prop where
  lt : g < w.heap.size
  at' : w.heap[g]? = some (.cells cs t (0, 0))
theorem BoxC.go {w w1 : World} {g : Nat} {cs : Array Value} {t : TypeId} (h : BoxC w g cs t) (hb : Below w.heap.size w w1) : BoxC w1 g cs t := ⟨Nat.lt_of_lt_of_le h.lt hb.size, (hb.block g h.lt).trans h.at'⟩
theorem BoxC.new (w : World) (cs : Array Value) (t : TypeId) : BoxC (w.alloc (.cells cs t (0, 0))) w.heap.size cs t := ⟨by simp only [World.size_alloc]; omega, heap_alloc_new _ _⟩
theorem OwnG.ptr {α : Type} {T : RowT α} {w : World} {B : Nat} {v : Value} {l : List α} (h : OwnG T w B v l) (hl : l ≠ []) : ∃ g c, v = .slice (some ⟨g, 0, none⟩) l.length c ∧ B ≤ g ∧ g < w.heap.size ∧ l.length ≤ c := by
  rcases h.blk with ⟨_, h⟩ | h
  · exact absurd h hl
  · exact h
/-! ### the walk -/
set_option maxHeartbeats 6400000 in
set_option maxRecDepth 100000 in
theorem packDamage_view (xl : BytsA) (y : UintA) (z0 z1 : Int) (w : World) (hx : BytsOk w xl) (hy : UintOk w y) (h00 : 0 ≤ z0) (h01 : z0 ≤ 255) (h10 : 0 ≤ z1) (h11 : z1 ≤ 255) (hT : Tab w) :
    Calls Tryd.prog 5 #[xl.val, y.val, .agg #[.int .u8 z0, .int .u8 z1]] w fun e w' => e = .returned (.bool true) ∧ Below w.heap.size w w' := by
  obtain ⟨a, len, cap, Q⟩ := xl
  obtain ⟨a2, len2, cap2, Z⟩ := y
  obtain ⟨hQ, hl⟩ := hx
  obtain ⟨hZ, hl2⟩ := hy
  simp only at hQ hl hZ hl2
  obtain ⟨bz, rfl⟩ := byte_of z1 h10 h11
  have hX0 := below_new w (.cells #[.int .u8 z0, .int .u8 (bz.toNat : Int)] 44)
  have hs0 : Since w (w.alloc (.cells #[.int .u8 z0, .int .u8 (bz.toNat : Int)] 44)) := ⟨hX0⟩
  have HQ := Lib.hid (hQ.go hX0); have HZ := Lib.hid (hZ.go hX0); have HT := Lib.hid (hT.go hX0); have HS := Lib.hid hs0
  have HBX := Lib.hid (BoxC.new w #[.int .u8 z0, .int .u8 (bz.toNat : Int)] 44)
  clear hQ hZ hT hs0 hX0 h10 h11
  show Calls Tryd.prog 5 #[.slice a len cap, .slice a2 len2 cap2, .agg #[.int .u8 z0, .int .u8 (bz.toNat : Int)]] w _
  go_enter Tryd.func5, Tryd.ntmps5
  go_wp2_with fail
  refine (psanity_any _ HT.out).mono ?_
  rintro e w1 ⟨rfl, hb⟩
  replace HQ := Lib.hid (HQ.out.go hb); replace HZ := Lib.hid (HZ.out.go hb); replace HT := Lib.hid (HT.out.go hb); replace HS := Lib.hid (HS.out.go hb); replace HBX := Lib.hid (HBX.out.go hb)
  clear hb
  go_wp2_with fail
  refine (made_d 12 12 rfl (by decide) (by decide) HQ.out hl).mono ?_
  rintro e w2 ⟨L, b, o, c, -, rfl, hd, hm, hs4, hc, hR, hb⟩
  replace HQ := Lib.hid (HQ.out.go hb); replace HZ := Lib.hid (HZ.out.go hb); replace HT := Lib.hid (HT.out.go hb); replace HS := Lib.hid (HS.out.go hb); replace HBX := Lib.hid (HBX.out.go hb)
  clear hb
  have HR := Lib.hid hR; have HD := Lib.hid hd; obtain ⟨hn70, hzA, hfl⟩ := small_dict hd hm hs4; have HZA := Lib.hid hzA; have HFL := Lib.hid hfl; clear hR hd HQ hs4 hzA hfl hn70
  go_wp2_with fail
  refine (of_d HD.out HR.out rfl hc).mono ?_
  rintro e w3 ⟨a3, n3, c3, rfl, hA, hb⟩
  replace HZ := Lib.hid (HZ.out.go hb); replace HT := Lib.hid (HT.out.go hb); replace HS := Lib.hid (HS.out.go hb); replace HBX := Lib.hid (HBX.out.go hb)
  clear hb
  have HA := Lib.hid hA; clear hA HR
  go_wp2_with fail
  refine (rmade_any Z a2 len2 cap2 L.length w3 HZ.out hl2 (by omega)).mono ?_
  rintro e w4 ⟨a4, c4, rfl, hC, hb⟩
  replace HT := Lib.hid (HT.out.go hb); replace HS := Lib.hid (HS.out.go hb); replace HA := Lib.hid (HA.out.go hb); replace HBX := Lib.hid (HBX.out.go hb)
  clear hb
  have HCO := Lib.hid (mkC_ok HZ.out L.length)
  obtain ⟨cn, hcn⟩ : ∃ cn, mkC Z len2 L.length = cn := ⟨_, rfl⟩
  rw [hcn] at HCO hC
  have HC := Lib.hid hC
  clear hcn hC HZ
  go_wp2_with fail
  refine (pack_yes HA.out HZA.out HC.out HCO.out HT.out).mono ?_
  rintro e w5 ⟨a5, n5, c5, rfl, hB, hb⟩
  replace HT := Lib.hid (HT.out.go hb); replace HS := Lib.hid (HS.out.go hb); replace HBX := Lib.hid (HBX.out.go hb)
  clear hb
  have hps := pack_small HFL.out hm HCO.out
  have hp4 := packB_len (ofF (restAt 0 L)) cn
  clear HA HC
  obtain ⟨l, hl9⟩ : ∃ l, packB (ofF (restAt 0 L)) cn = l := ⟨_, rfl⟩
  have HNO : Hid (∀ (i : Nat) (y : UInt8) (hi : i < l.length), y ≠ l[i] → unpF (l.set i y) = none) := by
    show ∀ (i : Nat) (y : UInt8) (hi : i < l.length), y ≠ l[i] → unpF (l.set i y) = none
    subst hl9
    exact fun i y hi hy => changed_no _ _ hi hy
  have HOD : Hid (∀ m : Wd, (m.length = l.length + 1 ∨ m.length + 1 = l.length) → unpF m = none) := fun m hm => odd_no hl9 hm
  rw [hl9] at hB hps hp4
  obtain rfl : n5 = l.length := hB.len
  have hcap5 := hB.cap
  have hlp : 4 ≤ l.length := by omega
  obtain ⟨b5, o5, ha5, -, -⟩ := hB.byts.at (k := 0) (by omega)
  subst ha5
  have HB := Lib.hid hB
  have hlne : ¬ l = [] := fun e => by rw [e] at hlp; simp at hlp
  have hwk : IntKind.i64.wrap z0 = z0 := IntWalk.i64_in z0 (by omega)
  obtain ⟨i, hi⟩ : ∃ i : Nat, z0.tmod (l.length : Int) = (i : Int) := ⟨(z0.tmod (l.length : Int)).toNat, by have := Int.tmod_nonneg (l.length : Int) h00; omega⟩
  have hil' : i < l.length := by have := Int.tmod_lt_of_pos z0 (show (0 : Int) < (l.length : Int) by omega); omega
  obtain ⟨bx0, bx1⟩ := cells2 HBX.out.at'
  have hX5 := below_new w5 (.cells #[] 5)
  have HX5 := Lib.hid hX5
  have HOE : Hid (OwnG rowU8 (w5.alloc (.cells #[] 5)) w5.heap.size (.slice (some ⟨w5.heap.size, 0, none⟩) 0 0) []) := OwnG.empty rowU8 (heap_alloc_new w5 (.cells #[] 5)) (Nat.le_refl _)
  have HCE := Lib.hid (cells_byts (HB.out.byts.go hX5))
  clear hB hl9 HCO HZA HFL HD hX5 hp4
  have hne : ¬ (l.length : Int) = 0 := by omega
  go_upto_region 8 with (first | (at_builtin; go_loud (refine wpList_app rowU8_ok rfl _ _ rfl rfl HOE.out ⟨b5, o5, none⟩ c5 l rfl HCE.out (by simp only [List.length_nil]; omega) (by simp only [World.size_alloc]; omega) ?_); intro v6 w6 hown6 hg6; have HO6 := Lib.hid hown6; have HB6 := Lib.hid (HX5.out.trans (hg6.below HX5.out.size HOE.out.ge)); clear hown6 hg6))
  obtain ⟨g6, c6, rfl, hg6, hg6l, hc6⟩ := (show OwnG rowU8 w6 w5.heap.size v6 l from HO6.out).ptr hlne
  replace HO6 : Hid (OwnG rowU8 w6 w5.heap.size (.slice (some ⟨g6, 0, none⟩) l.length c6) l) := HO6.out
  clear bx0 bx1 hwk hi HX5 HOE HCE
  obtain ⟨x, hx⟩ : ∃ x, l[i] = x := ⟨_, rfl⟩
  obtain ⟨mm, hm8, hmx⟩ : ∃ m : UInt8, m ≠ 0 ∧ max (bz.toNat : Int) 1 = (m.toNat : Int) := by
    by_cases h : (bz.toNat : Int) < 1
    · exact ⟨1, by decide, by have : ((1 : UInt8).toNat : Int) = 1 := rfl
                              omega⟩
    · exact ⟨bz, fun e => h (by rw [e]; decide), by omega⟩
  have hxor := run_xor8 x mm
  obtain ⟨y, hy⟩ : ∃ y, x ^^^ mm = y := ⟨_, rfl⟩
  have hyx : y ≠ l[i] := by rw [← hy, hx]; exact xor_ne hm8
  have HN7 := Lib.hid (HNO.out i y hil' hyx)
  rw [hy] at hxor
  have hci : w6.cell? ⟨g6, i, none⟩ = some (.int .u8 (x.toNat : Int)) := by
    have h := HO6.out.cell rowU8_ok (i := i) (j := 0) hil' (by decide)
    rw [hx, show i * rowU8.k + 0 = i from Nat.mul_one i] at h
    exact h
  have HCI := Lib.hid hci
  obtain ⟨cs6, hcs6⟩ := HO6.out.obj (g := g6) rfl
  have HCS := Lib.hid hcs6
  have hidx : ∀ W, (Instr.indexAt 24 (.slice (some ⟨g6, 0, none⟩) l.length c6) (.int .i64 (i : Int))).run Tryd.prog W = .ok (.pointer (some ⟨g6, i, none⟩)) W := fun W => by
    have h := idx_u8 (some ⟨g6, 0, none⟩) g6 0 l.length c6 i rfl hil' W
    rwa [Nat.zero_add] at h
  have HBX6 := Lib.hid (HBX.out.go HB6.out)
  have hlt6 := HBX6.out.lt
  clear hx hci hcs6 hy hyx hm8 HNO
  refine wp_region_st (by kernel_rfl) (Vs [fun v _ => v = .slice (some ⟨g6, 0, none⟩) l.length c6, fun v _ => v = .int .i64 (i : Int), fun v _ => v = .slice (some ⟨g6, 0, none⟩) l.length c6, fun v _ => v = .int .i64 (i : Int), fun v _ => v = .pointer (some ⟨g6, i, none⟩), fun v _ => v = .int .u8 (x.toNat : Int), fun v _ => v = .pointer (some ⟨w.heap.size, 1, none⟩), fun v _ => v = .int .u8 (bz.toNat : Int), fun v _ => v = .int .u8 (mm.toNat : Int), fun v _ => v = .int .u8 (y.toNat : Int), fun v _ => v = .pointer (some ⟨g6, i, none⟩)]) (Xs [Ext, Ext, Ext, Ext, Ext, Ext, Ext, Ext, Ext, Ext, Ext]) (fun fL => (fun W => Below w6.heap.size w6 W) ) [0, 0, 0, 0, 12, 28, 0, 64, 192, 508, 3] 117 11 (by kernel_rfl) rfl ?hV ?hS ?hop ?hfin ?hlast
  case hV =>
    refine xs_stays (vs_stays (by simp only [List.mem_cons, List.not_mem_nil, or_false, forall_eq_or_imp, forall_eq]; exact ⟨stays_const _, stays_const _, stays_const _, stays_const _, stays_const _, stays_const _, stays_const _, stays_const _, stays_const _, stays_const _, stays_const _⟩)) ?_
    exact ⟨.inl rfl, .inl rfl, .inl rfl, .inl rfl, .inl rfl, .inl rfl, .inl rfl, .inl rfl, .inl rfl, .inl rfl, .inl rfl, trivial⟩
  case hS =>
    intro fL hf
    show (fun W => Below w6.heap.size w6 W)  _
    exact (Below.refl _ w6).drew
  case hop =>
    refine ⟨?_, ?_, ?_, ?_, ?_, ?_, ?_, ?_, ?_, ?_, ?_, ?_, trivial⟩
    all_goals first | rw [if_neg (by decide)] | rw [if_pos (by decide)]
    all_goals try exact True.intro
    all_goals try intro ac W fL hsz hfi hms hdn hS0 hdep hbase hund
    all_goals try have hS : (fun W => Below w6.heap.size w6 W)  W := hS0
    all_goals try (
      obtain ⟨bx0, bx1⟩ := cells2 (HBX6.out.go hS).at'
      have x0 := (hS.cell (p := ⟨g6, i, none⟩) hg6l).trans HCI.out)
    all_goals try (have h12 : ac.tmps.getD 12 undef = .slice (some ⟨g6, 0, none⟩) l.length c6 := hbase 12 (by kernel_rfl); have hh12 := h12; rw [Array.getD_eq_getD_getElem?] at hh12)
    all_goals try (have h11 : ac.tmps.getD 11 undef = .int .i64 (i : Int) := hbase 11 (by kernel_rfl); have hh11 := h11; rw [Array.getD_eq_getD_getElem?] at hh11)
    all_goals try (have h5 : ac.tmps.getD 5 undef = .pointer (some ⟨w.heap.size, 0, none⟩) := hbase 5 (by kernel_rfl); have hh5 := h5; rw [Array.getD_eq_getD_getElem?] at hh5)
    all_goals try (have d46 : ac.tmps.getD 46 undef = .slice (some ⟨g6, 0, none⟩) l.length c6 := hdep 0 (by decide); have dd46 := d46; rw [Array.getD_eq_getD_getElem?] at dd46)
    all_goals try (have d47 : ac.tmps.getD 47 undef = .int .i64 (i : Int) := hdep 1 (by decide); have dd47 := d47; rw [Array.getD_eq_getD_getElem?] at dd47)
    all_goals try (have d48 : ac.tmps.getD 48 undef = .slice (some ⟨g6, 0, none⟩) l.length c6 := hdep 2 (by decide); have dd48 := d48; rw [Array.getD_eq_getD_getElem?] at dd48)
    all_goals try (have d49 : ac.tmps.getD 49 undef = .int .i64 (i : Int) := hdep 3 (by decide); have dd49 := d49; rw [Array.getD_eq_getD_getElem?] at dd49)
    all_goals try (have d50 : ac.tmps.getD 50 undef = .pointer (some ⟨g6, i, none⟩) := hdep 4 (by decide); have dd50 := d50; rw [Array.getD_eq_getD_getElem?] at dd50)
    all_goals try (have d51 : ac.tmps.getD 51 undef = .int .u8 (x.toNat : Int) := hdep 5 (by decide); have dd51 := d51; rw [Array.getD_eq_getD_getElem?] at dd51)
    all_goals try (have d52 : ac.tmps.getD 52 undef = .pointer (some ⟨w.heap.size, 1, none⟩) := hdep 6 (by decide); have dd52 := d52; rw [Array.getD_eq_getD_getElem?] at dd52)
    all_goals try (have d53 : ac.tmps.getD 53 undef = .int .u8 (bz.toNat : Int) := hdep 7 (by decide); have dd53 := d53; rw [Array.getD_eq_getD_getElem?] at dd53)
    all_goals try (have d54 : ac.tmps.getD 54 undef = .int .u8 (mm.toNat : Int) := hdep 8 (by decide); have dd54 := d54; rw [Array.getD_eq_getD_getElem?] at dd54)
    all_goals try clear hbase hdep hms hdn hund
    all_goals (refine opOk_run rfl (.inl ⟨_, W, ?_, rfl, Ext.refl _, hS0⟩); clear hsz hS hS0 hfi; simp [go_sem, Act.eval, *]; done)
  case hfin =>
    intro h; exact absurd h (by decide)
  case hlast =>
    intro _ ac W hsz hdf fL hf hS0 hv hbase
    have hS : (fun W => Below w6.heap.size w6 W)  W := hS0
    clear hS0
    have hst : ac.tmps.getD 56 undef = .pointer (some ⟨g6, i, none⟩) := hv 10 (by decide)
    have hnv : ac.tmps.getD 55 undef = .int .u8 (y.toNat : Int) := hv 9 (by decide)
    have q2 := (hS.cell (p := ⟨g6, i, none⟩) hg6l).trans HCI.out
    have q4 := (hS.block g6 hg6l).trans HCS.out
    refine wpOp_store_int rfl rfl rfl rfl (eval_tmp hst) (eval_tmp hnv) (by simp [World.frozen?, q4]) q2 (by kernel_rfl) ?_
    have hB7 : Below w5.heap.size w5 (W.setCell ⟨g6, i, none⟩ (.int .u8 (y.toNat : Int))) := (HB6.out.trans (hS.mono HB6.out.size)).setCell (p := ⟨g6, i, none⟩) (by show w5.heap.size ≤ g6; omega) _
    have hO7 := (HO6.out.later hS (Nat.le_refl _)).put rowU8_ok (i := i) (j := 0) (x := y) (u := .int .u8 (y.toNat : Int)) hil' (by decide) rfl
    rw [show i * rowU8.k + 0 = i from Nat.mul_one i] at hO7
    obtain ⟨w7, hw7⟩ : ∃ w7, W.setCell ⟨g6, i, none⟩ (.int .u8 (y.toNat : Int)) = w7 := ⟨_, rfl⟩
    rw [hw7] at hB7 hO7 ⊢
    have HB7 := Lib.hid hB7
    have HR7' := Lib.hid (ByS.mk hO7.byts.1 (by rw [List.length_set]) hc6)
    clear hS q2 q4 hw7 hst hnv hB7 hO7
    obtain ⟨sx, hsx, hsA⟩ := act_puts [46, 47, 48, 49, 50, 51, 52, 53, 54, 55, 56] (by kernel_rfl) hsz hdf hbase
    rw [hsA]
    simp only [List.foldl]
    simp only [Act.put, List.setIfInBounds_toArray, List.set_cons_succ, List.set_cons_zero]
    clear hsA hsx hv hbase hsz hdf hf
    have HR7 : Hid (ByS w7 (some ⟨g6, 0, none⟩) l.length c6 (l.set i y)) := HR7'
    replace HT := Lib.hid (HT.out.go HB7.out); replace HS := Lib.hid (HS.out.go HB7.out); replace HB := Lib.hid (HB.out.go HB7.out); replace HBX := Lib.hid (HBX.out.go HB7.out)
    clear HB7 HR7' HCI HCS HBX6 HO6 HB6 hidx hxor hmx hlt6
    have HTL : Hid ((l.take i).length = i) := by show _ = _; rw [List.length_take]; omega
    have HDL : Hid ((l.drop (i + 1)).length = l.length - (i + 1)) := List.length_drop
    have HDM : Hid ((l.drop i).length = l.length - i) := List.length_drop
    have hwi : IntKind.i64.wrap ((i : Int) + 1) = (i : Int) + 1 := IntWalk.i64_in _ (by omega)
    have hlow := slice_low_u8 (some ⟨b5, o5, none⟩) l.length c5 i (by omega)
    obtain ⟨oP, hoP, hhiP⟩ := slice_high_u8 b5 o5 l.length c5 (i + 1) (by omega) hcap5
    obtain ⟨oQ, hoQ, hhiQ⟩ := slice_high_u8 b5 o5 l.length c5 i (by omega) hcap5
    simp only [Int.natCast_add, Int.cast_ofNat_Int] at hhiP
    have HP := Lib.hid hoP; have HQ := Lib.hid hoQ
    clear hoP hoQ
    have hX8 := below_new w7 (.cells #[] 5)
    have HX8 := Lib.hid hX8
    have HOE8 : Hid (OwnG rowU8 (w7.alloc (.cells #[] 5)) w7.heap.size (.slice (some ⟨w7.heap.size, 0, none⟩) 0 0) []) := OwnG.empty rowU8 (heap_alloc_new w7 (.cells #[] 5)) (Nat.le_refl _)
    have HCE8 := Lib.hid (cells_byts (BytS.go (HB.out.byts.take i) hX8))
    clear hX8
    go_upto_region 10 with (first | (at_builtin; go_loud (refine wpList_app rowU8_ok rfl _ _ rfl rfl HOE8.out ⟨b5, o5, none⟩ c5 (l.take i) (by rw [HTL.out]; rfl) HCE8.out (by simp only [List.length_nil, List.length_take, List.length_drop]; omega) (by simp only [World.size_alloc]; omega) ?_); intro v8 w8 hown8 hg8; have HO8 := Lib.hid hown8; have HB8 := Lib.hid (HX8.out.trans (hg8.below HX8.out.size HOE8.out.ge)); clear hown8 hg8))
    clear HCE8 HOE8 HX8
    have HCE9 := Lib.hid (cells_byts ((HB.out.go HB8.out).byts.drop (k := i + 1) (o' := oP) HP.out))
    go_upto_region 11 with (first | (at_builtin; go_loud (refine wpList_app rowU8_ok rfl _ _ rfl rfl HO8.out ⟨b5, oP, none⟩ (c5 - (i + 1)) (l.drop (i + 1)) (by rw [HDL.out]; rfl) HCE9.out (by simp only [List.length_append, List.length_nil, List.length_take, List.length_drop, List.length_cons]; omega) HB8.out.size ?_); intro v9 w9 hown9 hg9; have HO9 := Lib.hid hown9; have HB9 := Lib.hid (HB8.out.trans (hg9.below HB8.out.size HO8.out.ge)); clear hown9 hg9))
    clear HCE9 HO8 HB8
    obtain ⟨m9, hm9⟩ : ∃ m, ([] ++ l.take i) ++ l.drop (i + 1) = m := ⟨_, rfl⟩
    have hml9 : m9.length = l.length - 1 := by rw [← hm9]; simp only [List.length_append, List.length_nil, List.length_take, List.length_drop, List.length_cons]; omega
    have HM9 := Lib.hid (HOD.out m9 (by omega))
    have hms9 : m9.length ≤ 20000 := by omega
    have ho9 := HO9.out
    rw [hm9] at ho9
    obtain ⟨a9, c9, rfl, hR9⟩ := ho9.byS
    have HR9 := Lib.hid hR9
    clear hm9 hml9 ho9 hR9 HO9
    replace HT := Lib.hid (HT.out.go HB9.out); replace HS := Lib.hid (HS.out.go HB9.out); replace HB := Lib.hid (HB.out.go HB9.out); replace HBX := Lib.hid (HBX.out.go HB9.out); replace HR7 := Lib.hid (HR7.out.go HB9.out)
    clear HB9
    have hX10 := below_new w9 (.cells #[] 5)
    have HX10 := Lib.hid hX10
    have HOE10 : Hid (OwnG rowU8 (w9.alloc (.cells #[] 5)) w9.heap.size (.slice (some ⟨w9.heap.size, 0, none⟩) 0 0) []) := OwnG.empty rowU8 (heap_alloc_new w9 (.cells #[] 5)) (Nat.le_refl _)
    have HCE10 := Lib.hid (cells_byts (BytS.go (HB.out.byts.take i) hX10))
    clear hX10
    go_upto_region 12 with (first | (at_builtin; go_loud (refine wpList_app rowU8_ok rfl _ _ rfl rfl HOE10.out ⟨b5, o5, none⟩ c5 (l.take i) (by rw [HTL.out]; rfl) HCE10.out (by simp only [List.length_nil, List.length_take, List.length_drop]; omega) (by simp only [World.size_alloc]; omega) ?_); intro v10 w10 hown10 hg10; have HO10 := Lib.hid hown10; have HB10 := Lib.hid (HX10.out.trans (hg10.below HX10.out.size HOE10.out.ge)); clear hown10 hg10))
    clear HCE10 HOE10 HX10
    obtain ⟨bx0, bx1⟩ := cells2 (HBX.out.go HB10.out).at'
    have HA11 := Lib.hid (below_new w10 (.cells #[.int .u8 (bz.toNat : Int)] 5))
    go_upto_region 13 with (first | (at_builtin; go_loud (refine wpList_app rowU8_ok rfl _ _ rfl rfl (HO10.out.later HA11.out (Nat.le_refl _)) ⟨w10.heap.size, 0, none⟩ 1 [bz] rfl (cells_built (heap_alloc_new w10 (.cells #[.int .u8 (bz.toNat : Int)] 5))) (by simp only [List.length_append, List.length_nil, List.length_take, List.length_drop, List.length_cons]; omega) (by have := HB10.out.size; simp only [World.size_alloc]; omega) ?_); intro v11 w11 hown11 hg11; have HO11 := Lib.hid hown11; have HB11 := Lib.hid ((HB10.out.trans (HA11.out.mono HB10.out.size)).trans (hg11.below (by have := HB10.out.size; simp only [World.size_alloc]; omega) HO10.out.ge)); clear hown11 hg11))
    clear bx0 bx1 HO10 HB10 HA11
    have HCE12 := Lib.hid (cells_byts ((HB.out.go HB11.out).byts.drop (k := i) (o' := oQ) HQ.out))
    go_upto_region 14 with (first | (at_builtin; go_loud (refine wpList_app rowU8_ok rfl _ _ rfl rfl HO11.out ⟨b5, oQ, none⟩ (c5 - i) (l.drop i) (by rw [HDM.out]; rfl) HCE12.out (by simp only [List.length_append, List.length_nil, List.length_take, List.length_drop, List.length_cons]; omega) HB11.out.size ?_); intro v12 w12 hown12 hg12; have HO12 := Lib.hid hown12; have HB12 := Lib.hid (HB11.out.trans (hg12.below HB11.out.size HO11.out.ge)); clear hown12 hg12))
    clear HCE12 HO11 HB11
    obtain ⟨m12, hm12⟩ : ∃ m, (([] ++ l.take i) ++ [bz]) ++ l.drop i = m := ⟨_, rfl⟩
    have hml12 : m12.length = l.length + 1 := by rw [← hm12]; simp only [List.length_append, List.length_nil, List.length_take, List.length_drop, List.length_cons]; omega
    have HM12 := Lib.hid (HOD.out m12 (by omega))
    have hms12 : m12.length ≤ 20000 := by omega
    have ho12 := HO12.out
    rw [hm12] at ho12
    obtain ⟨a12, c12, rfl, hR12⟩ := ho12.byS
    have HR12 := Lib.hid hR12
    clear hm12 hml12 ho12 hR12 HO12
    replace HT := Lib.hid (HT.out.go HB12.out); replace HS := Lib.hid (HS.out.go HB12.out); replace HB := Lib.hid (HB.out.go HB12.out); replace HBX := Lib.hid (HBX.out.go HB12.out); replace HR7 := Lib.hid (HR7.out.go HB12.out); replace HR9 := Lib.hid (HR9.out.go HB12.out)
    clear HB12
    have hX13 := below_new w12 (.cells #[] 5)
    have HX13 := Lib.hid hX13
    have HOE13 : Hid (OwnG rowU8 (w12.alloc (.cells #[] 5)) w12.heap.size (.slice (some ⟨w12.heap.size, 0, none⟩) 0 0) []) := OwnG.empty rowU8 (heap_alloc_new w12 (.cells #[] 5)) (Nat.le_refl _)
    have HCE13 := Lib.hid (cells_byts (BytS.go (HB.out.byts) hX13))
    clear hX13
    go_upto_region 15 with (first | (at_builtin; go_loud (refine wpList_app rowU8_ok rfl _ _ rfl rfl HOE13.out ⟨b5, o5, none⟩ c5 (l) rfl HCE13.out (by simp only [List.length_nil, List.length_take, List.length_drop]; omega) (by simp only [World.size_alloc]; omega) ?_); intro v13 w13 hown13 hg13; have HO13 := Lib.hid hown13; have HB13 := Lib.hid (HX13.out.trans (hg13.below HX13.out.size HOE13.out.ge)); clear hown13 hg13))
    clear HCE13 HOE13 HX13
    obtain ⟨bx0, bx1⟩ := cells2 (HBX.out.go HB13.out).at'
    have HA14 := Lib.hid (below_new w13 (.cells #[.int .u8 (bz.toNat : Int)] 5))
    go_upto_region 16 with (first | (at_builtin; go_loud (refine wpList_app rowU8_ok rfl _ _ rfl rfl (HO13.out.later HA14.out (Nat.le_refl _)) ⟨w13.heap.size, 0, none⟩ 1 [bz] rfl (cells_built (heap_alloc_new w13 (.cells #[.int .u8 (bz.toNat : Int)] 5))) (by simp only [List.length_append, List.length_nil, List.length_take, List.length_drop, List.length_cons]; omega) (by have := HB13.out.size; simp only [World.size_alloc]; omega) ?_); intro v14 w14 hown14 hg14; have HO14 := Lib.hid hown14; have HB14 := Lib.hid ((HB13.out.trans (HA14.out.mono HB13.out.size)).trans (hg14.below (by have := HB13.out.size; simp only [World.size_alloc]; omega) HO13.out.ge)); clear hown14 hg14))
    clear bx0 bx1 HO13 HB13 HA14
    obtain ⟨m14, hm14⟩ : ∃ m, ([] ++ l) ++ [bz] = m := ⟨_, rfl⟩
    have hml14 : m14.length = l.length + 1 := by rw [← hm14]; simp only [List.length_append, List.length_nil, List.length_take, List.length_drop, List.length_cons]; omega
    have HM14 := Lib.hid (HOD.out m14 (by omega))
    have hms14 : m14.length ≤ 20000 := by omega
    have ho14 := HO14.out
    rw [hm14] at ho14
    obtain ⟨a14, c14, rfl, hR14⟩ := ho14.byS
    have HR14 := Lib.hid hR14
    clear hm14 hml14 ho14 hR14 HO14
    replace HT := Lib.hid (HT.out.go HB14.out); replace HS := Lib.hid (HS.out.go HB14.out); replace HR7 := Lib.hid (HR7.out.go HB14.out); replace HR9 := Lib.hid (HR9.out.go HB14.out); replace HR12 := Lib.hid (HR12.out.go HB14.out)
    clear HB14
    clear HB HBX HTL HDL HDM hwi hlow hhiP hhiQ HP HQ HOD
    have hX15 := below_new w14 (.cells #[.slice none 0 0, .slice none 0 0, .int .i64 100] 40)
    have HBD := Lib.hid (BoxC.new w14 #[.slice none 0 0, .slice none 0 0, .int .i64 100] 40)
    replace HT := Lib.hid (HT.out.go hX15); replace HS := Lib.hid (HS.out.go hX15); replace HR7 := Lib.hid (HR7.out.go hX15); replace HR9 := Lib.hid (HR9.out.go hX15); replace HR12 := Lib.hid (HR12.out.go hX15); replace HR14 := Lib.hid (HR14.out.go hX15)
    clear hX15
    go_upto_region 17 with fail
    obtain ⟨wz, hwz⟩ : ∃ wz, wz = w14.alloc (.cells #[.slice none 0 0, .slice none 0 0, .int .i64 100] 40) := ⟨_, rfl⟩
    rw [← hwz] at HT HS HR7 HR9 HR12 HR14 HBD ⊢
    have hltz := HBD.out.lt
    clear hwz
    refine wp_region_st (by kernel_rfl) (Vs [fun v _ => v = .bool true, fun v _ => v = .bool true, fun v _ => v = .slice (some ⟨g6, 0, none⟩) l.length c6, fun v _ => v = .agg #[.slice none 0 0, .slice none 0 0, .int .i64 100], fun v _ => v = .agg #[.slice none 0 0, .slice none 0 0, .int .i64 100], fun v _ => v = .bool true, fun v _ => v = .bool true, fun v _ => v = .bool true, fun v _ => v = .slice a9 m9.length c9, fun v _ => v = .agg #[.slice none 0 0, .slice none 0 0, .int .i64 100], fun v _ => v = .agg #[.slice none 0 0, .slice none 0 0, .int .i64 100], fun v _ => v = .bool true, fun v _ => v = .bool true, fun v _ => v = .bool true, fun v _ => v = .slice a12 m12.length c12, fun v _ => v = .agg #[.slice none 0 0, .slice none 0 0, .int .i64 100], fun v _ => v = .agg #[.slice none 0 0, .slice none 0 0, .int .i64 100], fun v _ => v = .bool true, fun v _ => v = .bool true, fun v _ => v = .bool true, fun v _ => v = .slice a14 m14.length c14, fun v _ => v = .agg #[.slice none 0 0, .slice none 0 0, .int .i64 100], fun v _ => v = .agg #[.slice none 0 0, .slice none 0 0, .int .i64 100], fun v _ => v = .bool true, fun v _ => v = .bool true, fun v _ => v = .bool true]) (Xs [Ext, Ext, Ext, Ext, Ext, Ext, Ext, Ext, Ext, Ext, Ext, Ext, Ext, Ext, Ext, Ext, Ext, Ext, Ext, Ext, Ext, Ext, Ext, Ext, Ext, Ext]) (fun fL => (fun W => Below wz.heap.size wz W) ) [0, 1, 3, 7, 3, 31, 63, 127, 255, 511, 255, 2047, 4095, 8191, 16383, 32767, 16383, 131071, 262143, 524287, 1048575, 2097151, 1048575, 8388607, 16777215, 33554431] 117 26 (by kernel_rfl) rfl ?hV ?hS ?hop ?hfin ?hlast
    case hV =>
      refine xs_stays (vs_stays (by simp only [List.mem_cons, List.not_mem_nil, or_false, forall_eq_or_imp, forall_eq]; exact ⟨stays_const _, stays_const _, stays_const _, stays_const _, stays_const _, stays_const _, stays_const _, stays_const _, stays_const _, stays_const _, stays_const _, stays_const _, stays_const _, stays_const _, stays_const _, stays_const _, stays_const _, stays_const _, stays_const _, stays_const _, stays_const _, stays_const _, stays_const _, stays_const _, stays_const _, stays_const _⟩)) ?_
      exact ⟨.inl rfl, .inl rfl, .inl rfl, .inl rfl, .inl rfl, .inl rfl, .inl rfl, .inl rfl, .inl rfl, .inl rfl, .inl rfl, .inl rfl, .inl rfl, .inl rfl, .inl rfl, .inl rfl, .inl rfl, .inl rfl, .inl rfl, .inl rfl, .inl rfl, .inl rfl, .inl rfl, .inl rfl, .inl rfl, .inl rfl, trivial⟩
    case hS =>
      intro fL hf
      show (fun W => Below wz.heap.size wz W)  _
      exact (Below.refl _ wz).drew
    case hop =>
      refine ⟨?_, ?_, ?c2, ?c3, ?c4, ?c5, ?_, ?_, ?c8, ?c9, ?c10, ?c11, ?_, ?_, ?c14, ?c15, ?c16, ?c17, ?_, ?_, ?c20, ?c21, ?c22, ?c23, ?_, ?_, trivial⟩
      all_goals first | rw [if_neg (by decide)] | rw [if_pos (by decide)]
      all_goals try intro ac W fL hsz hfi hms hdn hS0 hdep hbase hund
      all_goals try have hS : (fun W => Below wz.heap.size wz W)  W := hS0
      all_goals try (
        obtain ⟨bx0, bx1, bx2⟩ := cells3' (HBD.out.go hS).at')
      all_goals try (have h7 : ac.tmps.getD 7 undef = .bool true := hbase 7 (by kernel_rfl); have hh7 := h7; rw [Array.getD_eq_getD_getElem?] at hh7)
      all_goals try (have h12 : ac.tmps.getD 12 undef = .slice (some ⟨g6, 0, none⟩) l.length c6 := hbase 12 (by kernel_rfl); have hh12 := h12; rw [Array.getD_eq_getD_getElem?] at hh12)
      all_goals try (have h13 : ac.tmps.getD 13 undef = .slice a9 m9.length c9 := hbase 13 (by kernel_rfl); have hh13 := h13; rw [Array.getD_eq_getD_getElem?] at hh13)
      all_goals try (have h14 : ac.tmps.getD 14 undef = .slice a12 m12.length c12 := hbase 14 (by kernel_rfl); have hh14 := h14; rw [Array.getD_eq_getD_getElem?] at hh14)
      all_goals try (have h15 : ac.tmps.getD 15 undef = .slice a14 m14.length c14 := hbase 15 (by kernel_rfl); have hh15 := h15; rw [Array.getD_eq_getD_getElem?] at hh15)
      all_goals try (have h16 : ac.tmps.getD 16 undef = .pointer (some ⟨w14.heap.size, 0, none⟩) := hbase 16 (by kernel_rfl); have hh16 := h16; rw [Array.getD_eq_getD_getElem?] at hh16)
      all_goals try (have d92 : ac.tmps.getD 92 undef = .bool true := hdep 0 (by decide); have dd92 := d92; rw [Array.getD_eq_getD_getElem?] at dd92)
      all_goals try (have d93 : ac.tmps.getD 93 undef = .bool true := hdep 1 (by decide); have dd93 := d93; rw [Array.getD_eq_getD_getElem?] at dd93)
      all_goals try (have d94 : ac.tmps.getD 94 undef = .slice (some ⟨g6, 0, none⟩) l.length c6 := hdep 2 (by decide); have dd94 := d94; rw [Array.getD_eq_getD_getElem?] at dd94)
      all_goals try (have d95 : ac.tmps.getD 95 undef = .agg #[.slice none 0 0, .slice none 0 0, .int .i64 100] := hdep 3 (by decide); have dd95 := d95; rw [Array.getD_eq_getD_getElem?] at dd95)
      all_goals try (have d96 : ac.tmps.getD 96 undef = .agg #[.slice none 0 0, .slice none 0 0, .int .i64 100] := hdep 4 (by decide); have dd96 := d96; rw [Array.getD_eq_getD_getElem?] at dd96)
      all_goals try (have d97 : ac.tmps.getD 97 undef = .bool true := hdep 5 (by decide); have dd97 := d97; rw [Array.getD_eq_getD_getElem?] at dd97)
      all_goals try (have d98 : ac.tmps.getD 98 undef = .bool true := hdep 6 (by decide); have dd98 := d98; rw [Array.getD_eq_getD_getElem?] at dd98)
      all_goals try (have d99 : ac.tmps.getD 99 undef = .bool true := hdep 7 (by decide); have dd99 := d99; rw [Array.getD_eq_getD_getElem?] at dd99)
      all_goals try (have d100 : ac.tmps.getD 100 undef = .slice a9 m9.length c9 := hdep 8 (by decide); have dd100 := d100; rw [Array.getD_eq_getD_getElem?] at dd100)
      all_goals try (have d101 : ac.tmps.getD 101 undef = .agg #[.slice none 0 0, .slice none 0 0, .int .i64 100] := hdep 9 (by decide); have dd101 := d101; rw [Array.getD_eq_getD_getElem?] at dd101)
      all_goals try (have d102 : ac.tmps.getD 102 undef = .agg #[.slice none 0 0, .slice none 0 0, .int .i64 100] := hdep 10 (by decide); have dd102 := d102; rw [Array.getD_eq_getD_getElem?] at dd102)
      all_goals try (have d103 : ac.tmps.getD 103 undef = .bool true := hdep 11 (by decide); have dd103 := d103; rw [Array.getD_eq_getD_getElem?] at dd103)
      all_goals try (have d104 : ac.tmps.getD 104 undef = .bool true := hdep 12 (by decide); have dd104 := d104; rw [Array.getD_eq_getD_getElem?] at dd104)
      all_goals try (have d105 : ac.tmps.getD 105 undef = .bool true := hdep 13 (by decide); have dd105 := d105; rw [Array.getD_eq_getD_getElem?] at dd105)
      all_goals try (have d106 : ac.tmps.getD 106 undef = .slice a12 m12.length c12 := hdep 14 (by decide); have dd106 := d106; rw [Array.getD_eq_getD_getElem?] at dd106)
      all_goals try (have d107 : ac.tmps.getD 107 undef = .agg #[.slice none 0 0, .slice none 0 0, .int .i64 100] := hdep 15 (by decide); have dd107 := d107; rw [Array.getD_eq_getD_getElem?] at dd107)
      all_goals try (have d108 : ac.tmps.getD 108 undef = .agg #[.slice none 0 0, .slice none 0 0, .int .i64 100] := hdep 16 (by decide); have dd108 := d108; rw [Array.getD_eq_getD_getElem?] at dd108)
      all_goals try (have d109 : ac.tmps.getD 109 undef = .bool true := hdep 17 (by decide); have dd109 := d109; rw [Array.getD_eq_getD_getElem?] at dd109)
      all_goals try (have d110 : ac.tmps.getD 110 undef = .bool true := hdep 18 (by decide); have dd110 := d110; rw [Array.getD_eq_getD_getElem?] at dd110)
      all_goals try (have d111 : ac.tmps.getD 111 undef = .bool true := hdep 19 (by decide); have dd111 := d111; rw [Array.getD_eq_getD_getElem?] at dd111)
      all_goals try (have d112 : ac.tmps.getD 112 undef = .slice a14 m14.length c14 := hdep 20 (by decide); have dd112 := d112; rw [Array.getD_eq_getD_getElem?] at dd112)
      all_goals try (have d113 : ac.tmps.getD 113 undef = .agg #[.slice none 0 0, .slice none 0 0, .int .i64 100] := hdep 21 (by decide); have dd113 := d113; rw [Array.getD_eq_getD_getElem?] at dd113)
      all_goals try (have d114 : ac.tmps.getD 114 undef = .agg #[.slice none 0 0, .slice none 0 0, .int .i64 100] := hdep 22 (by decide); have dd114 := d114; rw [Array.getD_eq_getD_getElem?] at dd114)
      all_goals try (have d115 : ac.tmps.getD 115 undef = .bool true := hdep 23 (by decide); have dd115 := d115; rw [Array.getD_eq_getD_getElem?] at dd115)
      all_goals try (have d116 : ac.tmps.getD 116 undef = .bool true := hdep 24 (by decide); have dd116 := d116; rw [Array.getD_eq_getD_getElem?] at dd116)
      all_goals try clear hbase hdep hms hdn hund
      case c2 => refine opOk_runG (j := 1) (d := 93) (b := true) rfl (by kernel_rfl) dd93 rfl (.inl ⟨_, W, ?_, rfl, Ext.refl _, hS0⟩); clear hsz hS hS0 hfi; simp [go_sem, Act.eval, *]
      case c3 =>
        refine opOk_runG (j := 1) (d := 93) (b := true) rfl (by kernel_rfl) dd93 rfl (.inr ⟨18, #[.slice (some ⟨g6, 0, none⟩) l.length c6], W, by (clear hsz hS hS0 hfi; simp [go_sem, Act.eval, *]), ?_⟩)
        refine (unpackL_d (HR7.out.go hS) (by rw [List.length_set]; omega) (HT.out.go hS)).mono ?_
        rintro e w20 ⟨v, rfl, hv, hb9⟩
        rw [HN7.out] at hv
        exact ⟨_, rfl, hv, hb9, Below.trans hS (Below.mono hb9 hS.size)⟩
      case c4 => refine opOk_runG (j := 1) (d := 93) (b := true) rfl (by kernel_rfl) dd93 rfl (.inl ⟨_, W, ?_, rfl, Ext.refl _, hS0⟩); clear hsz hS hS0 hfi; simp [go_sem, Act.eval, *]
      case c5 =>
        refine opOk_runG (j := 1) (d := 93) (b := true) rfl (by kernel_rfl) dd93 rfl (.inr ⟨17, #[.agg #[.slice none 0 0, .slice none 0 0, .int .i64 100], .agg #[.slice none 0 0, .slice none 0 0, .int .i64 100]], W, by (clear hsz hS hS0 hfi; simp [go_sem, Act.eval, *]), ?_⟩)
        refine (same_u none none _ _ W rfl rfl).mono ?_
        rintro e w20 ⟨he, hb9⟩
        rw [decide_eq_true rfl] at he
        subst he
        exact ⟨_, rfl, rfl, hb9, Below.trans hS (Below.mono hb9 hS.size)⟩
      case c8 => refine opOk_runG (j := 7) (d := 99) (b := true) rfl (by kernel_rfl) dd99 rfl (.inl ⟨_, W, ?_, rfl, Ext.refl _, hS0⟩); clear hsz hS hS0 hfi; simp [go_sem, Act.eval, *]
      case c9 =>
        refine opOk_runG (j := 7) (d := 99) (b := true) rfl (by kernel_rfl) dd99 rfl (.inr ⟨18, #[.slice a9 m9.length c9], W, by (clear hsz hS hS0 hfi; simp [go_sem, Act.eval, *]), ?_⟩)
        refine (unpackL_d (HR9.out.go hS) (hms9) (HT.out.go hS)).mono ?_
        rintro e w20 ⟨v, rfl, hv, hb9⟩
        rw [HM9.out] at hv
        exact ⟨_, rfl, hv, hb9, Below.trans hS (Below.mono hb9 hS.size)⟩
      case c10 => refine opOk_runG (j := 7) (d := 99) (b := true) rfl (by kernel_rfl) dd99 rfl (.inl ⟨_, W, ?_, rfl, Ext.refl _, hS0⟩); clear hsz hS hS0 hfi; simp [go_sem, Act.eval, *]
      case c11 =>
        refine opOk_runG (j := 7) (d := 99) (b := true) rfl (by kernel_rfl) dd99 rfl (.inr ⟨17, #[.agg #[.slice none 0 0, .slice none 0 0, .int .i64 100], .agg #[.slice none 0 0, .slice none 0 0, .int .i64 100]], W, by (clear hsz hS hS0 hfi; simp [go_sem, Act.eval, *]), ?_⟩)
        refine (same_u none none _ _ W rfl rfl).mono ?_
        rintro e w20 ⟨he, hb9⟩
        rw [decide_eq_true rfl] at he
        subst he
        exact ⟨_, rfl, rfl, hb9, Below.trans hS (Below.mono hb9 hS.size)⟩
      case c14 => refine opOk_runG (j := 13) (d := 105) (b := true) rfl (by kernel_rfl) dd105 rfl (.inl ⟨_, W, ?_, rfl, Ext.refl _, hS0⟩); clear hsz hS hS0 hfi; simp [go_sem, Act.eval, *]
      case c15 =>
        refine opOk_runG (j := 13) (d := 105) (b := true) rfl (by kernel_rfl) dd105 rfl (.inr ⟨18, #[.slice a12 m12.length c12], W, by (clear hsz hS hS0 hfi; simp [go_sem, Act.eval, *]), ?_⟩)
        refine (unpackL_d (HR12.out.go hS) (hms12) (HT.out.go hS)).mono ?_
        rintro e w20 ⟨v, rfl, hv, hb9⟩
        rw [HM12.out] at hv
        exact ⟨_, rfl, hv, hb9, Below.trans hS (Below.mono hb9 hS.size)⟩
      case c16 => refine opOk_runG (j := 13) (d := 105) (b := true) rfl (by kernel_rfl) dd105 rfl (.inl ⟨_, W, ?_, rfl, Ext.refl _, hS0⟩); clear hsz hS hS0 hfi; simp [go_sem, Act.eval, *]
      case c17 =>
        refine opOk_runG (j := 13) (d := 105) (b := true) rfl (by kernel_rfl) dd105 rfl (.inr ⟨17, #[.agg #[.slice none 0 0, .slice none 0 0, .int .i64 100], .agg #[.slice none 0 0, .slice none 0 0, .int .i64 100]], W, by (clear hsz hS hS0 hfi; simp [go_sem, Act.eval, *]), ?_⟩)
        refine (same_u none none _ _ W rfl rfl).mono ?_
        rintro e w20 ⟨he, hb9⟩
        rw [decide_eq_true rfl] at he
        subst he
        exact ⟨_, rfl, rfl, hb9, Below.trans hS (Below.mono hb9 hS.size)⟩
      case c20 => refine opOk_runG (j := 19) (d := 111) (b := true) rfl (by kernel_rfl) dd111 rfl (.inl ⟨_, W, ?_, rfl, Ext.refl _, hS0⟩); clear hsz hS hS0 hfi; simp [go_sem, Act.eval, *]
      case c21 =>
        refine opOk_runG (j := 19) (d := 111) (b := true) rfl (by kernel_rfl) dd111 rfl (.inr ⟨18, #[.slice a14 m14.length c14], W, by (clear hsz hS hS0 hfi; simp [go_sem, Act.eval, *]), ?_⟩)
        refine (unpackL_d (HR14.out.go hS) (hms14) (HT.out.go hS)).mono ?_
        rintro e w20 ⟨v, rfl, hv, hb9⟩
        rw [HM14.out] at hv
        exact ⟨_, rfl, hv, hb9, Below.trans hS (Below.mono hb9 hS.size)⟩
      case c22 => refine opOk_runG (j := 19) (d := 111) (b := true) rfl (by kernel_rfl) dd111 rfl (.inl ⟨_, W, ?_, rfl, Ext.refl _, hS0⟩); clear hsz hS hS0 hfi; simp [go_sem, Act.eval, *]
      case c23 =>
        refine opOk_runG (j := 19) (d := 111) (b := true) rfl (by kernel_rfl) dd111 rfl (.inr ⟨17, #[.agg #[.slice none 0 0, .slice none 0 0, .int .i64 100], .agg #[.slice none 0 0, .slice none 0 0, .int .i64 100]], W, by (clear hsz hS hS0 hfi; simp [go_sem, Act.eval, *]), ?_⟩)
        refine (same_u none none _ _ W rfl rfl).mono ?_
        rintro e w20 ⟨he, hb9⟩
        rw [decide_eq_true rfl] at he
        subst he
        exact ⟨_, rfl, rfl, hb9, Below.trans hS (Below.mono hb9 hS.size)⟩
      all_goals (refine opOk_run rfl (.inl ⟨_, W, ?_, rfl, Ext.refl _, hS0⟩); clear hsz hS hS0 hfi; simp [go_sem, Act.eval, *]; done)
    case hlast =>
      intro h; exact absurd rfl h
    case hfin =>
      intro _ ac W hsz hdf fL hf hS0 hv hbase
      have hS : (fun W => Below wz.heap.size wz W)  W := hS0
      clear hS0
      obtain ⟨sx, hsx, hsA⟩ := act_puts [92, 93, 94, 95, 96, 97, 98, 99, 100, 101, 102, 103, 104, 105, 106, 107, 108, 109, 110, 111, 112, 113, 114, 115, 116, 6] (by kernel_rfl) hsz hdf hbase
      have e6 : sx 6 = .bool true := (hsx 6).trans (hv 25 (by decide))
      rw [hsA]
      simp only [List.foldl]
      rw [e6]
      clear e6
      simp only [Act.put, List.setIfInBounds_toArray, List.set_cons_succ, List.set_cons_zero]
      clear hsA hsx hv hbase hsz hdf hf
      have HSr := Lib.hid (HS.out.go hS)
      clear hS
      go_wp2
      go_ret
      exact ⟨rfl, HSr.out.out⟩
end Go.Proofs.YtocdljmdmiphnaaDoor
