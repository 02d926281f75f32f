/- DawgRefuses: plain, and the walk. -/
import Derived.Test.YtemdlfbcnnoglaaDoorDLBegin
import Derived.Test.YtemdlfbcnnoglaaDoorDBuildF
import Derived.Deep.Strs
namespace Go.Proofs.YtemdlfbcnnoglaaDoor
open Go.RowKit Go.WideShapes
set_option linter.unusedVariables false
set_option linter.unusedSimpArgs false

/-! ### its arguments -/
structure StrsA where
  a : Option Addr
  len : Nat
  cap : Nat
  L : List ByteArray
def StrsA.val (x : StrsA) : Value := .slice x.a x.len x.cap
structure StrsOk (w : World) (x : StrsA) : Prop where
  rows : StrS w x.a x.L
  len : x.len = x.L.length
  cap : x.len ≤ x.cap
  le : x.len ≤ 9223372036854775807
open Go.Deep Go.ChangeShapes Go.ChangeAt in
set_option maxRecDepth 100000 in
theorem open_strsA {H : Type} {enc : TypeId × Value → H} {w : World} {base : Nat} {spare : Nat → Bool} {held : Bool} {d : DataW H} {p : List MemPlace} {r : Reach} {b0 : Nat} {v : Value}
    (hv : Value.okWide Tryd.prog w r b0 25 v) (h : DataW.Trod enc Tryd.prog w base spare held 25 v d p) : ∃ x : StrsA, v = x.val ∧ StrsOk w x := by
  obtain ⟨a, len, cap, rfl⟩ := okWide_slice Tryd.underlying25 hv
  obtain ⟨f, hf⟩ := h
  have hf2 : DataW.trod enc Tryd.prog w base spare held f 25 [.slice a len cap] = some (d, p) := by simpa [Value.cells] using hf
  rcases open_strs Tryd.underlying25 Tryd.underlying9 (by kernel_rfl) hf2 with ⟨h0, _⟩ | ⟨ad, l, c, m, Sx, h0, hba, hl, hcm, hmm, _, hel⟩
  · cases h0
    exact ⟨⟨none, 0, 0, []⟩, rfl, fun k hk => absurd hk (Nat.not_lt_zero k), rfl, Nat.le_refl _, by show 0 ≤ _; omega⟩
  · cases h0
    have hlm : len ≤ m := by rw [hmm]; split <;> omega
    have hle : len ≤ 9223372036854775807 := by unfold maxLen at hcm; omega
    refine ⟨⟨some ad, len, cap, (List.range len).map Sx⟩, rfl, fun k hk => ?_, by show len = ((List.range len).map Sx).length; simp, hl, hle⟩
    have hk2 : k < len := by simpa using hk
    obtain ⟨h1, _⟩ := hel k (by omega)
    obtain ⟨b, o, sp⟩ := ad
    have hs := World.cell?_spot (hel 0 (by omega)).1
    obtain rfl : sp = none := by simpa [Addr.add] using hs
    have hb := World.block_lt_of_cell? w _ h1
    rw [addr_add'] at h1 hb
    refine ⟨b, o, rfl, hb, ?_⟩
    rw [h1]
    simp

/-! ### plain -/
theorem StrS.set {w : World} {g o i : Nat} {L : List ByteArray} {t : ByteArray} (h : StrS w (some ⟨g, o, none⟩) L) (hi : i < L.length) : StrS (w.setCell ⟨g, o + i, none⟩ (.string t)) (some ⟨g, o, none⟩) (L.set i t) := fun k hk => by
  have hk2 : k < L.length := by simpa using hk
  obtain ⟨b1, o1, e, hb, hc⟩ := h k hk2
  injection e with e
  injection e with e1 e2
  subst e1 e2
  refine ⟨g, o, rfl, by simpa using hb, ?_⟩
  by_cases e : k = i
  · subst e
    rw [World.cell?_setCell_same (h := hc)]; simp
  · rw [World.cell?_setCell_other (h := by intro h; injection h with _ h; omega), hc]
    rw [List.getElem_set_ne (Ne.symm e)]
theorem strS_take {w : World} {a : Option Addr} {L M : List ByteArray} (h : StrS w a L) (hp : M <+: L) : StrS w a M := fun k hk => by
  obtain ⟨t, rfl⟩ := hp
  obtain ⟨b, o, e, hb, hc⟩ := h k (by rw [List.length_append]; omega)
  refine ⟨b, o, e, hb, ?_⟩
  rw [hc, List.getElem_append_left hk]
def twoL (k : Nat) : ByteArray := ⟨#[UInt8.ofNat (97 + k / 26), UInt8.ofNat (97 + k % 26)]⟩
def longL (k : Nat) : List ByteArray := (List.range k).map twoL
theorem longL_len (k : Nat) : (longL k).length = k := by simp [longL]
theorem longL_succ (k : Nat) : longL (k + 1) = longL k ++ [twoL k] := by simp [longL, List.range_succ]
theorem longL_pre : longL 200 <+: longL 201 := ⟨[twoL 200], (longL_succ 200).symm⟩
theorem dict_long : Dict (longL 200) := dict_mk (by rw [longL_len]; omega) (by rw [longL_len]; exact Nat.le_refl _) (by kernel_rfl)
theorem not_dict_long : ¬ Dict (longL 201) := fun h => by have := h.2.1; rw [longL_len] at this; omega
theorem conv_two (p q : Nat) (hp : p < 256) (hq : q < 256) (w : World) : (convert 23 9 (.slice (some ⟨w.heap.size, 0, none⟩) 2 2)).run Tryd.prog (w.alloc (.cells #[.int .u8 (p : Int), .int .u8 (q : Int)] 5)) = .ok (.string ⟨#[UInt8.ofNat p, UInt8.ofNat q]⟩) (w.alloc (.cells #[.int .u8 (p : Int), .int .u8 (q : Int)] 5)) := by
  have h1 : (UInt8.ofNat p).toNat = p := by rw [UInt8.toNat_ofNat']; omega
  have h2 : (UInt8.ofNat q).toNat = q := by rw [UInt8.toNat_ofNat']; omega
  have hbr : ByteR (w.alloc (.cells #[.int .u8 (p : Int), .int .u8 (q : Int)] 5)) (some ⟨w.heap.size, 0, none⟩) [UInt8.ofNat p, UInt8.ofNat q] := .inr ⟨_, _, rfl, heap_alloc_new w _, by simp [h1, h2]⟩
  exact conv_bytes hbr 2
/-- the word that is put in -/
def optsL (x y : ByteArray) : List ByteArray := [⟨#[]⟩, x ++ ⟨#[45]⟩, ⟨#[65]⟩, y, ⟨#[97, 98, 99, 100, 101, 102, 103, 104, 105, 106, 107, 108, 109, 110, 111, 112, 113, 114, 115, 116, 117]⟩, ⟨#[122, 122]⟩]
/-- a row of six texts -/
def Row6 (T : List ByteArray) (v : Value) (W : World) : Prop := ∃ g, v = .slice (some ⟨g, 0, none⟩) 6 6 ∧ StrS W (some ⟨g, 0, none⟩) T
theorem row6_stays (T : List ByteArray) : Stays (Row6 T) := by
  rintro v w w' ⟨g, hv, h⟩ hx
  exact ⟨g, hv, h.go hx⟩
def PtrS (t : ByteArray) (v : Value) (W : World) : Prop := ∃ p : Addr, v = .pointer (some p) ∧ p.block < W.heap.size ∧ W.cell? p = some (.string t)
theorem ptrS_stays (t : ByteArray) : Stays (PtrS t) := by
  rintro v w w' ⟨p, hv, hb, h⟩ hx
  exact ⟨p, hv, Nat.lt_of_lt_of_le hb hx.size, (Below.cell hx hb).trans h⟩
theorem wpOp_store_str {P : Program} {ops : Array Oper} {Q : Exit → Act → World → Prop} {L : Nat} {K : Act → World → Prop} {o : Oper} {A : Act} {W : World} {ty : TypeId} {p v : Operand} {ad : Addr} {s : ByteArray} {y : Value}
    (ho : ops[L]? = some o) (hg : o.guard = none) (hop : o.op = .store ty p v) (hd : o.dst = none) (hp : A.eval p = .pointer (some ad)) (hv : A.eval v = .string s) (hf : W.frozen? ad = false) (hc : W.cell? ad = some y) (hsz : (sizeOf ty).run P W = .ok 1 W) (hK : K A (W.setCell ad (.string s))) : wpOp P ops Q L K A W := by
  unfold wpOp
  rw [ho]
  have hw : Region.wanted o (yielded ops A.tmps) = true := by unfold Region.wanted; rw [hg]
  simp only [hw, if_pos]
  refine .inl ?_
  unfold Oper.wp execOp
  simp only [hop, hp, hv]
  simp [go_sem, hf, hc, hsz]
  rw [hd]
  exact hK

theorem Since.below {w w1 w2 : World} (h : Since w1 w2) (hb : Below w.heap.size w w1) : Below w.heap.size w w2 := hb.trans (h.out.mono hb.size)
/-! ### the walk -/
set_option maxHeartbeats 3200000 in
set_option maxRecDepth 100000 in
theorem dawgRefuses_view (xl : StrsA) (xm : BytsA) (a0 a1 : Int) (w : World) (hx : StrsOk w xl) (hm : BytsOk w xm) (h00 : 0 ≤ a0) (h01 : a0 ≤ 255) (h10 : 0 ≤ a1) (h11 : a1 ≤ 255) (hT : Tab w) :
    Calls Tryd.prog 8 #[xl.val, xm.val, .agg #[.int .u8 a0, .int .u8 a1]] w fun e w' => e = .returned (.bool true) ∧ Below w.heap.size w w' := by
  obtain ⟨al, nl, cl, N⟩ := xl
  obtain ⟨a, len, cap, Q⟩ := xm
  obtain ⟨hN, hnl, hncl, hnl3⟩ := hx
  obtain ⟨hQ, hl⟩ := hm
  simp only at hN hnl hncl hnl3 hQ hl
  have HN := Lib.hid hN; have HNL := Lib.hid hnl
  have HT := Lib.hid hT; have HQ := Lib.hid hQ
  clear hN hT hQ hnl
  show Calls Tryd.prog 8 #[.slice al nl cl, .slice a len cap, .agg #[.int .u8 a0, .int .u8 a1]] w _
  go_enter Tryd.func8, Tryd.ntmps8
  go_wp2_with fail
  have hal0 : Below w.heap.size w (w.alloc (.cells #[.int .u8 a0, .int .u8 a1] 58)) := (Below.refl _ _).alloc (Nat.le_refl _) _
  have hbx := heap_alloc_new w (.cells #[.int .u8 a0, .int .u8 a1] 58)
  refine (sanity_any _ (HT.out.go hal0)).mono ?_
  rintro e w1 ⟨rfl, hb⟩
  have hbx1 : w1.heap[w.heap.size]? = some (.cells #[.int .u8 a0, .int .u8 a1] 58) := (hb.block _ (by simp)).trans hbx
  have hB1 : Below w.heap.size w w1 := hal0.trans (hb.mono hal0.size)
  have hz1 : w.heap.size < w1.heap.size := by have := hb.size; simp only [World.size_alloc] at this; omega
  have HBX := Lib.hid hbx1; have HB1 := Lib.hid hB1
  clear hb hal0 hbx hbx1 hB1
  by_cases h6 : 6 < nl
  · go_wp2
    go_ret
    exact ⟨rfl, HB1.out⟩
  have hE := heap_alloc_new w1 (.cells #[] 9)
  have hal1 : Below w1.heap.size w1 (w1.alloc (.cells #[] 9)) := (Below.refl _ _).alloc (Nat.le_refl _) _
  have HE := Lib.hid hE; have HAL := Lib.hid hal1
  clear hE hal1
  go_wp2_with fail
  refine (made_d 6 6 rfl (by decide) (by decide) (HQ.out.go (HB1.out.trans (HAL.out.mono HB1.out.size))) hl).mono ?_
  rintro e w2 ⟨L, b, o, c, -, rfl, hd, hm2, -, hc, hR, hb⟩
  have hz12 : w1.heap.size < w2.heap.size := by have := hb.size; simp only [World.size_alloc] at this; omega
  have HB2 : Hid (Below w1.heap.size w1 w2) := HAL.out.trans (hb.mono HAL.out.size)
  have HOE : Hid (OwnG rowStr w2 w1.heap.size (.slice (some ⟨w1.heap.size, 0, none⟩) 0 0) []) := (OwnG.empty rowStr HE.out (Nat.le_refl _)).later hb (Nat.le_refl _)
  have HCE : Hid (∀ j u, (L.flatMap rowStr.enc)[j]? = some u → w2.cell? ((⟨b, o, none⟩ : Addr).add j) = some u) := cells_strs (k := 0) hR (fun j hj => ⟨by omega, by congr 1; omega⟩)
  have HD := Lib.hid hd
  clear hb hR hd HAL HE
  go_upto_region 5 with (first | (at_builtin; go_loud (refine wpList_append_g rowStr_ok rfl _ _ rfl rfl HOE.out ⟨b, o, none⟩ c L rfl HCE.out (by simp only [List.length_nil]; omega) (by omega) ?_); intro v5 w5 hown5 hgrow5 hat5; have HO5 := Lib.hid hown5; have HB5 := Lib.hid (HB2.out.trans ((Below.refl w1.heap.size w2).grown hgrow5 (by omega) HOE.out.ge)); clear hown5 hgrow5 hat5))
  have hpos := HD.out.1
  obtain ⟨g5, c5, rfl, hg5, hc5⟩ : ∃ g c, v5 = .slice (some ⟨g, 0, none⟩) L.length c ∧ w1.heap.size ≤ g ∧ L.length ≤ c := by
    have ho := HO5.out
    rw [List.nil_append] at ho
    rcases ho.blk with ⟨_, h⟩ | ⟨g, c, e, h1, _, h3⟩
    · rw [h] at hpos; simp at hpos
    · exact ⟨g, c, e, h1, h3⟩
  have ho5 := HO5.out
  rw [List.nil_append] at ho5
  have HO := Lib.hid ho5
  clear ho5 HO5
  have HBx5 : Hid (w5.heap[w.heap.size]? = some (.cells #[.int .u8 a0, .int .u8 a1] 58)) := (HB5.out.block _ hz1).trans HBX.out
  obtain ⟨bx0, bx1⟩ := cells2 HBx5.out
  have hwn : IntKind.i64.wrap a0 = a0 := IntWalk.i64_in a0 (by omega)
  obtain ⟨i, hi⟩ : ∃ i : Nat, a0.tmod (L.length : Int) = (i : Int) := ⟨(a0.tmod (L.length : Int)).toNat, by have := Int.tmod_nonneg (L.length : Int) h00; omega⟩
  have hil : i < L.length := by have := Int.tmod_lt_of_pos a0 (show (0 : Int) < (L.length : Int) by omega); omega
  have hwk : IntKind.i64.wrap (i : Int) = (i : Int) := IntWalk.i64_in _ (by omega)
  have hne : ¬ (L.length : Int) = 0 := by omega
  go_upto_region 6 with fail
  clear bx0 bx1 hwn hi hwk hne
  obtain ⟨j, hj⟩ : ∃ j : Nat, a1.tmod 6 = (j : Int) := ⟨(a1.tmod 6).toNat, by have := Int.tmod_nonneg 6 h10; omega⟩
  have hj6 : j < 6 := by have := Int.tmod_lt_of_pos a1 (show (0 : Int) < 6 by omega); omega
  have hwj : IntKind.u8.wrap (j : Int) = (j : Int) := IntWalk.u8_in _ (by omega)
  obtain ⟨x, hx⟩ : ∃ x, L[i] = x := ⟨_, rfl⟩
  obtain ⟨y, hy⟩ : ∃ y, L[0] = y := ⟨_, rfl⟩
  obtain ⟨t, ht⟩ : ∃ t, (optsL x y)[j]'hj6 = t := ⟨_, rfl⟩
  have hxs : x.size ≤ 20 := by rw [← hx]; exact (word_facts (HD.out.word _ (List.getElem_mem _))).2.1
  have hxs2 : x.size ≤ 9223372036854775806 := by omega
  have HT6 := Lib.hid ht
  have hst0 := HO.out.strs.1
  obtain ⟨bq, oq, e1, hgl, hci⟩ := hst0 i hil
  injection e1 with e1
  injection e1 with e1 e2
  subst e1 e2
  obtain ⟨bq, oq, e1, _, hc0⟩ := hst0 0 hpos
  injection e1 with e1
  injection e1 with e1 e2
  subst e1 e2
  rw [hx, Nat.zero_add] at hci
  rw [hy] at hc0
  have hidx := idx_strs (some ⟨g5, 0, none⟩) g5 0 L.length c5 i rfl hil
  rw [Nat.zero_add] at hidx
  have hidx0 : ∀ W, (Instr.indexAt 25 (.slice (some ⟨g5, 0, none⟩) L.length c5) (.int .i64 0)).run Tryd.prog W = .ok (.pointer (some ⟨g5, 0, none⟩)) W := fun W => idx_strs (some ⟨g5, 0, none⟩) g5 0 L.length c5 0 rfl hpos W
  have HCI := Lib.hid hci; have HC0 := Lib.hid hc0
  obtain ⟨cs5, hcs5⟩ := HO.out.obj (g := g5) rfl
  have HCS := Lib.hid hcs5
  clear hx hy ht hst0 hci hc0 hcs5
  refine wp_region_st (by kernel_rfl) (Vs [fun v _ => v = .slice (some ⟨g5, 0, none⟩) L.length c5, fun v _ => v = .int .i64 (i : Int), fun v _ => v = .slice (some ⟨g5, 0, none⟩) L.length c5, fun v _ => v = .int .i64 (i : Int), fun v _ => v = .pointer (some ⟨g5, i, none⟩), fun v _ => v = .string x, fun v _ => v = .string (x ++ ⟨#[45]⟩), fun v _ => v = .slice (some ⟨g5, 0, none⟩) L.length c5, fun v _ => v = .pointer (some ⟨g5, 0, none⟩), fun v _ => v = .string y, Row6 (optsL x y), fun v _ => v = .pointer (some ⟨w.heap.size, 1, none⟩), fun v _ => v = .int .u8 a1, fun v _ => v = .int .u8 (j : Int), PtrS t, fun v _ => v = .string t, fun v _ => v = .pointer (some ⟨g5, i, none⟩)]) (Xs [Ext, Ext, Ext, Ext, Ext, Ext, Ext, Ext, Ext, Ext, Ext, Ext, Ext, Ext, Ext, Ext, Ext]) (fun fL => (fun W => Below w5.heap.size w5 W) ) [0, 0, 0, 0, 12, 28, 60, 0, 128, 384, 1020, 0, 2048, 6144, 16380, 32764, 3] 121 17 (by kernel_rfl) rfl ?hV ?hS ?hop ?hfin ?hlast
  case hV =>
    refine xs_stays (vs_stays (by simp only [List.mem_cons, List.not_mem_nil, or_false, forall_eq_or_imp, forall_eq]; exact ⟨stays_const _, stays_const _, stays_const _, stays_const _, stays_const _, stays_const _, stays_const _, stays_const _, stays_const _, stays_const _, row6_stays _, stays_const _, stays_const _, stays_const _, ptrS_stays _, stays_const _, stays_const _⟩)) ?_
    exact ⟨.inl rfl, .inl rfl, .inl rfl, .inl rfl, .inl rfl, .inl rfl, .inl rfl, .inl rfl, .inl rfl, .inl rfl, .inl rfl, .inl rfl, .inl rfl, .inl rfl, .inl rfl, .inl rfl, .inl rfl, trivial⟩
  case hS =>
    intro fL hf
    show (fun W => Below w5.heap.size w5 W)  _
    exact ⟨rfl, rfl, rfl, Nat.le_refl _, fun _ _ => rfl⟩
  case hop =>
    refine ⟨?_, ?_, ?_, ?_, ?_, ?_, ?_, ?_, ?_, ?_, ?_, ?_, ?_, ?_, ?_, ?_, ?_, ?_, trivial⟩
    all_goals first | rw [if_neg (by decide)] | rw [if_pos (by decide)]
    · intro ac W fL hsz hfi hms hdn hS0 hdep hbase hund
      have hS : (fun W => Below w5.heap.size w5 W)  W := hS0
      have hS1 : (fun W => Below w5.heap.size w5 W)  W := by
        exact hS0
      obtain ⟨q0, q1⟩ := cells2 ((hS.block _ (Nat.lt_of_lt_of_le hz1 HB5.out.size)).trans HBx5.out)
      have q2 := (hS.cell (p := ⟨g5, i, none⟩) hgl).trans HCI.out
      have q3 := (hS.cell (p := ⟨g5, 0, none⟩) hgl).trans HC0.out
      have h8 : ac.tmps.getD 8 undef = .slice (some ⟨g5, 0, none⟩) L.length c5 := hbase 8 (by kernel_rfl)
      have hh8 := h8; rw [Array.getD_eq_getD_getElem?] at hh8
      have h9 : ac.tmps.getD 9 undef = .int .i64 (i : Int) := hbase 9 (by kernel_rfl)
      have hh9 := h9; rw [Array.getD_eq_getD_getElem?] at hh9
      have h5 : ac.tmps.getD 5 undef = .pointer (some ⟨w.heap.size, 0, none⟩) := hbase 5 (by kernel_rfl)
      have hh5 := h5; rw [Array.getD_eq_getD_getElem?] at hh5
      clear hbase hdep hms hdn hund
      refine opOk_run rfl (.inl ⟨_, W, ?_, rfl, Ext.refl _, hS1⟩)
      clear hsz hS hS0 hS1 hfi; simp [go_sem, Act.eval, *]
    · intro ac W fL hsz hfi hms hdn hS0 hdep hbase hund
      have hS : (fun W => Below w5.heap.size w5 W)  W := hS0
      have hS1 : (fun W => Below w5.heap.size w5 W)  W := by
        exact hS0
      obtain ⟨q0, q1⟩ := cells2 ((hS.block _ (Nat.lt_of_lt_of_le hz1 HB5.out.size)).trans HBx5.out)
      have q2 := (hS.cell (p := ⟨g5, i, none⟩) hgl).trans HCI.out
      have q3 := (hS.cell (p := ⟨g5, 0, none⟩) hgl).trans HC0.out
      have h8 : ac.tmps.getD 8 undef = .slice (some ⟨g5, 0, none⟩) L.length c5 := hbase 8 (by kernel_rfl)
      have hh8 := h8; rw [Array.getD_eq_getD_getElem?] at hh8
      have h9 : ac.tmps.getD 9 undef = .int .i64 (i : Int) := hbase 9 (by kernel_rfl)
      have hh9 := h9; rw [Array.getD_eq_getD_getElem?] at hh9
      have h5 : ac.tmps.getD 5 undef = .pointer (some ⟨w.heap.size, 0, none⟩) := hbase 5 (by kernel_rfl)
      have hh5 := h5; rw [Array.getD_eq_getD_getElem?] at hh5
      clear hbase hdep hms hdn hund
      refine opOk_run rfl (.inl ⟨_, W, ?_, rfl, Ext.refl _, hS1⟩)
      clear hsz hS hS0 hS1 hfi; simp [go_sem, Act.eval, *]
    · intro ac W fL hsz hfi hms hdn hS0 hdep hbase hund
      have hS : (fun W => Below w5.heap.size w5 W)  W := hS0
      have hS1 : (fun W => Below w5.heap.size w5 W)  W := by
        exact hS0
      obtain ⟨q0, q1⟩ := cells2 ((hS.block _ (Nat.lt_of_lt_of_le hz1 HB5.out.size)).trans HBx5.out)
      have q2 := (hS.cell (p := ⟨g5, i, none⟩) hgl).trans HCI.out
      have q3 := (hS.cell (p := ⟨g5, 0, none⟩) hgl).trans HC0.out
      have h8 : ac.tmps.getD 8 undef = .slice (some ⟨g5, 0, none⟩) L.length c5 := hbase 8 (by kernel_rfl)
      have hh8 := h8; rw [Array.getD_eq_getD_getElem?] at hh8
      have h9 : ac.tmps.getD 9 undef = .int .i64 (i : Int) := hbase 9 (by kernel_rfl)
      have hh9 := h9; rw [Array.getD_eq_getD_getElem?] at hh9
      have h5 : ac.tmps.getD 5 undef = .pointer (some ⟨w.heap.size, 0, none⟩) := hbase 5 (by kernel_rfl)
      have hh5 := h5; rw [Array.getD_eq_getD_getElem?] at hh5
      clear hbase hdep hms hdn hund
      refine opOk_run rfl (.inl ⟨_, W, ?_, rfl, Ext.refl _, hS1⟩)
      clear hsz hS hS0 hS1 hfi; simp [go_sem, Act.eval, *]
    · intro ac W fL hsz hfi hms hdn hS0 hdep hbase hund
      have hS : (fun W => Below w5.heap.size w5 W)  W := hS0
      have hS1 : (fun W => Below w5.heap.size w5 W)  W := by
        exact hS0
      obtain ⟨q0, q1⟩ := cells2 ((hS.block _ (Nat.lt_of_lt_of_le hz1 HB5.out.size)).trans HBx5.out)
      have q2 := (hS.cell (p := ⟨g5, i, none⟩) hgl).trans HCI.out
      have q3 := (hS.cell (p := ⟨g5, 0, none⟩) hgl).trans HC0.out
      have h8 : ac.tmps.getD 8 undef = .slice (some ⟨g5, 0, none⟩) L.length c5 := hbase 8 (by kernel_rfl)
      have hh8 := h8; rw [Array.getD_eq_getD_getElem?] at hh8
      have h9 : ac.tmps.getD 9 undef = .int .i64 (i : Int) := hbase 9 (by kernel_rfl)
      have hh9 := h9; rw [Array.getD_eq_getD_getElem?] at hh9
      have h5 : ac.tmps.getD 5 undef = .pointer (some ⟨w.heap.size, 0, none⟩) := hbase 5 (by kernel_rfl)
      have hh5 := h5; rw [Array.getD_eq_getD_getElem?] at hh5
      clear hbase hdep hms hdn hund
      refine opOk_run rfl (.inl ⟨_, W, ?_, rfl, Ext.refl _, hS1⟩)
      clear hsz hS hS0 hS1 hfi; simp [go_sem, Act.eval, *]
    · intro ac W fL hsz hfi hms hdn hS0 hdep hbase hund
      have hS : (fun W => Below w5.heap.size w5 W)  W := hS0
      have hS1 : (fun W => Below w5.heap.size w5 W)  W := by
        exact hS0
      obtain ⟨q0, q1⟩ := cells2 ((hS.block _ (Nat.lt_of_lt_of_le hz1 HB5.out.size)).trans HBx5.out)
      have q2 := (hS.cell (p := ⟨g5, i, none⟩) hgl).trans HCI.out
      have q3 := (hS.cell (p := ⟨g5, 0, none⟩) hgl).trans HC0.out
      have h8 : ac.tmps.getD 8 undef = .slice (some ⟨g5, 0, none⟩) L.length c5 := hbase 8 (by kernel_rfl)
      have hh8 := h8; rw [Array.getD_eq_getD_getElem?] at hh8
      have h9 : ac.tmps.getD 9 undef = .int .i64 (i : Int) := hbase 9 (by kernel_rfl)
      have hh9 := h9; rw [Array.getD_eq_getD_getElem?] at hh9
      have h5 : ac.tmps.getD 5 undef = .pointer (some ⟨w.heap.size, 0, none⟩) := hbase 5 (by kernel_rfl)
      have hh5 := h5; rw [Array.getD_eq_getD_getElem?] at hh5
      have d37 : ac.tmps.getD 37 undef = .slice (some ⟨g5, 0, none⟩) L.length c5 := hdep 2 (by decide)
      have dd37 := d37; rw [Array.getD_eq_getD_getElem?] at dd37
      have d38 : ac.tmps.getD 38 undef = .int .i64 (i : Int) := hdep 3 (by decide)
      have dd38 := d38; rw [Array.getD_eq_getD_getElem?] at dd38
      clear hbase hdep hms hdn hund
      refine opOk_run rfl (.inl ⟨_, W, ?_, rfl, Ext.refl _, hS1⟩)
      clear hsz hS hS0 hS1 hfi; simp [go_sem, Act.eval, *]
    · intro ac W fL hsz hfi hms hdn hS0 hdep hbase hund
      have hS : (fun W => Below w5.heap.size w5 W)  W := hS0
      have hS1 : (fun W => Below w5.heap.size w5 W)  W := by
        exact hS0
      obtain ⟨q0, q1⟩ := cells2 ((hS.block _ (Nat.lt_of_lt_of_le hz1 HB5.out.size)).trans HBx5.out)
      have q2 := (hS.cell (p := ⟨g5, i, none⟩) hgl).trans HCI.out
      have q3 := (hS.cell (p := ⟨g5, 0, none⟩) hgl).trans HC0.out
      have h8 : ac.tmps.getD 8 undef = .slice (some ⟨g5, 0, none⟩) L.length c5 := hbase 8 (by kernel_rfl)
      have hh8 := h8; rw [Array.getD_eq_getD_getElem?] at hh8
      have h9 : ac.tmps.getD 9 undef = .int .i64 (i : Int) := hbase 9 (by kernel_rfl)
      have hh9 := h9; rw [Array.getD_eq_getD_getElem?] at hh9
      have h5 : ac.tmps.getD 5 undef = .pointer (some ⟨w.heap.size, 0, none⟩) := hbase 5 (by kernel_rfl)
      have hh5 := h5; rw [Array.getD_eq_getD_getElem?] at hh5
      have d39 : ac.tmps.getD 39 undef = .pointer (some ⟨g5, i, none⟩) := hdep 4 (by decide)
      have dd39 := d39; rw [Array.getD_eq_getD_getElem?] at dd39
      clear hbase hdep hms hdn hund
      refine opOk_run rfl (.inl ⟨_, W, ?_, rfl, Ext.refl _, hS1⟩)
      clear hsz hS hS0 hS1 hfi; simp [go_sem, Act.eval, *]
    · intro ac W fL hsz hfi hms hdn hS0 hdep hbase hund
      have hS : (fun W => Below w5.heap.size w5 W)  W := hS0
      have hS1 : (fun W => Below w5.heap.size w5 W)  W := by
        exact hS0
      obtain ⟨q0, q1⟩ := cells2 ((hS.block _ (Nat.lt_of_lt_of_le hz1 HB5.out.size)).trans HBx5.out)
      have q2 := (hS.cell (p := ⟨g5, i, none⟩) hgl).trans HCI.out
      have q3 := (hS.cell (p := ⟨g5, 0, none⟩) hgl).trans HC0.out
      have h8 : ac.tmps.getD 8 undef = .slice (some ⟨g5, 0, none⟩) L.length c5 := hbase 8 (by kernel_rfl)
      have hh8 := h8; rw [Array.getD_eq_getD_getElem?] at hh8
      have h9 : ac.tmps.getD 9 undef = .int .i64 (i : Int) := hbase 9 (by kernel_rfl)
      have hh9 := h9; rw [Array.getD_eq_getD_getElem?] at hh9
      have h5 : ac.tmps.getD 5 undef = .pointer (some ⟨w.heap.size, 0, none⟩) := hbase 5 (by kernel_rfl)
      have hh5 := h5; rw [Array.getD_eq_getD_getElem?] at hh5
      have d40 : ac.tmps.getD 40 undef = .string x := hdep 5 (by decide)
      have dd40 := d40; rw [Array.getD_eq_getD_getElem?] at dd40
      clear hbase hdep hms hdn hund
      refine opOk_run rfl (.inl ⟨_, W, ?_, rfl, Ext.refl _, hS1⟩)
      clear hsz hS hS0 hS1 hfi; simp [go_sem, Act.eval, *]
    · intro ac W fL hsz hfi hms hdn hS0 hdep hbase hund
      have hS : (fun W => Below w5.heap.size w5 W)  W := hS0
      have hS1 : (fun W => Below w5.heap.size w5 W)  W := by
        exact hS0
      obtain ⟨q0, q1⟩ := cells2 ((hS.block _ (Nat.lt_of_lt_of_le hz1 HB5.out.size)).trans HBx5.out)
      have q2 := (hS.cell (p := ⟨g5, i, none⟩) hgl).trans HCI.out
      have q3 := (hS.cell (p := ⟨g5, 0, none⟩) hgl).trans HC0.out
      have h8 : ac.tmps.getD 8 undef = .slice (some ⟨g5, 0, none⟩) L.length c5 := hbase 8 (by kernel_rfl)
      have hh8 := h8; rw [Array.getD_eq_getD_getElem?] at hh8
      have h9 : ac.tmps.getD 9 undef = .int .i64 (i : Int) := hbase 9 (by kernel_rfl)
      have hh9 := h9; rw [Array.getD_eq_getD_getElem?] at hh9
      have h5 : ac.tmps.getD 5 undef = .pointer (some ⟨w.heap.size, 0, none⟩) := hbase 5 (by kernel_rfl)
      have hh5 := h5; rw [Array.getD_eq_getD_getElem?] at hh5
      clear hbase hdep hms hdn hund
      refine opOk_run rfl (.inl ⟨_, W, ?_, rfl, Ext.refl _, hS1⟩)
      clear hsz hS hS0 hS1 hfi; simp [go_sem, Act.eval, *]
    · intro ac W fL hsz hfi hms hdn hS0 hdep hbase hund
      have hS : (fun W => Below w5.heap.size w5 W)  W := hS0
      have hS1 : (fun W => Below w5.heap.size w5 W)  W := by
        exact hS0
      obtain ⟨q0, q1⟩ := cells2 ((hS.block _ (Nat.lt_of_lt_of_le hz1 HB5.out.size)).trans HBx5.out)
      have q2 := (hS.cell (p := ⟨g5, i, none⟩) hgl).trans HCI.out
      have q3 := (hS.cell (p := ⟨g5, 0, none⟩) hgl).trans HC0.out
      have h8 : ac.tmps.getD 8 undef = .slice (some ⟨g5, 0, none⟩) L.length c5 := hbase 8 (by kernel_rfl)
      have hh8 := h8; rw [Array.getD_eq_getD_getElem?] at hh8
      have h9 : ac.tmps.getD 9 undef = .int .i64 (i : Int) := hbase 9 (by kernel_rfl)
      have hh9 := h9; rw [Array.getD_eq_getD_getElem?] at hh9
      have h5 : ac.tmps.getD 5 undef = .pointer (some ⟨w.heap.size, 0, none⟩) := hbase 5 (by kernel_rfl)
      have hh5 := h5; rw [Array.getD_eq_getD_getElem?] at hh5
      have d42 : ac.tmps.getD 42 undef = .slice (some ⟨g5, 0, none⟩) L.length c5 := hdep 7 (by decide)
      have dd42 := d42; rw [Array.getD_eq_getD_getElem?] at dd42
      clear hbase hdep hms hdn hund
      refine opOk_run rfl (.inl ⟨_, W, ?_, rfl, Ext.refl _, hS1⟩)
      clear hsz hS hS0 hS1 hfi; simp [go_sem, Act.eval, *]
    · intro ac W fL hsz hfi hms hdn hS0 hdep hbase hund
      have hS : (fun W => Below w5.heap.size w5 W)  W := hS0
      have hS1 : (fun W => Below w5.heap.size w5 W)  W := by
        exact hS0
      obtain ⟨q0, q1⟩ := cells2 ((hS.block _ (Nat.lt_of_lt_of_le hz1 HB5.out.size)).trans HBx5.out)
      have q2 := (hS.cell (p := ⟨g5, i, none⟩) hgl).trans HCI.out
      have q3 := (hS.cell (p := ⟨g5, 0, none⟩) hgl).trans HC0.out
      have h8 : ac.tmps.getD 8 undef = .slice (some ⟨g5, 0, none⟩) L.length c5 := hbase 8 (by kernel_rfl)
      have hh8 := h8; rw [Array.getD_eq_getD_getElem?] at hh8
      have h9 : ac.tmps.getD 9 undef = .int .i64 (i : Int) := hbase 9 (by kernel_rfl)
      have hh9 := h9; rw [Array.getD_eq_getD_getElem?] at hh9
      have h5 : ac.tmps.getD 5 undef = .pointer (some ⟨w.heap.size, 0, none⟩) := hbase 5 (by kernel_rfl)
      have hh5 := h5; rw [Array.getD_eq_getD_getElem?] at hh5
      have d43 : ac.tmps.getD 43 undef = .pointer (some ⟨g5, 0, none⟩) := hdep 8 (by decide)
      have dd43 := d43; rw [Array.getD_eq_getD_getElem?] at dd43
      clear hbase hdep hms hdn hund
      refine opOk_run rfl (.inl ⟨_, W, ?_, rfl, Ext.refl _, hS1⟩)
      clear hsz hS hS0 hS1 hfi; simp [go_sem, Act.eval, *]
    · intro ac W fL hsz hfi hms hdn hS0 hdep hbase hund
      have hS : (fun W => Below w5.heap.size w5 W)  W := hS0
      have hS1 : (fun W => Below w5.heap.size w5 W)  W := by
        exact hS0
      obtain ⟨q0, q1⟩ := cells2 ((hS.block _ (Nat.lt_of_lt_of_le hz1 HB5.out.size)).trans HBx5.out)
      have q2 := (hS.cell (p := ⟨g5, i, none⟩) hgl).trans HCI.out
      have q3 := (hS.cell (p := ⟨g5, 0, none⟩) hgl).trans HC0.out
      have h8 : ac.tmps.getD 8 undef = .slice (some ⟨g5, 0, none⟩) L.length c5 := hbase 8 (by kernel_rfl)
      have hh8 := h8; rw [Array.getD_eq_getD_getElem?] at hh8
      have h9 : ac.tmps.getD 9 undef = .int .i64 (i : Int) := hbase 9 (by kernel_rfl)
      have hh9 := h9; rw [Array.getD_eq_getD_getElem?] at hh9
      have h5 : ac.tmps.getD 5 undef = .pointer (some ⟨w.heap.size, 0, none⟩) := hbase 5 (by kernel_rfl)
      have hh5 := h5; rw [Array.getD_eq_getD_getElem?] at hh5
      have d41 : ac.tmps.getD 41 undef = .string (x ++ ⟨#[45]⟩) := hdep 6 (by decide)
      have dd41 := d41; rw [Array.getD_eq_getD_getElem?] at dd41
      have d44 : ac.tmps.getD 44 undef = .string y := hdep 9 (by decide)
      have dd44 := d44; rw [Array.getD_eq_getD_getElem?] at dd44
      clear hbase hdep hms hdn hund
      refine opOk_run rfl (.inl ⟨.slice (some ⟨W.heap.size, 0, none⟩) 6 6, W.alloc (.cells ((optsL x y).map Value.string).toArray 9), ?_, ⟨_, rfl, strS_row (heap_alloc_new _ _) rfl⟩, (Below.refl _ _).alloc (Nat.le_refl _) _, (show Below w5.heap.size w5 _ from hS.alloc hS.size _)⟩)
      clear hsz hS hS0 hS1 hfi; simp [go_sem, Act.eval, optsL, *]
    · intro ac W fL hsz hfi hms hdn hS0 hdep hbase hund
      have hS : (fun W => Below w5.heap.size w5 W)  W := hS0
      have hS1 : (fun W => Below w5.heap.size w5 W)  W := by
        exact hS0
      obtain ⟨q0, q1⟩ := cells2 ((hS.block _ (Nat.lt_of_lt_of_le hz1 HB5.out.size)).trans HBx5.out)
      have q2 := (hS.cell (p := ⟨g5, i, none⟩) hgl).trans HCI.out
      have q3 := (hS.cell (p := ⟨g5, 0, none⟩) hgl).trans HC0.out
      have h8 : ac.tmps.getD 8 undef = .slice (some ⟨g5, 0, none⟩) L.length c5 := hbase 8 (by kernel_rfl)
      have hh8 := h8; rw [Array.getD_eq_getD_getElem?] at hh8
      have h9 : ac.tmps.getD 9 undef = .int .i64 (i : Int) := hbase 9 (by kernel_rfl)
      have hh9 := h9; rw [Array.getD_eq_getD_getElem?] at hh9
      have h5 : ac.tmps.getD 5 undef = .pointer (some ⟨w.heap.size, 0, none⟩) := hbase 5 (by kernel_rfl)
      have hh5 := h5; rw [Array.getD_eq_getD_getElem?] at hh5
      clear hbase hdep hms hdn hund
      refine opOk_run rfl (.inl ⟨_, W, ?_, rfl, Ext.refl _, hS1⟩)
      clear hsz hS hS0 hS1 hfi; simp [go_sem, Act.eval, *]
    · intro ac W fL hsz hfi hms hdn hS0 hdep hbase hund
      have hS : (fun W => Below w5.heap.size w5 W)  W := hS0
      have hS1 : (fun W => Below w5.heap.size w5 W)  W := by
        exact hS0
      obtain ⟨q0, q1⟩ := cells2 ((hS.block _ (Nat.lt_of_lt_of_le hz1 HB5.out.size)).trans HBx5.out)
      have q2 := (hS.cell (p := ⟨g5, i, none⟩) hgl).trans HCI.out
      have q3 := (hS.cell (p := ⟨g5, 0, none⟩) hgl).trans HC0.out
      have h8 : ac.tmps.getD 8 undef = .slice (some ⟨g5, 0, none⟩) L.length c5 := hbase 8 (by kernel_rfl)
      have hh8 := h8; rw [Array.getD_eq_getD_getElem?] at hh8
      have h9 : ac.tmps.getD 9 undef = .int .i64 (i : Int) := hbase 9 (by kernel_rfl)
      have hh9 := h9; rw [Array.getD_eq_getD_getElem?] at hh9
      have h5 : ac.tmps.getD 5 undef = .pointer (some ⟨w.heap.size, 0, none⟩) := hbase 5 (by kernel_rfl)
      have hh5 := h5; rw [Array.getD_eq_getD_getElem?] at hh5
      have d46 : ac.tmps.getD 46 undef = .pointer (some ⟨w.heap.size, 1, none⟩) := hdep 11 (by decide)
      have dd46 := d46; rw [Array.getD_eq_getD_getElem?] at dd46
      clear hbase hdep hms hdn hund
      refine opOk_run rfl (.inl ⟨_, W, ?_, rfl, Ext.refl _, hS1⟩)
      clear hsz hS hS0 hS1 hfi; simp [go_sem, Act.eval, *]
    · intro ac W fL hsz hfi hms hdn hS0 hdep hbase hund
      have hS : (fun W => Below w5.heap.size w5 W)  W := hS0
      have hS1 : (fun W => Below w5.heap.size w5 W)  W := by
        exact hS0
      obtain ⟨q0, q1⟩ := cells2 ((hS.block _ (Nat.lt_of_lt_of_le hz1 HB5.out.size)).trans HBx5.out)
      have q2 := (hS.cell (p := ⟨g5, i, none⟩) hgl).trans HCI.out
      have q3 := (hS.cell (p := ⟨g5, 0, none⟩) hgl).trans HC0.out
      have h8 : ac.tmps.getD 8 undef = .slice (some ⟨g5, 0, none⟩) L.length c5 := hbase 8 (by kernel_rfl)
      have hh8 := h8; rw [Array.getD_eq_getD_getElem?] at hh8
      have h9 : ac.tmps.getD 9 undef = .int .i64 (i : Int) := hbase 9 (by kernel_rfl)
      have hh9 := h9; rw [Array.getD_eq_getD_getElem?] at hh9
      have h5 : ac.tmps.getD 5 undef = .pointer (some ⟨w.heap.size, 0, none⟩) := hbase 5 (by kernel_rfl)
      have hh5 := h5; rw [Array.getD_eq_getD_getElem?] at hh5
      have d47 : ac.tmps.getD 47 undef = .int .u8 a1 := hdep 12 (by decide)
      have dd47 := d47; rw [Array.getD_eq_getD_getElem?] at dd47
      clear hbase hdep hms hdn hund
      refine opOk_run rfl (.inl ⟨_, W, ?_, rfl, Ext.refl _, hS1⟩)
      clear hsz hS hS0 hS1 hfi; simp [go_sem, Act.eval, *]
    · intro ac W fL hsz hfi hms hdn hS0 hdep hbase hund
      have hS : (fun W => Below w5.heap.size w5 W)  W := hS0
      have hS1 : (fun W => Below w5.heap.size w5 W)  W := by
        exact hS0
      obtain ⟨q0, q1⟩ := cells2 ((hS.block _ (Nat.lt_of_lt_of_le hz1 HB5.out.size)).trans HBx5.out)
      have q2 := (hS.cell (p := ⟨g5, i, none⟩) hgl).trans HCI.out
      have q3 := (hS.cell (p := ⟨g5, 0, none⟩) hgl).trans HC0.out
      have h8 : ac.tmps.getD 8 undef = .slice (some ⟨g5, 0, none⟩) L.length c5 := hbase 8 (by kernel_rfl)
      have hh8 := h8; rw [Array.getD_eq_getD_getElem?] at hh8
      have h9 : ac.tmps.getD 9 undef = .int .i64 (i : Int) := hbase 9 (by kernel_rfl)
      have hh9 := h9; rw [Array.getD_eq_getD_getElem?] at hh9
      have h5 : ac.tmps.getD 5 undef = .pointer (some ⟨w.heap.size, 0, none⟩) := hbase 5 (by kernel_rfl)
      have hh5 := h5; rw [Array.getD_eq_getD_getElem?] at hh5
      have d45 : (Row6 (optsL x y)) (ac.tmps.getD 45 undef) W := hdep 10 (by decide)
      have d48 : ac.tmps.getD 48 undef = .int .u8 (j : Int) := hdep 13 (by decide)
      have dd48 := d48; rw [Array.getD_eq_getD_getElem?] at dd48
      clear hbase hdep hms hdn hund
      obtain ⟨g62, e62, hs62⟩ := d45
      obtain ⟨bb, ob, eb, hbb, hcc⟩ := hs62 j hj6
      injection eb with eb
      injection eb with eb1 eb2
      subst eb1 eb2
      have hi62 : (Instr.indexAt 25 (.slice (some ⟨g62, 0, none⟩) 6 6) (.int .u8 (j : Int))).run Tryd.prog W = .ok (.pointer (some ⟨g62, 0 + j, none⟩)) W := by
        have h0 : (0 : Int) ≤ (j : Int) := by omega
        have h1 : (j : Int) < ((6 : Nat) : Int) := by omega
        simp [go_sem, h0]; omega
      rw [HT6.out] at hcc
      rw [Array.getD_eq_getD_getElem?] at e62
      refine opOk_run rfl (.inl ⟨_, W, ?_, ⟨_, rfl, hbb, hcc⟩, Ext.refl _, hS1⟩)
      clear hsz hS hS0 hS1 hfi hcc q0 q1 q2 q3; simp [go_sem, Act.eval, *]
    · intro ac W fL hsz hfi hms hdn hS0 hdep hbase hund
      have hS : (fun W => Below w5.heap.size w5 W)  W := hS0
      have hS1 : (fun W => Below w5.heap.size w5 W)  W := by
        exact hS0
      obtain ⟨q0, q1⟩ := cells2 ((hS.block _ (Nat.lt_of_lt_of_le hz1 HB5.out.size)).trans HBx5.out)
      have q2 := (hS.cell (p := ⟨g5, i, none⟩) hgl).trans HCI.out
      have q3 := (hS.cell (p := ⟨g5, 0, none⟩) hgl).trans HC0.out
      have h8 : ac.tmps.getD 8 undef = .slice (some ⟨g5, 0, none⟩) L.length c5 := hbase 8 (by kernel_rfl)
      have hh8 := h8; rw [Array.getD_eq_getD_getElem?] at hh8
      have h9 : ac.tmps.getD 9 undef = .int .i64 (i : Int) := hbase 9 (by kernel_rfl)
      have hh9 := h9; rw [Array.getD_eq_getD_getElem?] at hh9
      have h5 : ac.tmps.getD 5 undef = .pointer (some ⟨w.heap.size, 0, none⟩) := hbase 5 (by kernel_rfl)
      have hh5 := h5; rw [Array.getD_eq_getD_getElem?] at hh5
      have d49 : (PtrS t) (ac.tmps.getD 49 undef) W := hdep 14 (by decide)
      clear hbase hdep hms hdn hund
      obtain ⟨pp, ep, hpb, hpc⟩ := d49
      rw [Array.getD_eq_getD_getElem?] at ep
      refine opOk_run rfl (.inl ⟨_, W, ?_, rfl, Ext.refl _, hS1⟩)
      clear hsz hS hS0 hS1 hfi q0 q1 q2 q3; simp [go_sem, Act.eval, *]
    · intro ac W fL hsz hfi hms hdn hS0 hdep hbase hund
      have hS : (fun W => Below w5.heap.size w5 W)  W := hS0
      have hS1 : (fun W => Below w5.heap.size w5 W)  W := by
        exact hS0
      obtain ⟨q0, q1⟩ := cells2 ((hS.block _ (Nat.lt_of_lt_of_le hz1 HB5.out.size)).trans HBx5.out)
      have q2 := (hS.cell (p := ⟨g5, i, none⟩) hgl).trans HCI.out
      have q3 := (hS.cell (p := ⟨g5, 0, none⟩) hgl).trans HC0.out
      have h8 : ac.tmps.getD 8 undef = .slice (some ⟨g5, 0, none⟩) L.length c5 := hbase 8 (by kernel_rfl)
      have hh8 := h8; rw [Array.getD_eq_getD_getElem?] at hh8
      have h9 : ac.tmps.getD 9 undef = .int .i64 (i : Int) := hbase 9 (by kernel_rfl)
      have hh9 := h9; rw [Array.getD_eq_getD_getElem?] at hh9
      have h5 : ac.tmps.getD 5 undef = .pointer (some ⟨w.heap.size, 0, none⟩) := hbase 5 (by kernel_rfl)
      have hh5 := h5; rw [Array.getD_eq_getD_getElem?] at hh5
      have d35 : ac.tmps.getD 35 undef = .slice (some ⟨g5, 0, none⟩) L.length c5 := hdep 0 (by decide)
      have dd35 := d35; rw [Array.getD_eq_getD_getElem?] at dd35
      have d36 : ac.tmps.getD 36 undef = .int .i64 (i : Int) := hdep 1 (by decide)
      have dd36 := d36; rw [Array.getD_eq_getD_getElem?] at dd36
      clear hbase hdep hms hdn hund
      refine opOk_run rfl (.inl ⟨_, W, ?_, rfl, Ext.refl _, hS1⟩)
      clear hsz hS hS0 hS1 hfi; simp [go_sem, Act.eval, *]
    · trivial
  case hfin =>
    intro h; exact absurd h (by decide)
  case hlast =>
    intro _ ac W hsz hdf fL hf hS0 hv hbase
    have hS : (fun W => Below w5.heap.size w5 W)  W := hS0
    clear hS0
    have hst : ac.tmps.getD 51 undef = .pointer (some ⟨g5, i, none⟩) := hv 16 (by decide)
    have hnv : ac.tmps.getD 50 undef = .string t := hv 15 (by decide)
    have q2 := (hS.cell (p := ⟨g5, i, none⟩) hgl).trans HCI.out
    have q4 := (hS.block g5 hgl).trans HCS.out
    refine wpOp_store_str rfl rfl rfl rfl (eval_tmp hst) (eval_tmp hnv) (by simp [World.frozen?, q4]) q2 (by kernel_rfl) ?_
    have hB6 : Below w.heap.size w (W.setCell ⟨g5, i, none⟩ (.string t)) := (HB1.out.trans ((HB5.out.trans (hS.mono HB5.out.size)).mono HB1.out.size)).setCell (p := ⟨g5, i, none⟩) (by show w.heap.size ≤ g5; omega) _
    have hR6 : StrS (W.setCell ⟨g5, 0 + i, none⟩ (.string t)) (some ⟨g5, 0, none⟩) (L.set i t) := (HO.out.strs.1.go hS).set hil
    rw [Nat.zero_add] at hR6
    obtain ⟨w6, hw6⟩ : ∃ w6, W.setCell ⟨g5, i, none⟩ (.string t) = w6 := ⟨_, rfl⟩
    rw [hw6] at hB6 hR6 ⊢
    have HB6 := Lib.hid hB6; have HR6 := Lib.hid hR6
    clear hS q2 q4 hw6 hst hnv hB6 hR6
    obtain ⟨sx, hsx, hsA⟩ := act_puts [35, 36, 37, 38, 39, 40, 41, 42, 43, 44, 45, 46, 47, 48, 49, 50, 51] (by kernel_rfl) hsz hdf hbase
    rw [hsA]
    simp only [List.foldl]
    simp only [Act.put, List.setIfInBounds_toArray, List.set_cons_succ, List.set_cons_zero]
    clear hsA hsx hv hbase hsz hdf hf
    obtain ⟨M, hM⟩ : ∃ M, L.set i t = M := ⟨_, rfl⟩
    have HML : Hid (L.length = M.length) := by show _ = _; rw [← hM]; simp
    rw [hM] at HR6
    clear hM HD HBX HB1 HB2 HB5 HBx5 HCI HC0 HCS HO HT6 hxs hxs2 hidx hidx0 hj hwj HOE HCE
    have hs6 := Since.refl w6
    have HS6 := Lib.hid hs6
    clear hs6
    by_cases hdm : Dict M
    · have HDM := Lib.hid hdm
      clear hdm
      by_cases hdn : Dict N
      · have HDN := Lib.hid hdn
        clear hdn
        go_wp2_with fail
        refine (build_yes M L.length (some ⟨g5, 0, none⟩) c5 w6 HR6.out HML.out (by omega) hc5 (HT.out.go HB6.out) HDM.out).mono ?_
        rintro e w7 ⟨a7, c7, rfl, -, -, -, hb⟩
        replace HR6 := Lib.hid (HR6.out.go hb); replace HS6 := Lib.hid (HS6.out.go hb)
        clear hb
        obtain ⟨n7, hn7⟩ : ∃ n7, (ofF (restAt 0 M)).length = n7 := ⟨_, rfl⟩
        rw [hn7]; clear hn7
        go_wp2_with fail
        refine (build_yes N nl al cl w7 (HN.out.go (HS6.out.below HB6.out)) HNL.out hnl3 hncl (HT.out.go (HS6.out.below HB6.out)) HDN.out).mono ?_
        rintro e w8 ⟨a8, c8, rfl, -, -, -, hb⟩
        replace HR6 := Lib.hid (HR6.out.go hb); replace HS6 := Lib.hid (HS6.out.go hb)
        clear hb
        obtain ⟨n8, hn8⟩ : ∃ n8, (ofF (restAt 0 N)).length = n8 := ⟨_, rfl⟩
        rw [hn8]; clear hn8
        go_wp2_with fail
        refine (rdictionary_any M L.length (some ⟨g5, 0, none⟩) c5 w8 HR6.out HML.out (by omega)).mono ?_
        rintro e w9 ⟨he, hb⟩
        rw [dictB_yes HDM.out] at he
        subst he
        replace HS6 := Lib.hid (HS6.out.go hb)
        clear hb
        clear HR6
        go_wp2_with fail
        refine (rdictionary_any N nl al cl w9 (HN.out.go (HS6.out.below HB6.out)) HNL.out hnl3).mono ?_
        rintro e w10 ⟨he, hb⟩
        rw [dictB_yes HDN.out] at he
        subst he
        replace HS6 := Lib.hid (HS6.out.go hb)
        clear hb
        clear HN HNL HDM HDN HML
        go_wp2
        have HB10 := Lib.hid (HS6.out.below HB6.out)
        go_loopw [15, 14] (fun i v wr => ∃ k : Nat, k ≤ 201 ∧ i = .int .i64 (k : Int) ∧ OwnG rowStr wr w.heap.size v (longL k) ∧ Below w.heap.size w wr) (fun i _ _ => 201 - (intOf i).toNat)
        case atStart => exact ⟨0, Nat.zero_le _, rfl, OwnG.empty rowStr (heap_alloc_new _ _) HB10.out.size, HB10.out.alloc HB10.out.size _⟩
        case round =>
          obtain ⟨k, hk, rfl, hown, hB⟩ := hrel
          have HOL := Lib.hid hown; have HBL := Lib.hid hB
          have hzB := hB.size
          clear hown hB
          by_cases hlt : k < 201
          · have hcv := conv_two (97 + k / 26) (97 + k % 26) (by omega) (by omega) wr
            have hq : (k : Int).tdiv 26 = ((k / 26 : Nat) : Int) := Int.ofNat_tdiv k 26
            have hr : (k : Int).tmod 26 = ((k % 26 : Nat) : Int) := Int.ofNat_tmod k 26
            have HLS : Hid (longL (k + 1) = longL k ++ [twoL k]) := longL_succ k
            have HTW : Hid (twoL k = ⟨#[UInt8.ofNat (97 + k / 26), UInt8.ofNat (97 + k % 26)]⟩) := rfl
            obtain ⟨p, hp⟩ : ∃ p, k / 26 = p := ⟨_, rfl⟩
            obtain ⟨q, hqq⟩ : ∃ q, k % 26 = q := ⟨_, rfl⟩
            have hp2 : p < 26 := by omega
            have hq2 : q < 26 := by omega
            rw [hp] at hcv hq HTW
            rw [hqq] at hcv hr HTW
            clear hp hqq
            have e97 : ((97 : Nat) : Int) = 97 := rfl
            rw [Int.natCast_add, Int.natCast_add, e97] at hcv
            clear e97
            have hw1 : IntKind.i64.wrap ((97 : Int) + (p : Int)) = (97 : Int) + (p : Int) := IntWalk.i64_in _ (by omega)
            have hw2 : IntKind.u8.wrap ((97 : Int) + (p : Int)) = (97 : Int) + (p : Int) := IntWalk.u8_in _ (by omega)
            have hw3 : IntKind.i64.wrap ((97 : Int) + (q : Int)) = (97 : Int) + (q : Int) := IntWalk.i64_in _ (by omega)
            have hw4 : IntKind.u8.wrap ((97 : Int) + (q : Int)) = (97 : Int) + (q : Int) := IntWalk.u8_in _ (by omega)
            have hw5 : IntKind.i64.wrap (p : Int) = (p : Int) := IntWalk.i64_in _ (by omega)
            have hw6 : IntKind.i64.wrap (q : Int) = (q : Int) := IntWalk.i64_in _ (by omega)
            obtain ⟨x, hx⟩ : ∃ x : ByteArray, ⟨#[UInt8.ofNat (97 + p), UInt8.ofNat (97 + q)]⟩ = x := ⟨_, rfl⟩
            rw [hx] at hcv HTW
            clear hx
            have HLL := Lib.hid (longL_len k)
            go_wp2_with (first
              | (at_builtin; go_loud (refine wpList_append_g rowStr_ok rfl _ _ rfl rfl (HOL.out.later (((Below.refl _ wr).alloc (Nat.le_refl _) _).alloc (by simp only [World.size_alloc]; omega) _) (Nat.le_refl _)) ⟨wr.heap.size + 1, 0, none⟩ 1 [x] rfl (cells_built (by have h9 := heap_alloc_new (wr.alloc (.cells #[.int .u8 (97 + (p : Int)), .int .u8 (97 + (q : Int))] 5)) (.cells #[.string x] 9); rw [World.size_alloc] at h9; exact h9)) (by have := HLL.out; simp only [List.length_singleton]; omega) (by simp only [World.size_alloc]; omega) ?_); intro v5 w5' hown5 hgrow5 _; have HO5 := Lib.hid hown5; have HB5' := Lib.hid (HBL.out.trans (((((Below.refl w.heap.size wr).alloc hzB _).alloc (by simp only [World.size_alloc]; omega) _).grown hgrow5 (by simp only [World.size_alloc]; omega) HOL.out.ge))); clear hown5 hgrow5))
            go_roundw
            case rel => exact ⟨k + 1, by omega, by go_num, by rw [HLS.out, HTW.out]; exact HO5.out, HB5'.out⟩
            case measure => simp [intOf]; omega
          · obtain rfl : k = 201 := by omega
            obtain ⟨g9, c9, rfl, hc9⟩ : ∃ g c, u14 = .slice (some ⟨g, 0, none⟩) 201 c ∧ 201 ≤ c := by
              have hll := longL_len 201
              rcases HOL.out.blk with ⟨_, h⟩ | ⟨g, c, e, _, _, h3⟩
              · rw [h] at hll; simp at hll
              · rw [hll] at e h3; exact ⟨g, c, e, h3⟩
            have HRL := Lib.hid HOL.out.strs.1
            have hs2 := Since.refl wr
            have HS9 := Lib.hid hs2
            clear HOL hs2
            go_wp2_with fail
            refine (build_no (longL 201) 201 (some ⟨g9, 0, none⟩) c9 wr HRL.out (longL_len 201).symm (by omega) hc9 (HT.out.go HBL.out) not_dict_long).mono ?_
            rintro e w11 ⟨rfl, hb⟩
            replace HRL := Lib.hid (HRL.out.go hb); replace HS9 := Lib.hid (HS9.out.go hb)
            clear hb
            have hlow : ∀ W, (Instr.slice 25 (.slice (some ⟨g9, 0, none⟩) 201 c9) none (some (.int .i64 200)) none).run Tryd.prog W = .ok (.slice (some ⟨g9, 0, none⟩) 200 c9) W := fun W => slice_strs_low ⟨g9, 0, none⟩ 201 c9 200 (by omega) hc9 W
            go_wp2_with fail
            refine (build_yes (longL 200) 200 (some ⟨g9, 0, none⟩) c9 w11 (strS_take HRL.out longL_pre) (longL_len 200).symm (by omega) (by omega) (HT.out.go (HS9.out.below HBL.out)) dict_long).mono ?_
            rintro e w12 ⟨a12, c12, rfl, -, -, -, hb⟩
            replace HS9 := Lib.hid (HS9.out.go hb)
            clear hb hlow
            obtain ⟨n12, hn12⟩ : ∃ n12, (ofF (restAt 0 (longL 200))).length = n12 := ⟨_, rfl⟩
            rw [hn12]; clear hn12
            go_wp2
            go_ret
            exact ⟨rfl, HS9.out.below HBL.out⟩
      · have HDN := Lib.hid hdn
        clear hdn
        go_wp2_with fail
        refine (build_yes M L.length (some ⟨g5, 0, none⟩) c5 w6 HR6.out HML.out (by omega) hc5 (HT.out.go HB6.out) HDM.out).mono ?_
        rintro e w7 ⟨a7, c7, rfl, -, -, -, hb⟩
        replace HR6 := Lib.hid (HR6.out.go hb); replace HS6 := Lib.hid (HS6.out.go hb)
        clear hb
        obtain ⟨n7, hn7⟩ : ∃ n7, (ofF (restAt 0 M)).length = n7 := ⟨_, rfl⟩
        rw [hn7]; clear hn7
        go_wp2_with fail
        refine (build_no N nl al cl w7 (HN.out.go (HS6.out.below HB6.out)) HNL.out hnl3 hncl (HT.out.go (HS6.out.below HB6.out)) HDN.out).mono ?_
        rintro e w8 ⟨rfl, hb⟩
        replace HR6 := Lib.hid (HR6.out.go hb); replace HS6 := Lib.hid (HS6.out.go hb)
        clear hb
        go_wp2_with fail
        refine (rdictionary_any M L.length (some ⟨g5, 0, none⟩) c5 w8 HR6.out HML.out (by omega)).mono ?_
        rintro e w9 ⟨he, hb⟩
        rw [dictB_yes HDM.out] at he
        subst he
        replace HS6 := Lib.hid (HS6.out.go hb)
        clear hb
        clear HR6
        go_wp2_with fail
        refine (rdictionary_any N nl al cl w9 (HN.out.go (HS6.out.below HB6.out)) HNL.out hnl3).mono ?_
        rintro e w10 ⟨he, hb⟩
        rw [dictB_no HDN.out] at he
        subst he
        replace HS6 := Lib.hid (HS6.out.go hb)
        clear hb
        clear HN HNL HDM HDN HML
        go_wp2
        have HB10 := Lib.hid (HS6.out.below HB6.out)
        go_loopw [15, 14] (fun i v wr => ∃ k : Nat, k ≤ 201 ∧ i = .int .i64 (k : Int) ∧ OwnG rowStr wr w.heap.size v (longL k) ∧ Below w.heap.size w wr) (fun i _ _ => 201 - (intOf i).toNat)
        case atStart => exact ⟨0, Nat.zero_le _, rfl, OwnG.empty rowStr (heap_alloc_new _ _) HB10.out.size, HB10.out.alloc HB10.out.size _⟩
        case round =>
          obtain ⟨k, hk, rfl, hown, hB⟩ := hrel
          have HOL := Lib.hid hown; have HBL := Lib.hid hB
          have hzB := hB.size
          clear hown hB
          by_cases hlt : k < 201
          · have hcv := conv_two (97 + k / 26) (97 + k % 26) (by omega) (by omega) wr
            have hq : (k : Int).tdiv 26 = ((k / 26 : Nat) : Int) := Int.ofNat_tdiv k 26
            have hr : (k : Int).tmod 26 = ((k % 26 : Nat) : Int) := Int.ofNat_tmod k 26
            have HLS : Hid (longL (k + 1) = longL k ++ [twoL k]) := longL_succ k
            have HTW : Hid (twoL k = ⟨#[UInt8.ofNat (97 + k / 26), UInt8.ofNat (97 + k % 26)]⟩) := rfl
            obtain ⟨p, hp⟩ : ∃ p, k / 26 = p := ⟨_, rfl⟩
            obtain ⟨q, hqq⟩ : ∃ q, k % 26 = q := ⟨_, rfl⟩
            have hp2 : p < 26 := by omega
            have hq2 : q < 26 := by omega
            rw [hp] at hcv hq HTW
            rw [hqq] at hcv hr HTW
            clear hp hqq
            have e97 : ((97 : Nat) : Int) = 97 := rfl
            rw [Int.natCast_add, Int.natCast_add, e97] at hcv
            clear e97
            have hw1 : IntKind.i64.wrap ((97 : Int) + (p : Int)) = (97 : Int) + (p : Int) := IntWalk.i64_in _ (by omega)
            have hw2 : IntKind.u8.wrap ((97 : Int) + (p : Int)) = (97 : Int) + (p : Int) := IntWalk.u8_in _ (by omega)
            have hw3 : IntKind.i64.wrap ((97 : Int) + (q : Int)) = (97 : Int) + (q : Int) := IntWalk.i64_in _ (by omega)
            have hw4 : IntKind.u8.wrap ((97 : Int) + (q : Int)) = (97 : Int) + (q : Int) := IntWalk.u8_in _ (by omega)
            have hw5 : IntKind.i64.wrap (p : Int) = (p : Int) := IntWalk.i64_in _ (by omega)
            have hw6 : IntKind.i64.wrap (q : Int) = (q : Int) := IntWalk.i64_in _ (by omega)
            obtain ⟨x, hx⟩ : ∃ x : ByteArray, ⟨#[UInt8.ofNat (97 + p), UInt8.ofNat (97 + q)]⟩ = x := ⟨_, rfl⟩
            rw [hx] at hcv HTW
            clear hx
            have HLL := Lib.hid (longL_len k)
            go_wp2_with (first
              | (at_builtin; go_loud (refine wpList_append_g rowStr_ok rfl _ _ rfl rfl (HOL.out.later (((Below.refl _ wr).alloc (Nat.le_refl _) _).alloc (by simp only [World.size_alloc]; omega) _) (Nat.le_refl _)) ⟨wr.heap.size + 1, 0, none⟩ 1 [x] rfl (cells_built (by have h9 := heap_alloc_new (wr.alloc (.cells #[.int .u8 (97 + (p : Int)), .int .u8 (97 + (q : Int))] 5)) (.cells #[.string x] 9); rw [World.size_alloc] at h9; exact h9)) (by have := HLL.out; simp only [List.length_singleton]; omega) (by simp only [World.size_alloc]; omega) ?_); intro v5 w5' hown5 hgrow5 _; have HO5 := Lib.hid hown5; have HB5' := Lib.hid (HBL.out.trans (((((Below.refl w.heap.size wr).alloc hzB _).alloc (by simp only [World.size_alloc]; omega) _).grown hgrow5 (by simp only [World.size_alloc]; omega) HOL.out.ge))); clear hown5 hgrow5))
            go_roundw
            case rel => exact ⟨k + 1, by omega, by go_num, by rw [HLS.out, HTW.out]; exact HO5.out, HB5'.out⟩
            case measure => simp [intOf]; omega
          · obtain rfl : k = 201 := by omega
            obtain ⟨g9, c9, rfl, hc9⟩ : ∃ g c, u14 = .slice (some ⟨g, 0, none⟩) 201 c ∧ 201 ≤ c := by
              have hll := longL_len 201
              rcases HOL.out.blk with ⟨_, h⟩ | ⟨g, c, e, _, _, h3⟩
              · rw [h] at hll; simp at hll
              · rw [hll] at e h3; exact ⟨g, c, e, h3⟩
            have HRL := Lib.hid HOL.out.strs.1
            have hs2 := Since.refl wr
            have HS9 := Lib.hid hs2
            clear HOL hs2
            go_wp2_with fail
            refine (build_no (longL 201) 201 (some ⟨g9, 0, none⟩) c9 wr HRL.out (longL_len 201).symm (by omega) hc9 (HT.out.go HBL.out) not_dict_long).mono ?_
            rintro e w11 ⟨rfl, hb⟩
            replace HRL := Lib.hid (HRL.out.go hb); replace HS9 := Lib.hid (HS9.out.go hb)
            clear hb
            have hlow : ∀ W, (Instr.slice 25 (.slice (some ⟨g9, 0, none⟩) 201 c9) none (some (.int .i64 200)) none).run Tryd.prog W = .ok (.slice (some ⟨g9, 0, none⟩) 200 c9) W := fun W => slice_strs_low ⟨g9, 0, none⟩ 201 c9 200 (by omega) hc9 W
            go_wp2_with fail
            refine (build_yes (longL 200) 200 (some ⟨g9, 0, none⟩) c9 w11 (strS_take HRL.out longL_pre) (longL_len 200).symm (by omega) (by omega) (HT.out.go (HS9.out.below HBL.out)) dict_long).mono ?_
            rintro e w12 ⟨a12, c12, rfl, -, -, -, hb⟩
            replace HS9 := Lib.hid (HS9.out.go hb)
            clear hb hlow
            obtain ⟨n12, hn12⟩ : ∃ n12, (ofF (restAt 0 (longL 200))).length = n12 := ⟨_, rfl⟩
            rw [hn12]; clear hn12
            go_wp2
            go_ret
            exact ⟨rfl, HS9.out.below HBL.out⟩
    · have HDM := Lib.hid hdm
      clear hdm
      by_cases hdn : Dict N
      · have HDN := Lib.hid hdn
        clear hdn
        go_wp2_with fail
        refine (build_no M L.length (some ⟨g5, 0, none⟩) c5 w6 HR6.out HML.out (by omega) hc5 (HT.out.go HB6.out) HDM.out).mono ?_
        rintro e w7 ⟨rfl, hb⟩
        replace HR6 := Lib.hid (HR6.out.go hb); replace HS6 := Lib.hid (HS6.out.go hb)
        clear hb
        go_wp2_with fail
        refine (build_yes N nl al cl w7 (HN.out.go (HS6.out.below HB6.out)) HNL.out hnl3 hncl (HT.out.go (HS6.out.below HB6.out)) HDN.out).mono ?_
        rintro e w8 ⟨a8, c8, rfl, -, -, -, hb⟩
        replace HR6 := Lib.hid (HR6.out.go hb); replace HS6 := Lib.hid (HS6.out.go hb)
        clear hb
        obtain ⟨n8, hn8⟩ : ∃ n8, (ofF (restAt 0 N)).length = n8 := ⟨_, rfl⟩
        rw [hn8]; clear hn8
        go_wp2_with fail
        refine (rdictionary_any M L.length (some ⟨g5, 0, none⟩) c5 w8 HR6.out HML.out (by omega)).mono ?_
        rintro e w9 ⟨he, hb⟩
        rw [dictB_no HDM.out] at he
        subst he
        replace HS6 := Lib.hid (HS6.out.go hb)
        clear hb
        clear HR6
        go_wp2_with fail
        refine (rdictionary_any N nl al cl w9 (HN.out.go (HS6.out.below HB6.out)) HNL.out hnl3).mono ?_
        rintro e w10 ⟨he, hb⟩
        rw [dictB_yes HDN.out] at he
        subst he
        replace HS6 := Lib.hid (HS6.out.go hb)
        clear hb
        clear HN HNL HDM HDN HML
        go_wp2
        have HB10 := Lib.hid (HS6.out.below HB6.out)
        go_loopw [15, 14] (fun i v wr => ∃ k : Nat, k ≤ 201 ∧ i = .int .i64 (k : Int) ∧ OwnG rowStr wr w.heap.size v (longL k) ∧ Below w.heap.size w wr) (fun i _ _ => 201 - (intOf i).toNat)
        case atStart => exact ⟨0, Nat.zero_le _, rfl, OwnG.empty rowStr (heap_alloc_new _ _) HB10.out.size, HB10.out.alloc HB10.out.size _⟩
        case round =>
          obtain ⟨k, hk, rfl, hown, hB⟩ := hrel
          have HOL := Lib.hid hown; have HBL := Lib.hid hB
          have hzB := hB.size
          clear hown hB
          by_cases hlt : k < 201
          · have hcv := conv_two (97 + k / 26) (97 + k % 26) (by omega) (by omega) wr
            have hq : (k : Int).tdiv 26 = ((k / 26 : Nat) : Int) := Int.ofNat_tdiv k 26
            have hr : (k : Int).tmod 26 = ((k % 26 : Nat) : Int) := Int.ofNat_tmod k 26
            have HLS : Hid (longL (k + 1) = longL k ++ [twoL k]) := longL_succ k
            have HTW : Hid (twoL k = ⟨#[UInt8.ofNat (97 + k / 26), UInt8.ofNat (97 + k % 26)]⟩) := rfl
            obtain ⟨p, hp⟩ : ∃ p, k / 26 = p := ⟨_, rfl⟩
            obtain ⟨q, hqq⟩ : ∃ q, k % 26 = q := ⟨_, rfl⟩
            have hp2 : p < 26 := by omega
            have hq2 : q < 26 := by omega
            rw [hp] at hcv hq HTW
            rw [hqq] at hcv hr HTW
            clear hp hqq
            have e97 : ((97 : Nat) : Int) = 97 := rfl
            rw [Int.natCast_add, Int.natCast_add, e97] at hcv
            clear e97
            have hw1 : IntKind.i64.wrap ((97 : Int) + (p : Int)) = (97 : Int) + (p : Int) := IntWalk.i64_in _ (by omega)
            have hw2 : IntKind.u8.wrap ((97 : Int) + (p : Int)) = (97 : Int) + (p : Int) := IntWalk.u8_in _ (by omega)
            have hw3 : IntKind.i64.wrap ((97 : Int) + (q : Int)) = (97 : Int) + (q : Int) := IntWalk.i64_in _ (by omega)
            have hw4 : IntKind.u8.wrap ((97 : Int) + (q : Int)) = (97 : Int) + (q : Int) := IntWalk.u8_in _ (by omega)
            have hw5 : IntKind.i64.wrap (p : Int) = (p : Int) := IntWalk.i64_in _ (by omega)
            have hw6 : IntKind.i64.wrap (q : Int) = (q : Int) := IntWalk.i64_in _ (by omega)
            obtain ⟨x, hx⟩ : ∃ x : ByteArray, ⟨#[UInt8.ofNat (97 + p), UInt8.ofNat (97 + q)]⟩ = x := ⟨_, rfl⟩
            rw [hx] at hcv HTW
            clear hx
            have HLL := Lib.hid (longL_len k)
            go_wp2_with (first
              | (at_builtin; go_loud (refine wpList_append_g rowStr_ok rfl _ _ rfl rfl (HOL.out.later (((Below.refl _ wr).alloc (Nat.le_refl _) _).alloc (by simp only [World.size_alloc]; omega) _) (Nat.le_refl _)) ⟨wr.heap.size + 1, 0, none⟩ 1 [x] rfl (cells_built (by have h9 := heap_alloc_new (wr.alloc (.cells #[.int .u8 (97 + (p : Int)), .int .u8 (97 + (q : Int))] 5)) (.cells #[.string x] 9); rw [World.size_alloc] at h9; exact h9)) (by have := HLL.out; simp only [List.length_singleton]; omega) (by simp only [World.size_alloc]; omega) ?_); intro v5 w5' hown5 hgrow5 _; have HO5 := Lib.hid hown5; have HB5' := Lib.hid (HBL.out.trans (((((Below.refl w.heap.size wr).alloc hzB _).alloc (by simp only [World.size_alloc]; omega) _).grown hgrow5 (by simp only [World.size_alloc]; omega) HOL.out.ge))); clear hown5 hgrow5))
            go_roundw
            case rel => exact ⟨k + 1, by omega, by go_num, by rw [HLS.out, HTW.out]; exact HO5.out, HB5'.out⟩
            case measure => simp [intOf]; omega
          · obtain rfl : k = 201 := by omega
            obtain ⟨g9, c9, rfl, hc9⟩ : ∃ g c, u14 = .slice (some ⟨g, 0, none⟩) 201 c ∧ 201 ≤ c := by
              have hll := longL_len 201
              rcases HOL.out.blk with ⟨_, h⟩ | ⟨g, c, e, _, _, h3⟩
              · rw [h] at hll; simp at hll
              · rw [hll] at e h3; exact ⟨g, c, e, h3⟩
            have HRL := Lib.hid HOL.out.strs.1
            have hs2 := Since.refl wr
            have HS9 := Lib.hid hs2
            clear HOL hs2
            go_wp2_with fail
            refine (build_no (longL 201) 201 (some ⟨g9, 0, none⟩) c9 wr HRL.out (longL_len 201).symm (by omega) hc9 (HT.out.go HBL.out) not_dict_long).mono ?_
            rintro e w11 ⟨rfl, hb⟩
            replace HRL := Lib.hid (HRL.out.go hb); replace HS9 := Lib.hid (HS9.out.go hb)
            clear hb
            have hlow : ∀ W, (Instr.slice 25 (.slice (some ⟨g9, 0, none⟩) 201 c9) none (some (.int .i64 200)) none).run Tryd.prog W = .ok (.slice (some ⟨g9, 0, none⟩) 200 c9) W := fun W => slice_strs_low ⟨g9, 0, none⟩ 201 c9 200 (by omega) hc9 W
            go_wp2_with fail
            refine (build_yes (longL 200) 200 (some ⟨g9, 0, none⟩) c9 w11 (strS_take HRL.out longL_pre) (longL_len 200).symm (by omega) (by omega) (HT.out.go (HS9.out.below HBL.out)) dict_long).mono ?_
            rintro e w12 ⟨a12, c12, rfl, -, -, -, hb⟩
            replace HS9 := Lib.hid (HS9.out.go hb)
            clear hb hlow
            obtain ⟨n12, hn12⟩ : ∃ n12, (ofF (restAt 0 (longL 200))).length = n12 := ⟨_, rfl⟩
            rw [hn12]; clear hn12
            go_wp2
            go_ret
            exact ⟨rfl, HS9.out.below HBL.out⟩
      · have HDN := Lib.hid hdn
        clear hdn
        go_wp2_with fail
        refine (build_no M L.length (some ⟨g5, 0, none⟩) c5 w6 HR6.out HML.out (by omega) hc5 (HT.out.go HB6.out) HDM.out).mono ?_
        rintro e w7 ⟨rfl, hb⟩
        replace HR6 := Lib.hid (HR6.out.go hb); replace HS6 := Lib.hid (HS6.out.go hb)
        clear hb
        go_wp2_with fail
        refine (build_no N nl al cl w7 (HN.out.go (HS6.out.below HB6.out)) HNL.out hnl3 hncl (HT.out.go (HS6.out.below HB6.out)) HDN.out).mono ?_
        rintro e w8 ⟨rfl, hb⟩
        replace HR6 := Lib.hid (HR6.out.go hb); replace HS6 := Lib.hid (HS6.out.go hb)
        clear hb
        go_wp2_with fail
        refine (rdictionary_any M L.length (some ⟨g5, 0, none⟩) c5 w8 HR6.out HML.out (by omega)).mono ?_
        rintro e w9 ⟨he, hb⟩
        rw [dictB_no HDM.out] at he
        subst he
        replace HS6 := Lib.hid (HS6.out.go hb)
        clear hb
        clear HR6
        go_wp2_with fail
        refine (rdictionary_any N nl al cl w9 (HN.out.go (HS6.out.below HB6.out)) HNL.out hnl3).mono ?_
        rintro e w10 ⟨he, hb⟩
        rw [dictB_no HDN.out] at he
        subst he
        replace HS6 := Lib.hid (HS6.out.go hb)
        clear hb
        clear HN HNL HDM HDN HML
        go_wp2
        have HB10 := Lib.hid (HS6.out.below HB6.out)
        go_loopw [15, 14] (fun i v wr => ∃ k : Nat, k ≤ 201 ∧ i = .int .i64 (k : Int) ∧ OwnG rowStr wr w.heap.size v (longL k) ∧ Below w.heap.size w wr) (fun i _ _ => 201 - (intOf i).toNat)
        case atStart => exact ⟨0, Nat.zero_le _, rfl, OwnG.empty rowStr (heap_alloc_new _ _) HB10.out.size, HB10.out.alloc HB10.out.size _⟩
        case round =>
          obtain ⟨k, hk, rfl, hown, hB⟩ := hrel
          have HOL := Lib.hid hown; have HBL := Lib.hid hB
          have hzB := hB.size
          clear hown hB
          by_cases hlt : k < 201
          · have hcv := conv_two (97 + k / 26) (97 + k % 26) (by omega) (by omega) wr
            have hq : (k : Int).tdiv 26 = ((k / 26 : Nat) : Int) := Int.ofNat_tdiv k 26
            have hr : (k : Int).tmod 26 = ((k % 26 : Nat) : Int) := Int.ofNat_tmod k 26
            have HLS : Hid (longL (k + 1) = longL k ++ [twoL k]) := longL_succ k
            have HTW : Hid (twoL k = ⟨#[UInt8.ofNat (97 + k / 26), UInt8.ofNat (97 + k % 26)]⟩) := rfl
            obtain ⟨p, hp⟩ : ∃ p, k / 26 = p := ⟨_, rfl⟩
            obtain ⟨q, hqq⟩ : ∃ q, k % 26 = q := ⟨_, rfl⟩
            have hp2 : p < 26 := by omega
            have hq2 : q < 26 := by omega
            rw [hp] at hcv hq HTW
            rw [hqq] at hcv hr HTW
            clear hp hqq
            have e97 : ((97 : Nat) : Int) = 97 := rfl
            rw [Int.natCast_add, Int.natCast_add, e97] at hcv
            clear e97
            have hw1 : IntKind.i64.wrap ((97 : Int) + (p : Int)) = (97 : Int) + (p : Int) := IntWalk.i64_in _ (by omega)
            have hw2 : IntKind.u8.wrap ((97 : Int) + (p : Int)) = (97 : Int) + (p : Int) := IntWalk.u8_in _ (by omega)
            have hw3 : IntKind.i64.wrap ((97 : Int) + (q : Int)) = (97 : Int) + (q : Int) := IntWalk.i64_in _ (by omega)
            have hw4 : IntKind.u8.wrap ((97 : Int) + (q : Int)) = (97 : Int) + (q : Int) := IntWalk.u8_in _ (by omega)
            have hw5 : IntKind.i64.wrap (p : Int) = (p : Int) := IntWalk.i64_in _ (by omega)
            have hw6 : IntKind.i64.wrap (q : Int) = (q : Int) := IntWalk.i64_in _ (by omega)
            obtain ⟨x, hx⟩ : ∃ x : ByteArray, ⟨#[UInt8.ofNat (97 + p), UInt8.ofNat (97 + q)]⟩ = x := ⟨_, rfl⟩
            rw [hx] at hcv HTW
            clear hx
            have HLL := Lib.hid (longL_len k)
            go_wp2_with (first
              | (at_builtin; go_loud (refine wpList_append_g rowStr_ok rfl _ _ rfl rfl (HOL.out.later (((Below.refl _ wr).alloc (Nat.le_refl _) _).alloc (by simp only [World.size_alloc]; omega) _) (Nat.le_refl _)) ⟨wr.heap.size + 1, 0, none⟩ 1 [x] rfl (cells_built (by have h9 := heap_alloc_new (wr.alloc (.cells #[.int .u8 (97 + (p : Int)), .int .u8 (97 + (q : Int))] 5)) (.cells #[.string x] 9); rw [World.size_alloc] at h9; exact h9)) (by have := HLL.out; simp only [List.length_singleton]; omega) (by simp only [World.size_alloc]; omega) ?_); intro v5 w5' hown5 hgrow5 _; have HO5 := Lib.hid hown5; have HB5' := Lib.hid (HBL.out.trans (((((Below.refl w.heap.size wr).alloc hzB _).alloc (by simp only [World.size_alloc]; omega) _).grown hgrow5 (by simp only [World.size_alloc]; omega) HOL.out.ge))); clear hown5 hgrow5))
            go_roundw
            case rel => exact ⟨k + 1, by omega, by go_num, by rw [HLS.out, HTW.out]; exact HO5.out, HB5'.out⟩
            case measure => simp [intOf]; omega
          · obtain rfl : k = 201 := by omega
            obtain ⟨g9, c9, rfl, hc9⟩ : ∃ g c, u14 = .slice (some ⟨g, 0, none⟩) 201 c ∧ 201 ≤ c := by
              have hll := longL_len 201
              rcases HOL.out.blk with ⟨_, h⟩ | ⟨g, c, e, _, _, h3⟩
              · rw [h] at hll; simp at hll
              · rw [hll] at e h3; exact ⟨g, c, e, h3⟩
            have HRL := Lib.hid HOL.out.strs.1
            have hs2 := Since.refl wr
            have HS9 := Lib.hid hs2
            clear HOL hs2
            go_wp2_with fail
            refine (build_no (longL 201) 201 (some ⟨g9, 0, none⟩) c9 wr HRL.out (longL_len 201).symm (by omega) hc9 (HT.out.go HBL.out) not_dict_long).mono ?_
            rintro e w11 ⟨rfl, hb⟩
            replace HRL := Lib.hid (HRL.out.go hb); replace HS9 := Lib.hid (HS9.out.go hb)
            clear hb
            have hlow : ∀ W, (Instr.slice 25 (.slice (some ⟨g9, 0, none⟩) 201 c9) none (some (.int .i64 200)) none).run Tryd.prog W = .ok (.slice (some ⟨g9, 0, none⟩) 200 c9) W := fun W => slice_strs_low ⟨g9, 0, none⟩ 201 c9 200 (by omega) hc9 W
            go_wp2_with fail
            refine (build_yes (longL 200) 200 (some ⟨g9, 0, none⟩) c9 w11 (strS_take HRL.out longL_pre) (longL_len 200).symm (by omega) (by omega) (HT.out.go (HS9.out.below HBL.out)) dict_long).mono ?_
            rintro e w12 ⟨a12, c12, rfl, -, -, -, hb⟩
            replace HS9 := Lib.hid (HS9.out.go hb)
            clear hb hlow
            obtain ⟨n12, hn12⟩ : ∃ n12, (ofF (restAt 0 (longL 200))).length = n12 := ⟨_, rfl⟩
            rw [hn12]; clear hn12
            go_wp2
            go_ret
            exact ⟨rfl, HS9.out.below HBL.out⟩
end Go.Proofs.YtemdlfbcnnoglaaDoor
