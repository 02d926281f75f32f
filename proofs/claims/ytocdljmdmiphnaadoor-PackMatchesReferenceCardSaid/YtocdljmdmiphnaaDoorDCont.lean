
/- dawg.contents: what a node is found again by. -/
import Derived.Test.YtocdljmdmiphnaaDoorDBuild
import Derived.Test.YtocdljmdmiphnaaDoorDRow
import Derived.Test.YtocdljmdmiphnaaDoorRegionZ
import Derived.Lib.AppendIntMem
namespace Go.Proofs.YtocdljmdmiphnaaDoor
open Go.Shelf Go.RowKit Go.WideShapes
set_option linter.unusedVariables false
set_option linter.unusedSimpArgs false

theorem ret_str' {a b : ByteArray} (h : a = b) : Ending.returned (.string a) = .returned (.string b) := by rw [h]
def arcL (x : Ar) : List UInt8 := 32 :: UInt8.ofNat x.c.toNat :: Lib.itoa x.t
/-- the contents of a node -/
def keyL (f : Bool) (X : List Ar) : List UInt8 := Lib.formatBool f ++ X.flatMap arcL
theorem keyL_succ {f : Bool} {X : List Ar} {k : Nat} (hk : k < X.length) : keyL f (X.take (k + 1)) = keyL f (X.take k) ++ arcL X[k] := by
  rw [keyL, List.take_succ_eq_append_getElem hk, List.flatMap_append, ← List.append_assoc]; simp [keyL]
theorem dec_len (u : Nat) : (Lib.decDigits u).length ≤ u + 1 := by
  induction u using Nat.strongRecOn with
  | _ u ih =>
    rw [Lib.decDigits]
    split
    · simp
    · have := ih (u / 10) (by omega)
      rw [List.length_append]; simp; omega
def ArOk (x : Ar) : Prop := 0 ≤ x.c ∧ x.c ≤ 127 ∧ 0 ≤ x.t ∧ x.t ≤ 1000000
theorem arcL_len {x : Ar} (h : ArOk x) : (arcL x).length ≤ 1000003 := by
  obtain ⟨h1, h2, h3, h4⟩ := h
  have : (Lib.itoa x.t).length ≤ 1000001 := by
    rw [Lib.itoa, if_neg (by omega)]
    have := dec_len x.t.toNat; omega
  simp [arcL]; omega
theorem keyL_len {f : Bool} {X : List Ar} (h : ∀ x ∈ X, ArOk x) : (keyL f X).length ≤ 5 + X.length * 1000003 := by
  have h1 : (Lib.formatBool f).length ≤ 5 := by cases f <;> decide
  have h2 : (X.flatMap arcL).length ≤ X.length * 1000003 := by
    induction X with
    | nil => simp
    | cons x r ih =>
      rw [List.flatMap_cons, List.length_append, List.length_cons, Nat.add_mul]
      have := arcL_len (h x (by simp)); have := ih (fun y hy => h y (by simp [hy])); omega
  rw [keyL, List.length_append]; omega
/-- the table of strconv stands -/
def Tab (w : World) : Prop := Lib.TabIs Tryd.prog w "internal/strconv.uint64pow10" .u64 Lib.pow10Tab
theorem tabG : ∃ g, Tryd.prog.globalNamed "internal/strconv.uint64pow10" = some g := by
  have h : (Tryd.prog.globalNamed "internal/strconv.uint64pow10").isSome = true := by kernel_rfl
  exact Option.isSome_iff_exists.1 h
theorem Tab.later {w w' : World} (h : Tab w) (hb : Below w.heap.size w w') : Tab w' := by
  obtain ⟨g, hg⟩ := tabG
  unfold Tab Lib.TabIs World.var? at h ⊢
  rw [hg] at h ⊢
  simp only [Option.bind_some] at h ⊢
  have hlt : g < w.heap.size := by
    rcases Nat.lt_or_ge g w.heap.size with h' | h'
    · exact h'
    · rw [Array.getElem?_eq_none h'] at h; cases h
  rw [hb.block g hlt]
  exact h
theorem bF_ext {T e : TypeId} {B b : Nat} {bs : List Value} {w w' : World} (h : Lib.IsBuilderF T e B b bs w) (hx : Ext w w') : Lib.IsBuilderF T e B b bs w' := by
  have key : ∀ p, Lib.BuilderAtF T e B b p bs w → Lib.BuilderAtF T e B b p bs w' := by
    rintro p ⟨hB, v, hb, hown, hne⟩
    refine ⟨hB, v, (Below.block hx b (Array.getElem?_eq_some_iff.1 hb).1).trans hb, ⟨hown.1, hown.2.imp id ?_⟩, hne⟩
    rintro ⟨g, cap, cur, fz, rfl, h1, h2, h3⟩
    exact ⟨g, cap, cur, fz, rfl, h1, (Below.block hx g (Array.getElem?_eq_some_iff.1 h2).1).trans h2, h3⟩
  exact h.imp (key _) (key _)
theorem enc_ascii (c : Int) (h0 : 0 ≤ c) (h1 : c ≤ 127) : Utf8.encode c = ⟨#[UInt8.ofNat c.toNat]⟩ := by
  have hv : Utf8.valid c = true := by simp [Utf8.valid]; omega
  have hc : c.toNat < 0x80 := by omega
  simp only [Utf8.encode, hv, if_true, hc]
theorem fb_any (b : Bool) (w : World) : Calls Tryd.prog 69 #[.bool b] w fun e w' => e = .returned (.string ⟨(Lib.formatBool b).toArray⟩) ∧ w = w' :=
  (Tryd.strconv_FormatBool b w).mono fun e w' h => ⟨h.1, h.2.symm⟩
theorem cells2 {w : World} {g : Nat} {a b : Value} {t : TypeId} {f : Nat × Nat} (h : w.heap[g]? = some (.cells #[a, b] t f)) : w.cell? ⟨g, 0, none⟩ = some a ∧ w.cell? ⟨g, 1, none⟩ = some b := by
  refine ⟨?_, ?_⟩
  · rw [cell_of_row w g 0 _ _ f h]; rfl
  · rw [cell_of_row w g 1 _ _ f h]; rfl
/-- what is told while the contents are written -/
def ContT (w1 wr : World) (b : Nat) (l0 l1 : List UInt8) (done : Bool) (W : World) : Prop :=
  Below b w1 W ∧ b ≤ W.heap.size ∧ match done with
    | true => Lib.IsBuilderF 124 5 b b (Lib.byteCells l1) W
    | false => Lib.IsBuilderF 124 5 b b (Lib.byteCells l0) W ∧ Below wr.heap.size wr W
theorem contT_ext {w1 wr : World} {b : Nat} {l0 l1 : List UInt8} : ∀ (d : Bool) (W W' : World), ContT w1 wr b l0 l1 d W → Ext W W' → ContT w1 wr b l0 l1 d W' := by
  intro d W W' ⟨h1, h2, h3⟩ hx
  refine ⟨h1.trans (Below.mono hx h2), Nat.le_trans h2 hx.size, ?_⟩
  cases d with
  | true => exact bF_ext h3 hx
  | false => exact ⟨bF_ext h3.1 hx, h3.2.trans (Below.mono hx h3.2.size)⟩
set_option maxHeartbeats 1000000 in
set_option maxRecDepth 100000 in
theorem contents_any (f : Bool) (X : List Ar) (a : Option Addr) (n cap : Nat) (w : World) (hX : ArcS w a X) (hn : n = X.length) (hok : ∀ x ∈ X, ArOk x) (hl : X.length ≤ 10000) (ht : Tab w) :
    Calls Tryd.prog 57 #[.agg #[.bool f, .slice a n cap]] w fun e w' => e = .returned (.string ⟨(keyL f X).toArray⟩) ∧ Below w.heap.size w w' := by
  subst hn
  have HX := Lib.hid hX; have HOK := Lib.hid hok; have HT := Lib.hid ht; clear hX hok ht
  go_enter Tryd.func57, Tryd.ntmps57
  obtain ⟨w1, hw1⟩ : ∃ w1, w1 = w.alloc (.cells #[.bool f, .slice a X.length cap] 53) := ⟨_, rfl⟩
  have hw1s : w1.heap.size = w.heap.size + 1 := by rw [hw1]; simp
  have hB1 : Below w.heap.size w w1 := by rw [hw1]; exact (Below.refl _ _).alloc (Nat.le_refl _) _
  have HBOX : Hid (w1.heap[w.heap.size]? = some (.cells #[.bool f, .slice a X.length cap] 53 (0, 0))) := by rw [hw1]; exact heap_alloc_new _ _
  have HB1 := Lib.hid hB1
  have hbld : Lib.IsBuilderF 124 5 w1.heap.size w1.heap.size [] (w1.alloc (.cells #[.pointer none, .slice none 0 0] 124)) := .of (Lib.fresh_isBuilder _ _ _)
  obtain ⟨g1, hg1⟩ : ∃ g1, g1 = w1.heap.size := ⟨_, rfl⟩
  rw [← hg1] at hbld
  have HBL := Lib.hid hbld
  clear hbld hB1
  go_upto_region 2 with fail
  have hgs : w.heap.size + 1 = g1 := by omega
  rw [← hw1, hgs]
  clear hw1
  obtain ⟨w2, hw2⟩ : ∃ w2, w2 = w1.alloc (.cells #[.pointer none, .slice none 0 0] 124) := ⟨_, rfl⟩
  have HB2 : Hid (Below g1 w1 w2) := by show Below _ _ _; rw [hw2]; exact (Below.refl _ _).alloc (by omega) _
  rw [← hw2] at HBL ⊢
  clear hw2
  have hg2 : g1 ≤ w2.heap.size := by have := HB2.out.size; omega
  have c0 : w2.cell? ⟨w.heap.size, 0, none⟩ = some (.bool f) := (HB2.out.cell (p := ⟨w.heap.size, 0, none⟩) (by show w.heap.size < g1; omega)).trans (by rw [cell_of_row _ _ _ _ _ _ HBOX.out]; rfl)
  obtain ⟨s0, hs0⟩ : ∃ s0 : ByteArray, s0 = ⟨(Lib.formatBool f).toArray⟩ := ⟨_, rfl⟩
  have HS0 := Lib.hid hs0
  have hsz0 : s0.size ≤ 140737488355328 := by rw [hs0]; cases f <;> decide
  have hfb := fb_any f
  rw [← hs0] at hfb
  have HFB := Lib.hid hfb
  clear hs0 hfb
  have HGS := Lib.hid hgs; have HW1S := Lib.hid hw1s; have HG1 := Lib.hid hg1
  clear hgs hw1s hg1
  go_wp2_with fail
  refine (HFB.out _).mono ?_
  rintro e w' ⟨rfl, rfl⟩
  go_wp2_with fail
  refine (writeString_any g1 g1 [] s0 _ HBL.out (by simpa using hsz0) hg2).mono ?_
  rintro e w3 ⟨rfl, hbl3, hb3⟩
  have h0 : ([] : List Value) ++ Lib.strCells ⟨(Lib.formatBool f).toArray⟩ = Lib.byteCells (keyL f []) := by
    simp [Lib.strCells, Lib.byteCells, keyL]
  rw [HS0.out, h0] at hbl3
  have HBL3 := Lib.hid hbl3
  have HB3 := Lib.hid (HB2.out.trans hb3)
  have hg3 := Nat.le_trans hg2 hb3.size
  clear hbl3 hb3 h0 c0
  have c1 : w3.cell? ⟨w.heap.size, 1, none⟩ = some (.slice a X.length cap) := (HB3.out.cell (p := ⟨w.heap.size, 1, none⟩) (by show w.heap.size < g1; have := HGS.out; omega)).trans (by rw [cell_of_row _ _ _ _ _ _ HBOX.out]; rfl)
  go_wp2
  go_loopw [13] (fun q wr => ∃ k : Nat, k ≤ X.length ∧ q = .int .i64 (k : Int) ∧ Lib.IsBuilderF 124 5 g1 g1 (Lib.byteCells (keyL f (X.take k))) wr ∧ Below g1 w1 wr ∧ g1 ≤ wr.heap.size) (fun q _ => X.length - (intOf q).toNat)
  case atStart => exact ⟨0, Nat.zero_le _, rfl, HBL3.out, HB3.out, hg3⟩
  case round =>
    obtain ⟨k, hk, rfl, hbl, hB, hgr⟩ := hrel
    have HBL := Lib.hid hbl; have HB := Lib.hid hB
    have HBw := Lib.hid (HB1.out.trans (hB.mono (by have := HGS.out; omega)))
    clear hbl hB
    by_cases hlt : k < X.length
    · obtain ⟨b, o, ha, hb, q0, q1⟩ := (HX.out.later HBw.out (Nat.le_refl _)) k hlt
      have hidx := idx_arcs a b o X.length cap k ha hlt
      have HSU := Lib.hid (keyL_succ (f := f) hlt)
      have hxo := HOK.out X[k] (List.getElem_mem hlt)
      have hkl := keyL_len (f := f) (X := X.take k) (fun x hx => HOK.out x (List.mem_of_mem_take hx))
      have hkl2 : (X.take k).length ≤ 10000 := by have := List.length_take_le' k X; omega
      have hxl := arcL_len hxo
      obtain ⟨x, hx⟩ : ∃ x, X[k] = x := ⟨_, rfl⟩
      rw [hx] at q0 q1 HSU hxo hxl
      obtain ⟨xc, xt⟩ := x
      simp only [ArOk] at q0 q1 hxo
      obtain ⟨x0, x1, x2, x3⟩ := hxo
      clear ha hx
      go_upto_region 6 with fail
      obtain ⟨wy, hwy⟩ : ∃ wy, wy = wr.alloc (.cells #[.int .u8 xc, .int .i64 xt] 56) := ⟨_, rfl⟩
      have hwb : Below wr.heap.size wr wy := by rw [hwy]; exact (Below.refl _ _).alloc (Nat.le_refl _) _
      have HV : Hid (wy.heap[wr.heap.size]? = some (.cells #[.int .u8 xc, .int .i64 xt] 56 (0, 0))) := by rw [hwy]; exact heap_alloc_new _ _
      have hws : wr.heap.size < wy.heap.size := by rw [hwy]; simp
      have HTY : Hid (ContT w1 wy g1 (keyL f (X.take k)) (keyL f (X.take k) ++ arcL ⟨xc, xt⟩) false wy) :=
        ⟨HB.out.trans (hwb.mono hgr), Nat.le_trans hgr hwb.size, bF_ext HBL.out hwb, Below.refl _ _⟩
      have HTB : Hid (Tab wy) := HT.out.later (HBw.out.trans (hwb.mono HBw.out.size))
      rw [← hwy]
      clear hwy hwb
      refine wp_region_st (by kernel_rfl) (Vs [fun v _ => v = .pointer (some ⟨wr.heap.size, 0, none⟩), fun v _ => v = .int .u8 xc, fun v _ => v = .int .i32 xc, fun v _ => v = .string ⟨#[UInt8.ofNat xc.toNat]⟩, fun v _ => v = .string (⟨#[32]⟩ ++ ⟨#[UInt8.ofNat xc.toNat]⟩ : ByteArray), fun v _ => v = .pointer (some ⟨wr.heap.size, 1, none⟩), fun v _ => v = .int .i64 xt, fun v _ => v = .string ⟨(Lib.itoa xt).toArray⟩, fun v _ => v = .string ((⟨#[32]⟩ ++ ⟨#[UInt8.ofNat xc.toNat]⟩ : ByteArray) ++ ⟨(Lib.itoa xt).toArray⟩ : ByteArray), fun _ _ => True]) (Xs [Ext, Ext, Ext, Ext, Ext, Ext, Ext, Ext, Ext, (fun _ _ => True)]) (fun fL => (fun d W => ContT w1 wy g1 (keyL f (X.take k)) (keyL f (X.take k) ++ arcL ⟨xc, xt⟩) d W) (fL 9)) [0, 1, 3, 7, 15, 0, 32, 96, 255, 511] 29 10 (by kernel_rfl) rfl ?hV ?hS ?hop ?hfin ?hlast
      case hV =>
        refine xs_stays (vs_stays (by simp only [List.mem_cons, List.not_mem_nil, or_false, forall_eq_or_imp, forall_eq]; exact ⟨stays_const _, stays_const _, stays_const _, stays_const _, stays_const _, stays_const _, stays_const _, stays_const _, stays_const _, fun _ _ _ _ _ => trivial⟩)) ?_
        exact ⟨.inl rfl, .inl rfl, .inl rfl, .inl rfl, .inl rfl, .inl rfl, .inl rfl, .inl rfl, .inl rfl, .inr (staysM_all ⟨fun _ _ => fun _ _ _ h _ => h, fun _ _ => fun _ _ _ h _ => h, fun _ _ => fun _ _ _ h _ => h, fun _ _ => fun _ _ _ h _ => h, fun _ _ => fun _ _ _ h _ => h, fun _ _ => fun _ _ _ h _ => h, fun _ _ => fun _ _ _ h _ => h, fun _ _ => fun _ _ _ h _ => h, fun _ _ => fun _ _ _ h _ => h, fun h => absurd rfl h, trivial⟩), trivial⟩
      case hS =>
        intro fL hf
        show (fun d W => ContT w1 wy g1 (keyL f (X.take k)) (keyL f (X.take k) ++ arcL ⟨xc, xt⟩) d W) (fL 9) _
        rw [hf 9 (by decide)]
        exact contT_ext _ _ _ HTY.out ⟨rfl, rfl, rfl, Nat.le_refl _, fun _ _ => rfl⟩
      case hop =>
        refine ⟨?_, ?_, ?_, ?_, ?_, ?_, ?_, ?c7, ?_, ?c9, trivial⟩
        all_goals first | rw [if_neg (by decide)] | rw [if_pos (by decide)]
        all_goals try intro ac W fL hsz hfi hms hdn hS0 hdep hbase hund
        all_goals try have hS : (fun d W => ContT w1 wy g1 (keyL f (X.take k)) (keyL f (X.take k) ++ arcL ⟨xc, xt⟩) d W) (fL 9) W := hS0
        all_goals try (have hfl9 : fL 9 = true := hms 9 (by decide); rw [hfl9] at hS)
        all_goals try (have hfl9 : fL 9 = false := (by first | exact hfi | exact hdn 9 (by decide) (by decide)); rw [hfl9] at hS)
        all_goals try (
          have henc := enc_ascii xc x0 x1
          have hw32 : IntKind.i32.wrap xc = xc := IntWalk.i32_in _ (by omega)
          have hadd : 2 + (Lib.itoa xt).length ≤ 9223372036854775807 := by simp only [arcL, List.length_cons] at hxl; omega
          have hbw := hS.2.2.2
          obtain ⟨v0, v1⟩ := cells2 ((hbw.block wr.heap.size hws).trans HV.out))
        all_goals try (have h5 : ac.tmps.getD 5 undef = .pointer (some ⟨wr.heap.size, 0, none⟩) := hbase 5 (by kernel_rfl); have hh5 := h5; rw [Array.getD_eq_getD_getElem?] at hh5)
        all_goals try (have h3 : ac.tmps.getD 3 undef = .pointer (some ⟨g1, 0, none⟩) := hbase 3 (by kernel_rfl); have hh3 := h3; rw [Array.getD_eq_getD_getElem?] at hh3)
        all_goals try (have d17 : ac.tmps.getD 17 undef = .pointer (some ⟨wr.heap.size, 0, none⟩) := hdep 0 (by decide); have dd17 := d17; rw [Array.getD_eq_getD_getElem?] at dd17)
        all_goals try (have d18 : ac.tmps.getD 18 undef = .int .u8 xc := hdep 1 (by decide); have dd18 := d18; rw [Array.getD_eq_getD_getElem?] at dd18)
        all_goals try (have d19 : ac.tmps.getD 19 undef = .int .i32 xc := hdep 2 (by decide); have dd19 := d19; rw [Array.getD_eq_getD_getElem?] at dd19)
        all_goals try (have d20 : ac.tmps.getD 20 undef = .string ⟨#[UInt8.ofNat xc.toNat]⟩ := hdep 3 (by decide); have dd20 := d20; rw [Array.getD_eq_getD_getElem?] at dd20)
        all_goals try (have d21 : ac.tmps.getD 21 undef = .string (⟨#[32]⟩ ++ ⟨#[UInt8.ofNat xc.toNat]⟩ : ByteArray) := hdep 4 (by decide); have dd21 := d21; rw [Array.getD_eq_getD_getElem?] at dd21)
        all_goals try (have d22 : ac.tmps.getD 22 undef = .pointer (some ⟨wr.heap.size, 1, none⟩) := hdep 5 (by decide); have dd22 := d22; rw [Array.getD_eq_getD_getElem?] at dd22)
        all_goals try (have d23 : ac.tmps.getD 23 undef = .int .i64 xt := hdep 6 (by decide); have dd23 := d23; rw [Array.getD_eq_getD_getElem?] at dd23)
        all_goals try (have d24 : ac.tmps.getD 24 undef = .string ⟨(Lib.itoa xt).toArray⟩ := hdep 7 (by decide); have dd24 := d24; rw [Array.getD_eq_getD_getElem?] at dd24)
        all_goals try (have d25 : ac.tmps.getD 25 undef = .string ((⟨#[32]⟩ ++ ⟨#[UInt8.ofNat xc.toNat]⟩ : ByteArray) ++ ⟨(Lib.itoa xt).toArray⟩ : ByteArray) := hdep 8 (by decide); have dd25 := d25; rw [Array.getD_eq_getD_getElem?] at dd25)
        all_goals try clear hbase hdep hms hdn hund
        case c7 =>
          have hS1 : (fun d W => ContT w1 wy g1 (keyL f (X.take k)) (keyL f (X.take k) ++ arcL ⟨xc, xt⟩) d W) ((upd fL 7) 9) W := hS0
          refine opOk_run rfl (.inr ⟨70, #[.int .i64 xt], W, by (clear hsz hS hS0 hS1 hfi; simp [go_sem, Act.eval, *]), ?_⟩)
          refine (Tryd.strconv_Itoa xt (by omega) (by omega) W (HTB.out.later hbw)).mono ?_
          rintro e w' ⟨he, k', os, rfl⟩
          have hx : Ext W (Sort.grow (W.drewN k') os) := Lib.below_grow _ W (Nat.le_refl _) k' os
          exact ⟨_, he, rfl, hx, (show (fun d W => ContT w1 wy g1 (keyL f (X.take k)) (keyL f (X.take k) ++ arcL ⟨xc, xt⟩) d W) ((upd fL 7) 9) _ by
            rw [show upd fL 7 9 = fL 9 from if_neg (by decide)]
            exact contT_ext _ _ _ hS0 hx)⟩
        case c9 =>
          refine opOk_run rfl (.inr ⟨68, #[.pointer (some ⟨g1, 0, none⟩), .string ((⟨#[32]⟩ ++ ⟨#[UInt8.ofNat xc.toNat]⟩ : ByteArray) ++ ⟨(Lib.itoa xt).toArray⟩ : ByteArray)], W, by (clear hsz hS hS0 hfi; simp [go_sem, Act.eval, *]), ?_⟩)
          obtain ⟨hq1, hq2, hq3⟩ : Below g1 w1 W ∧ g1 ≤ W.heap.size ∧ Lib.IsBuilderF 124 5 g1 g1 (Lib.byteCells (keyL f (X.take k))) W := ⟨hS.1, hS.2.1, hS.2.2.1⟩
          have hlen : (Lib.byteCells (keyL f (X.take k))).length + (((⟨#[32]⟩ ++ ⟨#[UInt8.ofNat xc.toNat]⟩ : ByteArray) ++ ⟨(Lib.itoa xt).toArray⟩ : ByteArray)).size ≤ 140737488355328 := by
            have hsz9 : (((⟨#[32]⟩ ++ ⟨#[UInt8.ofNat xc.toNat]⟩ : ByteArray) ++ ⟨(Lib.itoa xt).toArray⟩ : ByteArray)).size = 2 + (Lib.itoa xt).length := by
              rw [ByteArray.size_append, ByteArray.size_append]
              show 1 + 1 + (Lib.itoa xt).toArray.size = _
              simp
            rw [Lib.byteCells_length, hsz9]; simp only [arcL, List.length_cons] at hxl; omega
          have hwc := writeString_any g1 g1 _ ((⟨#[32]⟩ ++ ⟨#[UInt8.ofNat xc.toNat]⟩ : ByteArray) ++ ⟨(Lib.itoa xt).toArray⟩ : ByteArray) W hq3 hlen hq2
          refine hwc.mono ?_
          clear hwc hS hS0
          rintro e w' ⟨he, hbl9, hb9⟩
          refine ⟨_, he, trivial, trivial, (show (fun d W => ContT w1 wy g1 (keyL f (X.take k)) (keyL f (X.take k) ++ arcL ⟨xc, xt⟩) d W) ((upd fL 9) 9) _ by
            rw [show upd fL 9 9 = true from if_pos rfl]
            exact ⟨hq1.trans hb9, Nat.le_trans hq2 hb9.size, by
              have e9 : Lib.byteCells (keyL f (X.take k)) ++ Lib.strCells ((⟨#[32]⟩ ++ ⟨#[UInt8.ofNat xc.toNat]⟩ : ByteArray) ++ ⟨(Lib.itoa xt).toArray⟩ : ByteArray) = Lib.byteCells (keyL f (X.take k) ++ arcL ⟨xc, xt⟩) := by simp [Lib.strCells, Lib.byteCells, arcL]
              rw [e9] at hbl9; exact hbl9⟩)⟩
        all_goals (refine opOk_run rfl (.inl ⟨_, W, ?_, rfl, Ext.refl _, hS0⟩); clear hsz hS hS0 hfi; simp [go_sem, Act.eval, *]; done)
      case hlast =>
        intro h; exact absurd rfl h
      case hfin =>
        intro _ ac W hsz hdf fL hf hS0 hv hbase
        have hS : (fun d W => ContT w1 wy g1 (keyL f (X.take k)) (keyL f (X.take k) ++ arcL ⟨xc, xt⟩) d W) (fL 9) W := hS0
        clear hS0
        rw [hf 9 (by decide)] at hS
        obtain ⟨sx, hsx, hsA⟩ := act_puts [17, 18, 19, 20, 21, 22, 23, 24, 25, 26] (by kernel_rfl) hsz hdf hbase
        rw [hsA]
        simp only [List.foldl]
        simp only [Act.put, List.setIfInBounds_toArray, List.set_cons_succ, List.set_cons_zero]
        clear hsA hsx hv hbase hsz hdf hf
        have HBX := Lib.hid hS.1
        have HBL9 := Lib.hid hS.2.2
        have hg9 := hS.2.1
        clear hS
        rw [← HSU.out] at HBL9
        go_wp2_with fail
        go_roundw
        case rel => exact ⟨k + 1, by omega, by go_num, HBL9.out, HBX.out, hg9⟩
        case measure => simp [intOf]; omega
    · have HA : Hid (keyL f (X.take k) = keyL f X) := by show _ = _; rw [List.take_of_length_le (by omega)]
      go_wp2_with (go_at_call 71; refine (Tryd.Builder_String_any_k g1 g1 _ _ HBL.out hgr).mono ?_; rintro e w5 ⟨rfl, _, hb5, _⟩)
      go_ret
      exact ⟨ret_str' (by rw [HA.out]), HBw.out.trans (hb5.mono (by have := HGS.out; omega))⟩
end Go.Proofs.YtocdljmdmiphnaaDoor
