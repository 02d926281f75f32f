
/- Pack: rows of bytes and of integers in memory; what grows. -/
import Derived.Test.YtocdljmdmiphnaaDoorPA
import Derived.Test.YtocdljmdmiphnaaDoorDNodeP
import Derived.Test.YtocdljmdmiphnaaDoorDCopy
import Derived.Test.YtocdljmdmiphnaaDoorDLawK
namespace Go.Proofs.YtocdljmdmiphnaaDoor
open Go.RowKit Go.WideShapes
set_option linter.unusedVariables false
set_option linter.unusedSimpArgs false

def rowU8 : RowT UInt8 := ⟨24, 5, 1, 1, .int .u8 0, fun x => [.int .u8 (x.toNat : Int)]⟩
theorem rowU8_ok : rowU8.Ok := ⟨Tryd.underlying24, by kernel_rfl, rfl, by decide, fun _ => rfl, fun x u hu => by obtain rfl : u = .int .u8 (x.toNat : Int) := (List.mem_singleton.1 hu); rfl, by decide⟩
def rowInt : RowT Int := ⟨31, 3, 1, 8, .int .i64 0, fun x => [.int .i64 x]⟩
theorem rowInt_ok : rowInt.Ok := ⟨Tryd.underlying31, by kernel_rfl, rfl, by decide, fun _ => rfl, fun x u hu => by obtain rfl : u = .int .i64 x := (List.mem_singleton.1 hu); rfl, by decide⟩
theorem rowU8_k : rowU8.k = 1 := rfl
theorem rowInt_k : rowInt.k = 1 := rfl
/-- the slice at a reads as the bytes l -/
def BytS (w : World) (a : Option Addr) (l : Wd) : Prop := ∀ k (hk : k < l.length), ∃ b o, a = some ⟨b, o, none⟩ ∧ b < w.heap.size ∧ w.cell? ⟨b, o + k, none⟩ = some (.int .u8 (l[k].toNat : Int))
theorem BytS.at {w : World} {a : Option Addr} {l : Wd} (h : BytS w a l) {k : Nat} (hk : k < l.length) : ∃ b o, a = some ⟨b, o, none⟩ ∧ b < w.heap.size ∧ w.cell? ⟨b, o + k, none⟩ = some (.int .u8 (l[k].toNat : Int)) := h k hk
theorem BytS.go {w w1 : World} {a : Option Addr} {l : Wd} (h : BytS w a l) (hb : Below w.heap.size w w1) : BytS w1 a l := fun k hk => by
  obtain ⟨b, o, ha, h1, h2⟩ := h k hk
  exact ⟨b, o, ha, Nat.lt_of_lt_of_le h1 hb.size, (hb.cell (p := ⟨b, o + k, none⟩) h1).trans h2⟩
theorem BytS.nil (w : World) (a : Option Addr) : BytS w a [] := fun k hk => by simp at hk
/-- the slice at a reads as the integers c -/
def IntS (w : World) (a : Option Addr) (c : List Int) : Prop := ∀ k (hk : k < c.length), ∃ b o, a = some ⟨b, o, none⟩ ∧ b < w.heap.size ∧ w.cell? ⟨b, o + k, none⟩ = some (.int .i64 c[k])
theorem IntS.at {w : World} {a : Option Addr} {l : List Int} (h : IntS w a l) {k : Nat} (hk : k < l.length) : ∃ b o, a = some ⟨b, o, none⟩ ∧ b < w.heap.size ∧ w.cell? ⟨b, o + k, none⟩ = some (.int .i64 l[k]) := h k hk
theorem IntS.go {w w1 : World} {a : Option Addr} {l : List Int} (h : IntS w a l) (hb : Below w.heap.size w w1) : IntS w1 a l := fun k hk => by
  obtain ⟨b, o, ha, h1, h2⟩ := h k hk
  exact ⟨b, o, ha, Nat.lt_of_lt_of_le h1 hb.size, (hb.cell (p := ⟨b, o + k, none⟩) h1).trans h2⟩
theorem IntS.nil (w : World) (a : Option Addr) : IntS w a [] := fun k hk => by simp at hk
theorem OwnG.byts {w : World} {B : Nat} {a : Option Addr} {n c : Nat} {l : Wd} (h : OwnG rowU8 w B (.slice a n c) l) : BytS w a l ∧ n = l.length ∧ l.length ≤ c := by
  rcases h.blk with ⟨e, h0⟩ | ⟨g, c', e, h1, h2, h3⟩
  · injection e with e1 e2 e3
    subst e1 e2 e3 h0
    exact ⟨BytS.nil _ _, rfl, Nat.le_refl _⟩
  · injection e with e1 e2 e3
    subst e1 e2 e3
    refine ⟨fun k hk => ⟨g, 0, rfl, h2, ?_⟩, rfl, h3⟩
    have := h.cell rowU8_ok (i := k) (j := 0) hk (by decide)
    rw [rowU8_k, Nat.mul_one, Nat.add_zero] at this
    rw [Nat.zero_add]; exact this
theorem OwnG.ints {w : World} {B : Nat} {a : Option Addr} {n c : Nat} {l : List Int} (h : OwnG rowInt w B (.slice a n c) l) : IntS w a l ∧ n = l.length ∧ l.length ≤ c := by
  rcases h.blk with ⟨e, h0⟩ | ⟨g, c', e, h1, h2, h3⟩
  · injection e with e1 e2 e3
    subst e1 e2 e3 h0
    exact ⟨IntS.nil _ _, rfl, Nat.le_refl _⟩
  · injection e with e1 e2 e3
    subst e1 e2 e3
    refine ⟨fun k hk => ⟨g, 0, rfl, h2, ?_⟩, rfl, h3⟩
    have := h.cell rowInt_ok (i := k) (j := 0) hk (by decide)
    rw [rowInt_k, Nat.mul_one, Nat.add_zero] at this
    rw [Nat.zero_add]; exact this
/-- the cells behind an address, one by one -/
theorem cells_one {α : Type} {T : RowT α} (hT : T.Ok) (hk : T.k = 1) {w : World} {b o : Nat} {L : List α} {x : α → Value} (he : ∀ z, T.enc z = [x z])
    (h : ∀ k (hk : k < L.length), w.cell? ⟨b, o + k, none⟩ = some (x L[k])) : ∀ j u, (L.flatMap T.enc)[j]? = some u → w.cell? ((⟨b, o, none⟩ : Addr).add j) = some u := by
  intro j u hu
  have hl := flat_len hT L
  have hj := (List.getElem?_eq_some_iff.1 hu).1
  rw [hl, hk, Nat.mul_one] at hj
  have h1 := flat_get hT (L := L) (i := j) (j := 0) hj (by omega)
  rw [hk, he, Nat.mul_one, Nat.add_zero, hu] at h1
  rw [addr_add', h j hj]
  exact h1.symm
theorem cells_byts {w : World} {b o : Nat} {l : Wd} (h : BytS w (some ⟨b, o, none⟩) l) : ∀ j u, (l.flatMap rowU8.enc)[j]? = some u → w.cell? ((⟨b, o, none⟩ : Addr).add j) = some u :=
  cells_one rowU8_ok rfl (x := fun z => .int .u8 (z.toNat : Int)) (fun _ => rfl) fun k hk => by
    obtain ⟨b1, o1, e, _, h1⟩ := h k hk
    injection e with e
    injection e with e1 e2
    subst e1 e2
    exact h1
theorem BytS.src {w : World} {a : Option Addr} {l : Wd} (h : BytS w a l) (hne : l ≠ []) : ∃ ad, a = some ad ∧ ∀ j u, (l.flatMap rowU8.enc)[j]? = some u → w.cell? (ad.add j) = some u := by
  obtain ⟨b, o, rfl, _⟩ := h.at (k := 0) (List.length_pos_iff.2 hne)
  exact ⟨_, rfl, cells_byts h⟩
theorem idx_u8 (a : Option Addr) (b o len cap k : Nat) (ha : a = some ⟨b, o, none⟩) (hk : k < len) (w : World) :
    (Instr.indexAt 24 (.slice a len cap) (.int .i64 (k : Int))).run Tryd.prog w = .ok (.pointer (some ⟨b, o + k, none⟩)) w := by
  subst ha
  have h0 : (0 : Int) ≤ (k : Int) := by omega
  have h1 : (k : Int) < (len : Int) := by omega
  simp [go_sem, h0, h1]
theorem idx_ints (a : Option Addr) (b o len cap k : Nat) (ha : a = some ⟨b, o, none⟩) (hk : k < len) (w : World) :
    (Instr.indexAt 31 (.slice a len cap) (.int .i64 (k : Int))).run Tryd.prog w = .ok (.pointer (some ⟨b, o + k, none⟩)) w := by
  subst ha
  have h0 : (0 : Int) ≤ (k : Int) := by omega
  have h1 : (k : Int) < (len : Int) := by omega
  simp [go_sem, h0, h1]
/-! ### what grows -/
theorem grownBy_refl (w : World) (r : Option Nat) : w.grownBy w r := ⟨rfl, rfl, rfl, Nat.le_refl _, fun _ _ _ => rfl⟩
theorem grownBy_ext {w w1 : World} (h : Ext w w1) (r : Option Nat) : w.grownBy w1 r := ⟨h.os, h.tape, h.output, h.size, fun k hk _ => h.block k hk⟩
/-- the row has grown: old blocks other than its own stand; it lies where it lay, or in a new block -/
structure GrowV (w : World) (v : Value) (w' : World) (v' : Value) : Prop where
  gr : w.grownBy w' v.ownBlock
  nr : NewRow v.ownBlock v'.ownBlock w.heap.size
theorem GrowV.refl (w : World) (v : Value) : GrowV w v w v := ⟨grownBy_refl _ _, .inl rfl⟩
theorem GrowV.trans {w w1 w2 : World} {v v1 v2 : Value} (h : GrowV w v w1 v1) (h2 : GrowV w1 v1 w2 v2) : GrowV w v w2 v2 := by
  refine ⟨⟨h2.gr.os.trans h.gr.os, h2.gr.tape.trans h.gr.tape, h2.gr.output.trans h.gr.output, Nat.le_trans h.gr.size h2.gr.size, fun k hk hne => ?_⟩, h.nr.trans h2.nr h.gr.size⟩
  refine (h2.gr.block k (Nat.lt_of_lt_of_le hk h.gr.size) fun e => ?_).trans (h.gr.block k hk hne)
  rcases h.nr with h3 | h3
  · rw [h3] at e; exact hne e
  · have := h3 k e.symm; omega
theorem GrowV.pre {w w0 w1 : World} {v v1 : Value} (hx : Ext w w0) (h : GrowV w0 v w1 v1) : GrowV w v w1 v1 := by
  refine ⟨⟨h.gr.os.trans hx.os, h.gr.tape.trans hx.tape, h.gr.output.trans hx.output, Nat.le_trans hx.size h.gr.size, fun k hk hne => (h.gr.block k (Nat.lt_of_lt_of_le hk hx.size) hne).trans (hx.block k hk)⟩, ?_⟩
  rcases h.nr with h3 | h3
  · exact .inl h3
  · exact .inr fun q hq => Nat.le_trans hx.size (h3 q hq)
theorem GrowV.post {w w1 w2 : World} {v v1 : Value} (h : GrowV w v w1 v1) (hx : Ext w1 w2) : GrowV w v w2 v1 :=
  h.trans ⟨grownBy_ext hx _, .inl rfl⟩
theorem GrowV.below {w w1 : World} {v v1 : Value} {B : Nat} (h : GrowV w v w1 v1) (hB : B ≤ w.heap.size) (hv : ∀ q, v.ownBlock = some q → B ≤ q) : Below B w w1 := below_grown h.gr hB hv
/-- a new row: all old blocks stand -/
theorem GrowV.ext {w w1 : World} {v v1 : Value} (h : GrowV w v w1 v1) (hv : v.ownBlock = none) : Ext w w1 := h.below (Nat.le_refl _) (fun q hq => by rw [hv] at hq; cases hq)
theorem OwnG.base {α : Type} {T : RowT α} {w w1 : World} {B C : Nat} {v v1 : Value} {L : List α} (h : OwnG T w1 B v1 L) (hg : GrowV w v w1 v1) (hv : v.ownBlock = none) (hC : C ≤ w.heap.size) : OwnG T w1 C v1 L := h.rebase fun q hq => by
  rcases hg.nr with h3 | h3
  · rw [h3, hv] at hq; cases hq
  · exact Nat.le_trans hC (h3 q hq)
/-- append of a few new elements to an own row: the result's row -/
theorem wpList_app {α : Type} {T : RowT α} (hT : T.Ok) {w : World} {B : Nat} {v : Value} {L : List α} {ops : Array Oper} {rest : List Oper} {o : Oper} {a : Act} {Q : Exit → Act → World → Prop} (hgd : o.guard = none) (s x : Operand)
    (ho : o.op = .call { callee := .builtin .append, args := #[s, x], argTypes := #[T.sl, T.sl] }) (hs : a.eval s = v) (hown : OwnG T w B v L) (ad : Addr) (c : Nat) (news : List α) (hx : a.eval x = .slice (some ad) news.length c)
    (hn : ∀ j u, (news.flatMap T.enc)[j]? = some u → w.cell? (ad.add j) = some u) (hl : L.length + news.length ≤ 1000000) (hB : B ≤ w.heap.size)
    (h : ∀ v' w', OwnG T w' B v' (L ++ news) → GrowV w v w' v' → wpList Tryd.prog ops Q rest (a.put o.dst v') w') : wpList Tryd.prog ops Q (o :: rest) a w :=
  wpList_append_g hT hgd s x ho hs hown ad c news hx hn hl hB fun v' w' h1 h2 h3 => h v' w' h1 ⟨h2, by
    rcases h3 with h3 | h3
    · exact .inl h3
    · exact .inr fun q hq => by rw [h3] at hq; cases hq; exact Nat.le_refl _⟩
end Go.Proofs.YtocdljmdmiphnaaDoor
/- Pack: numbers, check sums. -/
namespace Go.Proofs.YtocdljmdmiphnaaDoor
open Go.RowKit Go.WideShapes
set_option linter.unusedVariables false
set_option linter.unusedSimpArgs false

theorem numB_step (m : Nat) (h : ¬ m < 128) : numB m = UInt8.ofNat (128 + m % 128) :: numB (m / 128) := numB_ge h
theorem u8v (n : Nat) (h : n < 256) : ((UInt8.ofNat n).toNat : Int) = (n : Int) := by rw [UInt8.toNat_ofNat']; omega
set_option maxHeartbeats 1600000 in
set_option maxRecDepth 100000 in
theorem number_any (B : Nat) (v : Value) (l : Wd) (n : Int) (w : World) (hown : OwnG rowU8 w B v l) (hB : B ≤ w.heap.size) (h0 : 0 ≤ n) (h1 : n ≤ 1099511627776) (hl : l.length ≤ 900000) :
    Calls Tryd.prog 34 #[v, .int .i64 n] w fun e w' => ∃ v', e = .returned v' ∧ OwnG rowU8 w' B v' (l ++ numZ n) ∧ GrowV w v w' v' := by
  obtain ⟨m, rfl⟩ := Int.eq_ofNat_of_zero_le h0
  have HO := Lib.hid hown
  clear hown
  have hnz : numZ (m : Int) = numB m := by unfold numZ; rw [Int.toNat_natCast]
  rw [hnz]; clear hnz
  go_enter Tryd.func34, Tryd.ntmps34
  go_wp2
  go_loopw [0, 1] (fun u q wr => ∃ (k i : Nat) (p : Wd), q = .int .i64 (k : Int) ∧ k ≤ m ∧ numB m = p ++ numB k ∧ p.length = i ∧ i ≤ 6 ∧ k < 128 ^ (6 - i) ∧ OwnG rowU8 wr B u (l ++ p) ∧ GrowV w v wr u) (fun _ q _ => (intOf q).toNat)
  case atStart => exact ⟨m, 0, [], rfl, Nat.le_refl _, rfl, rfl, by omega, by simp; omega, by rw [List.append_nil]; exact HO.out, GrowV.refl _ _⟩
  case round =>
    obtain ⟨k, i, p, rfl, hk, hp, hpi, hi, hki, hown, hg⟩ := hrel
    have HP := Lib.hid hp; have HOr := Lib.hid hown; have HG := Lib.hid hg; have HPI := Lib.hid hpi; have HKI := Lib.hid hki
    have hbw : B ≤ wr.heap.size := Nat.le_trans hB hg.gr.size
    clear hp hown hg hpi hki
    by_cases hlt : 128 ≤ k
    · have hr : (k : Int).tmod 128 = ((k % 128 : Nat) : Int) := Int.ofNat_tmod k 128
      have hq : (k : Int).tdiv 128 = ((k / 128 : Nat) : Int) := Int.ofNat_tdiv k 128
      have HST : Hid (numB m = p ++ [UInt8.ofNat (128 + k % 128)] ++ numB (k / 128)) := by
        show _ = _
        rw [HP.out, numB_step k (by omega), List.append_assoc]; rfl
      have hi6 : i + 1 ≤ 6 := by
        rcases Nat.lt_or_ge i 6 with h | h
        · omega
        · have e : i = 6 := by omega
          have h3 := HKI.out
          rw [e] at h3
          simp at h3
          omega
      have HK2 : Hid (k / 128 < 128 ^ (6 - (i + 1))) := by
        show _ < _
        rw [Nat.div_lt_iff_lt_mul (by omega), ← Nat.pow_succ, show (6 - (i + 1)).succ = 6 - i by omega]
        exact HKI.out
      obtain ⟨r, hr2⟩ : ∃ r, k % 128 = r := ⟨_, rfl⟩
      obtain ⟨d, hd2⟩ : ∃ d, k / 128 = d := ⟨_, rfl⟩
      rw [hr2] at hr HST
      rw [hd2] at hq HST HK2
      have hrl : r < 128 := by omega
      have hdk : d < k := by omega
      clear hr2 hd2
      have hw1 : IntKind.u8.wrap (r : Int) = (r : Int) := IntWalk.u8_in _ (by omega)
      have hw2 : IntKind.u8.wrap ((r : Int) + 128) = ((128 + r : Nat) : Int) := by rw [IntWalk.u8_in _ (by omega)]; omega
      obtain ⟨y, hy⟩ : ∃ y, 128 + r = y := ⟨_, rfl⟩
      rw [hy] at hw2 HST
      have hy2 : y < 256 := by omega
      clear hy
      have hw3 : IntKind.i64.wrap (d : Int) = (d : Int) := IntWalk.i64_in _ (by omega)
      have hw4 : IntKind.i64.wrap (r : Int) = (r : Int) := IntWalk.i64_in _ (by omega)
      have HV := Lib.hid (u8v y (by omega))
      have hxA : Below wr.heap.size wr (wr.alloc (.cells #[.int .u8 (y : Int)] 5)) := (Below.refl _ wr).alloc (Nat.le_refl _) _
      have HXA := Lib.hid hxA
      clear hxA
      go_wp2_with (first
        | (at_builtin; go_loud (refine wpList_app rowU8_ok rfl _ _ rfl rfl (HOr.out.later HXA.out (Nat.le_refl _)) ⟨wr.heap.size, 0, none⟩ 1 [UInt8.ofNat y] rfl (cells_built (by have h9 := heap_alloc_new wr (.cells #[.int .u8 (y : Int)] 5); rw [← HV.out] at h9 ⊢; exact h9)) (by have := HPI.out; simp only [List.length_append, List.length_singleton]; omega) (by simp only [World.size_alloc]; omega) ?_); intro v5 w5 hown5 hg5; have HO5 := Lib.hid hown5; have HG5 := Lib.hid hg5; clear hown5 hg5))
      go_roundw
      case rel => exact ⟨d, i + 1, p ++ [UInt8.ofNat y], by go_num, by omega, HST.out, by have := HPI.out; simp; omega, hi6, HK2.out, by rw [← List.append_assoc]; exact HO5.out, HG.out.trans (GrowV.pre HXA.out HG5.out)⟩
      case measure => simp [intOf]; omega
    · have hw1 : IntKind.u8.wrap (k : Int) = (k : Int) := IntWalk.u8_in _ (by omega)
      have HV := Lib.hid (u8v k (by omega))
      have hxA : Below wr.heap.size wr (wr.alloc (.cells #[.int .u8 (k : Int)] 5)) := (Below.refl _ wr).alloc (Nat.le_refl _) _
      have HXA := Lib.hid hxA
      clear hxA
      go_wp2_with (first
        | (at_builtin; go_loud (refine wpList_app rowU8_ok rfl _ _ rfl rfl (HOr.out.later HXA.out (Nat.le_refl _)) ⟨wr.heap.size, 0, none⟩ 1 [UInt8.ofNat k] rfl (cells_built (by have h9 := heap_alloc_new wr (.cells #[.int .u8 (k : Int)] 5); rw [← HV.out] at h9 ⊢; exact h9)) (by have := HPI.out; simp only [List.length_append, List.length_singleton]; omega) (by simp only [World.size_alloc]; omega) ?_); intro v5 w5 hown5 hg5; have HO5 := Lib.hid hown5; have HG5 := Lib.hid hg5; clear hown5 hg5))
      go_ret
      refine ⟨v5, rfl, ?_, HG.out.trans (GrowV.pre HXA.out HG5.out)⟩
      rw [HP.out, numB_lt (by omega), ← List.append_assoc]
      exact HO5.out
end Go.Proofs.YtocdljmdmiphnaaDoor
/- Pack: check sums. -/
namespace Go.Proofs.YtocdljmdmiphnaaDoor
open Go.RowKit Go.WideShapes
set_option linter.unusedVariables false
set_option linter.unusedSimpArgs false

/-- four new bytes -/
theorem four_own {w : World} {B : Nat} (hB : B ≤ w.heap.size) {p q r s : Nat} (hp : p < 256) (hq : q < 256) (hr : r < 256) (hs : s < 256) :
    OwnG rowU8 (w.alloc (.cells #[.int .u8 (p : Int), .int .u8 (q : Int), .int .u8 (r : Int), .int .u8 (s : Int)] 5)) B (.slice (some ⟨w.heap.size, 0, none⟩) 4 4) [UInt8.ofNat p, UInt8.ofNat q, UInt8.ofNat r, UInt8.ofNat s] := by
  refine ⟨by simp [rowU8], .inr ⟨w.heap.size, 4, _, rfl, hB, heap_alloc_new _ _, by simp, by unfold maxLen; omega, by simp [rowU8], ?_⟩⟩
  simp [rowU8, u8v p hp, u8v q hq, u8v r hr, u8v s hs]
  refine ⟨?_, ?_, ?_, ?_⟩ <;> omega
theorem four_sum {w : World} {B : Nat} (hB : B ≤ w.heap.size) {p q : Nat} (hp : p < 65521) (hq : q < 65521) :
    OwnG rowU8 (w.alloc (.cells #[.int .u8 ((q : Int) / 256), .int .u8 ((q : Int) % 256), .int .u8 ((p : Int) / 256), .int .u8 ((p : Int) % 256)] 5)) B (.slice (some ⟨w.heap.size, 0, none⟩) 4 4) [UInt8.ofNat (q / 256), UInt8.ofNat (q % 256), UInt8.ofNat (p / 256), UInt8.ofNat (p % 256)] := by
  have h := four_own hB (p := q / 256) (q := q % 256) (r := p / 256) (s := p % 256) (by omega) (by omega) (by omega) (by omega)
  rw [show ((q / 256 : Nat) : Int) = (q : Int) / 256 by omega, show ((q % 256 : Nat) : Int) = (q : Int) % 256 by omega, show ((p / 256 : Nat) : Int) = (p : Int) / 256 by omega, show ((p % 256 : Nat) : Int) = (p : Int) % 256 by omega] at h
  exact h
theorem mod_step (a b c : Nat) (ha : a < 65521) (hb : b < 65521) (hc : c < 256) : ∃ a' b' : Nat, (a + c) % 65521 = a' ∧ (b + a') % 65521 = b' ∧ a' < 65521 ∧ b' < 65521 ∧ ((a : Int) + (c : Int)).tmod 65521 = (a' : Int) ∧ ((b : Int) + (a' : Int)).tmod 65521 = (b' : Int) :=
  ⟨_, _, rfl, rfl, Nat.mod_lt _ (by omega), Nat.mod_lt _ (by omega), by rw [← Int.natCast_add]; exact Int.ofNat_tmod (a + c) 65521, by rw [← Int.natCast_add]; exact Int.ofNat_tmod _ 65521⟩
set_option maxHeartbeats 1600000 in
set_option maxRecDepth 100000 in
theorem sum_any (l : Wd) (n : Nat) (a : Option Addr) (c : Nat) (w : World) (hS : BytS w a l) (hn : n = l.length) (hl : n ≤ 9223372036854775807) :
    Calls Tryd.prog 35 #[.slice a n c] w fun e w' => ∃ g, e = .returned (.slice (some ⟨g, 0, none⟩) 4 4) ∧ OwnG rowU8 w' w.heap.size (.slice (some ⟨g, 0, none⟩) 4 4) (sumB l) ∧ Below w.heap.size w w' := by
  have HS := Lib.hid hS; have HN := Lib.hid hn
  clear hS hn
  go_enter Tryd.func35, Tryd.ntmps35
  go_wp2
  go_loopw [9, 3, 4] (fun i s t wr => ∃ (k p q : Nat), k ≤ n ∧ i = .int .i64 (k : Int) ∧ s = .int .i64 (p : Int) ∧ t = .int .i64 (q : Int) ∧ sumSt (l.take k) = (p, q) ∧ w = wr) (fun i _ _ _ => n - (intOf i).toNat)
  case atStart => exact ⟨0, 1, 0, Nat.zero_le _, rfl, rfl, rfl, rfl, rfl⟩
  case round =>
    obtain ⟨k, p, q, hk, rfl, rfl, rfl, hst, rfl⟩ := hrel
    have HST := Lib.hid hst
    have hlp := sumSt_lt (l.take k)
    rw [hst] at hlp
    obtain ⟨hp, hq⟩ := hlp
    simp only at hp hq
    clear hst
    by_cases hlt : k < n
    · have hkl : k < l.length := by have := HN.out; omega
      obtain ⟨b, o, ha, hb, q0⟩ := HS.out.at hkl
      have hidx := idx_u8 a b o n c k ha hlt
      obtain ⟨x, hx⟩ : ∃ x : Nat, l[k].toNat = x := ⟨_, rfl⟩
      have hxl : x < 256 := by rw [← hx]; exact UInt8.toNat_lt _
      have HSU := Lib.hid (sumSt_succ hkl)
      obtain ⟨p', q', e1, e2, hp', hq', e3, e4⟩ := mod_step p q x hp hq hxl
      have HR : Hid (sumSt (l.take (k + 1)) = (p', q')) := by
        show _ = _
        rw [HSU.out, HST.out]
        simp only
        rw [hx, e1, e2]
      rw [hx] at q0
      have hw1 : IntKind.i64.wrap ((p : Int) + (x : Int)) = (p : Int) + (x : Int) := IntWalk.i64_in _ (by omega)
      have hw2 : IntKind.i64.wrap ((q : Int) + (p' : Int)) = (q : Int) + (p' : Int) := IntWalk.i64_in _ (by omega)
      have hw3 : IntKind.i64.wrap (p' : Int) = (p' : Int) := IntWalk.i64_in _ (by omega)
      have hw4 : IntKind.i64.wrap (q' : Int) = (q' : Int) := IntWalk.i64_in _ (by omega)
      have hw5 : IntKind.i64.wrap (x : Int) = (x : Int) := IntWalk.i64_in _ (by omega)
      clear ha hx e1 e2 HSU
      go_wp2
      go_roundw
      case rel => exact ⟨k + 1, p', q', by omega, by go_num, rfl, rfl, HR.out, trivial⟩
      case measure => simp [intOf]; omega
    · have hkn : k = n := by omega
      have HR : Hid (sumSt l = (p, q)) := by
        show _ = _
        rw [← HST.out, List.take_of_length_le (by have := HN.out; omega)]
      clear hkn
      go_wp2
      go_ret
      refine ⟨w.heap.size, rfl, ?_, (Below.refl _ _).alloc (Nat.le_refl _) _⟩
      unfold sumB
      rw [HR.out]
      exact four_sum (Nat.le_refl _) hp hq
set_option maxHeartbeats 1600000 in
set_option maxRecDepth 100000 in
/-- the reference's -/
theorem rsum_any (l : Wd) (n : Nat) (a : Option Addr) (c : Nat) (w : World) (hS : BytS w a l) (hn : n = l.length) (hl : n ≤ 9223372036854775807) :
    Calls Tryd.prog 16 #[.slice a n c] w fun e w' => ∃ g, e = .returned (.slice (some ⟨g, 0, none⟩) 4 4) ∧ OwnG rowU8 w' w.heap.size (.slice (some ⟨g, 0, none⟩) 4 4) (sumB l) ∧ Below w.heap.size w w' := by
  have HS := Lib.hid hS; have HN := Lib.hid hn
  clear hS hn
  go_enter Tryd.func16, Tryd.ntmps16
  go_wp2
  go_loopw [5, 3, 4] (fun i s t wr => ∃ (k p q : Nat), k ≤ n ∧ i = .int .i64 (k : Int) ∧ s = .int .i64 (p : Int) ∧ t = .int .i64 (q : Int) ∧ sumSt (l.take k) = (p, q) ∧ w = wr) (fun i _ _ _ => n - (intOf i).toNat)
  case atStart => exact ⟨0, 1, 0, Nat.zero_le _, rfl, rfl, rfl, rfl, rfl⟩
  case round =>
    obtain ⟨k, p, q, hk, rfl, rfl, rfl, hst, rfl⟩ := hrel
    have HST := Lib.hid hst
    have hlp := sumSt_lt (l.take k)
    rw [hst] at hlp
    obtain ⟨hp, hq⟩ := hlp
    simp only at hp hq
    clear hst
    by_cases hlt : k < n
    · have hkl : k < l.length := by have := HN.out; omega
      obtain ⟨b, o, ha, hb, q0⟩ := HS.out.at hkl
      have hidx := idx_u8 a b o n c k ha hlt
      obtain ⟨x, hx⟩ : ∃ x : Nat, l[k].toNat = x := ⟨_, rfl⟩
      have hxl : x < 256 := by rw [← hx]; exact UInt8.toNat_lt _
      have HSU := Lib.hid (sumSt_succ hkl)
      obtain ⟨p', q', e1, e2, hp', hq', e3, e4⟩ := mod_step p q x hp hq hxl
      have HR : Hid (sumSt (l.take (k + 1)) = (p', q')) := by
        show _ = _
        rw [HSU.out, HST.out]
        simp only
        rw [hx, e1, e2]
      rw [hx] at q0
      have hw1 : IntKind.i64.wrap ((p : Int) + (x : Int)) = (p : Int) + (x : Int) := IntWalk.i64_in _ (by omega)
      have hw2 : IntKind.i64.wrap ((q : Int) + (p' : Int)) = (q : Int) + (p' : Int) := IntWalk.i64_in _ (by omega)
      have hw3 : IntKind.i64.wrap (p' : Int) = (p' : Int) := IntWalk.i64_in _ (by omega)
      have hw4 : IntKind.i64.wrap (q' : Int) = (q' : Int) := IntWalk.i64_in _ (by omega)
      have hw5 : IntKind.i64.wrap (x : Int) = (x : Int) := IntWalk.i64_in _ (by omega)
      clear ha hx e1 e2 HSU
      go_wp2
      go_roundw
      case rel => exact ⟨k + 1, p', q', by omega, by go_num, rfl, rfl, HR.out, trivial⟩
      case measure => simp [intOf]; omega
    · have hkn : k = n := by omega
      have HR : Hid (sumSt l = (p, q)) := by
        show _ = _
        rw [← HST.out, List.take_of_length_le (by have := HN.out; omega)]
      clear hkn
      obtain ⟨q1, eq1⟩ : ∃ q1, q / 256 = q1 := ⟨_, rfl⟩
      obtain ⟨q2, eq2⟩ : ∃ q2, q % 256 = q2 := ⟨_, rfl⟩
      obtain ⟨p1, ep1⟩ : ∃ p1, p / 256 = p1 := ⟨_, rfl⟩
      obtain ⟨p2, ep2⟩ : ∃ p2, p % 256 = p2 := ⟨_, rfl⟩
      have d1 : (q : Int).tdiv 256 = (q1 : Int) := by rw [← eq1]; exact Int.ofNat_tdiv q 256
      have d2 : (q : Int).tmod 256 = (q2 : Int) := by rw [← eq2]; exact Int.ofNat_tmod q 256
      have d3 : (p : Int).tdiv 256 = (p1 : Int) := by rw [← ep1]; exact Int.ofNat_tdiv p 256
      have d4 : (p : Int).tmod 256 = (p2 : Int) := by rw [← ep2]; exact Int.ofNat_tmod p 256
      have h1 : q1 < 256 := by omega
      have h2 : q2 < 256 := by omega
      have h3 : p1 < 256 := by omega
      have h4 : p2 < 256 := by omega
      have HF : Hid (sumB l = [UInt8.ofNat q1, UInt8.ofNat q2, UInt8.ofNat p1, UInt8.ofNat p2]) := by
        show _ = _
        unfold sumB
        rw [HR.out, eq1, eq2, ep1, ep2]
      clear eq1 eq2 ep1 ep2
      have hw1 : IntKind.u8.wrap (q1 : Int) = (q1 : Int) := IntWalk.u8_in _ (by omega)
      have hw2 : IntKind.u8.wrap (q2 : Int) = (q2 : Int) := IntWalk.u8_in _ (by omega)
      have hw3 : IntKind.u8.wrap (p1 : Int) = (p1 : Int) := IntWalk.u8_in _ (by omega)
      have hw4 : IntKind.u8.wrap (p2 : Int) = (p2 : Int) := IntWalk.u8_in _ (by omega)
      have hv1 : IntKind.i64.wrap (q1 : Int) = (q1 : Int) := IntWalk.i64_in _ (by omega)
      have hv2 : IntKind.i64.wrap (q2 : Int) = (q2 : Int) := IntWalk.i64_in _ (by omega)
      have hv3 : IntKind.i64.wrap (p1 : Int) = (p1 : Int) := IntWalk.i64_in _ (by omega)
      have hv4 : IntKind.i64.wrap (p2 : Int) = (p2 : Int) := IntWalk.i64_in _ (by omega)
      go_wp2
      go_ret
      refine ⟨w.heap.size, rfl, ?_, (Below.refl _ _).alloc (Nat.le_refl _) _⟩
      rw [HF.out]
      exact four_own (Nat.le_refl _) h1 h2 h3 h4
/-! ### equal rows of bytes; of integers -/
set_option maxHeartbeats 1600000 in
set_option maxRecDepth 100000 in
theorem equalB_any (l m : Wd) (n n2 : Nat) (a b : Option Addr) (c d : Nat) (w : World) (hL : BytS w a l) (hM : BytS w b m) (hn : n = l.length) (hm : n2 = m.length) (hl : n ≤ 9223372036854775807) (hl2 : n2 ≤ 9223372036854775807) :
    Calls Tryd.prog 45 #[.slice a n c, .slice b n2 d] w fun e w' => e = .returned (.bool (decide (l = m))) ∧ Below w.heap.size w w' := by
  have HL := Lib.hid hL; have HM := Lib.hid hM; have HN := Lib.hid hn; have HN2 := Lib.hid hm
  clear hL hM hn hm
  by_cases heq : n = n2
  · subst heq
    go_enter Tryd.func45, Tryd.ntmps45
    go_wp2
    go_loopw [13] (fun i wr => ∃ k : Nat, k ≤ n ∧ i = .int .i64 (k : Int) ∧ l.take k = m.take k ∧ Below w.heap.size w wr) (fun i _ => n - (intOf i).toNat)
    case atStart => exact ⟨0, Nat.zero_le _, rfl, rfl, Below.refl _ _⟩
    case round =>
      obtain ⟨k, hk, rfl, ht, hB⟩ := hrel
      have HTK := Lib.hid ht; have HBW := Lib.hid hB
      clear ht hB
      by_cases hlt : k < n
      · have hkl : k < l.length := by have := HN.out; omega
        have hkm : k < m.length := by have := HN2.out; omega
        obtain ⟨b1, o1, ha1, hb1, q0⟩ := (HL.out.go HBW.out).at hkl
        obtain ⟨b2, o2, ha2, hb2, q1⟩ := (HM.out.go HBW.out).at hkm
        have hi1 := idx_u8 a b1 o1 n c k ha1 hlt
        have hi2 := idx_u8 b b2 o2 n d k ha2 hlt
        obtain ⟨x, hx⟩ : ∃ x : Int, (l[k].toNat : Int) = x := ⟨_, rfl⟩
        obtain ⟨y, hy⟩ : ∃ y : Int, (m[k].toNat : Int) = y := ⟨_, rfl⟩
        rw [hx] at q0
        rw [hy] at q1
        have HP0 := Lib.hid q0; have HP1 := Lib.hid q1
        have HX := Lib.hid hx; have HY := Lib.hid hy
        clear ha1 ha2 hx hy q0 q1
        by_cases hc : x = y
        · have HR : Hid (l.take (k + 1) = m.take (k + 1)) := take_eq_step hkl hkm HTK.out (by
            have h := HX.out.trans (hc.trans HY.out.symm)
            exact UInt8.toNat_inj.1 (by omega))
          have hcb : (x != y) = false := by simp [hc]
          clear hc
          go_upto_region 6 with fail
          refine wp_region_st (by kernel_rfl) (Vs [fun v _ => v = .slice a n c, fun v _ => v = .int .i64 (k : Int), fun v _ => v = .pointer (some ⟨b1, o1 + k, none⟩), fun v _ => v = .int .u8 x, fun v _ => v = .slice b n d, fun v _ => v = .int .i64 (k : Int), fun v _ => v = .pointer (some ⟨b2, o2 + k, none⟩), fun v _ => v = .int .u8 y, fun v _ => v = .bool false]) (Xs [Ext, Ext, Ext, Ext, Ext, Ext, Ext, Ext, Ext]) (fun fL => (fun W => Below wr.heap.size wr W) ) [0, 0, 3, 7, 0, 0, 48, 112, 255] 26 9 (by kernel_rfl) rfl ?hV ?hS ?hop ?hfin ?hlast
          case hV =>
            refine xs_stays (vs_stays (by simp only [List.mem_cons, List.not_mem_nil, or_false, forall_eq_or_imp, forall_eq]; exact ⟨stays_const _, stays_const _, stays_const _, stays_const _, stays_const _, stays_const _, stays_const _, stays_const _, stays_const _⟩)) ?_
            exact ⟨.inl rfl, .inl rfl, .inl rfl, .inl rfl, .inl rfl, .inl rfl, .inl rfl, .inl rfl, .inl rfl, trivial⟩
          case hS =>
            intro fL hf
            show (fun W => Below wr.heap.size wr W)  _
            exact (Below.refl _ wr).drew
          case hop =>
            refine ⟨?_, ?_, ?_, ?_, ?_, ?_, ?_, ?_, ?_, trivial⟩
            all_goals first | rw [if_neg (by decide)] | rw [if_pos (by decide)]
            all_goals try intro ac W fL hsz hfi hms hdn hS0 hdep hbase hund
            all_goals try have hS : (fun W => Below wr.heap.size wr W)  W := hS0
            all_goals try (
              have q0 := (hS.cell (p := ⟨b1, o1 + k, none⟩) hb1).trans HP0.out
              have q1 := (hS.cell (p := ⟨b2, o2 + k, none⟩) hb2).trans HP1.out)
            all_goals try (have h0 : ac.tmps.getD 0 undef = .slice a n c := hbase 0 (by kernel_rfl); have hh0 := h0; rw [Array.getD_eq_getD_getElem?] at hh0)
            all_goals try (have h1 : ac.tmps.getD 1 undef = .slice b n d := hbase 1 (by kernel_rfl); have hh1 := h1; rw [Array.getD_eq_getD_getElem?] at hh1)
            all_goals try (have h5 : ac.tmps.getD 5 undef = .int .i64 (k : Int) := hbase 5 (by kernel_rfl); have hh5 := h5; rw [Array.getD_eq_getD_getElem?] at hh5)
            all_goals try (have d16 : ac.tmps.getD 16 undef = .slice a n c := hdep 0 (by decide); have dd16 := d16; rw [Array.getD_eq_getD_getElem?] at dd16)
            all_goals try (have d17 : ac.tmps.getD 17 undef = .int .i64 (k : Int) := hdep 1 (by decide); have dd17 := d17; rw [Array.getD_eq_getD_getElem?] at dd17)
            all_goals try (have d18 : ac.tmps.getD 18 undef = .pointer (some ⟨b1, o1 + k, none⟩) := hdep 2 (by decide); have dd18 := d18; rw [Array.getD_eq_getD_getElem?] at dd18)
            all_goals try (have d19 : ac.tmps.getD 19 undef = .int .u8 x := hdep 3 (by decide); have dd19 := d19; rw [Array.getD_eq_getD_getElem?] at dd19)
            all_goals try (have d20 : ac.tmps.getD 20 undef = .slice b n d := hdep 4 (by decide); have dd20 := d20; rw [Array.getD_eq_getD_getElem?] at dd20)
            all_goals try (have d21 : ac.tmps.getD 21 undef = .int .i64 (k : Int) := hdep 5 (by decide); have dd21 := d21; rw [Array.getD_eq_getD_getElem?] at dd21)
            all_goals try (have d22 : ac.tmps.getD 22 undef = .pointer (some ⟨b2, o2 + k, none⟩) := hdep 6 (by decide); have dd22 := d22; rw [Array.getD_eq_getD_getElem?] at dd22)
            all_goals try (have d23 : ac.tmps.getD 23 undef = .int .u8 y := hdep 7 (by decide); have dd23 := d23; rw [Array.getD_eq_getD_getElem?] at dd23)
            all_goals try clear hbase hdep hms hdn hund
            all_goals (refine opOk_run rfl (.inl ⟨_, W, ?_, rfl, Ext.refl _, hS0⟩); clear hsz hS hS0 hfi; simp [go_sem, Act.eval, *]; done)
          case hlast =>
            intro h; exact absurd rfl h
          case hfin =>
            intro _ ac W hsz hdf fL hf hS0 hv hbase
            have hS : (fun W => Below wr.heap.size wr W)  W := hS0
            clear hS0
            obtain ⟨sx, hsx, hsA⟩ := act_puts [16, 17, 18, 19, 20, 21, 22, 23, 24] (by kernel_rfl) hsz hdf hbase
            have e24 : sx 24 = .bool false := (hsx 24).trans (hv 8 (by decide))
            rw [hsA]
            simp only [List.foldl]
            rw [e24]
            clear e24
            simp only [Act.put, List.setIfInBounds_toArray, List.set_cons_succ, List.set_cons_zero]
            clear hsA hsx hv hbase hsz hdf hf
            have HB7 := Lib.hid (Below.trans HBW.out (Below.mono hS HBW.out.size))
            clear hS
            go_wp2
            go_roundw
            case rel => exact ⟨k + 1, by omega, by go_num, HR.out, HB7.out⟩
            case measure => simp [intOf]; omega
        · have hcb : (x != y) = true := by simp [hc]
          have HR : Hid (decide (l = m) = false) := decide_eq_false fun h => hc (by
            have h1 := HX.out
            have h2 := HY.out
            subst h
            exact h1.symm.trans h2)
          clear hc
          go_upto_region 6 with fail
          refine wp_region_st (by kernel_rfl) (Vs [fun v _ => v = .slice a n c, fun v _ => v = .int .i64 (k : Int), fun v _ => v = .pointer (some ⟨b1, o1 + k, none⟩), fun v _ => v = .int .u8 x, fun v _ => v = .slice b n d, fun v _ => v = .int .i64 (k : Int), fun v _ => v = .pointer (some ⟨b2, o2 + k, none⟩), fun v _ => v = .int .u8 y, fun v _ => v = .bool true]) (Xs [Ext, Ext, Ext, Ext, Ext, Ext, Ext, Ext, Ext]) (fun fL => (fun W => Below wr.heap.size wr W) ) [0, 0, 3, 7, 0, 0, 48, 112, 255] 26 9 (by kernel_rfl) rfl ?hV ?hS ?hop ?hfin ?hlast
          case hV =>
            refine xs_stays (vs_stays (by simp only [List.mem_cons, List.not_mem_nil, or_false, forall_eq_or_imp, forall_eq]; exact ⟨stays_const _, stays_const _, stays_const _, stays_const _, stays_const _, stays_const _, stays_const _, stays_const _, stays_const _⟩)) ?_
            exact ⟨.inl rfl, .inl rfl, .inl rfl, .inl rfl, .inl rfl, .inl rfl, .inl rfl, .inl rfl, .inl rfl, trivial⟩
          case hS =>
            intro fL hf
            show (fun W => Below wr.heap.size wr W)  _
            exact (Below.refl _ wr).drew
          case hop =>
            refine ⟨?_, ?_, ?_, ?_, ?_, ?_, ?_, ?_, ?_, trivial⟩
            all_goals first | rw [if_neg (by decide)] | rw [if_pos (by decide)]
            all_goals try intro ac W fL hsz hfi hms hdn hS0 hdep hbase hund
            all_goals try have hS : (fun W => Below wr.heap.size wr W)  W := hS0
            all_goals try (
              have q0 := (hS.cell (p := ⟨b1, o1 + k, none⟩) hb1).trans HP0.out
              have q1 := (hS.cell (p := ⟨b2, o2 + k, none⟩) hb2).trans HP1.out)
            all_goals try (have h0 : ac.tmps.getD 0 undef = .slice a n c := hbase 0 (by kernel_rfl); have hh0 := h0; rw [Array.getD_eq_getD_getElem?] at hh0)
            all_goals try (have h1 : ac.tmps.getD 1 undef = .slice b n d := hbase 1 (by kernel_rfl); have hh1 := h1; rw [Array.getD_eq_getD_getElem?] at hh1)
            all_goals try (have h5 : ac.tmps.getD 5 undef = .int .i64 (k : Int) := hbase 5 (by kernel_rfl); have hh5 := h5; rw [Array.getD_eq_getD_getElem?] at hh5)
            all_goals try (have d16 : ac.tmps.getD 16 undef = .slice a n c := hdep 0 (by decide); have dd16 := d16; rw [Array.getD_eq_getD_getElem?] at dd16)
            all_goals try (have d17 : ac.tmps.getD 17 undef = .int .i64 (k : Int) := hdep 1 (by decide); have dd17 := d17; rw [Array.getD_eq_getD_getElem?] at dd17)
            all_goals try (have d18 : ac.tmps.getD 18 undef = .pointer (some ⟨b1, o1 + k, none⟩) := hdep 2 (by decide); have dd18 := d18; rw [Array.getD_eq_getD_getElem?] at dd18)
            all_goals try (have d19 : ac.tmps.getD 19 undef = .int .u8 x := hdep 3 (by decide); have dd19 := d19; rw [Array.getD_eq_getD_getElem?] at dd19)
            all_goals try (have d20 : ac.tmps.getD 20 undef = .slice b n d := hdep 4 (by decide); have dd20 := d20; rw [Array.getD_eq_getD_getElem?] at dd20)
            all_goals try (have d21 : ac.tmps.getD 21 undef = .int .i64 (k : Int) := hdep 5 (by decide); have dd21 := d21; rw [Array.getD_eq_getD_getElem?] at dd21)
            all_goals try (have d22 : ac.tmps.getD 22 undef = .pointer (some ⟨b2, o2 + k, none⟩) := hdep 6 (by decide); have dd22 := d22; rw [Array.getD_eq_getD_getElem?] at dd22)
            all_goals try (have d23 : ac.tmps.getD 23 undef = .int .u8 y := hdep 7 (by decide); have dd23 := d23; rw [Array.getD_eq_getD_getElem?] at dd23)
            all_goals try clear hbase hdep hms hdn hund
            all_goals (refine opOk_run rfl (.inl ⟨_, W, ?_, rfl, Ext.refl _, hS0⟩); clear hsz hS hS0 hfi; simp [go_sem, Act.eval, *]; done)
          case hlast =>
            intro h; exact absurd rfl h
          case hfin =>
            intro _ ac W hsz hdf fL hf hS0 hv hbase
            have hS : (fun W => Below wr.heap.size wr W)  W := hS0
            clear hS0
            obtain ⟨sx, hsx, hsA⟩ := act_puts [16, 17, 18, 19, 20, 21, 22, 23, 24] (by kernel_rfl) hsz hdf hbase
            have e24 : sx 24 = .bool true := (hsx 24).trans (hv 8 (by decide))
            rw [hsA]
            simp only [List.foldl]
            rw [e24]
            clear e24
            simp only [Act.put, List.setIfInBounds_toArray, List.set_cons_succ, List.set_cons_zero]
            clear hsA hsx hv hbase hsz hdf hf
            have HB7 := Lib.hid (Below.trans HBW.out (Below.mono hS HBW.out.size))
            clear hS
            go_wp2
            go_ret
            exact ⟨ret_bool HR.out.symm, HB7.out⟩
      · have HR : Hid (decide (l = m) = true) := decide_eq_true (take_eq_end (by rw [← HN.out, ← HN2.out]) (by have := HN.out; omega) HTK.out)
        go_wp2
        go_ret
        exact ⟨ret_bool HR.out.symm, HBW.out⟩
  · have hne : ((n : Int) != (n2 : Int)) = true := by simp; omega
    have HR : Hid (decide (l = m) = false) := decide_eq_false fun h => heq (by rw [HN.out, HN2.out, h])
    go_enter Tryd.func45, Tryd.ntmps45
    go_wp2
    go_ret
    exact ⟨ret_bool HR.out.symm, Below.refl _ _⟩
set_option maxHeartbeats 1600000 in
set_option maxRecDepth 100000 in
theorem ints_any (l m : List Int) (n n2 : Nat) (a b : Option Addr) (c d : Nat) (w : World) (hL : IntS w a l) (hM : IntS w b m) (hn : n = l.length) (hm : n2 = m.length) (hl : n ≤ 9223372036854775807) (hl2 : n2 ≤ 9223372036854775807) :
    Calls Tryd.prog 21 #[.slice a n c, .slice b n2 d] w fun e w' => e = .returned (.bool (decide (l = m))) ∧ Below w.heap.size w w' := by
  have HL := Lib.hid hL; have HM := Lib.hid hM; have HN := Lib.hid hn; have HN2 := Lib.hid hm
  clear hL hM hn hm
  by_cases heq : n = n2
  · subst heq
    go_enter Tryd.func21, Tryd.ntmps21
    go_wp2
    go_loopw [5] (fun i wr => ∃ k : Nat, k ≤ n ∧ i = .int .i64 (k : Int) ∧ l.take k = m.take k ∧ Below w.heap.size w wr) (fun i _ => n - (intOf i).toNat)
    case atStart => exact ⟨0, Nat.zero_le _, rfl, rfl, Below.refl _ _⟩
    case round =>
      obtain ⟨k, hk, rfl, ht, hB⟩ := hrel
      have HTK := Lib.hid ht; have HBW := Lib.hid hB
      clear ht hB
      by_cases hlt : k < n
      · have hkl : k < l.length := by have := HN.out; omega
        have hkm : k < m.length := by have := HN2.out; omega
        obtain ⟨b1, o1, ha1, hb1, q0⟩ := (HL.out.go HBW.out).at hkl
        obtain ⟨b2, o2, ha2, hb2, q1⟩ := (HM.out.go HBW.out).at hkm
        have hi1 := idx_ints a b1 o1 n c k ha1 hlt
        have hi2 := idx_ints b b2 o2 n d k ha2 hlt
        obtain ⟨x, hx⟩ : ∃ x : Int, l[k] = x := ⟨_, rfl⟩
        obtain ⟨y, hy⟩ : ∃ y : Int, m[k] = y := ⟨_, rfl⟩
        rw [hx] at q0
        rw [hy] at q1
        have HP0 := Lib.hid q0; have HP1 := Lib.hid q1
        have HX := Lib.hid hx; have HY := Lib.hid hy
        clear ha1 ha2 hx hy q0 q1
        by_cases hc : x = y
        · have HR : Hid (l.take (k + 1) = m.take (k + 1)) := take_eq_step hkl hkm HTK.out (by
            have h := HX.out.trans (hc.trans HY.out.symm)
            exact h)
          have hcb : (x != y) = false := by simp [hc]
          clear hc
          go_upto_region 6 with fail
          refine wp_region_st (by kernel_rfl) (Vs [fun v _ => v = .slice a n c, fun v _ => v = .int .i64 (k : Int), fun v _ => v = .pointer (some ⟨b1, o1 + k, none⟩), fun v _ => v = .int .i64 x, fun v _ => v = .slice b n d, fun v _ => v = .int .i64 (k : Int), fun v _ => v = .pointer (some ⟨b2, o2 + k, none⟩), fun v _ => v = .int .i64 y, fun v _ => v = .bool false]) (Xs [Ext, Ext, Ext, Ext, Ext, Ext, Ext, Ext, Ext]) (fun fL => (fun W => Below wr.heap.size wr W) ) [0, 0, 3, 7, 0, 0, 48, 112, 255] 26 9 (by kernel_rfl) rfl ?hV ?hS ?hop ?hfin ?hlast
          case hV =>
            refine xs_stays (vs_stays (by simp only [List.mem_cons, List.not_mem_nil, or_false, forall_eq_or_imp, forall_eq]; exact ⟨stays_const _, stays_const _, stays_const _, stays_const _, stays_const _, stays_const _, stays_const _, stays_const _, stays_const _⟩)) ?_
            exact ⟨.inl rfl, .inl rfl, .inl rfl, .inl rfl, .inl rfl, .inl rfl, .inl rfl, .inl rfl, .inl rfl, trivial⟩
          case hS =>
            intro fL hf
            show (fun W => Below wr.heap.size wr W)  _
            exact (Below.refl _ wr).drew
          case hop =>
            refine ⟨?_, ?_, ?_, ?_, ?_, ?_, ?_, ?_, ?_, trivial⟩
            all_goals first | rw [if_neg (by decide)] | rw [if_pos (by decide)]
            all_goals try intro ac W fL hsz hfi hms hdn hS0 hdep hbase hund
            all_goals try have hS : (fun W => Below wr.heap.size wr W)  W := hS0
            all_goals try (
              have q0 := (hS.cell (p := ⟨b1, o1 + k, none⟩) hb1).trans HP0.out
              have q1 := (hS.cell (p := ⟨b2, o2 + k, none⟩) hb2).trans HP1.out)
            all_goals try (have h0 : ac.tmps.getD 0 undef = .slice a n c := hbase 0 (by kernel_rfl); have hh0 := h0; rw [Array.getD_eq_getD_getElem?] at hh0)
            all_goals try (have h1 : ac.tmps.getD 1 undef = .slice b n d := hbase 1 (by kernel_rfl); have hh1 := h1; rw [Array.getD_eq_getD_getElem?] at hh1)
            all_goals try (have h5 : ac.tmps.getD 5 undef = .int .i64 (k : Int) := hbase 5 (by kernel_rfl); have hh5 := h5; rw [Array.getD_eq_getD_getElem?] at hh5)
            all_goals try (have d17 : ac.tmps.getD 17 undef = .slice a n c := hdep 0 (by decide); have dd17 := d17; rw [Array.getD_eq_getD_getElem?] at dd17)
            all_goals try (have d18 : ac.tmps.getD 18 undef = .int .i64 (k : Int) := hdep 1 (by decide); have dd18 := d18; rw [Array.getD_eq_getD_getElem?] at dd18)
            all_goals try (have d19 : ac.tmps.getD 19 undef = .pointer (some ⟨b1, o1 + k, none⟩) := hdep 2 (by decide); have dd19 := d19; rw [Array.getD_eq_getD_getElem?] at dd19)
            all_goals try (have d20 : ac.tmps.getD 20 undef = .int .i64 x := hdep 3 (by decide); have dd20 := d20; rw [Array.getD_eq_getD_getElem?] at dd20)
            all_goals try (have d21 : ac.tmps.getD 21 undef = .slice b n d := hdep 4 (by decide); have dd21 := d21; rw [Array.getD_eq_getD_getElem?] at dd21)
            all_goals try (have d22 : ac.tmps.getD 22 undef = .int .i64 (k : Int) := hdep 5 (by decide); have dd22 := d22; rw [Array.getD_eq_getD_getElem?] at dd22)
            all_goals try (have d23 : ac.tmps.getD 23 undef = .pointer (some ⟨b2, o2 + k, none⟩) := hdep 6 (by decide); have dd23 := d23; rw [Array.getD_eq_getD_getElem?] at dd23)
            all_goals try (have d24 : ac.tmps.getD 24 undef = .int .i64 y := hdep 7 (by decide); have dd24 := d24; rw [Array.getD_eq_getD_getElem?] at dd24)
            all_goals try clear hbase hdep hms hdn hund
            all_goals (refine opOk_run rfl (.inl ⟨_, W, ?_, rfl, Ext.refl _, hS0⟩); clear hsz hS hS0 hfi; simp [go_sem, Act.eval, *]; done)
          case hlast =>
            intro h; exact absurd rfl h
          case hfin =>
            intro _ ac W hsz hdf fL hf hS0 hv hbase
            have hS : (fun W => Below wr.heap.size wr W)  W := hS0
            clear hS0
            obtain ⟨sx, hsx, hsA⟩ := act_puts [17, 18, 19, 20, 21, 22, 23, 24, 25] (by kernel_rfl) hsz hdf hbase
            have e25 : sx 25 = .bool false := (hsx 25).trans (hv 8 (by decide))
            rw [hsA]
            simp only [List.foldl]
            rw [e25]
            clear e25
            simp only [Act.put, List.setIfInBounds_toArray, List.set_cons_succ, List.set_cons_zero]
            clear hsA hsx hv hbase hsz hdf hf
            have HB7 := Lib.hid (Below.trans HBW.out (Below.mono hS HBW.out.size))
            clear hS
            go_wp2
            go_roundw
            case rel => exact ⟨k + 1, by omega, by go_num, HR.out, HB7.out⟩
            case measure => simp [intOf]; omega
        · have hcb : (x != y) = true := by simp [hc]
          have HR : Hid (decide (l = m) = false) := decide_eq_false fun h => hc (by
            have h1 := HX.out
            have h2 := HY.out
            subst h
            exact h1.symm.trans h2)
          clear hc
          go_upto_region 6 with fail
          refine wp_region_st (by kernel_rfl) (Vs [fun v _ => v = .slice a n c, fun v _ => v = .int .i64 (k : Int), fun v _ => v = .pointer (some ⟨b1, o1 + k, none⟩), fun v _ => v = .int .i64 x, fun v _ => v = .slice b n d, fun v _ => v = .int .i64 (k : Int), fun v _ => v = .pointer (some ⟨b2, o2 + k, none⟩), fun v _ => v = .int .i64 y, fun v _ => v = .bool true]) (Xs [Ext, Ext, Ext, Ext, Ext, Ext, Ext, Ext, Ext]) (fun fL => (fun W => Below wr.heap.size wr W) ) [0, 0, 3, 7, 0, 0, 48, 112, 255] 26 9 (by kernel_rfl) rfl ?hV ?hS ?hop ?hfin ?hlast
          case hV =>
            refine xs_stays (vs_stays (by simp only [List.mem_cons, List.not_mem_nil, or_false, forall_eq_or_imp, forall_eq]; exact ⟨stays_const _, stays_const _, stays_const _, stays_const _, stays_const _, stays_const _, stays_const _, stays_const _, stays_const _⟩)) ?_
            exact ⟨.inl rfl, .inl rfl, .inl rfl, .inl rfl, .inl rfl, .inl rfl, .inl rfl, .inl rfl, .inl rfl, trivial⟩
          case hS =>
            intro fL hf
            show (fun W => Below wr.heap.size wr W)  _
            exact (Below.refl _ wr).drew
          case hop =>
            refine ⟨?_, ?_, ?_, ?_, ?_, ?_, ?_, ?_, ?_, trivial⟩
            all_goals first | rw [if_neg (by decide)] | rw [if_pos (by decide)]
            all_goals try intro ac W fL hsz hfi hms hdn hS0 hdep hbase hund
            all_goals try have hS : (fun W => Below wr.heap.size wr W)  W := hS0
            all_goals try (
              have q0 := (hS.cell (p := ⟨b1, o1 + k, none⟩) hb1).trans HP0.out
              have q1 := (hS.cell (p := ⟨b2, o2 + k, none⟩) hb2).trans HP1.out)
            all_goals try (have h0 : ac.tmps.getD 0 undef = .slice a n c := hbase 0 (by kernel_rfl); have hh0 := h0; rw [Array.getD_eq_getD_getElem?] at hh0)
            all_goals try (have h1 : ac.tmps.getD 1 undef = .slice b n d := hbase 1 (by kernel_rfl); have hh1 := h1; rw [Array.getD_eq_getD_getElem?] at hh1)
            all_goals try (have h5 : ac.tmps.getD 5 undef = .int .i64 (k : Int) := hbase 5 (by kernel_rfl); have hh5 := h5; rw [Array.getD_eq_getD_getElem?] at hh5)
            all_goals try (have d17 : ac.tmps.getD 17 undef = .slice a n c := hdep 0 (by decide); have dd17 := d17; rw [Array.getD_eq_getD_getElem?] at dd17)
            all_goals try (have d18 : ac.tmps.getD 18 undef = .int .i64 (k : Int) := hdep 1 (by decide); have dd18 := d18; rw [Array.getD_eq_getD_getElem?] at dd18)
            all_goals try (have d19 : ac.tmps.getD 19 undef = .pointer (some ⟨b1, o1 + k, none⟩) := hdep 2 (by decide); have dd19 := d19; rw [Array.getD_eq_getD_getElem?] at dd19)
            all_goals try (have d20 : ac.tmps.getD 20 undef = .int .i64 x := hdep 3 (by decide); have dd20 := d20; rw [Array.getD_eq_getD_getElem?] at dd20)
            all_goals try (have d21 : ac.tmps.getD 21 undef = .slice b n d := hdep 4 (by decide); have dd21 := d21; rw [Array.getD_eq_getD_getElem?] at dd21)
            all_goals try (have d22 : ac.tmps.getD 22 undef = .int .i64 (k : Int) := hdep 5 (by decide); have dd22 := d22; rw [Array.getD_eq_getD_getElem?] at dd22)
            all_goals try (have d23 : ac.tmps.getD 23 undef = .pointer (some ⟨b2, o2 + k, none⟩) := hdep 6 (by decide); have dd23 := d23; rw [Array.getD_eq_getD_getElem?] at dd23)
            all_goals try (have d24 : ac.tmps.getD 24 undef = .int .i64 y := hdep 7 (by decide); have dd24 := d24; rw [Array.getD_eq_getD_getElem?] at dd24)
            all_goals try clear hbase hdep hms hdn hund
            all_goals (refine opOk_run rfl (.inl ⟨_, W, ?_, rfl, Ext.refl _, hS0⟩); clear hsz hS hS0 hfi; simp [go_sem, Act.eval, *]; done)
          case hlast =>
            intro h; exact absurd rfl h
          case hfin =>
            intro _ ac W hsz hdf fL hf hS0 hv hbase
            have hS : (fun W => Below wr.heap.size wr W)  W := hS0
            clear hS0
            obtain ⟨sx, hsx, hsA⟩ := act_puts [17, 18, 19, 20, 21, 22, 23, 24, 25] (by kernel_rfl) hsz hdf hbase
            have e25 : sx 25 = .bool true := (hsx 25).trans (hv 8 (by decide))
            rw [hsA]
            simp only [List.foldl]
            rw [e25]
            clear e25
            simp only [Act.put, List.setIfInBounds_toArray, List.set_cons_succ, List.set_cons_zero]
            clear hsA hsx hv hbase hsz hdf hf
            have HB7 := Lib.hid (Below.trans HBW.out (Below.mono hS HBW.out.size))
            clear hS
            go_wp2
            go_ret
            exact ⟨ret_bool HR.out.symm, HB7.out⟩
      · have HR : Hid (decide (l = m) = true) := decide_eq_true (take_eq_end (by rw [← HN.out, ← HN2.out]) (by have := HN.out; omega) HTK.out)
        go_wp2
        go_ret
        exact ⟨ret_bool HR.out.symm, HBW.out⟩
  · have hne : ((n : Int) != (n2 : Int)) = true := by simp; omega
    have HR : Hid (decide (l = m) = false) := decide_eq_false fun h => heq (by rw [HN.out, HN2.out, h])
    go_enter Tryd.func21, Tryd.ntmps21
    go_wp2
    go_ret
    exact ⟨ret_bool HR.out.symm, Below.refl _ _⟩
end Go.Proofs.YtocdljmdmiphnaaDoor
/- Pack: the reference's numbers; counts. -/
namespace Go.Proofs.YtocdljmdmiphnaaDoor
open Go.RowKit Go.WideShapes
set_option linter.unusedVariables false
set_option linter.unusedSimpArgs false

theorem OwnG.bsrc {w : World} {B : Nat} {v : Value} {l : Wd} (h : OwnG rowU8 w B v l) (hne : l ≠ []) : ∃ ad c, v = .slice (some ad) l.length c ∧ ∀ j u, (l.flatMap rowU8.enc)[j]? = some u → w.cell? (ad.add j) = some u := by
  obtain ⟨a, c, rfl, _, _⟩ := h.form
  obtain ⟨ad, rfl, hc⟩ := h.byts.1.src hne
  exact ⟨ad, c, rfl, hc⟩
theorem numB_ne (n : Nat) : numB n ≠ [] := fun h => by have := numB_pos n; rw [h] at this; simp at this
set_option maxHeartbeats 1600000 in
set_option maxRecDepth 100000 in
theorem rnumber_any : ∀ (k m : Nat) (w : World), m < 128 ^ (k + 1) → k ≤ 5 → Calls Tryd.prog 39 #[.int .i64 (m : Int)] w fun e w' => ∃ v, e = .returned v ∧ OwnG rowU8 w' w.heap.size v (numB m) ∧ Below w.heap.size w w'
  | k, m, w, hm, hk => by
    have h1 : (128 : Nat) ^ (k + 1) ≤ 128 ^ 6 := Nat.pow_le_pow_right (by omega) (by omega)
    have hml : m < 4398046511104 := Nat.lt_of_lt_of_le hm (by simpa using h1)
    clear h1
    go_enter Tryd.func39, Tryd.ntmps39
    by_cases hlt : m < 128
    · have hw1 : IntKind.u8.wrap (m : Int) = (m : Int) := IntWalk.u8_in _ (by omega)
      have HV := Lib.hid (u8v m (by omega))
      clear hm
      go_wp2
      go_ret
      refine ⟨_, rfl, ?_, (Below.refl _ _).alloc (Nat.le_refl _) _⟩
      rw [numB_lt hlt]
      exact OwnG.one rowU8_ok (x := UInt8.ofNat m) (by have h9 := heap_alloc_new w (.cells #[.int .u8 (m : Int)] 5); rw [← HV.out] at h9 ⊢; exact h9) (Nat.le_refl _)
    · obtain ⟨k', rfl⟩ : ∃ k', k = k' + 1 := by
        cases k with
        | zero => simp at hm; omega
        | succ k' => exact ⟨k', rfl⟩
      have h2 : m / 128 < 128 ^ (k' + 1) := by
        rw [Nat.div_lt_iff_lt_mul (by omega), ← Nat.pow_succ]
        exact hm
      have hr : (m : Int).tmod 128 = ((m % 128 : Nat) : Int) := Int.ofNat_tmod m 128
      have hq : (m : Int).tdiv 128 = ((m / 128 : Nat) : Int) := Int.ofNat_tdiv m 128
      have HST : Hid (numB m = [UInt8.ofNat (128 + m % 128)] ++ numB (m / 128)) := numB_step m hlt
      obtain ⟨r, hr2⟩ : ∃ r, m % 128 = r := ⟨_, rfl⟩
      obtain ⟨d, hd2⟩ : ∃ d, m / 128 = d := ⟨_, rfl⟩
      rw [hr2] at hr HST
      rw [hd2] at hq HST h2
      have HD := Lib.hid h2
      have hrl : r < 128 := by omega
      have hdl : d ≤ 4398046511104 := by omega
      clear hr2 hd2 hm h2
      obtain ⟨y, hy⟩ : ∃ y, 128 + r = y := ⟨_, rfl⟩
      rw [hy] at HST
      have hy2 : y < 256 := by omega
      have hw2 : IntKind.i64.wrap (128 + (r : Int)) = (y : Int) := by rw [IntWalk.i64_in _ (by omega)]; omega
      have hw3 : IntKind.u8.wrap (y : Int) = (y : Int) := IntWalk.u8_in _ (by omega)
      have hw4 : IntKind.i64.wrap (r : Int) = (r : Int) := IntWalk.i64_in _ (by omega)
      have hw5 : IntKind.i64.wrap (d : Int) = (d : Int) := IntWalk.i64_in _ (by omega)
      have HV := Lib.hid (u8v y (by omega))
      clear hy
      have hxA : Below w.heap.size w (w.alloc (.cells #[.int .u8 (y : Int)] 5)) := (Below.refl _ w).alloc (Nat.le_refl _) _
      have HXA := Lib.hid hxA
      have hone : OwnG rowU8 (w.alloc (.cells #[.int .u8 (y : Int)] 5)) w.heap.size (.slice (some ⟨w.heap.size, 0, none⟩) 1 1) [UInt8.ofNat y] := OwnG.one rowU8_ok (x := UInt8.ofNat y) (by have h9 := heap_alloc_new w (.cells #[.int .u8 (y : Int)] 5); rw [← HV.out] at h9 ⊢; exact h9) (Nat.le_refl _)
      have HONE := Lib.hid hone
      clear hxA hone
      go_wp2_with fail
      refine (rnumber_any k' d _ HD.out (by omega)).mono ?_
      rintro e w2 ⟨v2, rfl, ho2, hb⟩
      obtain ⟨ad, c2, rfl, hsrc⟩ := ho2.bsrc (numB_ne d)
      have HO1 := Lib.hid (HONE.out.later hb (Nat.le_refl _))
      have HB2 : Hid (Below w.heap.size w w2) := HXA.out.trans (hb.mono HXA.out.size)
      have hbw := HB2.out.size
      have HSRC := Lib.hid hsrc
      have hl6 : (numB d).length ≤ 6 := by have := numB_len k' d HD.out; omega
      have HL6 := Lib.hid hl6
      clear hb ho2 hsrc hl6
      go_wp2_with (first
        | (at_builtin; go_loud (refine wpList_app rowU8_ok rfl _ _ rfl rfl HO1.out ad c2 (numB d) rfl HSRC.out (by have := HL6.out; simp only [List.length_singleton]; omega) (by omega) ?_); intro v5 w5 hown5 hg5; have HO5 := Lib.hid hown5; have HG5 := Lib.hid hg5; clear hown5 hg5))
      go_ret
      refine ⟨v5, rfl, ?_, HB2.out.trans (HG5.out.below hbw HO1.out.ge)⟩
      rw [HST.out]
      exact HO5.out
termination_by k => k
/-! ### counts -/
def cnt1 (x : Int) : Bool := decide (0 ≤ x) && decide (x ≤ 1073741824)
def cntD (n : Nat) (c : List Int) : Bool := decide (c.length = n) && c.all cnt1
theorem cntD_iff {n : Nat} {c : List Int} : cntD n c = true ↔ cntOk n c := by
  unfold cntD cntOk cnt1
  simp
theorem cnt1_yes {x : Int} (h0 : 0 ≤ x) (h1 : x ≤ 1073741824) : cnt1 x = true := by unfold cnt1; simp [h0, h1]
theorem all_stop {c : List Int} {k : Nat} (hk : k < c.length) (h : ¬ (0 ≤ c[k] ∧ c[k] ≤ 1073741824)) : c.all cnt1 = false := by
  cases e : c.all cnt1 with
  | false => rfl
  | true =>
    have := List.all_eq_true.1 e c[k] (List.getElem_mem hk)
    unfold cnt1 at this
    simp at this
    exact absurd this h
theorem all_take {c : List Int} {k : Nat} (hk : k < c.length) (h : (c.take k).all cnt1 = true) (h1 : cnt1 c[k] = true) : (c.take (k + 1)).all cnt1 = true := by
  rw [List.take_succ_eq_append_getElem hk, List.all_append, h]
  simp [h1]
set_option maxHeartbeats 1600000 in
set_option maxRecDepth 100000 in
theorem rcounts_any (c : List Int) (n m cap : Nat) (a : Option Addr) (w : World) (hC : IntS w a c) (hn : n = c.length) (hl : n ≤ 9223372036854775807) (hm : m ≤ 9223372036854775807) :
    Calls Tryd.prog 37 #[.slice a n cap, .int .i64 (m : Int)] w fun e w' => e = .returned (.bool (cntD m c)) ∧ Below w.heap.size w w' := by
  have HC := Lib.hid hC; have HN := Lib.hid hn
  clear hC hn
  go_enter Tryd.func37, Tryd.ntmps37
  go_wp2
  go_loopw [5] (fun i wr => ∃ k : Nat, k ≤ n ∧ i = .int .i64 (k : Int) ∧ (c.take k).all cnt1 = true ∧ w = wr) (fun i _ => n - (intOf i).toNat)
  case atStart => exact ⟨0, Nat.zero_le _, rfl, rfl, rfl⟩
  case round =>
    obtain ⟨k, hk, rfl, hall, rfl⟩ := hrel
    have HA := Lib.hid hall
    clear hall
    by_cases hlt : k < n
    · have hkl : k < c.length := by have := HN.out; omega
      obtain ⟨b, o, ha, hb, q0⟩ := HC.out.at hkl
      have hidx := idx_ints a b o n cap k ha hlt
      obtain ⟨x, hx⟩ : ∃ x, c[k] = x := ⟨_, rfl⟩
      rw [hx] at q0
      have HX := Lib.hid hx
      clear ha hx
      by_cases h0 : x < 0
      · have HR : Hid (cntD m c = false) := by
          show _ = _
          rw [cntD, all_stop hkl (by rw [HX.out]; omega), Bool.and_false]
        go_wp2
        go_ret
        exact ⟨ret_bool HR.out.symm, Below.refl _ _⟩
      · by_cases h1 : 1073741824 < x
        · have HR : Hid (cntD m c = false) := by
            show _ = _
            rw [cntD, all_stop hkl (by rw [HX.out]; omega), Bool.and_false]
          go_wp2
          go_ret
          exact ⟨ret_bool HR.out.symm, Below.refl _ _⟩
        · have HR : Hid ((c.take (k + 1)).all cnt1 = true) := all_take hkl HA.out (by rw [HX.out]; exact cnt1_yes (by omega) (by omega))
          go_wp2
          go_roundw
          case rel => exact ⟨k + 1, by omega, by go_num, HR.out, trivial⟩
          case measure => simp [intOf]; omega
    · have HR : Hid (c.all cnt1 = true) := by
        have h := HA.out
        rw [List.take_of_length_le (by have := HN.out; omega)] at h
        exact h
      have hkn : k = n := by omega
      by_cases he : n = m
      · have heI : ((n : Int) == (m : Int)) = true := by simp [he]
        have HR2 : Hid (cntD m c = true) := by
          show _ = _
          rw [cntD, HR.out, Bool.and_true]
          exact decide_eq_true (by rw [← HN.out]; exact he)
        clear hkn he
        go_wp2
        go_ret
        exact ⟨ret_bool HR2.out.symm, Below.refl _ _⟩
      · have heI : ((n : Int) == (m : Int)) = false := by simp; omega
        have HR2 : Hid (cntD m c = false) := by
          show _ = _
          rw [cntD, HR.out, Bool.and_true]
          exact decide_eq_false (by rw [← HN.out]; exact he)
        clear hkn he
        go_wp2
        go_ret
        exact ⟨ret_bool HR2.out.symm, Below.refl _ _⟩
set_option maxHeartbeats 1600000 in
set_option maxRecDepth 100000 in
theorem areCounts_any (L : List ByteArray) (D : List Nd) (nD cD : Nat) (aD : Option Addr) (c : List Int) (n cap : Nat) (a : Option Addr) (w : World) (hD : DawgS w aD D) (hnD : nD = D.length) (hnD2 : nD ≤ 9223372036854775807) (hCs : CsOk D) (hL : wordsF D = L)
    (hC : IntS w a c) (hn : n = c.length) (hl : n ≤ 9223372036854775807) :
    Calls Tryd.prog 32 #[.slice aD nD cD, .slice a n cap] w fun e w' => e = .returned (.bool (cntD L.length c)) ∧ Below w.heap.size w w' := by
  have HC := Lib.hid hC; have HN := Lib.hid hn; have HD := Lib.hid hD; have HL := Lib.hid hL
  have hll : L.length ≤ 200 := by rw [← hL]; exact wordsF_len D
  subst hnD
  clear hC hn hD hL
  go_enter Tryd.func32, Tryd.ntmps32
  go_wp2_with fail
  refine (words_any D aD cD w HD.out hnD2 hCs).mono ?_
  rintro e w1 hwd
  rw [HL.out] at hwd
  obtain ⟨a1, c1, rfl, -, -, hb⟩ := hwd
  have HB := Lib.hid hb
  clear hb HD
  by_cases he : n = L.length
  · have heI : ((n : Int) != (L.length : Int)) = false := by simp [he]
    have HE := Lib.hid he
    clear he
    go_wp2
    go_loopw [15] (fun i wr => ∃ k : Nat, k ≤ n ∧ i = .int .i64 (k : Int) ∧ (c.take k).all cnt1 = true ∧ w1 = wr) (fun i _ => n - (intOf i).toNat)
    case atStart => exact ⟨0, Nat.zero_le _, rfl, rfl, rfl⟩
    case round =>
      obtain ⟨k, hk, rfl, hall, rfl⟩ := hrel
      have HA := Lib.hid hall
      clear hall
      by_cases hlt : k < n
      · have hkl : k < c.length := by have := HN.out; omega
        obtain ⟨b, o, ha, hb, q0⟩ := (HC.out.go HB.out).at hkl
        have hidx := idx_ints a b o n cap k ha hlt
        obtain ⟨x, hx⟩ : ∃ x, c[k] = x := ⟨_, rfl⟩
        rw [hx] at q0
        have HX := Lib.hid hx
        clear ha hx
        by_cases h0 : x < 0
        · have HR : Hid (cntD L.length c = false) := by
            show _ = _
            rw [cntD, all_stop hkl (by rw [HX.out]; omega), Bool.and_false]
          go_wp2
          go_ret
          exact ⟨ret_bool HR.out.symm, HB.out⟩
        · by_cases h1 : 1073741824 < x
          · have HR : Hid (cntD L.length c = false) := by
              show _ = _
              rw [cntD, all_stop hkl (by rw [HX.out]; omega), Bool.and_false]
            go_wp2
            go_ret
            exact ⟨ret_bool HR.out.symm, HB.out⟩
          · have HR : Hid ((c.take (k + 1)).all cnt1 = true) := all_take hkl HA.out (by rw [HX.out]; exact cnt1_yes (by omega) (by omega))
            go_wp2
            go_roundw
            case rel => exact ⟨k + 1, by omega, by go_num, HR.out, trivial⟩
            case measure => simp [intOf]; omega
      · have HR : Hid (cntD L.length c = true) := by
          have h := HA.out
          rw [List.take_of_length_le (by have := HN.out; omega)] at h
          show _ = _
          rw [cntD, h, Bool.and_true]
          exact decide_eq_true (by rw [← HN.out]; exact HE.out)
        go_wp2
        go_ret
        exact ⟨ret_bool HR.out.symm, HB.out⟩
  · have heI : ((n : Int) != (L.length : Int)) = true := by simp; omega
    have HR : Hid (cntD L.length c = false) := by
      show _ = _
      rw [cntD, decide_eq_false (by rw [← HN.out]; exact he), Bool.false_and]
    clear he
    go_wp2
    go_ret
    exact ⟨ret_bool HR.out.symm, HB.out⟩
end Go.Proofs.YtocdljmdmiphnaaDoor
