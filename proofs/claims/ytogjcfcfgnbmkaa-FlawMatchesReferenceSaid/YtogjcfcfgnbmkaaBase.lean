/- Contracts of reference 02: simple, Base. -/
import Derived.Test.YtogjcfcfgnbmkaaAppE
import Derived.Deep.CutBlock
namespace Go.Proofs.Ytogjcfcfgnbmkaa
open Go.RowKit
set_option linter.unusedVariables false
set_option linter.unusedSimpArgs false

set_option maxHeartbeats 1600000 in
theorem simple_any (x y : Int) (s o : ByteArray) (w : World) (hs : s.size ≤ 1000) :
    Calls Try.prog 53 #[.agg #[.int .i64 x, .int .i64 y], .string s, .string o] w fun e w' => e = .returned (.agg #[.int .i64 x, .int .i64 y, .string s, .string o, .int .i64 (s.size : Int)]) ∧ Below w.heap.size w w' := by
  go_enter Try.func53, Try.ntmps53
  go_wp2_with fail
  refine bodyPost_ret (v := .agg #[.int .i64 x, .int .i64 y, .string s, .string o, .int .i64 (s.size : Int)]) (by simp [results, Try.results53, go_sem]) rfl ⟨rfl, by go_grown⟩
theorem cells2 {w : World} {g : Nat} {a b : Value} {t : TypeId} {f : Nat × Nat} (h : w.heap[g]? = some (.cells #[a, b] t f)) : w.cell? ⟨g, 0, none⟩ = some a ∧ w.cell? ⟨g, 1, none⟩ = some b :=
  ⟨cell_of_row w g 0 _ _ f h, cell_of_row w g 1 _ _ f h⟩
/-- the rule that simple returns -/
def sR (x y : Int) (s o : List UInt8) : Rl := ⟨x, y, ⟨s.toArray⟩, ⟨o.toArray⟩, (s.length : Int)⟩
/-- a row of rules, made by a literal -/
def RowN (B : Nat) (R : List Rl) (v : Value) (W : World) : Prop := ∃ g, v = .slice (some ⟨g, 0, none⟩) R.length R.length ∧ W.heap[g]? = some (.cells (rcells R).toArray 29 (0, 0)) ∧ B ≤ g
theorem rowN_stays (B : Nat) (R : List Rl) : Stays (RowN B R) := by
  rintro v w w' ⟨g, hv, hg, hB⟩ hx
  exact ⟨g, hv, (Below.block hx g (Array.getElem?_eq_some_iff.1 hg).1).trans hg, hB⟩
theorem rowN_own {B g : Nat} {R : List Rl} {W : World} (hg : W.heap[g]? = some (.cells (rcells R).toArray 29 (0, 0))) (hB : B ≤ g) (hl : R.length ≤ 1000) : OwnR W B (.slice (some ⟨g, 0, none⟩) R.length R.length) R := by
  refine ⟨rcells_len R, .inr ⟨g, R.length, (rcells R).toArray, rfl, hB, hg, Nat.le_refl _, by unfold maxLen; omega, by simp [rcells_len], ?_⟩⟩
  rw [List.toList_toArray, ← rcells_len R, List.take_length]
/-- what a base scheme is good for -/
def BasePost (w : World) (e : Ending) (w' : World) : Prop :=
  ∃ (S : Sch) (b : Option Addr) (n : Nat), e = .returned (.agg #[.int .i64 S.modes, .int .u8 S.acc, .slice b S.rules.length n]) ∧ n = S.rules.length ∧ 1 ≤ S.modes ∧ S.modes ≤ 2 ∧ S.acc = 1 ∧ 2 ≤ S.rules.length ∧ S.rules.length ≤ 5 ∧ OwnR w' w.heap.size (.slice b S.rules.length n) S.rules ∧ Below w.heap.size w w'
theorem base_end {w w' : World} {B g : Nat} {mo : Int} {R : List Rl} (hg : w'.heap[g]? = some (.cells (rcells R).toArray 29 (0, 0))) (hB : B ≤ g) (hw : w.heap.size ≤ B) (h1 : 1 ≤ mo) (h2 : mo ≤ 2) (h3 : 2 ≤ R.length) (h4 : R.length ≤ 5) (hb : Below w.heap.size w w') : BasePost w (.returned (.agg #[.int .i64 mo, .int .u8 1, .slice (some ⟨g, 0, none⟩) R.length R.length])) w' :=
  ⟨⟨mo, 1, R⟩, _, _, rfl, rfl, h1, h2, rfl, h3, h4, (rowN_own hg hB (by omega)).mono hw, hb⟩
set_option maxHeartbeats 6400000 in
set_option maxRecDepth 100000 in
theorem base_any (k : Int) (w : World) (hk0 : 0 ≤ k) (hk1 : k ≤ 255) :
    Calls Try.prog 33 #[.int .u8 k] w (BasePost w) := by
  go_enter Try.func33, Try.ntmps33
  go_upto_block 0 with fail
  obtain ⟨wb, hwb⟩ : ∃ wb, wb = ((w.alloc (.cells #[.int .i64 0, .int .u8 0, .slice none 0 0] 33)).alloc (.cells #[.int .i64 1, .int .u8 1, .slice none 0 0] 33)).alloc (.cells #[.int .i64 0, .int .i64 0] 83) := ⟨_, rfl⟩
  have hb0 : Below (w.heap.size + 1) wb wb := Below.refl _ _
  have hws : wb.heap.size = w.heap.size + 3 := by rw [hwb]; simp
  have HG1 : Hid (wb.heap[w.heap.size + 1]? = some (.cells #[.int .i64 1, .int .u8 1, .slice none 0 0] 33 (0, 0))) := by
    show _ = _
    rw [hwb, Below.heap_alloc _ _ _ (by simp only [World.size_alloc]; omega)]
    have := heap_alloc_new (w.alloc (.cells #[.int .i64 0, .int .u8 0, .slice none 0 0] 33)) (.cells #[.int .i64 1, .int .u8 1, .slice none 0 0] 33)
    simpa only [World.size_alloc] using this
  have HG2 : Hid (wb.heap[w.heap.size + 1 + 1]? = some (.cells #[.int .i64 0, .int .i64 0] 83 (0, 0))) := by
    show _ = _
    rw [hwb]
    have := heap_alloc_new ((w.alloc (.cells #[.int .i64 0, .int .u8 0, .slice none 0 0] 33)).alloc (.cells #[.int .i64 1, .int .u8 1, .slice none 0 0] 33)) (.cells #[.int .i64 0, .int .i64 0] 83)
    simpa only [World.size_alloc] using this
  have HG0 : Hid (wb.heap[w.heap.size]? = some (.cells #[.int .i64 0, .int .u8 0, .slice none 0 0] 33 (0, 0))) := by
    show _ = _
    rw [hwb, Below.heap_alloc _ _ _ (by simp only [World.size_alloc]; omega), Below.heap_alloc _ _ _ (by simp only [World.size_alloc]; omega)]
    exact heap_alloc_new _ _
  have hbw : Below w.heap.size w wb := by rw [hwb]; exact (((Below.refl _ w).alloc (Nat.le_refl _) _).alloc (by simp only [World.size_alloc]; omega) _).alloc (by simp only [World.size_alloc]; omega) _
  have HWB := Lib.hid hwb
  rw [← hwb]
  clear hwb
  go_cut [] (fun wx => ∃ wc : World, wc = wx ∧ ∃ (mo : Int) (R : List Rl) (g : Nat), 1 ≤ mo ∧ mo ≤ 2 ∧ 2 ≤ R.length ∧ R.length ≤ 5 ∧ wb.heap.size ≤ g ∧ wc.heap[g]? = some (.cells (rcells R).toArray 29 (0, 0)) ∧ wc.heap[w.heap.size + 1]? = some (.cells #[.int .i64 mo, .int .u8 1, .slice (some ⟨g, 0, none⟩) R.length R.length] 33 (0, 0)) ∧ Below (w.heap.size + 1) wb wc)
  case first =>
    rcases (show k % 6 = 0 ∨ k % 6 = 1 ∨ k % 6 = 2 ∨ k % 6 = 3 ∨ k % 6 = 4 ∨ k % 6 = 5 by omega) with hq | hq | hq | hq | hq | hq
    · have hq0 : ((k % 6 : Int) == 0) = true := by rw [hq]; rfl
      have hq1 : ((k % 6 : Int) == 1) = false := by rw [hq]; rfl
      have hq2 : ((k % 6 : Int) == 2) = false := by rw [hq]; rfl
      have hq3 : ((k % 6 : Int) == 3) = false := by rw [hq]; rfl
      have hq4 : ((k % 6 : Int) == 4) = false := by rw [hq]; rfl
      clear hq
      go_upto_region 6 with fail
      refine wp_region_mid (by kernel_rfl) (Vs [fun v _ => v = .agg #[.int .i64 0, .int .i64 0], fun v _ => v = .agg #[.int .i64 0, .int .i64 0, .string ⟨#[97]⟩, .string ⟨#[97]⟩, .int .i64 1], fun v _ => v = .agg #[.int .i64 0, .int .i64 0], fun v _ => v = .agg #[.int .i64 0, .int .i64 0, .string ⟨#[98]⟩, .string ⟨#[98]⟩, .int .i64 1], fun v _ => v = .agg #[.int .i64 0, .int .i64 0], fun v _ => v = .agg #[.int .i64 0, .int .i64 0, .string ⟨#[99]⟩, .string ⟨#[99]⟩, .int .i64 1], RowN wb.heap.size [⟨0, 0, ⟨#[97]⟩, ⟨#[97]⟩, 1⟩, ⟨0, 0, ⟨#[98]⟩, ⟨#[98]⟩, 1⟩, ⟨0, 0, ⟨#[99]⟩, ⟨#[99]⟩, 1⟩], fun v _ => v = .pointer (some ⟨w.heap.size + 1, 2, none⟩)]) (fun _ W => Below wb.heap.size wb W) (fun W W' => Ext W W') 78 6 8 (by kernel_rfl) rfl (by omega) ?hVx ?hVm ?hSx ?hS ?hop ?hlast
      case hVx => exact vs_stays (by simp only [List.mem_cons, List.not_mem_nil, or_false, forall_eq_or_imp, forall_eq]; exact ⟨stays_const _, stays_const _, stays_const _, stays_const _, stays_const _, stays_const _, rowN_stays _ _, stays_const _⟩)
      case hVm => exact fun i v w w' _ h hx => vs_stays (by simp only [List.mem_cons, List.not_mem_nil, or_false, forall_eq_or_imp, forall_eq]; exact ⟨stays_const _, stays_const _, stays_const _, stays_const _, stays_const _, stays_const _, rowN_stays _ _, stays_const _⟩) i v w w' h hx
      case hSx => exact fun bo W W' h hx => h.trans (Below.mono hx h.size)
      case hS => exact Below.refl _ _
      case hop =>
        refine ⟨?_, ?_, ?_, ?_, ?_, ?_, ?_, ?_, ?_, trivial⟩
        all_goals first | rw [if_neg (by decide), if_neg (by decide)] | rw [if_neg (by decide), if_pos (by decide)] | rw [if_pos (by decide)]
        · intro A W bo hsz hS hdep hbase
          have h4 : A.tmps.getD 4 undef = .pointer (some ⟨w.heap.size + 1 + 1, 0, none⟩) := hbase 4 (by kernel_rfl)
          have h3 : A.tmps.getD 3 undef = .pointer (some ⟨w.heap.size + 1, 0, none⟩) := hbase 3 (by kernel_rfl)
          obtain ⟨z0, z1⟩ := cells2 ((hS.block (w.heap.size + 1 + 1) (by omega)).trans HG2.out)
          clear hbase
          simp [slotOf, Region.binds, Vs] at hdep
          refine opOk_run rfl (.inl ⟨_, W, ?_, rfl, Ext.refl _⟩); clear hsz hS; simp [go_sem, Act.eval, *]
        · intro A W bo hsz hS hdep hbase
          have h4 : A.tmps.getD 4 undef = .pointer (some ⟨w.heap.size + 1 + 1, 0, none⟩) := hbase 4 (by kernel_rfl)
          have h3 : A.tmps.getD 3 undef = .pointer (some ⟨w.heap.size + 1, 0, none⟩) := hbase 3 (by kernel_rfl)
          obtain ⟨z0, z1⟩ := cells2 ((hS.block (w.heap.size + 1 + 1) (by omega)).trans HG2.out)
          clear hbase
          simp [slotOf, Region.binds, Vs] at hdep
          refine opOk_run rfl (.inr ⟨53, #[.agg #[.int .i64 0, .int .i64 0], .string ⟨#[97]⟩, .string ⟨#[97]⟩], W, by (clear hsz hS; simp [go_sem, Act.eval, *]), ?_⟩)
          refine (simple_any 0 0 ⟨#[97]⟩ ⟨#[97]⟩ W (by decide)).mono ?_
          rintro e w' ⟨rfl, hb⟩
          exact ⟨_, rfl, rfl, hb⟩
        · intro A W bo hsz hS hdep hbase
          have h4 : A.tmps.getD 4 undef = .pointer (some ⟨w.heap.size + 1 + 1, 0, none⟩) := hbase 4 (by kernel_rfl)
          have h3 : A.tmps.getD 3 undef = .pointer (some ⟨w.heap.size + 1, 0, none⟩) := hbase 3 (by kernel_rfl)
          obtain ⟨z0, z1⟩ := cells2 ((hS.block (w.heap.size + 1 + 1) (by omega)).trans HG2.out)
          clear hbase
          simp [slotOf, Region.binds, Vs] at hdep
          refine opOk_run rfl (.inl ⟨_, W, ?_, rfl, Ext.refl _⟩); clear hsz hS; simp [go_sem, Act.eval, *]
        · intro A W bo hsz hS hdep hbase
          have h4 : A.tmps.getD 4 undef = .pointer (some ⟨w.heap.size + 1 + 1, 0, none⟩) := hbase 4 (by kernel_rfl)
          have h3 : A.tmps.getD 3 undef = .pointer (some ⟨w.heap.size + 1, 0, none⟩) := hbase 3 (by kernel_rfl)
          obtain ⟨z0, z1⟩ := cells2 ((hS.block (w.heap.size + 1 + 1) (by omega)).trans HG2.out)
          clear hbase
          simp [slotOf, Region.binds, Vs] at hdep
          refine opOk_run rfl (.inr ⟨53, #[.agg #[.int .i64 0, .int .i64 0], .string ⟨#[98]⟩, .string ⟨#[98]⟩], W, by (clear hsz hS; simp [go_sem, Act.eval, *]), ?_⟩)
          refine (simple_any 0 0 ⟨#[98]⟩ ⟨#[98]⟩ W (by decide)).mono ?_
          rintro e w' ⟨rfl, hb⟩
          exact ⟨_, rfl, rfl, hb⟩
        · intro A W bo hsz hS hdep hbase
          have h4 : A.tmps.getD 4 undef = .pointer (some ⟨w.heap.size + 1 + 1, 0, none⟩) := hbase 4 (by kernel_rfl)
          have h3 : A.tmps.getD 3 undef = .pointer (some ⟨w.heap.size + 1, 0, none⟩) := hbase 3 (by kernel_rfl)
          obtain ⟨z0, z1⟩ := cells2 ((hS.block (w.heap.size + 1 + 1) (by omega)).trans HG2.out)
          clear hbase
          simp [slotOf, Region.binds, Vs] at hdep
          refine opOk_run rfl (.inl ⟨_, W, ?_, rfl, Ext.refl _⟩); clear hsz hS; simp [go_sem, Act.eval, *]
        · intro A W bo hsz hS hdep hbase
          have h4 : A.tmps.getD 4 undef = .pointer (some ⟨w.heap.size + 1 + 1, 0, none⟩) := hbase 4 (by kernel_rfl)
          have h3 : A.tmps.getD 3 undef = .pointer (some ⟨w.heap.size + 1, 0, none⟩) := hbase 3 (by kernel_rfl)
          obtain ⟨z0, z1⟩ := cells2 ((hS.block (w.heap.size + 1 + 1) (by omega)).trans HG2.out)
          clear hbase
          simp [slotOf, Region.binds, Vs] at hdep
          refine opOk_run rfl (.inr ⟨53, #[.agg #[.int .i64 0, .int .i64 0], .string ⟨#[99]⟩, .string ⟨#[99]⟩], W, by (clear hsz hS; simp [go_sem, Act.eval, *]), ?_⟩)
          refine (simple_any 0 0 ⟨#[99]⟩ ⟨#[99]⟩ W (by decide)).mono ?_
          rintro e w' ⟨rfl, hb⟩
          exact ⟨_, rfl, rfl, hb⟩
        · intro A W hsz hS hdep hbase
          have h4 : A.tmps.getD 4 undef = .pointer (some ⟨w.heap.size + 1 + 1, 0, none⟩) := hbase 4 (by kernel_rfl)
          have h3 : A.tmps.getD 3 undef = .pointer (some ⟨w.heap.size + 1, 0, none⟩) := hbase 3 (by kernel_rfl)
          obtain ⟨z0, z1⟩ := cells2 ((hS.block (w.heap.size + 1 + 1) (by omega)).trans HG2.out)
          clear hbase
          simp [slotOf, Region.binds, Vs] at hdep
          refine ⟨rfl, .inl ⟨.slice (some ⟨W.heap.size, 0, none⟩) 3 3, W.alloc (.cells #[.int .i64 0, .int .i64 0, .string ⟨#[97]⟩, .string ⟨#[97]⟩, .int .i64 1, .int .i64 0, .int .i64 0, .string ⟨#[98]⟩, .string ⟨#[98]⟩, .int .i64 1, .int .i64 0, .int .i64 0, .string ⟨#[99]⟩, .string ⟨#[99]⟩, .int .i64 1] 29), ?_, ⟨W.heap.size, rfl, heap_alloc_new _ _, hS.size⟩, (Below.refl _ _).alloc (Nat.le_refl _) _, hS.trans (((Below.refl _ W).alloc (Nat.le_refl _) _).mono hS.size)⟩⟩
          clear hsz hS; simp [go_sem, Act.eval, *]
        · intro A W bo hsz hS hdep hbase
          have h4 : A.tmps.getD 4 undef = .pointer (some ⟨w.heap.size + 1 + 1, 0, none⟩) := hbase 4 (by kernel_rfl)
          have h3 : A.tmps.getD 3 undef = .pointer (some ⟨w.heap.size + 1, 0, none⟩) := hbase 3 (by kernel_rfl)
          obtain ⟨z0, z1⟩ := cells2 ((hS.block (w.heap.size + 1 + 1) (by omega)).trans HG2.out)
          clear hbase
          simp [slotOf, Region.binds, Vs] at hdep
          refine opOk_run rfl (.inl ⟨_, W, ?_, rfl, Ext.refl _⟩); clear hsz hS; simp [go_sem, Act.eval, *]
        · trivial
      case hlast =>
        intro A1 W hsz hdf hS hv hbase
        have hb9 : RowN wb.heap.size [⟨0, 0, ⟨#[97]⟩, ⟨#[97]⟩, 1⟩, ⟨0, 0, ⟨#[98]⟩, ⟨#[98]⟩, 1⟩, ⟨0, 0, ⟨#[99]⟩, ⟨#[99]⟩, 1⟩] (A1.tmps.getD 28 undef) W := hv 6 (by decide)
        obtain ⟨g, e9, hg, hgB⟩ := hb9
        have e10 : A1.tmps.getD 29 undef = .pointer (some ⟨w.heap.size + 1, 2, none⟩) := hv 7 (by decide)
        have hrep := (hS.block (w.heap.size + 1) (by omega)).trans HG1.out
        refine wpOp_store rfl rfl rfl rfl (eval_tmp e10) (eval_tmp e9) (by simp [World.frozen?, hrep]) (cells3 hrep).2.2 (by kernel_rfl) ?_
        obtain ⟨x, hx, hA⟩ := act_puts [22, 23, 24, 25, 26, 27, 28, 29] (by kernel_rfl) hsz hdf hbase
        rw [hA]
        simp only [List.foldl]
        simp only [Act.put, List.setIfInBounds_toArray, List.set_cons_succ, List.set_cons_zero]
        clear hA hx hv hbase hsz hdf
        go_wp2_with fail
        go_meet
        refine ⟨_, rfl, 1, [⟨0, 0, ⟨#[97]⟩, ⟨#[97]⟩, 1⟩, ⟨0, 0, ⟨#[98]⟩, ⟨#[98]⟩, 1⟩, ⟨0, 0, ⟨#[99]⟩, ⟨#[99]⟩, 1⟩], g, by omega, by omega, by decide, by decide, hgB, ?_, set_one hrep rfl, (hS.mono (by omega)).setCell (by show _ ≤ w.heap.size + 1; omega) _⟩
        rw [Below.heap_setCell _ _ _ _ (by show g ≠ w.heap.size + 1; omega)]
        exact hg
    · have hq0 : ((k % 6 : Int) == 0) = false := by rw [hq]; rfl
      have hq1 : ((k % 6 : Int) == 1) = true := by rw [hq]; rfl
      have hq2 : ((k % 6 : Int) == 2) = false := by rw [hq]; rfl
      have hq3 : ((k % 6 : Int) == 3) = false := by rw [hq]; rfl
      have hq4 : ((k % 6 : Int) == 4) = false := by rw [hq]; rfl
      clear hq
      go_upto_region 8 with fail
      refine wp_region_mid (by kernel_rfl) (Vs [fun v _ => v = .agg #[.int .i64 0, .int .i64 0], fun v _ => v = .agg #[.int .i64 0, .int .i64 0, .string ⟨#[97]⟩, .string ⟨#[65]⟩, .int .i64 1], fun v _ => v = .agg #[.int .i64 0, .int .i64 0], fun v _ => v = .agg #[.int .i64 0, .int .i64 0, .string ⟨#[98, 97]⟩, .string ⟨#[66]⟩, .int .i64 2], fun v _ => v = .agg #[.int .i64 0, .int .i64 0], fun v _ => v = .agg #[.int .i64 0, .int .i64 0, .string ⟨#[99, 97]⟩, .string ⟨#[67]⟩, .int .i64 2], fun v _ => v = .agg #[.int .i64 0, .int .i64 0], fun v _ => v = .agg #[.int .i64 0, .int .i64 0, .string ⟨#[98]⟩, .string ⟨#[98]⟩, .int .i64 1], RowN wb.heap.size [⟨0, 0, ⟨#[97]⟩, ⟨#[65]⟩, 1⟩, ⟨0, 0, ⟨#[98, 97]⟩, ⟨#[66]⟩, 2⟩, ⟨0, 0, ⟨#[99, 97]⟩, ⟨#[67]⟩, 2⟩, ⟨0, 0, ⟨#[98]⟩, ⟨#[98]⟩, 1⟩], fun v _ => v = .pointer (some ⟨w.heap.size + 1, 2, none⟩)]) (fun _ W => Below wb.heap.size wb W) (fun W W' => Ext W W') 78 8 10 (by kernel_rfl) rfl (by omega) ?hVx ?hVm ?hSx ?hS ?hop ?hlast
      case hVx => exact vs_stays (by simp only [List.mem_cons, List.not_mem_nil, or_false, forall_eq_or_imp, forall_eq]; exact ⟨stays_const _, stays_const _, stays_const _, stays_const _, stays_const _, stays_const _, stays_const _, stays_const _, rowN_stays _ _, stays_const _⟩)
      case hVm => exact fun i v w w' _ h hx => vs_stays (by simp only [List.mem_cons, List.not_mem_nil, or_false, forall_eq_or_imp, forall_eq]; exact ⟨stays_const _, stays_const _, stays_const _, stays_const _, stays_const _, stays_const _, stays_const _, stays_const _, rowN_stays _ _, stays_const _⟩) i v w w' h hx
      case hSx => exact fun bo W W' h hx => h.trans (Below.mono hx h.size)
      case hS => exact Below.refl _ _
      case hop =>
        refine ⟨?_, ?_, ?_, ?_, ?_, ?_, ?_, ?_, ?_, ?_, ?_, trivial⟩
        all_goals first | rw [if_neg (by decide), if_neg (by decide)] | rw [if_neg (by decide), if_pos (by decide)] | rw [if_pos (by decide)]
        · intro A W bo hsz hS hdep hbase
          have h4 : A.tmps.getD 4 undef = .pointer (some ⟨w.heap.size + 1 + 1, 0, none⟩) := hbase 4 (by kernel_rfl)
          have h3 : A.tmps.getD 3 undef = .pointer (some ⟨w.heap.size + 1, 0, none⟩) := hbase 3 (by kernel_rfl)
          obtain ⟨z0, z1⟩ := cells2 ((hS.block (w.heap.size + 1 + 1) (by omega)).trans HG2.out)
          clear hbase
          simp [slotOf, Region.binds, Vs] at hdep
          refine opOk_run rfl (.inl ⟨_, W, ?_, rfl, Ext.refl _⟩); clear hsz hS; simp [go_sem, Act.eval, *]
        · intro A W bo hsz hS hdep hbase
          have h4 : A.tmps.getD 4 undef = .pointer (some ⟨w.heap.size + 1 + 1, 0, none⟩) := hbase 4 (by kernel_rfl)
          have h3 : A.tmps.getD 3 undef = .pointer (some ⟨w.heap.size + 1, 0, none⟩) := hbase 3 (by kernel_rfl)
          obtain ⟨z0, z1⟩ := cells2 ((hS.block (w.heap.size + 1 + 1) (by omega)).trans HG2.out)
          clear hbase
          simp [slotOf, Region.binds, Vs] at hdep
          refine opOk_run rfl (.inr ⟨53, #[.agg #[.int .i64 0, .int .i64 0], .string ⟨#[97]⟩, .string ⟨#[65]⟩], W, by (clear hsz hS; simp [go_sem, Act.eval, *]), ?_⟩)
          refine (simple_any 0 0 ⟨#[97]⟩ ⟨#[65]⟩ W (by decide)).mono ?_
          rintro e w' ⟨rfl, hb⟩
          exact ⟨_, rfl, rfl, hb⟩
        · intro A W bo hsz hS hdep hbase
          have h4 : A.tmps.getD 4 undef = .pointer (some ⟨w.heap.size + 1 + 1, 0, none⟩) := hbase 4 (by kernel_rfl)
          have h3 : A.tmps.getD 3 undef = .pointer (some ⟨w.heap.size + 1, 0, none⟩) := hbase 3 (by kernel_rfl)
          obtain ⟨z0, z1⟩ := cells2 ((hS.block (w.heap.size + 1 + 1) (by omega)).trans HG2.out)
          clear hbase
          simp [slotOf, Region.binds, Vs] at hdep
          refine opOk_run rfl (.inl ⟨_, W, ?_, rfl, Ext.refl _⟩); clear hsz hS; simp [go_sem, Act.eval, *]
        · intro A W bo hsz hS hdep hbase
          have h4 : A.tmps.getD 4 undef = .pointer (some ⟨w.heap.size + 1 + 1, 0, none⟩) := hbase 4 (by kernel_rfl)
          have h3 : A.tmps.getD 3 undef = .pointer (some ⟨w.heap.size + 1, 0, none⟩) := hbase 3 (by kernel_rfl)
          obtain ⟨z0, z1⟩ := cells2 ((hS.block (w.heap.size + 1 + 1) (by omega)).trans HG2.out)
          clear hbase
          simp [slotOf, Region.binds, Vs] at hdep
          refine opOk_run rfl (.inr ⟨53, #[.agg #[.int .i64 0, .int .i64 0], .string ⟨#[98, 97]⟩, .string ⟨#[66]⟩], W, by (clear hsz hS; simp [go_sem, Act.eval, *]), ?_⟩)
          refine (simple_any 0 0 ⟨#[98, 97]⟩ ⟨#[66]⟩ W (by decide)).mono ?_
          rintro e w' ⟨rfl, hb⟩
          exact ⟨_, rfl, rfl, hb⟩
        · intro A W bo hsz hS hdep hbase
          have h4 : A.tmps.getD 4 undef = .pointer (some ⟨w.heap.size + 1 + 1, 0, none⟩) := hbase 4 (by kernel_rfl)
          have h3 : A.tmps.getD 3 undef = .pointer (some ⟨w.heap.size + 1, 0, none⟩) := hbase 3 (by kernel_rfl)
          obtain ⟨z0, z1⟩ := cells2 ((hS.block (w.heap.size + 1 + 1) (by omega)).trans HG2.out)
          clear hbase
          simp [slotOf, Region.binds, Vs] at hdep
          refine opOk_run rfl (.inl ⟨_, W, ?_, rfl, Ext.refl _⟩); clear hsz hS; simp [go_sem, Act.eval, *]
        · intro A W bo hsz hS hdep hbase
          have h4 : A.tmps.getD 4 undef = .pointer (some ⟨w.heap.size + 1 + 1, 0, none⟩) := hbase 4 (by kernel_rfl)
          have h3 : A.tmps.getD 3 undef = .pointer (some ⟨w.heap.size + 1, 0, none⟩) := hbase 3 (by kernel_rfl)
          obtain ⟨z0, z1⟩ := cells2 ((hS.block (w.heap.size + 1 + 1) (by omega)).trans HG2.out)
          clear hbase
          simp [slotOf, Region.binds, Vs] at hdep
          refine opOk_run rfl (.inr ⟨53, #[.agg #[.int .i64 0, .int .i64 0], .string ⟨#[99, 97]⟩, .string ⟨#[67]⟩], W, by (clear hsz hS; simp [go_sem, Act.eval, *]), ?_⟩)
          refine (simple_any 0 0 ⟨#[99, 97]⟩ ⟨#[67]⟩ W (by decide)).mono ?_
          rintro e w' ⟨rfl, hb⟩
          exact ⟨_, rfl, rfl, hb⟩
        · intro A W bo hsz hS hdep hbase
          have h4 : A.tmps.getD 4 undef = .pointer (some ⟨w.heap.size + 1 + 1, 0, none⟩) := hbase 4 (by kernel_rfl)
          have h3 : A.tmps.getD 3 undef = .pointer (some ⟨w.heap.size + 1, 0, none⟩) := hbase 3 (by kernel_rfl)
          obtain ⟨z0, z1⟩ := cells2 ((hS.block (w.heap.size + 1 + 1) (by omega)).trans HG2.out)
          clear hbase
          simp [slotOf, Region.binds, Vs] at hdep
          refine opOk_run rfl (.inl ⟨_, W, ?_, rfl, Ext.refl _⟩); clear hsz hS; simp [go_sem, Act.eval, *]
        · intro A W bo hsz hS hdep hbase
          have h4 : A.tmps.getD 4 undef = .pointer (some ⟨w.heap.size + 1 + 1, 0, none⟩) := hbase 4 (by kernel_rfl)
          have h3 : A.tmps.getD 3 undef = .pointer (some ⟨w.heap.size + 1, 0, none⟩) := hbase 3 (by kernel_rfl)
          obtain ⟨z0, z1⟩ := cells2 ((hS.block (w.heap.size + 1 + 1) (by omega)).trans HG2.out)
          clear hbase
          simp [slotOf, Region.binds, Vs] at hdep
          refine opOk_run rfl (.inr ⟨53, #[.agg #[.int .i64 0, .int .i64 0], .string ⟨#[98]⟩, .string ⟨#[98]⟩], W, by (clear hsz hS; simp [go_sem, Act.eval, *]), ?_⟩)
          refine (simple_any 0 0 ⟨#[98]⟩ ⟨#[98]⟩ W (by decide)).mono ?_
          rintro e w' ⟨rfl, hb⟩
          exact ⟨_, rfl, rfl, hb⟩
        · intro A W hsz hS hdep hbase
          have h4 : A.tmps.getD 4 undef = .pointer (some ⟨w.heap.size + 1 + 1, 0, none⟩) := hbase 4 (by kernel_rfl)
          have h3 : A.tmps.getD 3 undef = .pointer (some ⟨w.heap.size + 1, 0, none⟩) := hbase 3 (by kernel_rfl)
          obtain ⟨z0, z1⟩ := cells2 ((hS.block (w.heap.size + 1 + 1) (by omega)).trans HG2.out)
          clear hbase
          simp [slotOf, Region.binds, Vs] at hdep
          refine ⟨rfl, .inl ⟨.slice (some ⟨W.heap.size, 0, none⟩) 4 4, W.alloc (.cells #[.int .i64 0, .int .i64 0, .string ⟨#[97]⟩, .string ⟨#[65]⟩, .int .i64 1, .int .i64 0, .int .i64 0, .string ⟨#[98, 97]⟩, .string ⟨#[66]⟩, .int .i64 2, .int .i64 0, .int .i64 0, .string ⟨#[99, 97]⟩, .string ⟨#[67]⟩, .int .i64 2, .int .i64 0, .int .i64 0, .string ⟨#[98]⟩, .string ⟨#[98]⟩, .int .i64 1] 29), ?_, ⟨W.heap.size, rfl, heap_alloc_new _ _, hS.size⟩, (Below.refl _ _).alloc (Nat.le_refl _) _, hS.trans (((Below.refl _ W).alloc (Nat.le_refl _) _).mono hS.size)⟩⟩
          clear hsz hS; simp [go_sem, Act.eval, *]
        · intro A W bo hsz hS hdep hbase
          have h4 : A.tmps.getD 4 undef = .pointer (some ⟨w.heap.size + 1 + 1, 0, none⟩) := hbase 4 (by kernel_rfl)
          have h3 : A.tmps.getD 3 undef = .pointer (some ⟨w.heap.size + 1, 0, none⟩) := hbase 3 (by kernel_rfl)
          obtain ⟨z0, z1⟩ := cells2 ((hS.block (w.heap.size + 1 + 1) (by omega)).trans HG2.out)
          clear hbase
          simp [slotOf, Region.binds, Vs] at hdep
          refine opOk_run rfl (.inl ⟨_, W, ?_, rfl, Ext.refl _⟩); clear hsz hS; simp [go_sem, Act.eval, *]
        · trivial
      case hlast =>
        intro A1 W hsz hdf hS hv hbase
        have hb9 : RowN wb.heap.size [⟨0, 0, ⟨#[97]⟩, ⟨#[65]⟩, 1⟩, ⟨0, 0, ⟨#[98, 97]⟩, ⟨#[66]⟩, 2⟩, ⟨0, 0, ⟨#[99, 97]⟩, ⟨#[67]⟩, 2⟩, ⟨0, 0, ⟨#[98]⟩, ⟨#[98]⟩, 1⟩] (A1.tmps.getD 40 undef) W := hv 8 (by decide)
        obtain ⟨g, e9, hg, hgB⟩ := hb9
        have e10 : A1.tmps.getD 41 undef = .pointer (some ⟨w.heap.size + 1, 2, none⟩) := hv 9 (by decide)
        have hrep := (hS.block (w.heap.size + 1) (by omega)).trans HG1.out
        refine wpOp_store rfl rfl rfl rfl (eval_tmp e10) (eval_tmp e9) (by simp [World.frozen?, hrep]) (cells3 hrep).2.2 (by kernel_rfl) ?_
        obtain ⟨x, hx, hA⟩ := act_puts [32, 33, 34, 35, 36, 37, 38, 39, 40, 41] (by kernel_rfl) hsz hdf hbase
        rw [hA]
        simp only [List.foldl]
        simp only [Act.put, List.setIfInBounds_toArray, List.set_cons_succ, List.set_cons_zero]
        clear hA hx hv hbase hsz hdf
        go_wp2_with fail
        go_meet
        refine ⟨_, rfl, 1, [⟨0, 0, ⟨#[97]⟩, ⟨#[65]⟩, 1⟩, ⟨0, 0, ⟨#[98, 97]⟩, ⟨#[66]⟩, 2⟩, ⟨0, 0, ⟨#[99, 97]⟩, ⟨#[67]⟩, 2⟩, ⟨0, 0, ⟨#[98]⟩, ⟨#[98]⟩, 1⟩], g, by omega, by omega, by decide, by decide, hgB, ?_, set_one hrep rfl, (hS.mono (by omega)).setCell (by show _ ≤ w.heap.size + 1; omega) _⟩
        rw [Below.heap_setCell _ _ _ _ (by show g ≠ w.heap.size + 1; omega)]
        exact hg
    · have hq0 : ((k % 6 : Int) == 0) = false := by rw [hq]; rfl
      have hq1 : ((k % 6 : Int) == 1) = false := by rw [hq]; rfl
      have hq2 : ((k % 6 : Int) == 2) = true := by rw [hq]; rfl
      have hq3 : ((k % 6 : Int) == 3) = false := by rw [hq]; rfl
      have hq4 : ((k % 6 : Int) == 4) = false := by rw [hq]; rfl
      clear hq
      go_upto_region 10 with fail
      refine wp_region_mid (by kernel_rfl) (Vs [fun v _ => v = .agg #[.int .i64 0, .int .i64 1], fun v _ => v = .agg #[.int .i64 0, .int .i64 1, .string ⟨#[99]⟩, .string ⟨#[]⟩, .int .i64 1], fun v _ => v = .agg #[.int .i64 1, .int .i64 0], fun v _ => v = .agg #[.int .i64 1, .int .i64 0, .string ⟨#[97]⟩, .string ⟨#[65]⟩, .int .i64 1], fun v _ => v = .agg #[.int .i64 1, .int .i64 0], fun v _ => v = .agg #[.int .i64 1, .int .i64 0, .string ⟨#[98]⟩, .string ⟨#[66]⟩, .int .i64 1], fun v _ => v = .agg #[.int .i64 0, .int .i64 0], fun v _ => v = .agg #[.int .i64 0, .int .i64 0, .string ⟨#[97]⟩, .string ⟨#[97]⟩, .int .i64 1], fun v _ => v = .agg #[.int .i64 0, .int .i64 0], fun v _ => v = .agg #[.int .i64 0, .int .i64 0, .string ⟨#[98]⟩, .string ⟨#[98]⟩, .int .i64 1], RowN wb.heap.size [⟨0, 1, ⟨#[99]⟩, ⟨#[]⟩, 1⟩, ⟨1, 0, ⟨#[97]⟩, ⟨#[65]⟩, 1⟩, ⟨1, 0, ⟨#[98]⟩, ⟨#[66]⟩, 1⟩, ⟨0, 0, ⟨#[97]⟩, ⟨#[97]⟩, 1⟩, ⟨0, 0, ⟨#[98]⟩, ⟨#[98]⟩, 1⟩], fun v W => ∃ g, v = .agg #[.int .i64 2, .int .u8 1, .slice (some ⟨g, 0, none⟩) 5 5] ∧ W.heap[g]? = some (.cells (rcells [⟨0, 1, ⟨#[99]⟩, ⟨#[]⟩, 1⟩, ⟨1, 0, ⟨#[97]⟩, ⟨#[65]⟩, 1⟩, ⟨1, 0, ⟨#[98]⟩, ⟨#[66]⟩, 1⟩, ⟨0, 0, ⟨#[97]⟩, ⟨#[97]⟩, 1⟩, ⟨0, 0, ⟨#[98]⟩, ⟨#[98]⟩, 1⟩]).toArray 29 (0, 0)) ∧ wb.heap.size ≤ g]) (fun _ W => Below wb.heap.size wb W) (fun W W' => Ext W W') 78 10 12 (by kernel_rfl) rfl (by omega) ?hVx ?hVm ?hSx ?hS ?hop ?hlast
      case hVx => exact vs_stays (by simp only [List.mem_cons, List.not_mem_nil, or_false, forall_eq_or_imp, forall_eq]; exact ⟨stays_const _, stays_const _, stays_const _, stays_const _, stays_const _, stays_const _, stays_const _, stays_const _, stays_const _, stays_const _, rowN_stays _ _, (fun v w w' h hx => by obtain ⟨g, h1, h2, h3⟩ := h; exact ⟨g, h1, (Below.block hx g (Array.getElem?_eq_some_iff.1 h2).1).trans h2, h3⟩)⟩)
      case hVm => exact fun i v w w' _ h hx => vs_stays (by simp only [List.mem_cons, List.not_mem_nil, or_false, forall_eq_or_imp, forall_eq]; exact ⟨stays_const _, stays_const _, stays_const _, stays_const _, stays_const _, stays_const _, stays_const _, stays_const _, stays_const _, stays_const _, rowN_stays _ _, (fun v w w' h hx => by obtain ⟨g, h1, h2, h3⟩ := h; exact ⟨g, h1, (Below.block hx g (Array.getElem?_eq_some_iff.1 h2).1).trans h2, h3⟩)⟩) i v w w' h hx
      case hSx => exact fun bo W W' h hx => h.trans (Below.mono hx h.size)
      case hS => exact Below.refl _ _
      case hop =>
        refine ⟨?_, ?_, ?_, ?_, ?_, ?_, ?_, ?_, ?_, ?_, ?_, ?_, ?_, trivial⟩
        all_goals first | rw [if_neg (by decide), if_neg (by decide)] | rw [if_neg (by decide), if_pos (by decide)] | rw [if_pos (by decide)]
        · intro A W bo hsz hS hdep hbase
          have h4 : A.tmps.getD 4 undef = .pointer (some ⟨w.heap.size + 1 + 1, 0, none⟩) := hbase 4 (by kernel_rfl)
          have h3 : A.tmps.getD 3 undef = .pointer (some ⟨w.heap.size + 1, 0, none⟩) := hbase 3 (by kernel_rfl)
          obtain ⟨z0, z1⟩ := cells2 ((hS.block (w.heap.size + 1 + 1) (by omega)).trans HG2.out)
          clear hbase
          simp [slotOf, Region.binds, Vs] at hdep
          refine opOk_run rfl (.inl ⟨_, W, ?_, rfl, Ext.refl _⟩); clear hsz hS; simp [go_sem, Act.eval, *]
        · intro A W bo hsz hS hdep hbase
          have h4 : A.tmps.getD 4 undef = .pointer (some ⟨w.heap.size + 1 + 1, 0, none⟩) := hbase 4 (by kernel_rfl)
          have h3 : A.tmps.getD 3 undef = .pointer (some ⟨w.heap.size + 1, 0, none⟩) := hbase 3 (by kernel_rfl)
          obtain ⟨z0, z1⟩ := cells2 ((hS.block (w.heap.size + 1 + 1) (by omega)).trans HG2.out)
          clear hbase
          simp [slotOf, Region.binds, Vs] at hdep
          refine opOk_run rfl (.inr ⟨53, #[.agg #[.int .i64 0, .int .i64 1], .string ⟨#[99]⟩, .string ⟨#[]⟩], W, by (clear hsz hS; simp [go_sem, Act.eval, *]), ?_⟩)
          refine (simple_any 0 1 ⟨#[99]⟩ ⟨#[]⟩ W (by decide)).mono ?_
          rintro e w' ⟨rfl, hb⟩
          exact ⟨_, rfl, rfl, hb⟩
        · intro A W bo hsz hS hdep hbase
          have h4 : A.tmps.getD 4 undef = .pointer (some ⟨w.heap.size + 1 + 1, 0, none⟩) := hbase 4 (by kernel_rfl)
          have h3 : A.tmps.getD 3 undef = .pointer (some ⟨w.heap.size + 1, 0, none⟩) := hbase 3 (by kernel_rfl)
          obtain ⟨z0, z1⟩ := cells2 ((hS.block (w.heap.size + 1 + 1) (by omega)).trans HG2.out)
          clear hbase
          simp [slotOf, Region.binds, Vs] at hdep
          refine opOk_run rfl (.inl ⟨_, W, ?_, rfl, Ext.refl _⟩); clear hsz hS; simp [go_sem, Act.eval, *]
        · intro A W bo hsz hS hdep hbase
          have h4 : A.tmps.getD 4 undef = .pointer (some ⟨w.heap.size + 1 + 1, 0, none⟩) := hbase 4 (by kernel_rfl)
          have h3 : A.tmps.getD 3 undef = .pointer (some ⟨w.heap.size + 1, 0, none⟩) := hbase 3 (by kernel_rfl)
          obtain ⟨z0, z1⟩ := cells2 ((hS.block (w.heap.size + 1 + 1) (by omega)).trans HG2.out)
          clear hbase
          simp [slotOf, Region.binds, Vs] at hdep
          refine opOk_run rfl (.inr ⟨53, #[.agg #[.int .i64 1, .int .i64 0], .string ⟨#[97]⟩, .string ⟨#[65]⟩], W, by (clear hsz hS; simp [go_sem, Act.eval, *]), ?_⟩)
          refine (simple_any 1 0 ⟨#[97]⟩ ⟨#[65]⟩ W (by decide)).mono ?_
          rintro e w' ⟨rfl, hb⟩
          exact ⟨_, rfl, rfl, hb⟩
        · intro A W bo hsz hS hdep hbase
          have h4 : A.tmps.getD 4 undef = .pointer (some ⟨w.heap.size + 1 + 1, 0, none⟩) := hbase 4 (by kernel_rfl)
          have h3 : A.tmps.getD 3 undef = .pointer (some ⟨w.heap.size + 1, 0, none⟩) := hbase 3 (by kernel_rfl)
          obtain ⟨z0, z1⟩ := cells2 ((hS.block (w.heap.size + 1 + 1) (by omega)).trans HG2.out)
          clear hbase
          simp [slotOf, Region.binds, Vs] at hdep
          refine opOk_run rfl (.inl ⟨_, W, ?_, rfl, Ext.refl _⟩); clear hsz hS; simp [go_sem, Act.eval, *]
        · intro A W bo hsz hS hdep hbase
          have h4 : A.tmps.getD 4 undef = .pointer (some ⟨w.heap.size + 1 + 1, 0, none⟩) := hbase 4 (by kernel_rfl)
          have h3 : A.tmps.getD 3 undef = .pointer (some ⟨w.heap.size + 1, 0, none⟩) := hbase 3 (by kernel_rfl)
          obtain ⟨z0, z1⟩ := cells2 ((hS.block (w.heap.size + 1 + 1) (by omega)).trans HG2.out)
          clear hbase
          simp [slotOf, Region.binds, Vs] at hdep
          refine opOk_run rfl (.inr ⟨53, #[.agg #[.int .i64 1, .int .i64 0], .string ⟨#[98]⟩, .string ⟨#[66]⟩], W, by (clear hsz hS; simp [go_sem, Act.eval, *]), ?_⟩)
          refine (simple_any 1 0 ⟨#[98]⟩ ⟨#[66]⟩ W (by decide)).mono ?_
          rintro e w' ⟨rfl, hb⟩
          exact ⟨_, rfl, rfl, hb⟩
        · intro A W bo hsz hS hdep hbase
          have h4 : A.tmps.getD 4 undef = .pointer (some ⟨w.heap.size + 1 + 1, 0, none⟩) := hbase 4 (by kernel_rfl)
          have h3 : A.tmps.getD 3 undef = .pointer (some ⟨w.heap.size + 1, 0, none⟩) := hbase 3 (by kernel_rfl)
          obtain ⟨z0, z1⟩ := cells2 ((hS.block (w.heap.size + 1 + 1) (by omega)).trans HG2.out)
          clear hbase
          simp [slotOf, Region.binds, Vs] at hdep
          refine opOk_run rfl (.inl ⟨_, W, ?_, rfl, Ext.refl _⟩); clear hsz hS; simp [go_sem, Act.eval, *]
        · intro A W bo hsz hS hdep hbase
          have h4 : A.tmps.getD 4 undef = .pointer (some ⟨w.heap.size + 1 + 1, 0, none⟩) := hbase 4 (by kernel_rfl)
          have h3 : A.tmps.getD 3 undef = .pointer (some ⟨w.heap.size + 1, 0, none⟩) := hbase 3 (by kernel_rfl)
          obtain ⟨z0, z1⟩ := cells2 ((hS.block (w.heap.size + 1 + 1) (by omega)).trans HG2.out)
          clear hbase
          simp [slotOf, Region.binds, Vs] at hdep
          refine opOk_run rfl (.inr ⟨53, #[.agg #[.int .i64 0, .int .i64 0], .string ⟨#[97]⟩, .string ⟨#[97]⟩], W, by (clear hsz hS; simp [go_sem, Act.eval, *]), ?_⟩)
          refine (simple_any 0 0 ⟨#[97]⟩ ⟨#[97]⟩ W (by decide)).mono ?_
          rintro e w' ⟨rfl, hb⟩
          exact ⟨_, rfl, rfl, hb⟩
        · intro A W bo hsz hS hdep hbase
          have h4 : A.tmps.getD 4 undef = .pointer (some ⟨w.heap.size + 1 + 1, 0, none⟩) := hbase 4 (by kernel_rfl)
          have h3 : A.tmps.getD 3 undef = .pointer (some ⟨w.heap.size + 1, 0, none⟩) := hbase 3 (by kernel_rfl)
          obtain ⟨z0, z1⟩ := cells2 ((hS.block (w.heap.size + 1 + 1) (by omega)).trans HG2.out)
          clear hbase
          simp [slotOf, Region.binds, Vs] at hdep
          refine opOk_run rfl (.inl ⟨_, W, ?_, rfl, Ext.refl _⟩); clear hsz hS; simp [go_sem, Act.eval, *]
        · intro A W bo hsz hS hdep hbase
          have h4 : A.tmps.getD 4 undef = .pointer (some ⟨w.heap.size + 1 + 1, 0, none⟩) := hbase 4 (by kernel_rfl)
          have h3 : A.tmps.getD 3 undef = .pointer (some ⟨w.heap.size + 1, 0, none⟩) := hbase 3 (by kernel_rfl)
          obtain ⟨z0, z1⟩ := cells2 ((hS.block (w.heap.size + 1 + 1) (by omega)).trans HG2.out)
          clear hbase
          simp [slotOf, Region.binds, Vs] at hdep
          refine opOk_run rfl (.inr ⟨53, #[.agg #[.int .i64 0, .int .i64 0], .string ⟨#[98]⟩, .string ⟨#[98]⟩], W, by (clear hsz hS; simp [go_sem, Act.eval, *]), ?_⟩)
          refine (simple_any 0 0 ⟨#[98]⟩ ⟨#[98]⟩ W (by decide)).mono ?_
          rintro e w' ⟨rfl, hb⟩
          exact ⟨_, rfl, rfl, hb⟩
        · intro A W hsz hS hdep hbase
          have h4 : A.tmps.getD 4 undef = .pointer (some ⟨w.heap.size + 1 + 1, 0, none⟩) := hbase 4 (by kernel_rfl)
          have h3 : A.tmps.getD 3 undef = .pointer (some ⟨w.heap.size + 1, 0, none⟩) := hbase 3 (by kernel_rfl)
          obtain ⟨z0, z1⟩ := cells2 ((hS.block (w.heap.size + 1 + 1) (by omega)).trans HG2.out)
          clear hbase
          simp [slotOf, Region.binds, Vs] at hdep
          refine ⟨rfl, .inl ⟨.slice (some ⟨W.heap.size, 0, none⟩) 5 5, W.alloc (.cells #[.int .i64 0, .int .i64 1, .string ⟨#[99]⟩, .string ⟨#[]⟩, .int .i64 1, .int .i64 1, .int .i64 0, .string ⟨#[97]⟩, .string ⟨#[65]⟩, .int .i64 1, .int .i64 1, .int .i64 0, .string ⟨#[98]⟩, .string ⟨#[66]⟩, .int .i64 1, .int .i64 0, .int .i64 0, .string ⟨#[97]⟩, .string ⟨#[97]⟩, .int .i64 1, .int .i64 0, .int .i64 0, .string ⟨#[98]⟩, .string ⟨#[98]⟩, .int .i64 1] 29), ?_, ⟨W.heap.size, rfl, heap_alloc_new _ _, hS.size⟩, (Below.refl _ _).alloc (Nat.le_refl _) _, hS.trans (((Below.refl _ W).alloc (Nat.le_refl _) _).mono hS.size)⟩⟩
          clear hsz hS; simp [go_sem, Act.eval, *]
        · intro A W bo hsz hS hdep hbase
          have h4 : A.tmps.getD 4 undef = .pointer (some ⟨w.heap.size + 1 + 1, 0, none⟩) := hbase 4 (by kernel_rfl)
          have h3 : A.tmps.getD 3 undef = .pointer (some ⟨w.heap.size + 1, 0, none⟩) := hbase 3 (by kernel_rfl)
          obtain ⟨z0, z1⟩ := cells2 ((hS.block (w.heap.size + 1 + 1) (by omega)).trans HG2.out)
          clear hbase
          have hb9 : RowN wb.heap.size [⟨0, 1, ⟨#[99]⟩, ⟨#[]⟩, 1⟩, ⟨1, 0, ⟨#[97]⟩, ⟨#[65]⟩, 1⟩, ⟨1, 0, ⟨#[98]⟩, ⟨#[66]⟩, 1⟩, ⟨0, 0, ⟨#[97]⟩, ⟨#[97]⟩, 1⟩, ⟨0, 0, ⟨#[98]⟩, ⟨#[98]⟩, 1⟩] (A.tmps.getD 54 undef) W := hdep ⟨10, .data⟩ (by simp) rfl
          obtain ⟨g9, e9, hg9, hB9⟩ := hb9
          refine opOk_run rfl (.inl ⟨.agg #[.int .i64 2, .int .u8 1, .slice (some ⟨g9, 0, none⟩) 5 5], W, ?_, ⟨g9, rfl, hg9, hB9⟩, Ext.refl _⟩)
          rw [Array.getD_eq_getD_getElem?] at e9
          clear hsz hS hdep hg9; simp [go_sem, Act.eval, *]
        · trivial
      case hlast =>
        intro A1 W hsz hdf hS hv hbase
        have hb9 := hv 11 (by decide)
        obtain ⟨g, e9, hg, hgB⟩ := hb9
        have e10 : A1.tmps.getD 55 undef = .agg #[.int .i64 2, .int .u8 1, .slice (some ⟨g, 0, none⟩) 5 5] := e9
        have h3 : A1.tmps.getD 3 undef = .pointer (some ⟨w.heap.size + 1, 0, none⟩) := hbase 3 (by kernel_rfl)
        have hrep := (hS.block (w.heap.size + 1) (by omega)).trans HG1.out
        refine wpOp_store_sch rfl rfl rfl rfl (eval_tmp h3) (eval_tmp e10) hrep (by kernel_rfl) ?_
        obtain ⟨x, hx, hA⟩ := act_puts [44, 45, 46, 47, 48, 49, 50, 51, 52, 53, 54, 55] (by kernel_rfl) hsz hdf hbase
        rw [hA]
        simp only [List.foldl]
        simp only [Act.put, List.setIfInBounds_toArray, List.set_cons_succ, List.set_cons_zero]
        clear hA hx hv hbase hsz hdf
        go_wp2_with fail
        go_meet
        refine ⟨_, rfl, 2, [⟨0, 1, ⟨#[99]⟩, ⟨#[]⟩, 1⟩, ⟨1, 0, ⟨#[97]⟩, ⟨#[65]⟩, 1⟩, ⟨1, 0, ⟨#[98]⟩, ⟨#[66]⟩, 1⟩, ⟨0, 0, ⟨#[97]⟩, ⟨#[97]⟩, 1⟩, ⟨0, 0, ⟨#[98]⟩, ⟨#[98]⟩, 1⟩], g, by omega, by omega, by decide, by decide, hgB, ?_, set3 hrep, ((((hS.mono (by omega)).setCell (by show _ ≤ w.heap.size + 1; omega) _).setCell (by show _ ≤ w.heap.size + 1; omega) _).setCell (by show _ ≤ w.heap.size + 1; omega) _)⟩
        rw [Below.heap_setCell _ _ _ _ (by show g ≠ w.heap.size + 1; omega), Below.heap_setCell _ _ _ _ (by show g ≠ w.heap.size + 1; omega), Below.heap_setCell _ _ _ _ (by show g ≠ w.heap.size + 1; omega)]
        exact hg
    · have hq0 : ((k % 6 : Int) == 0) = false := by rw [hq]; rfl
      have hq1 : ((k % 6 : Int) == 1) = false := by rw [hq]; rfl
      have hq2 : ((k % 6 : Int) == 2) = false := by rw [hq]; rfl
      have hq3 : ((k % 6 : Int) == 3) = true := by rw [hq]; rfl
      have hq4 : ((k % 6 : Int) == 4) = false := by rw [hq]; rfl
      clear hq
      go_upto_region 12 with fail
      refine wp_region_mid (by kernel_rfl) (Vs [fun v _ => v = .agg #[.int .i64 0, .int .i64 0], fun v _ => v = .agg #[.int .i64 0, .int .i64 0, .string ⟨#[97]⟩, .string ⟨#[97]⟩, .int .i64 1], fun v _ => v = .agg #[.int .i64 0, .int .i64 0], fun v _ => v = .agg #[.int .i64 0, .int .i64 0, .string ⟨#[98]⟩, .string ⟨#[98]⟩, .int .i64 1], fun v _ => v = .agg #[.int .i64 0, .int .i64 0], fun v _ => v = .agg #[.int .i64 0, .int .i64 0, .string ⟨#[97, 98]⟩, .string ⟨#[97, 98, 99, 49]⟩, .int .i64 2], fun v _ => v = .agg #[.int .i64 0, .int .i64 0], fun v _ => v = .agg #[.int .i64 0, .int .i64 0, .string ⟨#[99]⟩, .string ⟨#[99]⟩, .int .i64 1], RowN wb.heap.size [⟨0, 0, ⟨#[97]⟩, ⟨#[97]⟩, 1⟩, ⟨0, 0, ⟨#[98]⟩, ⟨#[98]⟩, 1⟩, ⟨0, 0, ⟨#[97, 98]⟩, ⟨#[97, 98, 99, 49]⟩, 2⟩, ⟨0, 0, ⟨#[99]⟩, ⟨#[99]⟩, 1⟩], fun v _ => v = .pointer (some ⟨w.heap.size + 1, 2, none⟩)]) (fun _ W => Below wb.heap.size wb W) (fun W W' => Ext W W') 78 8 10 (by kernel_rfl) rfl (by omega) ?hVx ?hVm ?hSx ?hS ?hop ?hlast
      case hVx => exact vs_stays (by simp only [List.mem_cons, List.not_mem_nil, or_false, forall_eq_or_imp, forall_eq]; exact ⟨stays_const _, stays_const _, stays_const _, stays_const _, stays_const _, stays_const _, stays_const _, stays_const _, rowN_stays _ _, stays_const _⟩)
      case hVm => exact fun i v w w' _ h hx => vs_stays (by simp only [List.mem_cons, List.not_mem_nil, or_false, forall_eq_or_imp, forall_eq]; exact ⟨stays_const _, stays_const _, stays_const _, stays_const _, stays_const _, stays_const _, stays_const _, stays_const _, rowN_stays _ _, stays_const _⟩) i v w w' h hx
      case hSx => exact fun bo W W' h hx => h.trans (Below.mono hx h.size)
      case hS => exact Below.refl _ _
      case hop =>
        refine ⟨?_, ?_, ?_, ?_, ?_, ?_, ?_, ?_, ?_, ?_, ?_, trivial⟩
        all_goals first | rw [if_neg (by decide), if_neg (by decide)] | rw [if_neg (by decide), if_pos (by decide)] | rw [if_pos (by decide)]
        · intro A W bo hsz hS hdep hbase
          have h4 : A.tmps.getD 4 undef = .pointer (some ⟨w.heap.size + 1 + 1, 0, none⟩) := hbase 4 (by kernel_rfl)
          have h3 : A.tmps.getD 3 undef = .pointer (some ⟨w.heap.size + 1, 0, none⟩) := hbase 3 (by kernel_rfl)
          obtain ⟨z0, z1⟩ := cells2 ((hS.block (w.heap.size + 1 + 1) (by omega)).trans HG2.out)
          clear hbase
          simp [slotOf, Region.binds, Vs] at hdep
          refine opOk_run rfl (.inl ⟨_, W, ?_, rfl, Ext.refl _⟩); clear hsz hS; simp [go_sem, Act.eval, *]
        · intro A W bo hsz hS hdep hbase
          have h4 : A.tmps.getD 4 undef = .pointer (some ⟨w.heap.size + 1 + 1, 0, none⟩) := hbase 4 (by kernel_rfl)
          have h3 : A.tmps.getD 3 undef = .pointer (some ⟨w.heap.size + 1, 0, none⟩) := hbase 3 (by kernel_rfl)
          obtain ⟨z0, z1⟩ := cells2 ((hS.block (w.heap.size + 1 + 1) (by omega)).trans HG2.out)
          clear hbase
          simp [slotOf, Region.binds, Vs] at hdep
          refine opOk_run rfl (.inr ⟨53, #[.agg #[.int .i64 0, .int .i64 0], .string ⟨#[97]⟩, .string ⟨#[97]⟩], W, by (clear hsz hS; simp [go_sem, Act.eval, *]), ?_⟩)
          refine (simple_any 0 0 ⟨#[97]⟩ ⟨#[97]⟩ W (by decide)).mono ?_
          rintro e w' ⟨rfl, hb⟩
          exact ⟨_, rfl, rfl, hb⟩
        · intro A W bo hsz hS hdep hbase
          have h4 : A.tmps.getD 4 undef = .pointer (some ⟨w.heap.size + 1 + 1, 0, none⟩) := hbase 4 (by kernel_rfl)
          have h3 : A.tmps.getD 3 undef = .pointer (some ⟨w.heap.size + 1, 0, none⟩) := hbase 3 (by kernel_rfl)
          obtain ⟨z0, z1⟩ := cells2 ((hS.block (w.heap.size + 1 + 1) (by omega)).trans HG2.out)
          clear hbase
          simp [slotOf, Region.binds, Vs] at hdep
          refine opOk_run rfl (.inl ⟨_, W, ?_, rfl, Ext.refl _⟩); clear hsz hS; simp [go_sem, Act.eval, *]
        · intro A W bo hsz hS hdep hbase
          have h4 : A.tmps.getD 4 undef = .pointer (some ⟨w.heap.size + 1 + 1, 0, none⟩) := hbase 4 (by kernel_rfl)
          have h3 : A.tmps.getD 3 undef = .pointer (some ⟨w.heap.size + 1, 0, none⟩) := hbase 3 (by kernel_rfl)
          obtain ⟨z0, z1⟩ := cells2 ((hS.block (w.heap.size + 1 + 1) (by omega)).trans HG2.out)
          clear hbase
          simp [slotOf, Region.binds, Vs] at hdep
          refine opOk_run rfl (.inr ⟨53, #[.agg #[.int .i64 0, .int .i64 0], .string ⟨#[98]⟩, .string ⟨#[98]⟩], W, by (clear hsz hS; simp [go_sem, Act.eval, *]), ?_⟩)
          refine (simple_any 0 0 ⟨#[98]⟩ ⟨#[98]⟩ W (by decide)).mono ?_
          rintro e w' ⟨rfl, hb⟩
          exact ⟨_, rfl, rfl, hb⟩
        · intro A W bo hsz hS hdep hbase
          have h4 : A.tmps.getD 4 undef = .pointer (some ⟨w.heap.size + 1 + 1, 0, none⟩) := hbase 4 (by kernel_rfl)
          have h3 : A.tmps.getD 3 undef = .pointer (some ⟨w.heap.size + 1, 0, none⟩) := hbase 3 (by kernel_rfl)
          obtain ⟨z0, z1⟩ := cells2 ((hS.block (w.heap.size + 1 + 1) (by omega)).trans HG2.out)
          clear hbase
          simp [slotOf, Region.binds, Vs] at hdep
          refine opOk_run rfl (.inl ⟨_, W, ?_, rfl, Ext.refl _⟩); clear hsz hS; simp [go_sem, Act.eval, *]
        · intro A W bo hsz hS hdep hbase
          have h4 : A.tmps.getD 4 undef = .pointer (some ⟨w.heap.size + 1 + 1, 0, none⟩) := hbase 4 (by kernel_rfl)
          have h3 : A.tmps.getD 3 undef = .pointer (some ⟨w.heap.size + 1, 0, none⟩) := hbase 3 (by kernel_rfl)
          obtain ⟨z0, z1⟩ := cells2 ((hS.block (w.heap.size + 1 + 1) (by omega)).trans HG2.out)
          clear hbase
          simp [slotOf, Region.binds, Vs] at hdep
          refine opOk_run rfl (.inr ⟨53, #[.agg #[.int .i64 0, .int .i64 0], .string ⟨#[97, 98]⟩, .string ⟨#[97, 98, 99, 49]⟩], W, by (clear hsz hS; simp [go_sem, Act.eval, *]), ?_⟩)
          refine (simple_any 0 0 ⟨#[97, 98]⟩ ⟨#[97, 98, 99, 49]⟩ W (by decide)).mono ?_
          rintro e w' ⟨rfl, hb⟩
          exact ⟨_, rfl, rfl, hb⟩
        · intro A W bo hsz hS hdep hbase
          have h4 : A.tmps.getD 4 undef = .pointer (some ⟨w.heap.size + 1 + 1, 0, none⟩) := hbase 4 (by kernel_rfl)
          have h3 : A.tmps.getD 3 undef = .pointer (some ⟨w.heap.size + 1, 0, none⟩) := hbase 3 (by kernel_rfl)
          obtain ⟨z0, z1⟩ := cells2 ((hS.block (w.heap.size + 1 + 1) (by omega)).trans HG2.out)
          clear hbase
          simp [slotOf, Region.binds, Vs] at hdep
          refine opOk_run rfl (.inl ⟨_, W, ?_, rfl, Ext.refl _⟩); clear hsz hS; simp [go_sem, Act.eval, *]
        · intro A W bo hsz hS hdep hbase
          have h4 : A.tmps.getD 4 undef = .pointer (some ⟨w.heap.size + 1 + 1, 0, none⟩) := hbase 4 (by kernel_rfl)
          have h3 : A.tmps.getD 3 undef = .pointer (some ⟨w.heap.size + 1, 0, none⟩) := hbase 3 (by kernel_rfl)
          obtain ⟨z0, z1⟩ := cells2 ((hS.block (w.heap.size + 1 + 1) (by omega)).trans HG2.out)
          clear hbase
          simp [slotOf, Region.binds, Vs] at hdep
          refine opOk_run rfl (.inr ⟨53, #[.agg #[.int .i64 0, .int .i64 0], .string ⟨#[99]⟩, .string ⟨#[99]⟩], W, by (clear hsz hS; simp [go_sem, Act.eval, *]), ?_⟩)
          refine (simple_any 0 0 ⟨#[99]⟩ ⟨#[99]⟩ W (by decide)).mono ?_
          rintro e w' ⟨rfl, hb⟩
          exact ⟨_, rfl, rfl, hb⟩
        · intro A W hsz hS hdep hbase
          have h4 : A.tmps.getD 4 undef = .pointer (some ⟨w.heap.size + 1 + 1, 0, none⟩) := hbase 4 (by kernel_rfl)
          have h3 : A.tmps.getD 3 undef = .pointer (some ⟨w.heap.size + 1, 0, none⟩) := hbase 3 (by kernel_rfl)
          obtain ⟨z0, z1⟩ := cells2 ((hS.block (w.heap.size + 1 + 1) (by omega)).trans HG2.out)
          clear hbase
          simp [slotOf, Region.binds, Vs] at hdep
          refine ⟨rfl, .inl ⟨.slice (some ⟨W.heap.size, 0, none⟩) 4 4, W.alloc (.cells #[.int .i64 0, .int .i64 0, .string ⟨#[97]⟩, .string ⟨#[97]⟩, .int .i64 1, .int .i64 0, .int .i64 0, .string ⟨#[98]⟩, .string ⟨#[98]⟩, .int .i64 1, .int .i64 0, .int .i64 0, .string ⟨#[97, 98]⟩, .string ⟨#[97, 98, 99, 49]⟩, .int .i64 2, .int .i64 0, .int .i64 0, .string ⟨#[99]⟩, .string ⟨#[99]⟩, .int .i64 1] 29), ?_, ⟨W.heap.size, rfl, heap_alloc_new _ _, hS.size⟩, (Below.refl _ _).alloc (Nat.le_refl _) _, hS.trans (((Below.refl _ W).alloc (Nat.le_refl _) _).mono hS.size)⟩⟩
          clear hsz hS; simp [go_sem, Act.eval, *]
        · intro A W bo hsz hS hdep hbase
          have h4 : A.tmps.getD 4 undef = .pointer (some ⟨w.heap.size + 1 + 1, 0, none⟩) := hbase 4 (by kernel_rfl)
          have h3 : A.tmps.getD 3 undef = .pointer (some ⟨w.heap.size + 1, 0, none⟩) := hbase 3 (by kernel_rfl)
          obtain ⟨z0, z1⟩ := cells2 ((hS.block (w.heap.size + 1 + 1) (by omega)).trans HG2.out)
          clear hbase
          simp [slotOf, Region.binds, Vs] at hdep
          refine opOk_run rfl (.inl ⟨_, W, ?_, rfl, Ext.refl _⟩); clear hsz hS; simp [go_sem, Act.eval, *]
        · trivial
      case hlast =>
        intro A1 W hsz hdf hS hv hbase
        have hb9 : RowN wb.heap.size [⟨0, 0, ⟨#[97]⟩, ⟨#[97]⟩, 1⟩, ⟨0, 0, ⟨#[98]⟩, ⟨#[98]⟩, 1⟩, ⟨0, 0, ⟨#[97, 98]⟩, ⟨#[97, 98, 99, 49]⟩, 2⟩, ⟨0, 0, ⟨#[99]⟩, ⟨#[99]⟩, 1⟩] (A1.tmps.getD 66 undef) W := hv 8 (by decide)
        obtain ⟨g, e9, hg, hgB⟩ := hb9
        have e10 : A1.tmps.getD 67 undef = .pointer (some ⟨w.heap.size + 1, 2, none⟩) := hv 9 (by decide)
        have hrep := (hS.block (w.heap.size + 1) (by omega)).trans HG1.out
        refine wpOp_store rfl rfl rfl rfl (eval_tmp e10) (eval_tmp e9) (by simp [World.frozen?, hrep]) (cells3 hrep).2.2 (by kernel_rfl) ?_
        obtain ⟨x, hx, hA⟩ := act_puts [58, 59, 60, 61, 62, 63, 64, 65, 66, 67] (by kernel_rfl) hsz hdf hbase
        rw [hA]
        simp only [List.foldl]
        simp only [Act.put, List.setIfInBounds_toArray, List.set_cons_succ, List.set_cons_zero]
        clear hA hx hv hbase hsz hdf
        go_wp2_with fail
        go_meet
        refine ⟨_, rfl, 1, [⟨0, 0, ⟨#[97]⟩, ⟨#[97]⟩, 1⟩, ⟨0, 0, ⟨#[98]⟩, ⟨#[98]⟩, 1⟩, ⟨0, 0, ⟨#[97, 98]⟩, ⟨#[97, 98, 99, 49]⟩, 2⟩, ⟨0, 0, ⟨#[99]⟩, ⟨#[99]⟩, 1⟩], g, by omega, by omega, by decide, by decide, hgB, ?_, set_one hrep rfl, (hS.mono (by omega)).setCell (by show _ ≤ w.heap.size + 1; omega) _⟩
        rw [Below.heap_setCell _ _ _ _ (by show g ≠ w.heap.size + 1; omega)]
        exact hg
    · have hq0 : ((k % 6 : Int) == 0) = false := by rw [hq]; rfl
      have hq1 : ((k % 6 : Int) == 1) = false := by rw [hq]; rfl
      have hq2 : ((k % 6 : Int) == 2) = false := by rw [hq]; rfl
      have hq3 : ((k % 6 : Int) == 3) = false := by rw [hq]; rfl
      have hq4 : ((k % 6 : Int) == 4) = true := by rw [hq]; rfl
      clear hq
      obtain ⟨z0, z1⟩ := cells2 HG2.out
      go_wp2_with fail
      refine (simple_any 0 0 ⟨#[97]⟩ ⟨#[97]⟩ wb (by decide)).mono ?_
      rintro e w1 ⟨rfl, hb1⟩
      clear z0 z1
      have hs1 := hb1.size
      have HR1 := Lib.hid ((hb1.block (w.heap.size + 1) (by omega)).trans HG1.out)
      obtain ⟨r0, r1, r2⟩ := cells3 HR1.out
      have rf : ∀ i, w1.frozen? ⟨w.heap.size + 1, i, none⟩ = false := fun i => by simp [World.frozen?, HR1.out]
      go_wp2_with fail
      go_meet
      refine ⟨_, rfl, 1, [⟨0, 0, ⟨#[97]⟩, ⟨#[97]⟩, 1⟩, ⟨0, 0, ⟨#[98]⟩, ⟨#[98]⟩, 0⟩, ⟨0, 0, ⟨#[99]⟩, ⟨#[98]⟩, 7⟩, ⟨0, 0, ⟨#[98]⟩, ⟨#[99]⟩, 9⟩], w1.heap.size, by omega, by omega, by decide, by decide, hs1, ?_, set_one ((Below.heap_alloc _ _ _ (by omega)).trans HR1.out) rfl, ((hb1.mono (by omega)).alloc (by omega) _).setCell (by show _ ≤ w.heap.size + 1; omega) _⟩
      rw [Below.heap_setCell _ _ _ _ (by show w1.heap.size ≠ w.heap.size + 1; omega)]
      exact heap_alloc_new _ _
    · have hq0 : ((k % 6 : Int) == 0) = false := by rw [hq]; rfl
      have hq1 : ((k % 6 : Int) == 1) = false := by rw [hq]; rfl
      have hq2 : ((k % 6 : Int) == 2) = false := by rw [hq]; rfl
      have hq3 : ((k % 6 : Int) == 3) = false := by rw [hq]; rfl
      have hq4 : ((k % 6 : Int) == 4) = false := by rw [hq]; rfl
      clear hq
      go_upto_region 4 with fail
      refine wp_region_mid (by kernel_rfl) (Vs [fun v _ => v = .agg #[.int .i64 0, .int .i64 0], fun v _ => v = .agg #[.int .i64 0, .int .i64 0, .string ⟨#[97]⟩, .string ⟨#[97]⟩, .int .i64 1], fun v _ => v = .agg #[.int .i64 0, .int .i64 0], fun v _ => v = .agg #[.int .i64 0, .int .i64 0, .string ⟨#[97]⟩, .string ⟨#[65]⟩, .int .i64 1], fun v _ => v = .agg #[.int .i64 0, .int .i64 0], fun v _ => v = .agg #[.int .i64 0, .int .i64 0, .string ⟨#[97, 97]⟩, .string ⟨#[66]⟩, .int .i64 2], fun v _ => v = .agg #[.int .i64 0, .int .i64 0], fun v _ => v = .agg #[.int .i64 0, .int .i64 0, .string ⟨#[98]⟩, .string ⟨#[98]⟩, .int .i64 1], fun v _ => v = .agg #[.int .i64 0, .int .i64 0, .string ⟨#[98]⟩, .string ⟨#[]⟩, .int .i64 20], RowN wb.heap.size [⟨0, 0, ⟨#[97]⟩, ⟨#[97]⟩, 1⟩, ⟨0, 0, ⟨#[97]⟩, ⟨#[65]⟩, 1⟩, ⟨0, 0, ⟨#[97, 97]⟩, ⟨#[66]⟩, 2⟩, ⟨0, 0, ⟨#[98]⟩, ⟨#[98]⟩, 1⟩, ⟨0, 0, ⟨#[98]⟩, ⟨#[]⟩, 20⟩], fun v _ => v = .pointer (some ⟨w.heap.size + 1, 2, none⟩)]) (fun _ W => Below wb.heap.size wb W) (fun W W' => Ext W W') 78 9 11 (by kernel_rfl) rfl (by omega) ?hVx ?hVm ?hSx ?hS ?hop ?hlast
      case hVx => exact vs_stays (by simp only [List.mem_cons, List.not_mem_nil, or_false, forall_eq_or_imp, forall_eq]; exact ⟨stays_const _, stays_const _, stays_const _, stays_const _, stays_const _, stays_const _, stays_const _, stays_const _, stays_const _, rowN_stays _ _, stays_const _⟩)
      case hVm => exact fun i v w w' _ h hx => vs_stays (by simp only [List.mem_cons, List.not_mem_nil, or_false, forall_eq_or_imp, forall_eq]; exact ⟨stays_const _, stays_const _, stays_const _, stays_const _, stays_const _, stays_const _, stays_const _, stays_const _, stays_const _, rowN_stays _ _, stays_const _⟩) i v w w' h hx
      case hSx => exact fun bo W W' h hx => h.trans (Below.mono hx h.size)
      case hS => exact Below.refl _ _
      case hop =>
        refine ⟨?_, ?_, ?_, ?_, ?_, ?_, ?_, ?_, ?_, ?_, ?_, ?_, trivial⟩
        all_goals first | rw [if_neg (by decide), if_neg (by decide)] | rw [if_neg (by decide), if_pos (by decide)] | rw [if_pos (by decide)]
        · intro A W bo hsz hS hdep hbase
          have h4 : A.tmps.getD 4 undef = .pointer (some ⟨w.heap.size + 1 + 1, 0, none⟩) := hbase 4 (by kernel_rfl)
          have h3 : A.tmps.getD 3 undef = .pointer (some ⟨w.heap.size + 1, 0, none⟩) := hbase 3 (by kernel_rfl)
          obtain ⟨z0, z1⟩ := cells2 ((hS.block (w.heap.size + 1 + 1) (by omega)).trans HG2.out)
          clear hbase
          simp [slotOf, Region.binds, Vs] at hdep
          refine opOk_run rfl (.inl ⟨_, W, ?_, rfl, Ext.refl _⟩); clear hsz hS; simp [go_sem, Act.eval, *]
        · intro A W bo hsz hS hdep hbase
          have h4 : A.tmps.getD 4 undef = .pointer (some ⟨w.heap.size + 1 + 1, 0, none⟩) := hbase 4 (by kernel_rfl)
          have h3 : A.tmps.getD 3 undef = .pointer (some ⟨w.heap.size + 1, 0, none⟩) := hbase 3 (by kernel_rfl)
          obtain ⟨z0, z1⟩ := cells2 ((hS.block (w.heap.size + 1 + 1) (by omega)).trans HG2.out)
          clear hbase
          simp [slotOf, Region.binds, Vs] at hdep
          refine opOk_run rfl (.inr ⟨53, #[.agg #[.int .i64 0, .int .i64 0], .string ⟨#[97]⟩, .string ⟨#[97]⟩], W, by (clear hsz hS; simp [go_sem, Act.eval, *]), ?_⟩)
          refine (simple_any 0 0 ⟨#[97]⟩ ⟨#[97]⟩ W (by decide)).mono ?_
          rintro e w' ⟨rfl, hb⟩
          exact ⟨_, rfl, rfl, hb⟩
        · intro A W bo hsz hS hdep hbase
          have h4 : A.tmps.getD 4 undef = .pointer (some ⟨w.heap.size + 1 + 1, 0, none⟩) := hbase 4 (by kernel_rfl)
          have h3 : A.tmps.getD 3 undef = .pointer (some ⟨w.heap.size + 1, 0, none⟩) := hbase 3 (by kernel_rfl)
          obtain ⟨z0, z1⟩ := cells2 ((hS.block (w.heap.size + 1 + 1) (by omega)).trans HG2.out)
          clear hbase
          simp [slotOf, Region.binds, Vs] at hdep
          refine opOk_run rfl (.inl ⟨_, W, ?_, rfl, Ext.refl _⟩); clear hsz hS; simp [go_sem, Act.eval, *]
        · intro A W bo hsz hS hdep hbase
          have h4 : A.tmps.getD 4 undef = .pointer (some ⟨w.heap.size + 1 + 1, 0, none⟩) := hbase 4 (by kernel_rfl)
          have h3 : A.tmps.getD 3 undef = .pointer (some ⟨w.heap.size + 1, 0, none⟩) := hbase 3 (by kernel_rfl)
          obtain ⟨z0, z1⟩ := cells2 ((hS.block (w.heap.size + 1 + 1) (by omega)).trans HG2.out)
          clear hbase
          simp [slotOf, Region.binds, Vs] at hdep
          refine opOk_run rfl (.inr ⟨53, #[.agg #[.int .i64 0, .int .i64 0], .string ⟨#[97]⟩, .string ⟨#[65]⟩], W, by (clear hsz hS; simp [go_sem, Act.eval, *]), ?_⟩)
          refine (simple_any 0 0 ⟨#[97]⟩ ⟨#[65]⟩ W (by decide)).mono ?_
          rintro e w' ⟨rfl, hb⟩
          exact ⟨_, rfl, rfl, hb⟩
        · intro A W bo hsz hS hdep hbase
          have h4 : A.tmps.getD 4 undef = .pointer (some ⟨w.heap.size + 1 + 1, 0, none⟩) := hbase 4 (by kernel_rfl)
          have h3 : A.tmps.getD 3 undef = .pointer (some ⟨w.heap.size + 1, 0, none⟩) := hbase 3 (by kernel_rfl)
          obtain ⟨z0, z1⟩ := cells2 ((hS.block (w.heap.size + 1 + 1) (by omega)).trans HG2.out)
          clear hbase
          simp [slotOf, Region.binds, Vs] at hdep
          refine opOk_run rfl (.inl ⟨_, W, ?_, rfl, Ext.refl _⟩); clear hsz hS; simp [go_sem, Act.eval, *]
        · intro A W bo hsz hS hdep hbase
          have h4 : A.tmps.getD 4 undef = .pointer (some ⟨w.heap.size + 1 + 1, 0, none⟩) := hbase 4 (by kernel_rfl)
          have h3 : A.tmps.getD 3 undef = .pointer (some ⟨w.heap.size + 1, 0, none⟩) := hbase 3 (by kernel_rfl)
          obtain ⟨z0, z1⟩ := cells2 ((hS.block (w.heap.size + 1 + 1) (by omega)).trans HG2.out)
          clear hbase
          simp [slotOf, Region.binds, Vs] at hdep
          refine opOk_run rfl (.inr ⟨53, #[.agg #[.int .i64 0, .int .i64 0], .string ⟨#[97, 97]⟩, .string ⟨#[66]⟩], W, by (clear hsz hS; simp [go_sem, Act.eval, *]), ?_⟩)
          refine (simple_any 0 0 ⟨#[97, 97]⟩ ⟨#[66]⟩ W (by decide)).mono ?_
          rintro e w' ⟨rfl, hb⟩
          exact ⟨_, rfl, rfl, hb⟩
        · intro A W bo hsz hS hdep hbase
          have h4 : A.tmps.getD 4 undef = .pointer (some ⟨w.heap.size + 1 + 1, 0, none⟩) := hbase 4 (by kernel_rfl)
          have h3 : A.tmps.getD 3 undef = .pointer (some ⟨w.heap.size + 1, 0, none⟩) := hbase 3 (by kernel_rfl)
          obtain ⟨z0, z1⟩ := cells2 ((hS.block (w.heap.size + 1 + 1) (by omega)).trans HG2.out)
          clear hbase
          simp [slotOf, Region.binds, Vs] at hdep
          refine opOk_run rfl (.inl ⟨_, W, ?_, rfl, Ext.refl _⟩); clear hsz hS; simp [go_sem, Act.eval, *]
        · intro A W bo hsz hS hdep hbase
          have h4 : A.tmps.getD 4 undef = .pointer (some ⟨w.heap.size + 1 + 1, 0, none⟩) := hbase 4 (by kernel_rfl)
          have h3 : A.tmps.getD 3 undef = .pointer (some ⟨w.heap.size + 1, 0, none⟩) := hbase 3 (by kernel_rfl)
          obtain ⟨z0, z1⟩ := cells2 ((hS.block (w.heap.size + 1 + 1) (by omega)).trans HG2.out)
          clear hbase
          simp [slotOf, Region.binds, Vs] at hdep
          refine opOk_run rfl (.inr ⟨53, #[.agg #[.int .i64 0, .int .i64 0], .string ⟨#[98]⟩, .string ⟨#[98]⟩], W, by (clear hsz hS; simp [go_sem, Act.eval, *]), ?_⟩)
          refine (simple_any 0 0 ⟨#[98]⟩ ⟨#[98]⟩ W (by decide)).mono ?_
          rintro e w' ⟨rfl, hb⟩
          exact ⟨_, rfl, rfl, hb⟩
        · intro A W bo hsz hS hdep hbase
          have h4 : A.tmps.getD 4 undef = .pointer (some ⟨w.heap.size + 1 + 1, 0, none⟩) := hbase 4 (by kernel_rfl)
          have h3 : A.tmps.getD 3 undef = .pointer (some ⟨w.heap.size + 1, 0, none⟩) := hbase 3 (by kernel_rfl)
          obtain ⟨z0, z1⟩ := cells2 ((hS.block (w.heap.size + 1 + 1) (by omega)).trans HG2.out)
          clear hbase
          simp [slotOf, Region.binds, Vs] at hdep
          refine opOk_run rfl (.inl ⟨_, W, ?_, rfl, Ext.refl _⟩); clear hsz hS; simp [go_sem, Act.eval, *]
        · intro A W hsz hS hdep hbase
          have h4 : A.tmps.getD 4 undef = .pointer (some ⟨w.heap.size + 1 + 1, 0, none⟩) := hbase 4 (by kernel_rfl)
          have h3 : A.tmps.getD 3 undef = .pointer (some ⟨w.heap.size + 1, 0, none⟩) := hbase 3 (by kernel_rfl)
          obtain ⟨z0, z1⟩ := cells2 ((hS.block (w.heap.size + 1 + 1) (by omega)).trans HG2.out)
          clear hbase
          simp [slotOf, Region.binds, Vs] at hdep
          refine ⟨rfl, .inl ⟨.slice (some ⟨W.heap.size, 0, none⟩) 5 5, W.alloc (.cells #[.int .i64 0, .int .i64 0, .string ⟨#[97]⟩, .string ⟨#[97]⟩, .int .i64 1, .int .i64 0, .int .i64 0, .string ⟨#[97]⟩, .string ⟨#[65]⟩, .int .i64 1, .int .i64 0, .int .i64 0, .string ⟨#[97, 97]⟩, .string ⟨#[66]⟩, .int .i64 2, .int .i64 0, .int .i64 0, .string ⟨#[98]⟩, .string ⟨#[98]⟩, .int .i64 1, .int .i64 0, .int .i64 0, .string ⟨#[98]⟩, .string ⟨#[]⟩, .int .i64 20] 29), ?_, ⟨W.heap.size, rfl, heap_alloc_new _ _, hS.size⟩, (Below.refl _ _).alloc (Nat.le_refl _) _, hS.trans (((Below.refl _ W).alloc (Nat.le_refl _) _).mono hS.size)⟩⟩
          clear hsz hS; simp [go_sem, Act.eval, *]
        · intro A W bo hsz hS hdep hbase
          have h4 : A.tmps.getD 4 undef = .pointer (some ⟨w.heap.size + 1 + 1, 0, none⟩) := hbase 4 (by kernel_rfl)
          have h3 : A.tmps.getD 3 undef = .pointer (some ⟨w.heap.size + 1, 0, none⟩) := hbase 3 (by kernel_rfl)
          obtain ⟨z0, z1⟩ := cells2 ((hS.block (w.heap.size + 1 + 1) (by omega)).trans HG2.out)
          clear hbase
          simp [slotOf, Region.binds, Vs] at hdep
          refine opOk_run rfl (.inl ⟨_, W, ?_, rfl, Ext.refl _⟩); clear hsz hS; simp [go_sem, Act.eval, *]
        · trivial
      case hlast =>
        intro A1 W hsz hdf hS hv hbase
        have hb9 : RowN wb.heap.size [⟨0, 0, ⟨#[97]⟩, ⟨#[97]⟩, 1⟩, ⟨0, 0, ⟨#[97]⟩, ⟨#[65]⟩, 1⟩, ⟨0, 0, ⟨#[97, 97]⟩, ⟨#[66]⟩, 2⟩, ⟨0, 0, ⟨#[98]⟩, ⟨#[98]⟩, 1⟩, ⟨0, 0, ⟨#[98]⟩, ⟨#[]⟩, 20⟩] (A1.tmps.getD 18 undef) W := hv 9 (by decide)
        obtain ⟨g, e9, hg, hgB⟩ := hb9
        have e10 : A1.tmps.getD 19 undef = .pointer (some ⟨w.heap.size + 1, 2, none⟩) := hv 10 (by decide)
        have hrep := (hS.block (w.heap.size + 1) (by omega)).trans HG1.out
        refine wpOp_store rfl rfl rfl rfl (eval_tmp e10) (eval_tmp e9) (by simp [World.frozen?, hrep]) (cells3 hrep).2.2 (by kernel_rfl) ?_
        obtain ⟨x, hx, hA⟩ := act_puts [9, 10, 11, 12, 13, 14, 15, 16, 17, 18, 19] (by kernel_rfl) hsz hdf hbase
        rw [hA]
        simp only [List.foldl]
        simp only [Act.put, List.setIfInBounds_toArray, List.set_cons_succ, List.set_cons_zero]
        clear hA hx hv hbase hsz hdf
        go_wp2_with fail
        go_meet
        refine ⟨_, rfl, 1, [⟨0, 0, ⟨#[97]⟩, ⟨#[97]⟩, 1⟩, ⟨0, 0, ⟨#[97]⟩, ⟨#[65]⟩, 1⟩, ⟨0, 0, ⟨#[97, 97]⟩, ⟨#[66]⟩, 2⟩, ⟨0, 0, ⟨#[98]⟩, ⟨#[98]⟩, 1⟩, ⟨0, 0, ⟨#[98]⟩, ⟨#[]⟩, 20⟩], g, by omega, by omega, by decide, by decide, hgB, ?_, set_one hrep rfl, (hS.mono (by omega)).setCell (by show _ ≤ w.heap.size + 1; omega) _⟩
        rw [Below.heap_setCell _ _ _ _ (by show g ≠ w.heap.size + 1; omega)]
        exact hg
  case rest =>
    obtain ⟨wc, rfl, mo, R, g, h1, h2, h3, h4, hgB, hg, hrep, hbc⟩ := hcut
    have HR := Lib.hid hg
    have HREP := Lib.hid hrep
    have hres := (hbc.block w.heap.size (by omega)).trans HG0.out
    have HRES := Lib.hid hres
    obtain ⟨c0, c1, c2⟩ := cells3 hrep
    obtain ⟨y0, y1, y2⟩ := cells3 hres
    have yf : ∀ i, wc.frozen? ⟨w.heap.size, i, none⟩ = false := fun i => by simp [World.frozen?, HRES.out]
    have HBC := Lib.hid hbc
    clear hg hrep hres hbc
    go_wp2_with fail
    obtain ⟨r0, r1, r2⟩ := cells3 (set3 (a := .int .i64 mo) (b := .int .u8 1) (c := .slice (some ⟨g, 0, none⟩) R.length R.length) HRES.out)
    refine bodyPost_ret (v := .agg #[.int .i64 mo, .int .u8 1, .slice (some ⟨g, 0, none⟩) R.length R.length]) (by simp [results, Try.results33, go_sem, r0, r1, r2]) rfl (base_end (B := wb.heap.size) ?_ hgB (by omega) h1 h2 h3 h4 ?_)
    · rw [Below.heap_setCell _ _ _ _ (by show g ≠ w.heap.size; omega), Below.heap_setCell _ _ _ _ (by show g ≠ w.heap.size; omega), Below.heap_setCell _ _ _ _ (by show g ≠ w.heap.size; omega)]
      exact HR.out
    · exact (((hbw.trans (HBC.out.mono (by omega))).setCell (by simp) _).setCell (by simp) _).setCell (by simp) _
end Go.Proofs.Ytogjcfcfgnbmkaa
