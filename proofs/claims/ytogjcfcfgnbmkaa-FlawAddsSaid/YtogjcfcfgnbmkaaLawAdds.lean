/- The walk of FlawAdds: true. -/
import Derived.Test.YtogjcfcfgnbmkaaAppE
import Derived.Test.YtogjcfcfgnbmkaaViews
import Derived.Test.YtogjcfcfgnbmkaaPlainD
namespace Go.Proofs.Ytogjcfcfgnbmkaa
open Go.RowKit
set_option linter.unusedVariables false
set_option linter.unusedSimpArgs false

/-- a copy of a scheme's rules, built and stored: what lies in the new block -/
def CopyS (S : Sch) (v : Value) (W : World) : Prop := ∃ a n c, v = .agg #[.int .i64 S.modes, .int .u8 S.acc, .slice a n c] ∧ OwnR W 0 (.slice a n c) S.rules
/-- the further rules -/
def QOk (M : Int) (Q : List Rl) : Prop := ∀ j (h : j < Q.length), ∃ f t c, Q[j] = zR j f t c ∧ 0 ≤ f ∧ f < M ∧ 0 ≤ t ∧ t < M ∧ 0 ≤ c ∧ c ≤ 255
theorem qOk_snoc {M : Int} {Q : List Rl} {f t c : Int} (h : QOk M Q) (f0 : 0 ≤ f) (f1 : f < M) (t0 : 0 ≤ t) (t1 : t < M) (c0 : 0 ≤ c) (c1 : c ≤ 255) : QOk M (Q ++ [zR Q.length f t c]) := by
  intro j hj
  by_cases e : j < Q.length
  · rw [List.getElem_append_left e]; exact h j e
  · obtain rfl : j = Q.length := by simp at hj; omega
    rw [List.getElem_append_right (Nat.le_refl _)]
    exact ⟨f, t, c, by simp, f0, f1, t0, t1, c0, c1⟩
theorem qOk_mem {M : Int} {Q : List Rl} (h : QOk M Q) {r : Rl} (hr : r ∈ Q) : ∃ j f t c, j < Q.length ∧ r = zR j f t c ∧ 0 ≤ f ∧ f < M ∧ 0 ≤ t ∧ t < M ∧ 0 ≤ c ∧ c ≤ 255 := by
  obtain ⟨j, hj, rfl⟩ := List.getElem_of_mem hr
  obtain ⟨f, t, c, h1, h2⟩ := h j hj
  exact ⟨j, f, t, c, hj, h1, h2⟩
theorem qOk_valid {S : Sch} {Q : List Rl} (hv : validB S = true) (hok : ∀ r ∈ S.rules, RlOk r) (hl : S.rules.length ≤ 12) (hq : QOk S.modes Q) (h6 : Q.length ≤ 6) : validB (addS S Q) = true := by
  refine add_valid hv (by rw [List.length_append]; omega) (fun r hr => ?_) ?_ (fun q hq1 r hr => ?_)
  · obtain ⟨j, f, t, c, hj, rfl, h1, h2, h3, h4, h5, h7⟩ := qOk_mem hq hr
    exact z_right (by omega) h1 h2 h3 h4 h5 h7
  · rw [List.pairwise_iff_getElem]
    intro i j hi hj hij
    obtain ⟨f, t, c, h1, _⟩ := hq i hi
    obtain ⟨f2, t2, c2, h2, _⟩ := hq j hj
    rw [h1, h2]
    exact z_z (by omega) (by omega) (by omega)
  · obtain ⟨j, f, t, c, hj, rfl, _⟩ := qOk_mem hq hr
    exact z_other (hok q hq1).1.2
theorem qOk_letters {M : Int} {Q : List Rl} (h : QOk M Q) : ∀ r ∈ Q, emptyR r = false := by
  intro r hr
  obtain ⟨j, f, t, c, _, rfl, _⟩ := qOk_mem h hr
  exact z_empty
structure RowsA where
  a : Option Addr
  len : Nat
  cap : Nat
  Z : Nat → Nat → Int
def RowsA.val (x : RowsA) : Value := .slice x.a x.len x.cap
def RowsOk (w : World) (x : RowsA) : Prop := IsRows .u8 3 w x.a x.len x.Z
open Go.ChangeShapes Go.WideShapes Go.ChangeAt in
theorem open_rows3 {H : Type} {enc : TypeId × Value → H} {w : World} {base : Nat} {spare : Nat → Bool} {held : Bool} {d : DataW H} {p : List MemPlace} {r : Reach} {b0 : Nat} {v : Value} (hv : Value.okWide Try.prog w r b0 22 v) (h : DataW.Trod enc Try.prog w base spare held 22 v d p) : ∃ x : RowsA, v = x.val ∧ RowsOk w x := by
  obtain ⟨a, len, cap, Z, rfl, hz⟩ := open_rows Try.underlying22 Try.underlying63 Try.underlying5 (by kernel_rfl) (by kernel_rfl) (by decide) hv h
  exact ⟨⟨a, len, cap, Z⟩, rfl, hz⟩
def nmB (k : Nat) : ByteArray := ⟨#[UInt8.ofNat (97 + k)]⟩
theorem name_run (k : Nat) (hk : k < 6) (W : World) : (Instr.slice 9 (.string ⟨#[97, 98, 99, 100, 101, 102]⟩) (some (.int .i64 (k : Int))) (some (.int .i64 ((k : Int) + 1))) none).run Try.prog W = .ok (.string (nmB k)) W := by
  rcases (show k = 0 ∨ k = 1 ∨ k = 2 ∨ k = 3 ∨ k = 4 ∨ k = 5 by omega) with rfl | rfl | rfl | rfl | rfl | rfl <;> kernel_rfl
theorem z_cat (k : Nat) (hk : k < 6) : (⟨#[122]⟩ : ByteArray) ++ nmB k = zIn k := by
  rcases (show k = 0 ∨ k = 1 ∨ k = 2 ∨ k = 3 ∨ k = 4 ∨ k = 5 by omega) with rfl | rfl | rfl | rfl | rfl | rfl <;> first | rfl | decide | kernel_rfl
theorem nm_size (k : Nat) : (nmB k).size = 1 := rfl
set_option maxHeartbeats 6400000 in
set_option maxRecDepth 100000 in
theorem flawAdds_any (M A : Int) (a : Option Addr) (len cap : Nat) (Z : Nat → Nat → Int) (mo : Int) (al : Option Addr) (ll cl : Nat) (Y : Nat → Nat → Int) (w : World) (hM0 : 0 ≤ M) (hM1 : M ≤ 255) (hA0 : 0 ≤ A) (hA1 : A ≤ 255) (hZ : IsRows .u8 3 w a len Z) (hm0 : 0 ≤ mo) (hm1 : mo ≤ 255) (hY : IsRows .u8 3 w al ll Y) :
    Calls Try.prog 8 #[.agg #[.int .u8 M, .int .u8 A, .slice a len cap], .int .u8 mo, .slice al ll cl] w fun e w' => e = .returned (.bool true) ∧ Below w.heap.size w w' := by
  have HZ := Lib.hid hZ; have HY := Lib.hid hY; clear hZ hY
  go_enter Try.func8, Try.ntmps8
  go_wp2_with fail
  refine (sanity_any _).mono ?_
  rintro e w1 ⟨rfl, hb⟩
  obtain ⟨hz, hc, hf⟩ := bcell hb (by first | (simp only [World.size_alloc]; rfl) | rfl)
  have hB := below_call (B := w.heap.size) (w := w) (by go_grown) hb (Nat.le_refl _)
  have HAL1 : Hid (Below (w.heap.size + 1) (w.alloc (.cells #[.int .u8 M, .int .u8 A, .slice a len cap] 24)) w1) := hb.mono (by simp only [World.size_alloc]; omega)
  clear hb
  go_wp2_with fail
  refine (made_any M A a len cap _ hM0 hM1 hA0 hA1 Z (isRows_later HZ.out hB (Nat.le_refl _))).mono ?_
  rintro e w2 ⟨S, b, c, rfl, hv, hmo1, hm5, ha0, ha1, hl12, hok, hown, hb⟩
  have HFit := Lib.hid (fit_of hv (by omega) ha1)
  have HV := Lib.hid hv
  have HF : Hid (findF S = ⟨deadF S S.rules.length, stuckF S, endF S⟩) := by show _ = _; rw [findF, if_pos hv]
  have hB2 := hB.trans (hb.mono hB.size)
  have HLW0 := Lib.hid (lw_new (M0 := (w.alloc (.cells #[.int .u8 M, .int .u8 A, .slice a len cap] 24))) (hown.mono hB.size) (HAL1.out.trans (hb.mono hz)) (Nat.le_trans hz hb.size))
  have hl63 : S.rules.length ≤ 9223372036854775807 := by omega
  clear hc hf hv hown hb hB
  obtain ⟨hz2, hc, hf⟩ := bcellB HLW0.out.bl rfl
  have hz3 : w.heap.size + 1 ≤ w2.heap.size := HLW0.out.gm
  have HOK := Lib.hid hok
  clear hok
  obtain ⟨d0, d1, d2⟩ := HLW0.out.cells
  obtain ⟨m, hm⟩ : ∃ m : Nat, mo % S.modes = (m : Int) := ⟨(mo % S.modes).toNat, by have := Int.emod_nonneg mo (show S.modes ≠ 0 by omega); omega⟩
  have hmlt : (m : Int) < S.modes := by rw [← hm]; exact Int.emod_lt_of_pos mo (by omega)
  obtain ⟨wa, hwa⟩ : ∃ wa, wa = w2.alloc (.cells #[.int .i64 S.modes, .int .u8 S.acc, .slice b S.rules.length c] 33) := ⟨_, rfl⟩
  have HLWa : Hid (LW w (w.alloc (.cells #[.int .u8 M, .int .u8 A, .slice a len cap] 24)) w2.heap.size S b c wa) := by show LW _ _ _ _ _ _ _; rw [hwa]; exact HLW0.out
  have hBa : Below w.heap.size w wa := by rw [hwa]; exact hB2.trans (((Below.refl _ w2).alloc (Nat.le_refl _) _).mono hB2.size)
  have HWA := Lib.hid hwa
  have HM := Lib.hid hm
  clear hwa
  go_upto_region 4 with fail
  simp only [hm]
  rw [← HWA.out]
  clear hc hf d0 d1 d2 hz2 hm
  refine wp_region_mid (by kernel_rfl) (Vs [fun v _ => v = .pointer (some ⟨w2.heap.size, 0, none⟩), fun v _ => v = .int .i64 S.modes, fun v _ => v = .pointer (some ⟨w2.heap.size, 1, none⟩), fun v _ => v = .int .u8 S.acc, RowE wa.heap.size 29, fun v _ => v = .pointer (some ⟨w2.heap.size, 2, none⟩), fun v _ => v = .slice b S.rules.length c, RowR wa.heap.size S.rules, SchR wa.heap.size S, New3 wa.heap.size (.int .i64 0) (.int .u8 0) (.slice none 0 0) 33]) (fun _ W => Below wa.heap.size wa W) (fun W W' => Ext W W') 141 9 10 (by kernel_rfl) rfl (by omega) ?hVx ?hVm ?hSx ?hS ?hop ?hlast
  case hVx => exact vs_stays (by simp only [List.mem_cons, List.not_mem_nil, or_false, forall_eq_or_imp, forall_eq]; exact ⟨stays_const _, stays_const _, stays_const _, stays_const _, rowE_stays _ _, stays_const _, stays_const _, rowR_stays _ _, schR_stays _ _, new3_stays _ _ _ _ _⟩)
  case hVm => exact fun i v w w' _ h hx => vs_stays (by simp only [List.mem_cons, List.not_mem_nil, or_false, forall_eq_or_imp, forall_eq]; exact ⟨stays_const _, stays_const _, stays_const _, stays_const _, rowE_stays _ _, stays_const _, stays_const _, rowR_stays _ _, schR_stays _ _, new3_stays _ _ _ _ _⟩) i v w w' h hx
  case hSx => exact fun bo W W' h hx => h.trans (Below.mono hx h.size)
  case hS => exact Below.refl _ _
  case hop =>
    refine ⟨?_, ?_, ?_, ?_, ?_, ?_, ?_, ?_, ?_, ?_, ?_, trivial⟩
    all_goals first | rw [if_neg (by decide), if_neg (by decide)] | rw [if_neg (by decide), if_pos (by decide)] | rw [if_pos (by decide)]
    · intro A W bo hsz hS hdep hbase
      have hlw := HLWa.out.below hS
      obtain ⟨d0', d1', d2'⟩ := hlw.cells
      have h8 : A.tmps.getD 8 undef = .pointer (some ⟨w2.heap.size, 0, none⟩) := hbase 8 (by kernel_rfl)
      clear hbase
      simp [slotOf, Region.binds, Vs] at hdep
      refine opOk_run rfl (.inl ⟨_, W, ?_, rfl, Ext.refl _⟩); clear hsz hS hlw; simp [go_sem, Act.eval, *]
    · intro A W bo hsz hS hdep hbase
      have hlw := HLWa.out.below hS
      obtain ⟨d0', d1', d2'⟩ := hlw.cells
      have h8 : A.tmps.getD 8 undef = .pointer (some ⟨w2.heap.size, 0, none⟩) := hbase 8 (by kernel_rfl)
      clear hbase
      simp [slotOf, Region.binds, Vs] at hdep
      refine opOk_run rfl (.inl ⟨_, W, ?_, rfl, Ext.refl _⟩); clear hsz hS hlw; simp [go_sem, Act.eval, *]
    · intro A W bo hsz hS hdep hbase
      have hlw := HLWa.out.below hS
      obtain ⟨d0', d1', d2'⟩ := hlw.cells
      have h8 : A.tmps.getD 8 undef = .pointer (some ⟨w2.heap.size, 0, none⟩) := hbase 8 (by kernel_rfl)
      clear hbase
      simp [slotOf, Region.binds, Vs] at hdep
      refine opOk_run rfl (.inl ⟨_, W, ?_, rfl, Ext.refl _⟩); clear hsz hS hlw; simp [go_sem, Act.eval, *]
    · intro A W bo hsz hS hdep hbase
      have hlw := HLWa.out.below hS
      obtain ⟨d0', d1', d2'⟩ := hlw.cells
      have h8 : A.tmps.getD 8 undef = .pointer (some ⟨w2.heap.size, 0, none⟩) := hbase 8 (by kernel_rfl)
      clear hbase
      simp [slotOf, Region.binds, Vs] at hdep
      refine opOk_run rfl (.inl ⟨_, W, ?_, rfl, Ext.refl _⟩); clear hsz hS hlw; simp [go_sem, Act.eval, *]
    · intro A W bo hsz hS hdep hbase
      have hlw := HLWa.out.below hS
      obtain ⟨d0', d1', d2'⟩ := hlw.cells
      have h8 : A.tmps.getD 8 undef = .pointer (some ⟨w2.heap.size, 0, none⟩) := hbase 8 (by kernel_rfl)
      clear hbase
      simp [slotOf, Region.binds, Vs] at hdep
      refine opOk_run rfl (.inl ⟨.slice (some ⟨W.heap.size, 0, none⟩) 0 0, W.alloc (.cells #[] 29), ?_, ⟨W.heap.size, rfl, heap_alloc_new _ _, hS.size⟩, (Below.refl _ _).alloc (Nat.le_refl _) _⟩)
      clear hsz hS hlw; simp [go_sem, Act.eval, *]
    · intro A W bo hsz hS hdep hbase
      have hlw := HLWa.out.below hS
      obtain ⟨d0', d1', d2'⟩ := hlw.cells
      have h8 : A.tmps.getD 8 undef = .pointer (some ⟨w2.heap.size, 0, none⟩) := hbase 8 (by kernel_rfl)
      clear hbase
      simp [slotOf, Region.binds, Vs] at hdep
      refine opOk_run rfl (.inl ⟨_, W, ?_, rfl, Ext.refl _⟩); clear hsz hS hlw; simp [go_sem, Act.eval, *]
    · intro A W bo hsz hS hdep hbase
      have hlw := HLWa.out.below hS
      obtain ⟨d0', d1', d2'⟩ := hlw.cells
      have h8 : A.tmps.getD 8 undef = .pointer (some ⟨w2.heap.size, 0, none⟩) := hbase 8 (by kernel_rfl)
      clear hbase
      simp [slotOf, Region.binds, Vs] at hdep
      refine opOk_run rfl (.inl ⟨_, W, ?_, rfl, Ext.refl _⟩); clear hsz hS hlw; simp [go_sem, Act.eval, *]
    · intro A W bo hsz hS hdep hbase
      have hlw := HLWa.out.below hS
      obtain ⟨d0', d1', d2'⟩ := hlw.cells
      have h8 : A.tmps.getD 8 undef = .pointer (some ⟨w2.heap.size, 0, none⟩) := hbase 8 (by kernel_rfl)
      have hb4 : RowE wa.heap.size 29 (A.tmps.getD 27 undef) W := hdep ⟨4, .data⟩ (by simp) rfl
      have hb6 : A.tmps.getD 29 undef = .slice b S.rules.length c := hdep ⟨6, .data⟩ (by simp) rfl
      obtain ⟨g4, e4, hg4, hB4⟩ := hb4
      refine opOk_run rfl ((opres_copy_rules rfl (eval_tmp e4) hg4 (eval_tmp hb6) hlw.own (by omega)).mono fun v w' h => ⟨?_, h.2⟩)
      obtain ⟨a9, c9, e9, _, _⟩ := h.1.rules
      refine ⟨a9, S.rules.length, c9, e9, ?_⟩
      have h9 := h.1
      rw [e9] at h9
      exact h9.mono hB4
    · intro A W bo hsz hS hdep hbase
      have hlw := HLWa.out.below hS
      obtain ⟨d0', d1', d2'⟩ := hlw.cells
      have h8 : A.tmps.getD 8 undef = .pointer (some ⟨w2.heap.size, 0, none⟩) := hbase 8 (by kernel_rfl)
      have hb1 : A.tmps.getD 24 undef = .int .i64 S.modes := hdep ⟨1, .data⟩ (by simp) rfl
      have hb3 : A.tmps.getD 26 undef = .int .u8 S.acc := hdep ⟨3, .data⟩ (by simp) rfl
      have hb7 : RowR wa.heap.size S.rules (A.tmps.getD 30 undef) W := hdep ⟨7, .data⟩ (by simp) rfl
      obtain ⟨a9, n9, c9, e9, ho9⟩ := hb7
      refine opOk_run rfl (.inl ⟨_, W, ?_, ⟨a9, n9, c9, rfl, ho9⟩, Ext.refl _⟩)
      rw [Array.getD_eq_getD_getElem?] at hb1 hb3 e9
      clear hsz hS hlw hbase hdep; simp [go_sem, Act.eval, *]
    · intro A W hsz hS hdep hbase
      refine ⟨rfl, .inl ⟨.pointer (some ⟨W.heap.size, 0, none⟩), W.alloc (.cells #[.int .i64 0, .int .u8 0, .slice none 0 0] 33), ?_, ⟨W.heap.size, rfl, heap_alloc_new _ _, hS.size⟩, (Below.refl _ _).alloc (Nat.le_refl _) _, hS.trans (((Below.refl _ W).alloc (Nat.le_refl _) _).mono hS.size)⟩⟩
      clear hsz hS hdep hbase; simp [go_sem, Act.eval]
    · trivial
  case hlast =>
    intro A1 W hsz hdf hS hv hbase
    have ha9 : New3 wa.heap.size (.int .i64 0) (.int .u8 0) (.slice none 0 0) 33 (A1.tmps.getD 10 undef) W := hv 9 (by decide)
    have hb9 : SchR wa.heap.size S (A1.tmps.getD 31 undef) W := hv 8 (by decide)
    obtain ⟨gt, eg, hgr, hgB⟩ := ha9
    obtain ⟨ax, nx, cx, ex, hox⟩ := hb9
    refine wpOp_store_sch rfl rfl rfl rfl (eval_tmp eg) (eval_tmp ex) hgr (by kernel_rfl) ?_
    have HTX := Lib.hid (tx_new hS hgr hgB hox)
    obtain ⟨x, hx, hA⟩ := act_puts [23, 24, 25, 26, 27, 28, 29, 30, 31, 10] (by kernel_rfl) hsz hdf hbase
    have ee : x 10 = .pointer (some ⟨gt, 0, none⟩) := (hx 10).trans eg
    obtain ⟨wz, hwz⟩ : ∃ wz, wz = ((W.setCell ⟨gt, 0, none⟩ (.int .i64 S.modes)).setCell ⟨gt, 1, none⟩ (.int .u8 S.acc)).setCell ⟨gt, 2, none⟩ (.slice ax nx cx) := ⟨_, rfl⟩
    rw [← hwz] at HTX ⊢
    rw [hA]
    simp only [List.foldl]
    rw [ee]
    simp only [Act.put, List.setIfInBounds_toArray, List.set_cons_succ, List.set_cons_zero]
    clear hA hx hv hbase hsz hdf hwz ee eg ex hox hgr hS
    have HLWz := Lib.hid (HLWa.out.below HTX.out.bl)
    have hBz := hBa.trans (HTX.out.bl.mono hBa.size)
    obtain ⟨hzz, hc, hf⟩ := bcellB HLWz.out.bl rfl
    obtain ⟨d0, d1, d2⟩ := HLWz.out.cells
    obtain ⟨s0, s1, s2⟩ := HTX.out.cells
    have hgs := HTX.out.gs
    have hzr : (zzR (m : Int)).frm = (m : Int) := rfl
    go_upto_region 6 with (first
      | (at_builtin; refine wpList_append_rule rfl _ _ rfl wa.heap.size (.slice ax nx cx) S.rules (zzR (m : Int)) rfl (HTX.out.own.below ((Below.refl _ wz).alloc (Nat.le_refl _) _) HTX.out.own.lt) wz.heap.size rfl (heap_alloc_new _ _) (by omega) (by have := HTX.out.bl.size; simp only [World.size_alloc]; omega) ?_; intro v5 w5 hown5 hgrow5; obtain ⟨R5, hR5⟩ : ∃ R5, R5 = S.rules ++ [zzR (m : Int)] := ⟨_, rfl⟩; rw [← hR5] at hown5; obtain ⟨b5, c5, hv5, hrs5, hcp5⟩ := hown5.rules; subst hv5; have HT5 := Lib.hid ((HTX.out.toTX0.below ((Below.refl _ wz).alloc (Nat.le_refl _) (.cells #[.int .i64 (m : Int), .int .i64 (m : Int), .string ⟨#[]⟩, .string ⟨#[122, 122]⟩, .int .i64 0] 29))).grown hgrow5 HTX.out.own.ge (HTX.out.own.ne_of HTX.out.rep)); have HO5 := Lib.hid hown5; have HR5 := Lib.hid hR5; have HTX5 := Lib.hid (HT5.out.put hown5); clear hc hf d0 d1 d2 s0 s1 s2 hrs5 hcp5 hown5 hgrow5 hR5 hzz; obtain ⟨s0, s1, s2⟩ := HT5.out.cells; have sf := HT5.out.free)
      | fail)
    obtain ⟨w6, hw6⟩ : ∃ w6, w6 = w5.setCell ⟨gt, 2, none⟩ (.slice b5 R5.length c5) := ⟨_, rfl⟩
    have HTX6 : Hid (TX wa wa.heap.size gt S.modes S.acc (.slice b5 R5.length c5) R5 w6) := by rw [hw6]; exact HTX5.out
    rw [← hw6]
    clear hw6 s0 s1 s2 sf hzr hgs
    have HLW6 := Lib.hid (HLWa.out.below HTX6.out.bl)
    have hB6 := hBa.trans (HTX6.out.bl.mono hBa.size)
    obtain ⟨hzz, hc, hf⟩ := bcellB HLW6.out.bl rfl
    obtain ⟨d0, d1, d2⟩ := HLW6.out.cells
    obtain ⟨s0, s1, s2⟩ := HTX6.out.cells
    obtain ⟨mm, hmm⟩ : ∃ mm, S.modes.toNat = mm := ⟨_, rfl⟩
    have HMM := Lib.hid hmm
    have hmm1 : m < mm := by omega
    obtain ⟨lm, hlm⟩ : ∃ lm, (liveS S).testBit m = lm := ⟨_, rfl⟩
    have HLM := Lib.hid hlm
    obtain ⟨rb, hrb⟩ : ∃ rb, (reachS S).testBit m = rb := ⟨_, rfl⟩
    have HRB := Lib.hid hrb
    clear hlm hrb hmm
    go_cut [58] (fun q wx => ∃ wc : World, wc = wx ∧ q = .bool false ∧ Below w6.heap.size w6 wc)
    case first =>
      cases lm with
      | false =>
        go_wp2_with fail
        refine (rlive_any S b c _ HLW6.out.rul HFit.out).mono ?_
        rintro e w7 ⟨v, rfl, ⟨gl, hv, hg3, hmask⟩, hb⟩
        rw [HMM.out] at hmask hv
        subst hv
        have q0 := mask_cell hmask (i := m) hmm1
        rw [HLM.out] at q0
        have hidm := idx_mask gl mm m hmm1
        have HLW7 := Lib.hid (HLW6.out.below hb)
        have HTX7 := Lib.hid (HTX6.out.below hb)
        have HB7 := Lib.hid hb
        clear hc hf d0 d1 d2 s0 s1 s2 hzz hb hmask
        obtain ⟨hzz, hc, hf⟩ := bcellB HLW7.out.bl rfl
        obtain ⟨d0, d1, d2⟩ := HLW7.out.cells
        obtain ⟨s0, s1, s2⟩ := HTX7.out.cells
        go_wp2_with fail
        go_meet
        exact ⟨_, rfl, rfl, HB7.out⟩
      | true =>
        cases rb with
        | false =>
          go_wp2_with fail
          refine (rlive_any S b c _ HLW6.out.rul HFit.out).mono ?_
          rintro e w7 ⟨v, rfl, ⟨gl, hv, hg3, hmask⟩, hb⟩
          rw [HMM.out] at hmask hv
          subst hv
          have q0 := mask_cell hmask (i := m) hmm1
          rw [HLM.out] at q0
          have hidm := idx_mask gl mm m hmm1
          have HLW7 := Lib.hid (HLW6.out.below hb)
          have HTX7 := Lib.hid (HTX6.out.below hb)
          have HB7 := Lib.hid hb
          clear hc hf d0 d1 d2 s0 s1 s2 hzz hb hmask
          obtain ⟨hzz, hc, hf⟩ := bcellB HLW7.out.bl rfl
          obtain ⟨d0, d1, d2⟩ := HLW7.out.cells
          obtain ⟨s0, s1, s2⟩ := HTX7.out.cells
          go_wp2_with fail
          refine (rreached_any S b c 0 _ HLW7.out.rul HFit.out HFit.out.pos).mono ?_
          rintro e w8 ⟨v, rfl, ⟨gl2, hv, hg4, hmask2⟩, hb⟩
          rw [HMM.out] at hmask2 hv
          subst hv
          have q1 := mask_cell hmask2 (i := m) hmm1
          rw [show (reachFrom S 0).testBit m = _ from HRB.out] at q1
          have hidm2 := idx_mask gl2 mm m hmm1
          have HLW8 := Lib.hid (HLW7.out.below hb)
          have HTX8 := Lib.hid (HTX7.out.below hb)
          have HB8 := Lib.hid (HB7.out.trans (hb.mono HB7.out.size))
          clear hc hf d0 d1 d2 s0 s1 s2 hzz hb hmask2
          obtain ⟨hzz, hc, hf⟩ := bcellB HLW8.out.bl rfl
          obtain ⟨d0, d1, d2⟩ := HLW8.out.cells
          obtain ⟨s0, s1, s2⟩ := HTX8.out.cells
          go_wp2_with fail
          go_meet
          exact ⟨_, rfl, rfl, HB8.out⟩
        | true =>
          go_wp2_with fail
          refine (rlive_any S b c _ HLW6.out.rul HFit.out).mono ?_
          rintro e w7 ⟨v, rfl, ⟨gl, hv, hg3, hmask⟩, hb⟩
          rw [HMM.out] at hmask hv
          subst hv
          have q0 := mask_cell hmask (i := m) hmm1
          rw [HLM.out] at q0
          have hidm := idx_mask gl mm m hmm1
          have HLW7 := Lib.hid (HLW6.out.below hb)
          have HTX7 := Lib.hid (HTX6.out.below hb)
          have HB7 := Lib.hid hb
          clear hc hf d0 d1 d2 s0 s1 s2 hzz hb hmask
          obtain ⟨hzz, hc, hf⟩ := bcellB HLW7.out.bl rfl
          obtain ⟨d0, d1, d2⟩ := HLW7.out.cells
          obtain ⟨s0, s1, s2⟩ := HTX7.out.cells
          go_wp2_with fail
          refine (rreached_any S b c 0 _ HLW7.out.rul HFit.out HFit.out.pos).mono ?_
          rintro e w8 ⟨v, rfl, ⟨gl2, hv, hg4, hmask2⟩, hb⟩
          rw [HMM.out] at hmask2 hv
          subst hv
          have q1 := mask_cell hmask2 (i := m) hmm1
          rw [show (reachFrom S 0).testBit m = _ from HRB.out] at q1
          have hidm2 := idx_mask gl2 mm m hmm1
          have HLW8 := Lib.hid (HLW7.out.below hb)
          have HTX8 := Lib.hid (HTX7.out.below hb)
          have HB8 := Lib.hid (HB7.out.trans (hb.mono HB7.out.size))
          clear hc hf d0 d1 d2 s0 s1 s2 hzz hb hmask2
          obtain ⟨hzz, hc, hf⟩ := bcellB HLW8.out.bl rfl
          obtain ⟨d0, d1, d2⟩ := HLW8.out.cells
          obtain ⟨s0, s1, s2⟩ := HTX8.out.cells
          have HST : Hid ((⟨S.modes, S.acc, R5⟩ : Sch) = addS S [zzR (m : Int)]) := by show (⟨S.modes, S.acc, R5⟩ : Sch) = ⟨S.modes, S.acc, S.rules ++ [zzR (m : Int)]⟩; rw [HR5.out]
          have HVT : Hid (validB ⟨S.modes, S.acc, R5⟩ = true) := by
            show _ = _
            rw [HST.out]
            exact add_valid HV.out (by simp; omega) (fun r hr => by obtain rfl : r = zzR (m : Int) := (by simpa using hr); exact zz_right (by omega) hmlt) (by simp) (fun q hq r hr => by obtain rfl : r = zzR (m : Int) := (by simpa using hr); exact zz_other (S := S) (HOK.out q hq).2)
          have HFT5 : Hid (Fit ⟨S.modes, S.acc, R5⟩) := fit_of HVT.out (show 0 ≤ S.acc by omega) ha1
          have HEL : Hid ((findF ⟨S.modes, S.acc, R5⟩).endl.length = 1) := by
            show _ = _
            have h9 := HFT5.out
            rw [findF, if_pos HVT.out]
            rw [HST.out] at h9 ⊢
            exact add_endl HFit.out (by rw [HMM.out]; exact hmm1) HRB.out HLM.out h9
          have hl5 : R5.length ≤ 9223372036854775807 := by have := HR5.out; rw [this]; simp; omega
          go_wp2_with fail
          refine (find_any ⟨S.modes, S.acc, R5⟩ b5 c5 _ HTX8.out.own.ruls.1 (show 0 ≤ S.acc by omega) ha1 hl5 HTX8.out.own.ruls.2.2 (fun _ => HFT5.out)).mono ?_
          rintro e w9 ⟨v1, v2, v3, rfl, hc1, hc2, hc3, hb⟩
          obtain ⟨a1, n1, c1, rfl⟩ := hc1.form
          obtain ⟨a2, n2, c2, rfl⟩ := hc2.form
          obtain ⟨a3, n3, c3, rfl⟩ := hc3.form
          obtain rfl : n3 = 1 := hc3.sls.2.trans HEL.out
          have hfd := rep_field2 a1 a2 a3 n1 c1 n2 c2 1 c3
          have HB9 := Lib.hid (HB8.out.trans (hb.mono HB8.out.size))
          clear hb hc1 hc2 hc3
          go_wp2_with fail
          go_meet
          exact ⟨_, rfl, rfl, HB9.out⟩
    case rest =>
      clear hc hf d0 d1 d2 s0 s1 s2 hzz
      obtain ⟨wc, rfl, rfl, hbc⟩ := hcut
      have HLWc := Lib.hid (HLW6.out.below hbc)
      have hBc := hB6.trans (hbc.mono hB6.size)
      clear hbc
      go_upto_region 8 with fail
      refine wp_region_mid (by kernel_rfl) (Vs [fun v _ => v = .pointer (some ⟨w2.heap.size, 0, none⟩), fun v _ => v = .int .i64 S.modes, fun v _ => v = .pointer (some ⟨w2.heap.size, 1, none⟩), fun v _ => v = .int .u8 S.acc, RowE wc.heap.size 29, fun v _ => v = .pointer (some ⟨w2.heap.size, 2, none⟩), fun v _ => v = .slice b S.rules.length c, RowR wc.heap.size S.rules, SchR wc.heap.size S, New3 wc.heap.size (.int .i64 0) (.int .u8 0) (.slice none 0 0) 33]) (fun _ W => Below wc.heap.size wc W) (fun W W' => Ext W W') 141 9 10 (by kernel_rfl) rfl (by omega) ?hVx ?hVm ?hSx ?hS ?hop ?hlast
      case hVx => exact vs_stays (by simp only [List.mem_cons, List.not_mem_nil, or_false, forall_eq_or_imp, forall_eq]; exact ⟨stays_const _, stays_const _, stays_const _, stays_const _, rowE_stays _ _, stays_const _, stays_const _, rowR_stays _ _, schR_stays _ _, new3_stays _ _ _ _ _⟩)
      case hVm => exact fun i v w w' _ h hx => vs_stays (by simp only [List.mem_cons, List.not_mem_nil, or_false, forall_eq_or_imp, forall_eq]; exact ⟨stays_const _, stays_const _, stays_const _, stays_const _, rowE_stays _ _, stays_const _, stays_const _, rowR_stays _ _, schR_stays _ _, new3_stays _ _ _ _ _⟩) i v w w' h hx
      case hSx => exact fun bo W W' h hx => h.trans (Below.mono hx h.size)
      case hS => exact Below.refl _ _
      case hop =>
        refine ⟨?_, ?_, ?_, ?_, ?_, ?_, ?_, ?_, ?_, ?_, ?_, trivial⟩
        all_goals first | rw [if_neg (by decide), if_neg (by decide)] | rw [if_neg (by decide), if_pos (by decide)] | rw [if_pos (by decide)]
        · intro A W bo hsz hS hdep hbase
          have hlw := HLWc.out.below hS
          obtain ⟨d0', d1', d2'⟩ := hlw.cells
          have h8 : A.tmps.getD 8 undef = .pointer (some ⟨w2.heap.size, 0, none⟩) := hbase 8 (by kernel_rfl)
          clear hbase
          simp [slotOf, Region.binds, Vs] at hdep
          refine opOk_run rfl (.inl ⟨_, W, ?_, rfl, Ext.refl _⟩); clear hsz hS hlw; simp [go_sem, Act.eval, *]
        · intro A W bo hsz hS hdep hbase
          have hlw := HLWc.out.below hS
          obtain ⟨d0', d1', d2'⟩ := hlw.cells
          have h8 : A.tmps.getD 8 undef = .pointer (some ⟨w2.heap.size, 0, none⟩) := hbase 8 (by kernel_rfl)
          clear hbase
          simp [slotOf, Region.binds, Vs] at hdep
          refine opOk_run rfl (.inl ⟨_, W, ?_, rfl, Ext.refl _⟩); clear hsz hS hlw; simp [go_sem, Act.eval, *]
        · intro A W bo hsz hS hdep hbase
          have hlw := HLWc.out.below hS
          obtain ⟨d0', d1', d2'⟩ := hlw.cells
          have h8 : A.tmps.getD 8 undef = .pointer (some ⟨w2.heap.size, 0, none⟩) := hbase 8 (by kernel_rfl)
          clear hbase
          simp [slotOf, Region.binds, Vs] at hdep
          refine opOk_run rfl (.inl ⟨_, W, ?_, rfl, Ext.refl _⟩); clear hsz hS hlw; simp [go_sem, Act.eval, *]
        · intro A W bo hsz hS hdep hbase
          have hlw := HLWc.out.below hS
          obtain ⟨d0', d1', d2'⟩ := hlw.cells
          have h8 : A.tmps.getD 8 undef = .pointer (some ⟨w2.heap.size, 0, none⟩) := hbase 8 (by kernel_rfl)
          clear hbase
          simp [slotOf, Region.binds, Vs] at hdep
          refine opOk_run rfl (.inl ⟨_, W, ?_, rfl, Ext.refl _⟩); clear hsz hS hlw; simp [go_sem, Act.eval, *]
        · intro A W bo hsz hS hdep hbase
          have hlw := HLWc.out.below hS
          obtain ⟨d0', d1', d2'⟩ := hlw.cells
          have h8 : A.tmps.getD 8 undef = .pointer (some ⟨w2.heap.size, 0, none⟩) := hbase 8 (by kernel_rfl)
          clear hbase
          simp [slotOf, Region.binds, Vs] at hdep
          refine opOk_run rfl (.inl ⟨.slice (some ⟨W.heap.size, 0, none⟩) 0 0, W.alloc (.cells #[] 29), ?_, ⟨W.heap.size, rfl, heap_alloc_new _ _, hS.size⟩, (Below.refl _ _).alloc (Nat.le_refl _) _⟩)
          clear hsz hS hlw; simp [go_sem, Act.eval, *]
        · intro A W bo hsz hS hdep hbase
          have hlw := HLWc.out.below hS
          obtain ⟨d0', d1', d2'⟩ := hlw.cells
          have h8 : A.tmps.getD 8 undef = .pointer (some ⟨w2.heap.size, 0, none⟩) := hbase 8 (by kernel_rfl)
          clear hbase
          simp [slotOf, Region.binds, Vs] at hdep
          refine opOk_run rfl (.inl ⟨_, W, ?_, rfl, Ext.refl _⟩); clear hsz hS hlw; simp [go_sem, Act.eval, *]
        · intro A W bo hsz hS hdep hbase
          have hlw := HLWc.out.below hS
          obtain ⟨d0', d1', d2'⟩ := hlw.cells
          have h8 : A.tmps.getD 8 undef = .pointer (some ⟨w2.heap.size, 0, none⟩) := hbase 8 (by kernel_rfl)
          clear hbase
          simp [slotOf, Region.binds, Vs] at hdep
          refine opOk_run rfl (.inl ⟨_, W, ?_, rfl, Ext.refl _⟩); clear hsz hS hlw; simp [go_sem, Act.eval, *]
        · intro A W bo hsz hS hdep hbase
          have hlw := HLWc.out.below hS
          obtain ⟨d0', d1', d2'⟩ := hlw.cells
          have h8 : A.tmps.getD 8 undef = .pointer (some ⟨w2.heap.size, 0, none⟩) := hbase 8 (by kernel_rfl)
          have hb4 : RowE wc.heap.size 29 (A.tmps.getD 63 undef) W := hdep ⟨4, .data⟩ (by simp) rfl
          have hb6 : A.tmps.getD 65 undef = .slice b S.rules.length c := hdep ⟨6, .data⟩ (by simp) rfl
          obtain ⟨g4, e4, hg4, hB4⟩ := hb4
          refine opOk_run rfl ((opres_copy_rules rfl (eval_tmp e4) hg4 (eval_tmp hb6) hlw.own (by omega)).mono fun v w' h => ⟨?_, h.2⟩)
          obtain ⟨a9, c9, e9, _, _⟩ := h.1.rules
          refine ⟨a9, S.rules.length, c9, e9, ?_⟩
          have h9 := h.1
          rw [e9] at h9
          exact h9.mono hB4
        · intro A W bo hsz hS hdep hbase
          have hlw := HLWc.out.below hS
          obtain ⟨d0', d1', d2'⟩ := hlw.cells
          have h8 : A.tmps.getD 8 undef = .pointer (some ⟨w2.heap.size, 0, none⟩) := hbase 8 (by kernel_rfl)
          have hb1 : A.tmps.getD 60 undef = .int .i64 S.modes := hdep ⟨1, .data⟩ (by simp) rfl
          have hb3 : A.tmps.getD 62 undef = .int .u8 S.acc := hdep ⟨3, .data⟩ (by simp) rfl
          have hb7 : RowR wc.heap.size S.rules (A.tmps.getD 66 undef) W := hdep ⟨7, .data⟩ (by simp) rfl
          obtain ⟨a9, n9, c9, e9, ho9⟩ := hb7
          refine opOk_run rfl (.inl ⟨_, W, ?_, ⟨a9, n9, c9, rfl, ho9⟩, Ext.refl _⟩)
          rw [Array.getD_eq_getD_getElem?] at hb1 hb3 e9
          clear hsz hS hlw hbase hdep; simp [go_sem, Act.eval, *]
        · intro A W hsz hS hdep hbase
          refine ⟨rfl, .inl ⟨.pointer (some ⟨W.heap.size, 0, none⟩), W.alloc (.cells #[.int .i64 0, .int .u8 0, .slice none 0 0] 33), ?_, ⟨W.heap.size, rfl, heap_alloc_new _ _, hS.size⟩, (Below.refl _ _).alloc (Nat.le_refl _) _, hS.trans (((Below.refl _ W).alloc (Nat.le_refl _) _).mono hS.size)⟩⟩
          clear hsz hS hdep hbase; simp [go_sem, Act.eval]
        · trivial
      case hlast =>
        intro A1 W hsz hdf hS hv hbase
        have ha9 : New3 wc.heap.size (.int .i64 0) (.int .u8 0) (.slice none 0 0) 33 (A1.tmps.getD 11 undef) W := hv 9 (by decide)
        have hb9 : SchR wc.heap.size S (A1.tmps.getD 67 undef) W := hv 8 (by decide)
        obtain ⟨gt, eg, hgr, hgB⟩ := ha9
        obtain ⟨ax, nx, cx, ex, hox⟩ := hb9
        refine wpOp_store_sch rfl rfl rfl rfl (eval_tmp eg) (eval_tmp ex) hgr (by kernel_rfl) ?_
        have HTX := Lib.hid (tx_new hS hgr hgB hox)
        obtain ⟨x, hx, hA⟩ := act_puts [59, 60, 61, 62, 63, 64, 65, 66, 67, 11] (by kernel_rfl) hsz hdf hbase
        have ee : x 11 = .pointer (some ⟨gt, 0, none⟩) := (hx 11).trans eg
        obtain ⟨wz, hwz⟩ : ∃ wz, wz = ((W.setCell ⟨gt, 0, none⟩ (.int .i64 S.modes)).setCell ⟨gt, 1, none⟩ (.int .u8 S.acc)).setCell ⟨gt, 2, none⟩ (.slice ax nx cx) := ⟨_, rfl⟩
        rw [← hwz] at HTX ⊢
        rw [hA]
        simp only [List.foldl]
        rw [ee]
        simp only [Act.put, List.setIfInBounds_toArray, List.set_cons_succ, List.set_cons_zero]
        clear hA hx hv hbase hsz hdf hwz ee eg ex hox hgr hS
        have HLWu := Lib.hid (HLWc.out.below HTX.out.bl)
        have hBu := hBc.trans (HTX.out.bl.mono hBc.size)
        have HBU := Lib.hid hBu
        obtain ⟨aq, cq, hform, _, _⟩ := HTX.out.own.rules
        injection hform with hf1 hf2 hf3
        subst hf1 hf2 hf3
        clear hBu
        go_wp2_with fail
        go_loopw [12] (fun iv wr => ∃ (i : Nat) (Q T : List Rl) (bt : Option Addr) (nt ct : Nat), i ≤ ll ∧ i ≤ 6 ∧ iv = .int .i64 i ∧ Q.length = i ∧ QOk S.modes Q ∧ T = S.rules ++ Q ∧ nt = T.length ∧ TX wc wc.heap.size gt S.modes S.acc (.slice bt nt ct) T wr) (fun iv _ => ll - (intOf iv).toNat)
        case atStart => exact ⟨0, [], S.rules, _, _, _, by omega, by omega, rfl, rfl, fun j h => absurd h (by simp), by simp, rfl, HTX.out⟩
        case round =>
          obtain ⟨i, Q, T, bt, nt, ct, hi, hi6, rfl, hQl, hQ, hT, hnt, htx⟩ := hrel
          have HQL := Lib.hid hQl; have HQ := Lib.hid hQ; have HT := Lib.hid hT; have HNT := Lib.hid hnt; have HTXr := Lib.hid htx
          have HLW := Lib.hid (HLWc.out.below htx.bl)
          have hB := hBc.trans (htx.bl.mono hBc.size)
          have hgs := htx.gs
          have hT64 : Hid (T.length ≤ 18) := by show _ ≤ _; rw [hT, List.length_append]; omega
          clear hQl hQ hT hnt htx
          obtain ⟨hzz, hc, hf⟩ := bcellB HLW.out.bl rfl
          obtain ⟨d0, d1, d2⟩ := HLW.out.cells
          obtain ⟨s0, s1, s2⟩ := HTXr.out.cells
          have hex : (i < ll ∧ i < 6) ∨ ¬ (i < ll ∧ i < 6) := by omega
          rcases hex with ⟨hil, hi6'⟩ | hex
          · have hilI : (i : Int) < (ll : Int) := by omega
            have hi6I : (i : Int) < 6 := by omega
            have hnm := name_run i hi6'
            have hzz2 := z_cat i hi6'
            have hzz3 := nm_size i
            obtain ⟨f, hf⟩ : ∃ f, f = Y i 0 % S.modes := ⟨_, rfl⟩
            rcases isRows_later HY.out hB (Nat.le_refl _) with h0 | ⟨by', oy, hay, hl63y, hby, hcy⟩
            · omega
            have hidy := idx_rows al by' oy ll cl i hay hil
            obtain ⟨y0, x0⟩ := hcy i hil 0 (by omega)
            obtain ⟨y1, x1⟩ := hcy i hil 1 (by omega)
            obtain ⟨y2, x2⟩ := hcy i hil 2 (by omega)
            obtain ⟨u0, v0⟩ := bounds_u8 x0
            obtain ⟨u1, v1⟩ := bounds_u8 x1
            obtain ⟨u2, v2⟩ := bounds_u8 x2
            rw [Nat.add_zero] at y0
            have hby2 : by' < wr.heap.size := hby
            have HAY := Lib.hid hay
            clear hay hcy x0 x1 x2
            obtain ⟨rl, hrl⟩ : ∃ r : Rl, r = zR i (Y i 0 % S.modes) (Y i 1 % S.modes) (Y i 2) := ⟨_, rfl⟩
            have HRL := Lib.hid hrl
            have hbyw : by' < wc.heap.size := by
              rcases HY.out with h9 | ⟨b9, o9, h9, _, h10, _⟩
              · omega
              · have h11 := HAY.out; rw [h9] at h11; injection h11 with h11; injection h11 with h11; have := hBc.size; omega
            clear hrl hf
            go_upto_region 13 with fail
            have k0 : IntKind.i64.wrap (Y i 0) = Y i 0 := IntWalk.i64_in _ (by omega)
            have k1 : IntKind.i64.wrap (Y i 1) = Y i 1 := IntWalk.i64_in _ (by omega)
            have k2 : IntKind.i64.wrap (Y i 2) = Y i 2 := IntWalk.i64_in _ (by omega)
            have fne : ¬ (S.modes = 0) := by omega
            have g0 : (Y i 0).tmod S.modes = Y i 0 % S.modes := Int.tmod_eq_emod_of_nonneg u0
            have g1 : (Y i 1).tmod S.modes = Y i 1 % S.modes := Int.tmod_eq_emod_of_nonneg u1
            refine wp_region_mid (by kernel_rfl) (Vs [fun v _ => v = .pointer (some ⟨gt, 2, none⟩), fun v _ => v = .slice bt nt ct, fun v _ => v = .slice al ll cl, fun v _ => v = .int .i64 (i : Int), fun v _ => v = .pointer (some ⟨by', oy + i * 3, none⟩), fun v _ => v = .pointer (some ⟨by', oy + i * 3, none⟩), fun v _ => v = .int .u8 (Y i 0), fun v _ => v = .int .i64 (Y i 0), fun v _ => v = .pointer (some ⟨w2.heap.size, 0, none⟩), fun v _ => v = .int .i64 S.modes, fun v _ => v = .int .i64 (Y i 0 % S.modes), fun v _ => v = .slice al ll cl, fun v _ => v = .int .i64 (i : Int), fun v _ => v = .pointer (some ⟨by', oy + i * 3, none⟩), fun v _ => v = .pointer (some ⟨by', oy + i * 3 + 1, none⟩), fun v _ => v = .int .u8 (Y i 1), fun v _ => v = .int .i64 (Y i 1), fun v _ => v = .pointer (some ⟨w2.heap.size, 0, none⟩), fun v _ => v = .int .i64 S.modes, fun v _ => v = .int .i64 (Y i 1 % S.modes), fun v _ => v = .string (nmB i), fun v _ => v = .string (zIn i), fun v _ => v = .slice al ll cl, fun v _ => v = .int .i64 (i : Int), fun v _ => v = .pointer (some ⟨by', oy + i * 3, none⟩), fun v _ => v = .pointer (some ⟨by', oy + i * 3 + 2, none⟩), fun v _ => v = .int .u8 (Y i 2), fun v _ => v = .int .i64 (Y i 2), fun v _ => v = .agg #[.int .i64 (Y i 0 % S.modes), .int .i64 (Y i 1 % S.modes), .string (zIn i), .string ⟨#[]⟩, .int .i64 (Y i 2)], RowOne (Value.slice bt nt ct) rl, fun v W => OwnR W (wc.heap.size) v (T ++ [rl]), fun v _ => v = .pointer (some ⟨gt, 2, none⟩)]) (fun bo W => TX0 wr wc.heap.size gt S.modes S.acc (.slice bt nt ct) W ∧ (bo = false → OwnR W wc.heap.size (.slice bt nt ct) T) ∧ ∀ g, (Value.slice bt nt ct).ownBlock = some g → g < W.heap.size) (fun W W' => W.grownBy W' (Value.slice bt nt ct).ownBlock) 141 30 32 (by kernel_rfl) rfl (by omega) ?hVx ?hVm ?hSx ?hS ?hop ?hlast
            case hVx => exact vs_stays (by simp only [List.mem_cons, List.not_mem_nil, or_false, forall_eq_or_imp, forall_eq]; exact ⟨stays_const _, stays_const _, stays_const _, stays_const _, stays_const _, stays_const _, stays_const _, stays_const _, stays_const _, stays_const _, stays_const _, stays_const _, stays_const _, stays_const _, stays_const _, stays_const _, stays_const _, stays_const _, stays_const _, stays_const _, stays_const _, stays_const _, stays_const _, stays_const _, stays_const _, stays_const _, stays_const _, stays_const _, stays_const _, rowOne_stays _ _, ownR_stays _ _, stays_const _⟩)
            case hVm => exact staysL_all ⟨fun _ => fun _ _ _ h _ => h, fun _ => fun _ _ _ h _ => h, fun _ => fun _ _ _ h _ => h, fun _ => fun _ _ _ h _ => h, fun _ => fun _ _ _ h _ => h, fun _ => fun _ _ _ h _ => h, fun _ => fun _ _ _ h _ => h, fun _ => fun _ _ _ h _ => h, fun _ => fun _ _ _ h _ => h, fun _ => fun _ _ _ h _ => h, fun _ => fun _ _ _ h _ => h, fun _ => fun _ _ _ h _ => h, fun _ => fun _ _ _ h _ => h, fun _ => fun _ _ _ h _ => h, fun _ => fun _ _ _ h _ => h, fun _ => fun _ _ _ h _ => h, fun _ => fun _ _ _ h _ => h, fun _ => fun _ _ _ h _ => h, fun _ => fun _ _ _ h _ => h, fun _ => fun _ _ _ h _ => h, fun _ => fun _ _ _ h _ => h, fun _ => fun _ _ _ h _ => h, fun _ => fun _ _ _ h _ => h, fun _ => fun _ _ _ h _ => h, fun _ => fun _ _ _ h _ => h, fun _ => fun _ _ _ h _ => h, fun _ => fun _ _ _ h _ => h, fun _ => fun _ _ _ h _ => h, fun _ => fun _ _ _ h _ => h, fun _ => rowOne_grown _ _, fun h => absurd rfl h, fun _ => fun _ _ _ h _ => h, trivial⟩
            case hSx => exact fun bo W W' h hx => ⟨h.1.below hx, fun e => (h.2.1 e).below hx (h.2.1 e).lt, fun g hg => Nat.lt_of_lt_of_le (h.2.2 g hg) hx.size⟩
            case hS => exact ⟨HTXr.out.toTX0.here, fun _ => HTXr.out.own, HTXr.out.own.lt⟩
            case hop =>
              refine ⟨?_, ?_, ?_, ?_, ?_, ?_, ?_, ?_, ?_, ?_, ?_, ?_, ?_, ?_, ?_, ?_, ?_, ?_, ?_, ?_, ?_, ?_, ?_, ?_, ?_, ?_, ?_, ?_, ?_, ?_, ?_, ?_, ?_, trivial⟩
              all_goals first | rw [if_neg (by decide), if_neg (by decide)] | rw [if_neg (by decide), if_pos (by decide)] | rw [if_pos (by decide)]
              · intro A W bo hsz hS hdep hbase
                have hts := hS.1
                have hlw := HLW.out.belowC hts.bl HLWc.out.gs
                obtain ⟨d0', d1', d2'⟩ := hlw.cells
                obtain ⟨s0', s1', s2'⟩ := hts.cells
                have y0' := (hts.bl.cell (p := ⟨by', oy + i * 3, none⟩) hbyw).trans y0
                have y1' := (hts.bl.cell (p := ⟨by', oy + i * 3 + 1, none⟩) hbyw).trans y1
                have y2' := (hts.bl.cell (p := ⟨by', oy + i * 3 + 2, none⟩) hbyw).trans y2
                clear hts hlw
                have h8 : A.tmps.getD 8 undef = .pointer (some ⟨w2.heap.size, 0, none⟩) := hbase 8 (by kernel_rfl)
                have h11 : A.tmps.getD 11 undef = .pointer (some ⟨gt, 0, none⟩) := hbase 11 (by kernel_rfl)
                have h2 : A.tmps.getD 2 undef = .slice al ll cl := hbase 2 (by kernel_rfl)
                have h12 : A.tmps.getD 12 undef = .int .i64 (i : Int) := hbase 12 (by kernel_rfl)
                have h13 : A.tmps.getD 13 undef = .string (nmB i) := hbase 13 (by kernel_rfl)
                clear hbase
                simp [slotOf, Region.binds, Vs] at hdep
                refine opOk_run rfl (.inl ⟨_, W, ?_, rfl, Ext.refl _⟩); clear hsz hS; simp [go_sem, Act.eval, *]
              · intro A W bo hsz hS hdep hbase
                have hts := hS.1
                have hlw := HLW.out.belowC hts.bl HLWc.out.gs
                obtain ⟨d0', d1', d2'⟩ := hlw.cells
                obtain ⟨s0', s1', s2'⟩ := hts.cells
                have y0' := (hts.bl.cell (p := ⟨by', oy + i * 3, none⟩) hbyw).trans y0
                have y1' := (hts.bl.cell (p := ⟨by', oy + i * 3 + 1, none⟩) hbyw).trans y1
                have y2' := (hts.bl.cell (p := ⟨by', oy + i * 3 + 2, none⟩) hbyw).trans y2
                clear hts hlw
                have h8 : A.tmps.getD 8 undef = .pointer (some ⟨w2.heap.size, 0, none⟩) := hbase 8 (by kernel_rfl)
                have h11 : A.tmps.getD 11 undef = .pointer (some ⟨gt, 0, none⟩) := hbase 11 (by kernel_rfl)
                have h2 : A.tmps.getD 2 undef = .slice al ll cl := hbase 2 (by kernel_rfl)
                have h12 : A.tmps.getD 12 undef = .int .i64 (i : Int) := hbase 12 (by kernel_rfl)
                have h13 : A.tmps.getD 13 undef = .string (nmB i) := hbase 13 (by kernel_rfl)
                clear hbase
                simp [slotOf, Region.binds, Vs] at hdep
                refine opOk_run rfl (.inl ⟨_, W, ?_, rfl, Ext.refl _⟩); clear hsz hS; simp [go_sem, Act.eval, *]
              · intro A W bo hsz hS hdep hbase
                have hts := hS.1
                have hlw := HLW.out.belowC hts.bl HLWc.out.gs
                obtain ⟨d0', d1', d2'⟩ := hlw.cells
                obtain ⟨s0', s1', s2'⟩ := hts.cells
                have y0' := (hts.bl.cell (p := ⟨by', oy + i * 3, none⟩) hbyw).trans y0
                have y1' := (hts.bl.cell (p := ⟨by', oy + i * 3 + 1, none⟩) hbyw).trans y1
                have y2' := (hts.bl.cell (p := ⟨by', oy + i * 3 + 2, none⟩) hbyw).trans y2
                clear hts hlw
                have h8 : A.tmps.getD 8 undef = .pointer (some ⟨w2.heap.size, 0, none⟩) := hbase 8 (by kernel_rfl)
                have h11 : A.tmps.getD 11 undef = .pointer (some ⟨gt, 0, none⟩) := hbase 11 (by kernel_rfl)
                have h2 : A.tmps.getD 2 undef = .slice al ll cl := hbase 2 (by kernel_rfl)
                have h12 : A.tmps.getD 12 undef = .int .i64 (i : Int) := hbase 12 (by kernel_rfl)
                have h13 : A.tmps.getD 13 undef = .string (nmB i) := hbase 13 (by kernel_rfl)
                clear hbase
                simp [slotOf, Region.binds, Vs] at hdep
                refine opOk_run rfl (.inl ⟨_, W, ?_, rfl, Ext.refl _⟩); clear hsz hS; simp [go_sem, Act.eval, *]
              · intro A W bo hsz hS hdep hbase
                have hts := hS.1
                have hlw := HLW.out.belowC hts.bl HLWc.out.gs
                obtain ⟨d0', d1', d2'⟩ := hlw.cells
                obtain ⟨s0', s1', s2'⟩ := hts.cells
                have y0' := (hts.bl.cell (p := ⟨by', oy + i * 3, none⟩) hbyw).trans y0
                have y1' := (hts.bl.cell (p := ⟨by', oy + i * 3 + 1, none⟩) hbyw).trans y1
                have y2' := (hts.bl.cell (p := ⟨by', oy + i * 3 + 2, none⟩) hbyw).trans y2
                clear hts hlw
                have h8 : A.tmps.getD 8 undef = .pointer (some ⟨w2.heap.size, 0, none⟩) := hbase 8 (by kernel_rfl)
                have h11 : A.tmps.getD 11 undef = .pointer (some ⟨gt, 0, none⟩) := hbase 11 (by kernel_rfl)
                have h2 : A.tmps.getD 2 undef = .slice al ll cl := hbase 2 (by kernel_rfl)
                have h12 : A.tmps.getD 12 undef = .int .i64 (i : Int) := hbase 12 (by kernel_rfl)
                have h13 : A.tmps.getD 13 undef = .string (nmB i) := hbase 13 (by kernel_rfl)
                clear hbase
                simp [slotOf, Region.binds, Vs] at hdep
                refine opOk_run rfl (.inl ⟨_, W, ?_, rfl, Ext.refl _⟩); clear hsz hS; simp [go_sem, Act.eval, *]
              · intro A W bo hsz hS hdep hbase
                have hts := hS.1
                have hlw := HLW.out.belowC hts.bl HLWc.out.gs
                obtain ⟨d0', d1', d2'⟩ := hlw.cells
                obtain ⟨s0', s1', s2'⟩ := hts.cells
                have y0' := (hts.bl.cell (p := ⟨by', oy + i * 3, none⟩) hbyw).trans y0
                have y1' := (hts.bl.cell (p := ⟨by', oy + i * 3 + 1, none⟩) hbyw).trans y1
                have y2' := (hts.bl.cell (p := ⟨by', oy + i * 3 + 2, none⟩) hbyw).trans y2
                clear hts hlw
                have h8 : A.tmps.getD 8 undef = .pointer (some ⟨w2.heap.size, 0, none⟩) := hbase 8 (by kernel_rfl)
                have h11 : A.tmps.getD 11 undef = .pointer (some ⟨gt, 0, none⟩) := hbase 11 (by kernel_rfl)
                have h2 : A.tmps.getD 2 undef = .slice al ll cl := hbase 2 (by kernel_rfl)
                have h12 : A.tmps.getD 12 undef = .int .i64 (i : Int) := hbase 12 (by kernel_rfl)
                have h13 : A.tmps.getD 13 undef = .string (nmB i) := hbase 13 (by kernel_rfl)
                clear hbase
                simp [slotOf, Region.binds, Vs] at hdep
                refine opOk_run rfl (.inl ⟨_, W, ?_, rfl, Ext.refl _⟩); clear hsz hS; simp [go_sem, Act.eval, *]
              · intro A W bo hsz hS hdep hbase
                have hts := hS.1
                have hlw := HLW.out.belowC hts.bl HLWc.out.gs
                obtain ⟨d0', d1', d2'⟩ := hlw.cells
                obtain ⟨s0', s1', s2'⟩ := hts.cells
                have y0' := (hts.bl.cell (p := ⟨by', oy + i * 3, none⟩) hbyw).trans y0
                have y1' := (hts.bl.cell (p := ⟨by', oy + i * 3 + 1, none⟩) hbyw).trans y1
                have y2' := (hts.bl.cell (p := ⟨by', oy + i * 3 + 2, none⟩) hbyw).trans y2
                clear hts hlw
                have h8 : A.tmps.getD 8 undef = .pointer (some ⟨w2.heap.size, 0, none⟩) := hbase 8 (by kernel_rfl)
                have h11 : A.tmps.getD 11 undef = .pointer (some ⟨gt, 0, none⟩) := hbase 11 (by kernel_rfl)
                have h2 : A.tmps.getD 2 undef = .slice al ll cl := hbase 2 (by kernel_rfl)
                have h12 : A.tmps.getD 12 undef = .int .i64 (i : Int) := hbase 12 (by kernel_rfl)
                have h13 : A.tmps.getD 13 undef = .string (nmB i) := hbase 13 (by kernel_rfl)
                clear hbase
                simp [slotOf, Region.binds, Vs] at hdep
                refine opOk_run rfl (.inl ⟨_, W, ?_, rfl, Ext.refl _⟩); clear hsz hS; simp [go_sem, Act.eval, *]
              · intro A W bo hsz hS hdep hbase
                have hts := hS.1
                have hlw := HLW.out.belowC hts.bl HLWc.out.gs
                obtain ⟨d0', d1', d2'⟩ := hlw.cells
                obtain ⟨s0', s1', s2'⟩ := hts.cells
                have y0' := (hts.bl.cell (p := ⟨by', oy + i * 3, none⟩) hbyw).trans y0
                have y1' := (hts.bl.cell (p := ⟨by', oy + i * 3 + 1, none⟩) hbyw).trans y1
                have y2' := (hts.bl.cell (p := ⟨by', oy + i * 3 + 2, none⟩) hbyw).trans y2
                clear hts hlw
                have h8 : A.tmps.getD 8 undef = .pointer (some ⟨w2.heap.size, 0, none⟩) := hbase 8 (by kernel_rfl)
                have h11 : A.tmps.getD 11 undef = .pointer (some ⟨gt, 0, none⟩) := hbase 11 (by kernel_rfl)
                have h2 : A.tmps.getD 2 undef = .slice al ll cl := hbase 2 (by kernel_rfl)
                have h12 : A.tmps.getD 12 undef = .int .i64 (i : Int) := hbase 12 (by kernel_rfl)
                have h13 : A.tmps.getD 13 undef = .string (nmB i) := hbase 13 (by kernel_rfl)
                clear hbase
                simp [slotOf, Region.binds, Vs] at hdep
                refine opOk_run rfl (.inl ⟨_, W, ?_, rfl, Ext.refl _⟩); clear hsz hS; simp [go_sem, Act.eval, *]
              · intro A W bo hsz hS hdep hbase
                have hts := hS.1
                have hlw := HLW.out.belowC hts.bl HLWc.out.gs
                obtain ⟨d0', d1', d2'⟩ := hlw.cells
                obtain ⟨s0', s1', s2'⟩ := hts.cells
                have y0' := (hts.bl.cell (p := ⟨by', oy + i * 3, none⟩) hbyw).trans y0
                have y1' := (hts.bl.cell (p := ⟨by', oy + i * 3 + 1, none⟩) hbyw).trans y1
                have y2' := (hts.bl.cell (p := ⟨by', oy + i * 3 + 2, none⟩) hbyw).trans y2
                clear hts hlw
                have h8 : A.tmps.getD 8 undef = .pointer (some ⟨w2.heap.size, 0, none⟩) := hbase 8 (by kernel_rfl)
                have h11 : A.tmps.getD 11 undef = .pointer (some ⟨gt, 0, none⟩) := hbase 11 (by kernel_rfl)
                have h2 : A.tmps.getD 2 undef = .slice al ll cl := hbase 2 (by kernel_rfl)
                have h12 : A.tmps.getD 12 undef = .int .i64 (i : Int) := hbase 12 (by kernel_rfl)
                have h13 : A.tmps.getD 13 undef = .string (nmB i) := hbase 13 (by kernel_rfl)
                clear hbase
                simp [slotOf, Region.binds, Vs] at hdep
                refine opOk_run rfl (.inl ⟨_, W, ?_, rfl, Ext.refl _⟩); clear hsz hS; simp [go_sem, Act.eval, *]
              · intro A W bo hsz hS hdep hbase
                have hts := hS.1
                have hlw := HLW.out.belowC hts.bl HLWc.out.gs
                obtain ⟨d0', d1', d2'⟩ := hlw.cells
                obtain ⟨s0', s1', s2'⟩ := hts.cells
                have y0' := (hts.bl.cell (p := ⟨by', oy + i * 3, none⟩) hbyw).trans y0
                have y1' := (hts.bl.cell (p := ⟨by', oy + i * 3 + 1, none⟩) hbyw).trans y1
                have y2' := (hts.bl.cell (p := ⟨by', oy + i * 3 + 2, none⟩) hbyw).trans y2
                clear hts hlw
                have h8 : A.tmps.getD 8 undef = .pointer (some ⟨w2.heap.size, 0, none⟩) := hbase 8 (by kernel_rfl)
                have h11 : A.tmps.getD 11 undef = .pointer (some ⟨gt, 0, none⟩) := hbase 11 (by kernel_rfl)
                have h2 : A.tmps.getD 2 undef = .slice al ll cl := hbase 2 (by kernel_rfl)
                have h12 : A.tmps.getD 12 undef = .int .i64 (i : Int) := hbase 12 (by kernel_rfl)
                have h13 : A.tmps.getD 13 undef = .string (nmB i) := hbase 13 (by kernel_rfl)
                clear hbase
                simp [slotOf, Region.binds, Vs] at hdep
                refine opOk_run rfl (.inl ⟨_, W, ?_, rfl, Ext.refl _⟩); clear hsz hS; simp [go_sem, Act.eval, *]
              · intro A W bo hsz hS hdep hbase
                have hts := hS.1
                have hlw := HLW.out.belowC hts.bl HLWc.out.gs
                obtain ⟨d0', d1', d2'⟩ := hlw.cells
                obtain ⟨s0', s1', s2'⟩ := hts.cells
                have y0' := (hts.bl.cell (p := ⟨by', oy + i * 3, none⟩) hbyw).trans y0
                have y1' := (hts.bl.cell (p := ⟨by', oy + i * 3 + 1, none⟩) hbyw).trans y1
                have y2' := (hts.bl.cell (p := ⟨by', oy + i * 3 + 2, none⟩) hbyw).trans y2
                clear hts hlw
                have h8 : A.tmps.getD 8 undef = .pointer (some ⟨w2.heap.size, 0, none⟩) := hbase 8 (by kernel_rfl)
                have h11 : A.tmps.getD 11 undef = .pointer (some ⟨gt, 0, none⟩) := hbase 11 (by kernel_rfl)
                have h2 : A.tmps.getD 2 undef = .slice al ll cl := hbase 2 (by kernel_rfl)
                have h12 : A.tmps.getD 12 undef = .int .i64 (i : Int) := hbase 12 (by kernel_rfl)
                have h13 : A.tmps.getD 13 undef = .string (nmB i) := hbase 13 (by kernel_rfl)
                clear hbase
                simp [slotOf, Region.binds, Vs] at hdep
                refine opOk_run rfl (.inl ⟨_, W, ?_, rfl, Ext.refl _⟩); clear hsz hS; simp [go_sem, Act.eval, *]
              · intro A W bo hsz hS hdep hbase
                have hts := hS.1
                have hlw := HLW.out.belowC hts.bl HLWc.out.gs
                obtain ⟨d0', d1', d2'⟩ := hlw.cells
                obtain ⟨s0', s1', s2'⟩ := hts.cells
                have y0' := (hts.bl.cell (p := ⟨by', oy + i * 3, none⟩) hbyw).trans y0
                have y1' := (hts.bl.cell (p := ⟨by', oy + i * 3 + 1, none⟩) hbyw).trans y1
                have y2' := (hts.bl.cell (p := ⟨by', oy + i * 3 + 2, none⟩) hbyw).trans y2
                clear hts hlw
                have h8 : A.tmps.getD 8 undef = .pointer (some ⟨w2.heap.size, 0, none⟩) := hbase 8 (by kernel_rfl)
                have h11 : A.tmps.getD 11 undef = .pointer (some ⟨gt, 0, none⟩) := hbase 11 (by kernel_rfl)
                have h2 : A.tmps.getD 2 undef = .slice al ll cl := hbase 2 (by kernel_rfl)
                have h12 : A.tmps.getD 12 undef = .int .i64 (i : Int) := hbase 12 (by kernel_rfl)
                have h13 : A.tmps.getD 13 undef = .string (nmB i) := hbase 13 (by kernel_rfl)
                clear hbase
                simp [slotOf, Region.binds, Vs] at hdep
                refine opOk_run rfl (.inl ⟨_, W, ?_, rfl, Ext.refl _⟩); clear hsz hS; simp [go_sem, Act.eval, *]
              · intro A W bo hsz hS hdep hbase
                have hts := hS.1
                have hlw := HLW.out.belowC hts.bl HLWc.out.gs
                obtain ⟨d0', d1', d2'⟩ := hlw.cells
                obtain ⟨s0', s1', s2'⟩ := hts.cells
                have y0' := (hts.bl.cell (p := ⟨by', oy + i * 3, none⟩) hbyw).trans y0
                have y1' := (hts.bl.cell (p := ⟨by', oy + i * 3 + 1, none⟩) hbyw).trans y1
                have y2' := (hts.bl.cell (p := ⟨by', oy + i * 3 + 2, none⟩) hbyw).trans y2
                clear hts hlw
                have h8 : A.tmps.getD 8 undef = .pointer (some ⟨w2.heap.size, 0, none⟩) := hbase 8 (by kernel_rfl)
                have h11 : A.tmps.getD 11 undef = .pointer (some ⟨gt, 0, none⟩) := hbase 11 (by kernel_rfl)
                have h2 : A.tmps.getD 2 undef = .slice al ll cl := hbase 2 (by kernel_rfl)
                have h12 : A.tmps.getD 12 undef = .int .i64 (i : Int) := hbase 12 (by kernel_rfl)
                have h13 : A.tmps.getD 13 undef = .string (nmB i) := hbase 13 (by kernel_rfl)
                clear hbase
                simp [slotOf, Region.binds, Vs] at hdep
                refine opOk_run rfl (.inl ⟨_, W, ?_, rfl, Ext.refl _⟩); clear hsz hS; simp [go_sem, Act.eval, *]
              · intro A W bo hsz hS hdep hbase
                have hts := hS.1
                have hlw := HLW.out.belowC hts.bl HLWc.out.gs
                obtain ⟨d0', d1', d2'⟩ := hlw.cells
                obtain ⟨s0', s1', s2'⟩ := hts.cells
                have y0' := (hts.bl.cell (p := ⟨by', oy + i * 3, none⟩) hbyw).trans y0
                have y1' := (hts.bl.cell (p := ⟨by', oy + i * 3 + 1, none⟩) hbyw).trans y1
                have y2' := (hts.bl.cell (p := ⟨by', oy + i * 3 + 2, none⟩) hbyw).trans y2
                clear hts hlw
                have h8 : A.tmps.getD 8 undef = .pointer (some ⟨w2.heap.size, 0, none⟩) := hbase 8 (by kernel_rfl)
                have h11 : A.tmps.getD 11 undef = .pointer (some ⟨gt, 0, none⟩) := hbase 11 (by kernel_rfl)
                have h2 : A.tmps.getD 2 undef = .slice al ll cl := hbase 2 (by kernel_rfl)
                have h12 : A.tmps.getD 12 undef = .int .i64 (i : Int) := hbase 12 (by kernel_rfl)
                have h13 : A.tmps.getD 13 undef = .string (nmB i) := hbase 13 (by kernel_rfl)
                clear hbase
                simp [slotOf, Region.binds, Vs] at hdep
                refine opOk_run rfl (.inl ⟨_, W, ?_, rfl, Ext.refl _⟩); clear hsz hS; simp [go_sem, Act.eval, *]
              · intro A W bo hsz hS hdep hbase
                have hts := hS.1
                have hlw := HLW.out.belowC hts.bl HLWc.out.gs
                obtain ⟨d0', d1', d2'⟩ := hlw.cells
                obtain ⟨s0', s1', s2'⟩ := hts.cells
                have y0' := (hts.bl.cell (p := ⟨by', oy + i * 3, none⟩) hbyw).trans y0
                have y1' := (hts.bl.cell (p := ⟨by', oy + i * 3 + 1, none⟩) hbyw).trans y1
                have y2' := (hts.bl.cell (p := ⟨by', oy + i * 3 + 2, none⟩) hbyw).trans y2
                clear hts hlw
                have h8 : A.tmps.getD 8 undef = .pointer (some ⟨w2.heap.size, 0, none⟩) := hbase 8 (by kernel_rfl)
                have h11 : A.tmps.getD 11 undef = .pointer (some ⟨gt, 0, none⟩) := hbase 11 (by kernel_rfl)
                have h2 : A.tmps.getD 2 undef = .slice al ll cl := hbase 2 (by kernel_rfl)
                have h12 : A.tmps.getD 12 undef = .int .i64 (i : Int) := hbase 12 (by kernel_rfl)
                have h13 : A.tmps.getD 13 undef = .string (nmB i) := hbase 13 (by kernel_rfl)
                clear hbase
                simp [slotOf, Region.binds, Vs] at hdep
                refine opOk_run rfl (.inl ⟨_, W, ?_, rfl, Ext.refl _⟩); clear hsz hS; simp [go_sem, Act.eval, *]
              · intro A W bo hsz hS hdep hbase
                have hts := hS.1
                have hlw := HLW.out.belowC hts.bl HLWc.out.gs
                obtain ⟨d0', d1', d2'⟩ := hlw.cells
                obtain ⟨s0', s1', s2'⟩ := hts.cells
                have y0' := (hts.bl.cell (p := ⟨by', oy + i * 3, none⟩) hbyw).trans y0
                have y1' := (hts.bl.cell (p := ⟨by', oy + i * 3 + 1, none⟩) hbyw).trans y1
                have y2' := (hts.bl.cell (p := ⟨by', oy + i * 3 + 2, none⟩) hbyw).trans y2
                clear hts hlw
                have h8 : A.tmps.getD 8 undef = .pointer (some ⟨w2.heap.size, 0, none⟩) := hbase 8 (by kernel_rfl)
                have h11 : A.tmps.getD 11 undef = .pointer (some ⟨gt, 0, none⟩) := hbase 11 (by kernel_rfl)
                have h2 : A.tmps.getD 2 undef = .slice al ll cl := hbase 2 (by kernel_rfl)
                have h12 : A.tmps.getD 12 undef = .int .i64 (i : Int) := hbase 12 (by kernel_rfl)
                have h13 : A.tmps.getD 13 undef = .string (nmB i) := hbase 13 (by kernel_rfl)
                clear hbase
                simp [slotOf, Region.binds, Vs] at hdep
                refine opOk_run rfl (.inl ⟨_, W, ?_, rfl, Ext.refl _⟩); clear hsz hS; simp [go_sem, Act.eval, *]
              · intro A W bo hsz hS hdep hbase
                have hts := hS.1
                have hlw := HLW.out.belowC hts.bl HLWc.out.gs
                obtain ⟨d0', d1', d2'⟩ := hlw.cells
                obtain ⟨s0', s1', s2'⟩ := hts.cells
                have y0' := (hts.bl.cell (p := ⟨by', oy + i * 3, none⟩) hbyw).trans y0
                have y1' := (hts.bl.cell (p := ⟨by', oy + i * 3 + 1, none⟩) hbyw).trans y1
                have y2' := (hts.bl.cell (p := ⟨by', oy + i * 3 + 2, none⟩) hbyw).trans y2
                clear hts hlw
                have h8 : A.tmps.getD 8 undef = .pointer (some ⟨w2.heap.size, 0, none⟩) := hbase 8 (by kernel_rfl)
                have h11 : A.tmps.getD 11 undef = .pointer (some ⟨gt, 0, none⟩) := hbase 11 (by kernel_rfl)
                have h2 : A.tmps.getD 2 undef = .slice al ll cl := hbase 2 (by kernel_rfl)
                have h12 : A.tmps.getD 12 undef = .int .i64 (i : Int) := hbase 12 (by kernel_rfl)
                have h13 : A.tmps.getD 13 undef = .string (nmB i) := hbase 13 (by kernel_rfl)
                clear hbase
                simp [slotOf, Region.binds, Vs] at hdep
                refine opOk_run rfl (.inl ⟨_, W, ?_, rfl, Ext.refl _⟩); clear hsz hS; simp [go_sem, Act.eval, *]
              · intro A W bo hsz hS hdep hbase
                have hts := hS.1
                have hlw := HLW.out.belowC hts.bl HLWc.out.gs
                obtain ⟨d0', d1', d2'⟩ := hlw.cells
                obtain ⟨s0', s1', s2'⟩ := hts.cells
                have y0' := (hts.bl.cell (p := ⟨by', oy + i * 3, none⟩) hbyw).trans y0
                have y1' := (hts.bl.cell (p := ⟨by', oy + i * 3 + 1, none⟩) hbyw).trans y1
                have y2' := (hts.bl.cell (p := ⟨by', oy + i * 3 + 2, none⟩) hbyw).trans y2
                clear hts hlw
                have h8 : A.tmps.getD 8 undef = .pointer (some ⟨w2.heap.size, 0, none⟩) := hbase 8 (by kernel_rfl)
                have h11 : A.tmps.getD 11 undef = .pointer (some ⟨gt, 0, none⟩) := hbase 11 (by kernel_rfl)
                have h2 : A.tmps.getD 2 undef = .slice al ll cl := hbase 2 (by kernel_rfl)
                have h12 : A.tmps.getD 12 undef = .int .i64 (i : Int) := hbase 12 (by kernel_rfl)
                have h13 : A.tmps.getD 13 undef = .string (nmB i) := hbase 13 (by kernel_rfl)
                clear hbase
                simp [slotOf, Region.binds, Vs] at hdep
                refine opOk_run rfl (.inl ⟨_, W, ?_, rfl, Ext.refl _⟩); clear hsz hS; simp [go_sem, Act.eval, *]
              · intro A W bo hsz hS hdep hbase
                have hts := hS.1
                have hlw := HLW.out.belowC hts.bl HLWc.out.gs
                obtain ⟨d0', d1', d2'⟩ := hlw.cells
                obtain ⟨s0', s1', s2'⟩ := hts.cells
                have y0' := (hts.bl.cell (p := ⟨by', oy + i * 3, none⟩) hbyw).trans y0
                have y1' := (hts.bl.cell (p := ⟨by', oy + i * 3 + 1, none⟩) hbyw).trans y1
                have y2' := (hts.bl.cell (p := ⟨by', oy + i * 3 + 2, none⟩) hbyw).trans y2
                clear hts hlw
                have h8 : A.tmps.getD 8 undef = .pointer (some ⟨w2.heap.size, 0, none⟩) := hbase 8 (by kernel_rfl)
                have h11 : A.tmps.getD 11 undef = .pointer (some ⟨gt, 0, none⟩) := hbase 11 (by kernel_rfl)
                have h2 : A.tmps.getD 2 undef = .slice al ll cl := hbase 2 (by kernel_rfl)
                have h12 : A.tmps.getD 12 undef = .int .i64 (i : Int) := hbase 12 (by kernel_rfl)
                have h13 : A.tmps.getD 13 undef = .string (nmB i) := hbase 13 (by kernel_rfl)
                clear hbase
                simp [slotOf, Region.binds, Vs] at hdep
                refine opOk_run rfl (.inl ⟨_, W, ?_, rfl, Ext.refl _⟩); clear hsz hS; simp [go_sem, Act.eval, *]
              · intro A W bo hsz hS hdep hbase
                have hts := hS.1
                have hlw := HLW.out.belowC hts.bl HLWc.out.gs
                obtain ⟨d0', d1', d2'⟩ := hlw.cells
                obtain ⟨s0', s1', s2'⟩ := hts.cells
                have y0' := (hts.bl.cell (p := ⟨by', oy + i * 3, none⟩) hbyw).trans y0
                have y1' := (hts.bl.cell (p := ⟨by', oy + i * 3 + 1, none⟩) hbyw).trans y1
                have y2' := (hts.bl.cell (p := ⟨by', oy + i * 3 + 2, none⟩) hbyw).trans y2
                clear hts hlw
                have h8 : A.tmps.getD 8 undef = .pointer (some ⟨w2.heap.size, 0, none⟩) := hbase 8 (by kernel_rfl)
                have h11 : A.tmps.getD 11 undef = .pointer (some ⟨gt, 0, none⟩) := hbase 11 (by kernel_rfl)
                have h2 : A.tmps.getD 2 undef = .slice al ll cl := hbase 2 (by kernel_rfl)
                have h12 : A.tmps.getD 12 undef = .int .i64 (i : Int) := hbase 12 (by kernel_rfl)
                have h13 : A.tmps.getD 13 undef = .string (nmB i) := hbase 13 (by kernel_rfl)
                clear hbase
                simp [slotOf, Region.binds, Vs] at hdep
                refine opOk_run rfl (.inl ⟨_, W, ?_, rfl, Ext.refl _⟩); clear hsz hS; simp [go_sem, Act.eval, *]
              · intro A W bo hsz hS hdep hbase
                have hts := hS.1
                have hlw := HLW.out.belowC hts.bl HLWc.out.gs
                obtain ⟨d0', d1', d2'⟩ := hlw.cells
                obtain ⟨s0', s1', s2'⟩ := hts.cells
                have y0' := (hts.bl.cell (p := ⟨by', oy + i * 3, none⟩) hbyw).trans y0
                have y1' := (hts.bl.cell (p := ⟨by', oy + i * 3 + 1, none⟩) hbyw).trans y1
                have y2' := (hts.bl.cell (p := ⟨by', oy + i * 3 + 2, none⟩) hbyw).trans y2
                clear hts hlw
                have h8 : A.tmps.getD 8 undef = .pointer (some ⟨w2.heap.size, 0, none⟩) := hbase 8 (by kernel_rfl)
                have h11 : A.tmps.getD 11 undef = .pointer (some ⟨gt, 0, none⟩) := hbase 11 (by kernel_rfl)
                have h2 : A.tmps.getD 2 undef = .slice al ll cl := hbase 2 (by kernel_rfl)
                have h12 : A.tmps.getD 12 undef = .int .i64 (i : Int) := hbase 12 (by kernel_rfl)
                have h13 : A.tmps.getD 13 undef = .string (nmB i) := hbase 13 (by kernel_rfl)
                clear hbase
                simp [slotOf, Region.binds, Vs] at hdep
                refine opOk_run rfl (.inl ⟨_, W, ?_, rfl, Ext.refl _⟩); clear hsz hS; simp [go_sem, Act.eval, *]
              · intro A W bo hsz hS hdep hbase
                have hts := hS.1
                have hlw := HLW.out.belowC hts.bl HLWc.out.gs
                obtain ⟨d0', d1', d2'⟩ := hlw.cells
                obtain ⟨s0', s1', s2'⟩ := hts.cells
                have y0' := (hts.bl.cell (p := ⟨by', oy + i * 3, none⟩) hbyw).trans y0
                have y1' := (hts.bl.cell (p := ⟨by', oy + i * 3 + 1, none⟩) hbyw).trans y1
                have y2' := (hts.bl.cell (p := ⟨by', oy + i * 3 + 2, none⟩) hbyw).trans y2
                clear hts hlw
                have h8 : A.tmps.getD 8 undef = .pointer (some ⟨w2.heap.size, 0, none⟩) := hbase 8 (by kernel_rfl)
                have h11 : A.tmps.getD 11 undef = .pointer (some ⟨gt, 0, none⟩) := hbase 11 (by kernel_rfl)
                have h2 : A.tmps.getD 2 undef = .slice al ll cl := hbase 2 (by kernel_rfl)
                have h12 : A.tmps.getD 12 undef = .int .i64 (i : Int) := hbase 12 (by kernel_rfl)
                have h13 : A.tmps.getD 13 undef = .string (nmB i) := hbase 13 (by kernel_rfl)
                clear hbase
                simp [slotOf, Region.binds, Vs] at hdep
                refine opOk_run rfl (.inl ⟨_, W, ?_, rfl, Ext.refl _⟩); clear hsz hS; simp [go_sem, Act.eval, *]
              · intro A W bo hsz hS hdep hbase
                have hts := hS.1
                have hlw := HLW.out.belowC hts.bl HLWc.out.gs
                obtain ⟨d0', d1', d2'⟩ := hlw.cells
                obtain ⟨s0', s1', s2'⟩ := hts.cells
                have y0' := (hts.bl.cell (p := ⟨by', oy + i * 3, none⟩) hbyw).trans y0
                have y1' := (hts.bl.cell (p := ⟨by', oy + i * 3 + 1, none⟩) hbyw).trans y1
                have y2' := (hts.bl.cell (p := ⟨by', oy + i * 3 + 2, none⟩) hbyw).trans y2
                clear hts hlw
                have h8 : A.tmps.getD 8 undef = .pointer (some ⟨w2.heap.size, 0, none⟩) := hbase 8 (by kernel_rfl)
                have h11 : A.tmps.getD 11 undef = .pointer (some ⟨gt, 0, none⟩) := hbase 11 (by kernel_rfl)
                have h2 : A.tmps.getD 2 undef = .slice al ll cl := hbase 2 (by kernel_rfl)
                have h12 : A.tmps.getD 12 undef = .int .i64 (i : Int) := hbase 12 (by kernel_rfl)
                have h13 : A.tmps.getD 13 undef = .string (nmB i) := hbase 13 (by kernel_rfl)
                clear hbase
                simp [slotOf, Region.binds, Vs] at hdep
                refine opOk_run rfl (.inl ⟨_, W, ?_, rfl, Ext.refl _⟩); clear hsz hS; simp [go_sem, Act.eval, *]
              · intro A W bo hsz hS hdep hbase
                have hts := hS.1
                have hlw := HLW.out.belowC hts.bl HLWc.out.gs
                obtain ⟨d0', d1', d2'⟩ := hlw.cells
                obtain ⟨s0', s1', s2'⟩ := hts.cells
                have y0' := (hts.bl.cell (p := ⟨by', oy + i * 3, none⟩) hbyw).trans y0
                have y1' := (hts.bl.cell (p := ⟨by', oy + i * 3 + 1, none⟩) hbyw).trans y1
                have y2' := (hts.bl.cell (p := ⟨by', oy + i * 3 + 2, none⟩) hbyw).trans y2
                clear hts hlw
                have h8 : A.tmps.getD 8 undef = .pointer (some ⟨w2.heap.size, 0, none⟩) := hbase 8 (by kernel_rfl)
                have h11 : A.tmps.getD 11 undef = .pointer (some ⟨gt, 0, none⟩) := hbase 11 (by kernel_rfl)
                have h2 : A.tmps.getD 2 undef = .slice al ll cl := hbase 2 (by kernel_rfl)
                have h12 : A.tmps.getD 12 undef = .int .i64 (i : Int) := hbase 12 (by kernel_rfl)
                have h13 : A.tmps.getD 13 undef = .string (nmB i) := hbase 13 (by kernel_rfl)
                clear hbase
                simp [slotOf, Region.binds, Vs] at hdep
                refine opOk_run rfl (.inl ⟨_, W, ?_, rfl, Ext.refl _⟩); clear hsz hS; simp [go_sem, Act.eval, *]
              · intro A W bo hsz hS hdep hbase
                have hts := hS.1
                have hlw := HLW.out.belowC hts.bl HLWc.out.gs
                obtain ⟨d0', d1', d2'⟩ := hlw.cells
                obtain ⟨s0', s1', s2'⟩ := hts.cells
                have y0' := (hts.bl.cell (p := ⟨by', oy + i * 3, none⟩) hbyw).trans y0
                have y1' := (hts.bl.cell (p := ⟨by', oy + i * 3 + 1, none⟩) hbyw).trans y1
                have y2' := (hts.bl.cell (p := ⟨by', oy + i * 3 + 2, none⟩) hbyw).trans y2
                clear hts hlw
                have h8 : A.tmps.getD 8 undef = .pointer (some ⟨w2.heap.size, 0, none⟩) := hbase 8 (by kernel_rfl)
                have h11 : A.tmps.getD 11 undef = .pointer (some ⟨gt, 0, none⟩) := hbase 11 (by kernel_rfl)
                have h2 : A.tmps.getD 2 undef = .slice al ll cl := hbase 2 (by kernel_rfl)
                have h12 : A.tmps.getD 12 undef = .int .i64 (i : Int) := hbase 12 (by kernel_rfl)
                have h13 : A.tmps.getD 13 undef = .string (nmB i) := hbase 13 (by kernel_rfl)
                clear hbase
                simp [slotOf, Region.binds, Vs] at hdep
                refine opOk_run rfl (.inl ⟨_, W, ?_, rfl, Ext.refl _⟩); clear hsz hS; simp [go_sem, Act.eval, *]
              · intro A W bo hsz hS hdep hbase
                have hts := hS.1
                have hlw := HLW.out.belowC hts.bl HLWc.out.gs
                obtain ⟨d0', d1', d2'⟩ := hlw.cells
                obtain ⟨s0', s1', s2'⟩ := hts.cells
                have y0' := (hts.bl.cell (p := ⟨by', oy + i * 3, none⟩) hbyw).trans y0
                have y1' := (hts.bl.cell (p := ⟨by', oy + i * 3 + 1, none⟩) hbyw).trans y1
                have y2' := (hts.bl.cell (p := ⟨by', oy + i * 3 + 2, none⟩) hbyw).trans y2
                clear hts hlw
                have h8 : A.tmps.getD 8 undef = .pointer (some ⟨w2.heap.size, 0, none⟩) := hbase 8 (by kernel_rfl)
                have h11 : A.tmps.getD 11 undef = .pointer (some ⟨gt, 0, none⟩) := hbase 11 (by kernel_rfl)
                have h2 : A.tmps.getD 2 undef = .slice al ll cl := hbase 2 (by kernel_rfl)
                have h12 : A.tmps.getD 12 undef = .int .i64 (i : Int) := hbase 12 (by kernel_rfl)
                have h13 : A.tmps.getD 13 undef = .string (nmB i) := hbase 13 (by kernel_rfl)
                clear hbase
                simp [slotOf, Region.binds, Vs] at hdep
                refine opOk_run rfl (.inl ⟨_, W, ?_, rfl, Ext.refl _⟩); clear hsz hS; simp [go_sem, Act.eval, *]
              · intro A W bo hsz hS hdep hbase
                have hts := hS.1
                have hlw := HLW.out.belowC hts.bl HLWc.out.gs
                obtain ⟨d0', d1', d2'⟩ := hlw.cells
                obtain ⟨s0', s1', s2'⟩ := hts.cells
                have y0' := (hts.bl.cell (p := ⟨by', oy + i * 3, none⟩) hbyw).trans y0
                have y1' := (hts.bl.cell (p := ⟨by', oy + i * 3 + 1, none⟩) hbyw).trans y1
                have y2' := (hts.bl.cell (p := ⟨by', oy + i * 3 + 2, none⟩) hbyw).trans y2
                clear hts hlw
                have h8 : A.tmps.getD 8 undef = .pointer (some ⟨w2.heap.size, 0, none⟩) := hbase 8 (by kernel_rfl)
                have h11 : A.tmps.getD 11 undef = .pointer (some ⟨gt, 0, none⟩) := hbase 11 (by kernel_rfl)
                have h2 : A.tmps.getD 2 undef = .slice al ll cl := hbase 2 (by kernel_rfl)
                have h12 : A.tmps.getD 12 undef = .int .i64 (i : Int) := hbase 12 (by kernel_rfl)
                have h13 : A.tmps.getD 13 undef = .string (nmB i) := hbase 13 (by kernel_rfl)
                clear hbase
                simp [slotOf, Region.binds, Vs] at hdep
                refine opOk_run rfl (.inl ⟨_, W, ?_, rfl, Ext.refl _⟩); clear hsz hS; simp [go_sem, Act.eval, *]
              · intro A W bo hsz hS hdep hbase
                have hts := hS.1
                have hlw := HLW.out.belowC hts.bl HLWc.out.gs
                obtain ⟨d0', d1', d2'⟩ := hlw.cells
                obtain ⟨s0', s1', s2'⟩ := hts.cells
                have y0' := (hts.bl.cell (p := ⟨by', oy + i * 3, none⟩) hbyw).trans y0
                have y1' := (hts.bl.cell (p := ⟨by', oy + i * 3 + 1, none⟩) hbyw).trans y1
                have y2' := (hts.bl.cell (p := ⟨by', oy + i * 3 + 2, none⟩) hbyw).trans y2
                clear hts hlw
                have h8 : A.tmps.getD 8 undef = .pointer (some ⟨w2.heap.size, 0, none⟩) := hbase 8 (by kernel_rfl)
                have h11 : A.tmps.getD 11 undef = .pointer (some ⟨gt, 0, none⟩) := hbase 11 (by kernel_rfl)
                have h2 : A.tmps.getD 2 undef = .slice al ll cl := hbase 2 (by kernel_rfl)
                have h12 : A.tmps.getD 12 undef = .int .i64 (i : Int) := hbase 12 (by kernel_rfl)
                have h13 : A.tmps.getD 13 undef = .string (nmB i) := hbase 13 (by kernel_rfl)
                clear hbase
                simp [slotOf, Region.binds, Vs] at hdep
                refine opOk_run rfl (.inl ⟨_, W, ?_, rfl, Ext.refl _⟩); clear hsz hS; simp [go_sem, Act.eval, *]
              · intro A W bo hsz hS hdep hbase
                have hts := hS.1
                have hlw := HLW.out.belowC hts.bl HLWc.out.gs
                obtain ⟨d0', d1', d2'⟩ := hlw.cells
                obtain ⟨s0', s1', s2'⟩ := hts.cells
                have y0' := (hts.bl.cell (p := ⟨by', oy + i * 3, none⟩) hbyw).trans y0
                have y1' := (hts.bl.cell (p := ⟨by', oy + i * 3 + 1, none⟩) hbyw).trans y1
                have y2' := (hts.bl.cell (p := ⟨by', oy + i * 3 + 2, none⟩) hbyw).trans y2
                clear hts hlw
                have h8 : A.tmps.getD 8 undef = .pointer (some ⟨w2.heap.size, 0, none⟩) := hbase 8 (by kernel_rfl)
                have h11 : A.tmps.getD 11 undef = .pointer (some ⟨gt, 0, none⟩) := hbase 11 (by kernel_rfl)
                have h2 : A.tmps.getD 2 undef = .slice al ll cl := hbase 2 (by kernel_rfl)
                have h12 : A.tmps.getD 12 undef = .int .i64 (i : Int) := hbase 12 (by kernel_rfl)
                have h13 : A.tmps.getD 13 undef = .string (nmB i) := hbase 13 (by kernel_rfl)
                clear hbase
                simp [slotOf, Region.binds, Vs] at hdep
                refine opOk_run rfl (.inl ⟨_, W, ?_, rfl, Ext.refl _⟩); clear hsz hS; simp [go_sem, Act.eval, *]
              · intro A W bo hsz hS hdep hbase
                have hts := hS.1
                have hlw := HLW.out.belowC hts.bl HLWc.out.gs
                obtain ⟨d0', d1', d2'⟩ := hlw.cells
                obtain ⟨s0', s1', s2'⟩ := hts.cells
                have y0' := (hts.bl.cell (p := ⟨by', oy + i * 3, none⟩) hbyw).trans y0
                have y1' := (hts.bl.cell (p := ⟨by', oy + i * 3 + 1, none⟩) hbyw).trans y1
                have y2' := (hts.bl.cell (p := ⟨by', oy + i * 3 + 2, none⟩) hbyw).trans y2
                clear hts hlw
                have h8 : A.tmps.getD 8 undef = .pointer (some ⟨w2.heap.size, 0, none⟩) := hbase 8 (by kernel_rfl)
                have h11 : A.tmps.getD 11 undef = .pointer (some ⟨gt, 0, none⟩) := hbase 11 (by kernel_rfl)
                have h2 : A.tmps.getD 2 undef = .slice al ll cl := hbase 2 (by kernel_rfl)
                have h12 : A.tmps.getD 12 undef = .int .i64 (i : Int) := hbase 12 (by kernel_rfl)
                have h13 : A.tmps.getD 13 undef = .string (nmB i) := hbase 13 (by kernel_rfl)
                clear hbase
                simp [slotOf, Region.binds, Vs] at hdep
                refine opOk_run rfl (.inl ⟨_, W, ?_, rfl, Ext.refl _⟩); clear hsz hS; simp [go_sem, Act.eval, *]
              · intro A W bo hsz hS hdep hbase
                have hts := hS.1
                have hlw := HLW.out.belowC hts.bl HLWc.out.gs
                obtain ⟨d0', d1', d2'⟩ := hlw.cells
                obtain ⟨s0', s1', s2'⟩ := hts.cells
                have y0' := (hts.bl.cell (p := ⟨by', oy + i * 3, none⟩) hbyw).trans y0
                have y1' := (hts.bl.cell (p := ⟨by', oy + i * 3 + 1, none⟩) hbyw).trans y1
                have y2' := (hts.bl.cell (p := ⟨by', oy + i * 3 + 2, none⟩) hbyw).trans y2
                clear hts hlw
                have h8 : A.tmps.getD 8 undef = .pointer (some ⟨w2.heap.size, 0, none⟩) := hbase 8 (by kernel_rfl)
                have h11 : A.tmps.getD 11 undef = .pointer (some ⟨gt, 0, none⟩) := hbase 11 (by kernel_rfl)
                have h2 : A.tmps.getD 2 undef = .slice al ll cl := hbase 2 (by kernel_rfl)
                have h12 : A.tmps.getD 12 undef = .int .i64 (i : Int) := hbase 12 (by kernel_rfl)
                have h13 : A.tmps.getD 13 undef = .string (nmB i) := hbase 13 (by kernel_rfl)
                clear hbase
                simp [slotOf, Region.binds, Vs] at hdep
                have hne := hS.2.2
                refine opOk_run rfl (.inl ⟨.slice (some ⟨W.heap.size, 0, none⟩) 1 1, W.alloc (.cells #[.int .i64 rl.frm, .int .i64 rl.dst, .string rl.inp, .string rl.out, .int .i64 rl.cost] 29), ?_, ⟨W.heap.size, rfl, heap_alloc_new _ _, fun e => absurd (hne _ e) (Nat.lt_irrefl _)⟩, (Below.refl _ _).alloc (Nat.le_refl _) _⟩)
                have hrl := HRL.out
                subst hrl
                simp only [zR]
                clear hsz hS hne; simp [go_sem, Act.eval, *]
              · intro A W hsz hS hdep hbase
                have hown := hS.2.1 rfl
                have hs1 : A.tmps.getD 83 undef = Value.slice bt nt ct := hdep ⟨1, .data⟩ (by simp) rfl
                have hs2 : RowOne (Value.slice bt nt ct) rl (A.tmps.getD 111 undef) W := hdep ⟨29, .data⟩ (by simp) rfl
                refine ⟨rfl, (opres_rule rfl (eval_tmp hs1) hown rfl (by rw [eval_tmp rfl]; exact hs2) (by have := hT64.out; omega) (Nat.le_trans hS.1.ge (Nat.le_of_lt hS.1.gs))).mono fun v w' h => ⟨h.1, h.2, hS.1.grown h.2 hown.ge (hown.ne_of hS.1.rep), fun e => (by cases e), fun g hg => Nat.lt_of_lt_of_le (hown.lt g hg) h.2.size⟩⟩
              · intro A W bo hsz hS hdep hbase
                have hts := hS.1
                have hlw := HLW.out.belowC hts.bl HLWc.out.gs
                obtain ⟨d0', d1', d2'⟩ := hlw.cells
                obtain ⟨s0', s1', s2'⟩ := hts.cells
                have y0' := (hts.bl.cell (p := ⟨by', oy + i * 3, none⟩) hbyw).trans y0
                have y1' := (hts.bl.cell (p := ⟨by', oy + i * 3 + 1, none⟩) hbyw).trans y1
                have y2' := (hts.bl.cell (p := ⟨by', oy + i * 3 + 2, none⟩) hbyw).trans y2
                clear hts hlw
                have h8 : A.tmps.getD 8 undef = .pointer (some ⟨w2.heap.size, 0, none⟩) := hbase 8 (by kernel_rfl)
                have h11 : A.tmps.getD 11 undef = .pointer (some ⟨gt, 0, none⟩) := hbase 11 (by kernel_rfl)
                have h2 : A.tmps.getD 2 undef = .slice al ll cl := hbase 2 (by kernel_rfl)
                have h12 : A.tmps.getD 12 undef = .int .i64 (i : Int) := hbase 12 (by kernel_rfl)
                have h13 : A.tmps.getD 13 undef = .string (nmB i) := hbase 13 (by kernel_rfl)
                clear hbase
                simp [slotOf, Region.binds, Vs] at hdep
                refine opOk_run rfl (.inl ⟨_, W, ?_, rfl, Ext.refl _⟩); clear hsz hS; simp [go_sem, Act.eval, *]
              · trivial
            case hlast =>
              intro A1 W hsz hdf hS hv hbase
              have hst : A1.tmps.getD 113 undef = .pointer (some ⟨gt, 2, none⟩) := hv 31 (by decide)
              have hown : OwnR W (wc.heap.size) (A1.tmps.getD 112 undef) (T ++ [rl]) := hv 30 (by decide)
              obtain ⟨R', hR'⟩ : ∃ R', R' = T ++ [rl] := ⟨_, rfl⟩
              rw [← hR'] at hown
              obtain ⟨b', c', hap, hrs, hcp⟩ := hown.rules
              rw [hap] at hown
              obtain ⟨e0, e1, e2⟩ := hS.1.cells
              refine wpOp_store rfl rfl rfl rfl (eval_tmp hst) (eval_tmp hap) (hS.1.free 2) e2 (by kernel_rfl) ?_
              have HTS' := Lib.hid (hS.1.put hown)
              obtain ⟨x, hx, hA⟩ := act_puts [82, 83, 84, 85, 86, 87, 88, 89, 90, 91, 92, 93, 94, 95, 96, 97, 98, 99, 100, 101, 102, 103, 104, 105, 106, 107, 108, 109, 110, 111, 112, 113] (by kernel_rfl) hsz hdf hbase
              obtain ⟨wz, hwz⟩ : ∃ wz, wz = W.setCell ⟨gt, 2, none⟩ (.slice b' R'.length c') := ⟨_, rfl⟩
              rw [← hwz] at HTS' ⊢
              rw [hA]
              simp only [List.foldl]
              simp only [Act.put, List.setIfInBounds_toArray, List.set_cons_succ, List.set_cons_zero]
              have HR' := Lib.hid hR'
              clear hA hx hv hbase hsz hdf hwz e0 e1 e2 hap hown hrs hcp hst hR'
              have HQ2 : Hid (QOk S.modes (Q ++ [rl])) := by
                show QOk _ _
                rw [HRL.out]
                have := qOk_snoc (f := Y i 0 % S.modes) (t := Y i 1 % S.modes) (c := Y i 2) HQ.out (Int.emod_nonneg _ (by omega)) (Int.emod_lt_of_pos _ (by omega)) (Int.emod_nonneg _ (by omega)) (Int.emod_lt_of_pos _ (by omega)) u2 v2
                rw [HQL.out] at this
                exact this
              go_wp2_with fail
              go_roundw
              case rel => exact ⟨i + 1, Q ++ [rl], R', b', R'.length, c', by omega, by omega, by go_num, by rw [List.length_append, HQL.out]; rfl, HQ2.out, by rw [HR'.out, HT.out, List.append_assoc], rfl, HTS'.out.rebase HTXr.out.bl⟩
              case measure => simp [intOf]; omega
          · have hex3 : (¬ ((i : Int) < (ll : Int))) ∨ (((i : Int) < (ll : Int)) ∧ ¬ ((i : Int) < 6)) := by omega
            clear hex
            rcases hex3 with hx1 | ⟨hx1, hx2⟩
            all_goals
              have HST : Hid ((⟨S.modes, S.acc, T⟩ : Sch) = addS S Q) := by show (⟨S.modes, S.acc, T⟩ : Sch) = ⟨S.modes, S.acc, S.rules ++ Q⟩; rw [HT.out]
              have HQ6 : Hid (Q.length ≤ 6) := by have := HQL.out; show _ ≤ _; omega
              have HVT : Hid (validB ⟨S.modes, S.acc, T⟩ = true) := by show _ = _; rw [HST.out]; exact qOk_valid HV.out HOK.out hl12 HQ.out HQ6.out
              have HFT5 : Hid (Fit ⟨S.modes, S.acc, T⟩) := fit_of HVT.out (show 0 ≤ S.acc by omega) ha1
              have hn := HNT.out
              subst hn
              have hTl : T.length ≤ 9223372036854775807 := by have := hT64.out; omega
              have HRE := Lib.hid (rsound_eq (S := S) (fun _ => HFit.out))
              go_wp2_with fail
              refine (rsound_any S b c _ HLW.out.rul (by omega) ha1 hl63 (fun _ => HFit.out)).mono ?_
              rintro e w7 ⟨he, hb⟩
              rw [HRE.out] at he
              subst he
              have HLW7 := Lib.hid (HLW.out.below hb)
              have HTX7 := Lib.hid (HTXr.out.below hb)
              have hB7 := hB.trans (hb.mono hB.size)
              clear hc hf d0 d1 d2 s0 s1 s2 hzz hb hB
              obtain ⟨hzz, hc, hf⟩ := bcellB HLW7.out.bl rfl
              obtain ⟨d0, d1, d2⟩ := HLW7.out.cells
              obtain ⟨s0, s1, s2⟩ := HTX7.out.cells
              by_cases hs0 : soundF S = 0
              · have hadd := add_sound HV.out HFit.out hs0 (by have h9 := HFT5.out; rw [HST.out] at h9; exact h9) (by have h9 := HVT.out; rw [HST.out] at h9; exact h9) (qOk_letters HQ.out)
                rw [← HST.out] at hadd
                have hne0 : (soundF S != 0) = false := by simp [hs0]
                have HS0 := Lib.hid hs0
                clear hs0
                have hca : ∃ es sl, soundF ⟨S.modes, S.acc, T⟩ = es ∧ S.rules.any emptyR = sl ∧ (es = 0 ∨ es = 40 ∨ (es = 41 ∧ sl = true)) := by
                  rcases hadd with h | h | ⟨h, h2⟩
                  · exact ⟨_, _, h, rfl, .inl rfl⟩
                  · exact ⟨_, _, h, rfl, .inr (.inl rfl)⟩
                  · exact ⟨_, _, h, h2, .inr (.inr ⟨rfl, rfl⟩)⟩
                obtain ⟨es, sl, hes, hsl, hca⟩ := hca
                have HES := Lib.hid hes
                have HSL := Lib.hid hsl
                clear hes hsl hadd
                rcases hca with rfl | rfl | ⟨rfl, rfl⟩
                all_goals
                  go_wp2_with fail
                  refine (sound_any ⟨S.modes, S.acc, T⟩ bt ct _ HTX7.out.own.ruls.1 (show 0 ≤ S.acc by omega) ha1 hTl HTX7.out.own.ruls.2.2 (fun _ => HFT5.out)).mono ?_
                  rintro e w8 ⟨he, hb⟩
                  rw [HES.out] at he
                  subst he
                  have HLW8 := Lib.hid (HLW7.out.below hb)
                  have HTX8 := Lib.hid (HTX7.out.below hb)
                  have hB8 := hB7.trans (hb.mono hB7.size)
                  clear hc hf d0 d1 d2 s0 s1 s2 hzz hb hB7
                  obtain ⟨hzz, hc, hf⟩ := bcellB HLW8.out.bl rfl
                  obtain ⟨d0, d1, d2⟩ := HLW8.out.cells
                  obtain ⟨s0, s1, s2⟩ := HTX8.out.cells
                  go_wp2_with fail
                  refine (rvalid_any ⟨S.modes, S.acc, T⟩ bt ct _ HTX8.out.own.ruls.1 (show 0 ≤ S.acc by omega) ha1 hTl).mono ?_
                  rintro e w9 ⟨he, hb⟩
                  rw [HVT.out] at he
                  subst he
                  have HLW9 := Lib.hid (HLW8.out.below hb)
                  have hB9 := hB8.trans (hb.mono hB8.size)
                  clear hc hf d0 d1 d2 s0 s1 s2 hzz hb hB8
                  obtain ⟨hzz, hc, hf⟩ := bcellB HLW9.out.bl rfl
                  obtain ⟨d0, d1, d2⟩ := HLW9.out.cells
                  first
                  | (go_wp2_with fail
                     refine (lsilent_any S b c _ HLW9.out.rul (by omega)).mono ?_
                     rintro e w10 ⟨he, hb⟩
                     rw [HSL.out] at he
                     subst he
                     have hB10 := hB9.trans (hb.mono hB9.size)
                     clear hc hf d0 d1 d2 hzz hb
                     go_wp2_with fail
                     go_ret
                     exact ⟨rfl, hB10⟩)
                  | (go_wp2_with fail
                     go_ret
                     exact ⟨rfl, hB9⟩)
              · have hne0 : (soundF S != 0) = true := by simp [hs0]
                clear hs0
                go_wp2_with fail
                go_ret
                exact ⟨rfl, hB7⟩

theorem flawAdds_view (x : RawA) (f : Int) (y : RowsA) (w : World) (hx : RawOk w x) (h0 : 0 ≤ f) (h1 : f ≤ 255) (hy : RowsOk w y) :
    Calls Try.prog 8 #[x.val, .int .u8 f, y.val] w fun e w' => e = .returned (.bool true) ∧ Below w.heap.size w w' :=
  flawAdds_any x.M x.A x.a x.len x.cap x.Z f y.a y.len y.cap y.Z w hx.m0 hx.m1 hx.a0 hx.a1 hx.rows h0 h1 hy
end Go.Proofs.Ytogjcfcfgnbmkaa
