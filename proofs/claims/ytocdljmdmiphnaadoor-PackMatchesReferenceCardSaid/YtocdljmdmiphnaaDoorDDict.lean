
/- Counts, equal lists, dictionaries. -/
import Derived.Test.YtocdljmdmiphnaaDoorDStr
import Derived.Deep.QuietTactic
import Derived.BigQuiet
import Derived.Test.YtocdljmdmiphnaaDoorRegionZ
namespace Go.Proofs.YtocdljmdmiphnaaDoor
open Go.RowKit Go.WideShapes
set_option linter.unusedVariables false
set_option linter.unusedSimpArgs false

/-! ### counts -/
def begN (L : List ByteArray) (p : ByteArray) : Nat := L.countP fun x => begB x p
theorem begN_succ {L : List ByteArray} {p : ByteArray} {k : Nat} (hk : k < L.length) : begN (L.take (k + 1)) p = begN (L.take k) p + if begB L[k] p = true then 1 else 0 := by
  rw [begN, List.take_succ_eq_append_getElem hk, List.countP_append]
  simp [begN, List.countP_cons]
theorem begN_le (L : List ByteArray) (p : ByteArray) : begN L p ≤ L.length := List.countP_le_length
/-! ### equal lists -/
theorem same_end {L M : List ByteArray} {k : Nat} (hl : L.length = M.length) (hk : ¬ k < L.length) (h : L.take k = M.take k) : L = M := by
  rwa [List.take_of_length_le (by omega), List.take_of_length_le (by omega)] at h
set_option maxHeartbeats 1600000 in
theorem sameWords_any (L M : List ByteArray) (n m : Nat) (a b : Option Addr) (c d : Nat) (w : World) (hR : StrS w a L) (hQ : StrS w b M) (hL : n = L.length) (hM : m = M.length) (hn : n ≤ 9223372036854775807) (hm : m ≤ 9223372036854775807) :
    Calls Tryd.prog 20 #[.slice a n c, .slice b m d] w fun e w' => e = .returned (.bool (decide (L = M))) ∧ Below w.heap.size w w' := by
  subst hL hM
  have HR := Lib.hid hR; have HQ := Lib.hid hQ; clear hR hQ
  by_cases hl : L.length = M.length
  · have hlI : ((L.length : Int) != (M.length : Int)) = false := by simp [hl]
    have HL := Lib.hid hl
    clear hl
    go_enter Tryd.func20, Tryd.ntmps20
    go_wp2
    go_loopw [5] (fun i wr => ∃ k : Nat, k ≤ L.length ∧ i = .int .i64 k ∧ L.take k = M.take k ∧ Below w.heap.size w wr) (fun i _ => L.length - (intOf i).toNat)
    case atStart => exact ⟨0, Nat.zero_le _, rfl, rfl, Below.refl _ _⟩
    case round =>
      obtain ⟨k, hk, rfl, ht, hB⟩ := hrel
      have HT := Lib.hid ht; clear ht
      by_cases hlt : k < L.length
      · have hlt2 : k < M.length := by have := HL.out; omega
        obtain ⟨b1, o1, ha1, hb1, h1⟩ := (HR.out.later hB (Nat.le_refl _)).at hlt
        obtain ⟨b2, o2, ha2, hb2, h2⟩ := (HQ.out.later hB (Nat.le_refl _)).at hlt2
        have hi1 := idx_strs a b1 o1 L.length c k ha1 hlt
        have hi2 := idx_strs b b2 o2 M.length d k ha2 hlt2
        have HA := Lib.hid ha1; have HA2 := Lib.hid ha2; clear ha1 ha2
        have HS1 := Lib.hid (List.take_succ_eq_append_getElem hlt); have HS2 := Lib.hid (List.take_succ_eq_append_getElem hlt2)
        obtain ⟨x, hx⟩ : ∃ x, L[k] = x := ⟨_, rfl⟩
        obtain ⟨y, hy⟩ : ∃ y, M[k] = y := ⟨_, rfl⟩
        have HX := Lib.hid hx; have HY := Lib.hid hy
        rw [hx] at h1 HS1
        rw [hy] at h2 HS2
        clear hx hy
        by_cases hq : x = y
        · have HN : Hid (L.take (k + 1) = M.take (k + 1)) := by show _ = _; rw [HS1.out, HS2.out, HT.out, hq]
          have hbq : (x.toList == y.toList) = true := by rw [beq_str]; simp [hq]
          clear hq
          go_wp2
          go_quiet (fail)
          go_wp2
          go_roundw
          case rel => exact ⟨k + 1, by omega, by go_num, HN.out, below_drewN hB _⟩
          case measure => simp [intOf]; omega
        · have HN : Hid (decide (L = M) = false) := decide_eq_false fun h => hq (by have := HX.out; have := HY.out; subst h; simp_all)
          have hbq : (x.toList == y.toList) = false := by rw [beq_str]; exact decide_eq_false hq
          clear hq
          go_wp2
          go_quiet (fail)
          go_wp2
          go_ret
          exact ⟨ret_bool HN.out.symm, below_drewN hB _⟩
      · have HN : Hid (decide (L = M) = true) := decide_eq_true (same_end HL.out hlt HT.out)
        go_wp2
        go_ret
        exact ⟨ret_bool HN.out.symm, hB⟩
  · have HN : Hid (decide (L = M) = false) := decide_eq_false fun h => hl (by rw [h])
    have hlI : ((L.length : Int) != (M.length : Int)) = true := by simp; omega
    clear hl
    go_enter Tryd.func20, Tryd.ntmps20
    go_wp2
    go_ret
    exact ⟨ret_bool HN.out.symm, by go_grown⟩
/-! ### dictionaries -/
def ltS (s t : ByteArray) : Bool := Op.bytesLess s.toList t.toList
/-- the first k are words, and increase -/
def GoodTo (L : List ByteArray) (k : Nat) : Prop := ∀ i (h : i < L.length), i < k → wordB L[i] = true ∧ (0 < i → ltS (L[i - 1]'(by omega)) L[i] = true)
def Dict (L : List ByteArray) : Prop := 1 ≤ L.length ∧ L.length ≤ 200 ∧ GoodTo L L.length
noncomputable def dictB (L : List ByteArray) : Bool := @decide (Dict L) (Classical.propDecidable _)
theorem dictB_yes {L : List ByteArray} (h : Dict L) : dictB L = true := @decide_eq_true _ (Classical.propDecidable _) h
theorem dictB_no {L : List ByteArray} (h : ¬ Dict L) : dictB L = false := @decide_eq_false _ (Classical.propDecidable _) h
theorem GoodTo.step {L : List ByteArray} {k : Nat} (h : GoodTo L k) (hk : k < L.length) (h1 : wordB L[k] = true) (h2 : 0 < k → ltS (L[k - 1]'(by omega)) L[k] = true) : GoodTo L (k + 1) := by
  intro i hi hik
  by_cases e : i = k
  · subst e; exact ⟨h1, h2⟩
  · exact h i hi (by omega)
theorem less_total : ∀ a b : List UInt8, (Op.bytesLess a b || a == b) = !(Op.bytesLess b a)
  | [], [] => by simp [Op.bytesLess]
  | [], _ :: _ => by simp [Op.bytesLess]
  | _ :: _, [] => by simp [Op.bytesLess]
  | x :: xs, y :: ys => by
    have ih := less_total xs ys
    have e1 : ∀ u v : UInt8, (u < v) = (u.toNat < v.toNat) := fun u v => by rw [UInt8.lt_iff_toNat_lt]
    simp only [Op.bytesLess]
    rcases Nat.lt_trichotomy x.toNat y.toNat with h | h | h
    · have h1 : x < y := by rw [e1]; exact h
      have h2 : ¬ y < x := by rw [e1]; omega
      have h3 : ¬ y = x := by rintro rfl; omega
      simp [h1, h2, h3]
    · have h3 : x = y := UInt8.toNat_inj.1 h
      subst h3
      have h1 : ¬ x < x := by rw [e1]; omega
      simpa [h1] using ih
    · have h1 : y < x := by rw [e1]; exact h
      have h2 : ¬ x < y := by rw [e1]; omega
      have h3 : ¬ x = y := by rintro rfl; omega
      simp [h1, h2, h3]
theorem ltS_total (s t : ByteArray) : (ltS s t || s.toList == t.toList) = !(ltS t s) := less_total _ _
set_option maxHeartbeats 1600000 in
set_option maxRecDepth 100000 in
theorem dictionary_any (L : List ByteArray) (n : Nat) (a : Option Addr) (cap : Nat) (w : World) (hR : StrS w a L) (hL : n = L.length) (hn : n ≤ 9223372036854775807) :
    Calls Tryd.prog 42 #[.slice a n cap] w fun e w' => e = .returned (.bool (dictB L)) ∧ w = w' := by
  subst hL
  have HR := Lib.hid hR; clear hR
  by_cases h1 : 1 ≤ L.length
  · have i1 : ¬ (L.length : Int) < 1 := by omega
    by_cases h2 : L.length ≤ 200
    · have i2 : ¬ (200 : Int) < (L.length : Int) := by omega
      go_enter Tryd.func42, Tryd.ntmps42
      go_wp2
      go_loop [15] (fun i => ∃ k : Nat, k ≤ L.length ∧ i = .int .i64 k ∧ GoodTo L k) (fun i => L.length - (intOf i).toNat)
      case atStart => exact ⟨0, Nat.zero_le _, rfl, fun i _ h => by omega⟩
      case round =>
        obtain ⟨k, hk, rfl, hg⟩ := hrel
        have HG := Lib.hid hg; clear hg
        by_cases hlt : k < L.length
        · obtain ⟨b, o, ha, hb, h0⟩ := HR.out.at hlt
          have hidx := idx_strs a b o L.length cap k ha hlt
          obtain ⟨x, hx⟩ : ∃ x, L[k] = x := ⟨_, rfl⟩
          have HX := Lib.hid hx
          rw [hx] at h0
          clear hx
          obtain ⟨q, hq⟩ : ∃ q, wordB x = q := ⟨_, rfl⟩
          have HQ := Lib.hid hq
          clear hq
          cases q with
          | false =>
            have HN : Hid (dictB L = false) := dictB_no fun h => by
              have := (h.2.2 k hlt hlt).1
              rw [HX.out, HQ.out] at this; cases this
            clear ha
            go_wp2_with (go_at_call 56; refine (word_any _ _).mono ?_; rintro e w' ⟨he, rfl⟩; rw [HQ.out] at he; subst he)
            go_ret
            exact ⟨ret_bool HN.out.symm, rfl⟩
          | true =>
            by_cases hk0 : k = 0
            · have hgt : ¬ (0 : Int) < (k : Int) := by omega
              have HS : Hid (GoodTo L (k + 1)) := HG.out.step hlt (by rw [HX.out]; exact HQ.out) (fun h => by omega)
              clear ha hk0
              go_wp2_with (go_at_call 56; refine (word_any _ _).mono ?_; rintro e w' ⟨he, rfl⟩; rw [HQ.out] at he; subst he)
              go_round
              case rel => exact ⟨k + 1, by omega, by go_num, HS.out⟩
              case measure => simp [intOf]; omega
            · have hj : k - 1 < L.length := by omega
              obtain ⟨j, hjk⟩ : ∃ j, k - 1 = j := ⟨_, rfl⟩
              obtain ⟨b2, o2, ha2, hb2, h2⟩ := HR.out.at hj
              obtain ⟨y, hy⟩ : ∃ y, L[k - 1] = y := ⟨_, rfl⟩
              have HY := Lib.hid hy
              rw [hy] at h2
              rw [hjk] at h2 hj
              have hidx2 := idx_strs a b2 o2 L.length cap j ha2 hj
              have hw1 : IntKind.i64.wrap ((k : Int) - 1) = (j : Int) := by rw [IntWalk.i64_in _ (by omega)]; omega
              have hgt : (0 : Int) < (k : Int) := by omega
              clear hy ha ha2 hjk
              obtain ⟨q, hq⟩ : ∃ q, Op.bytesLess y.toList x.toList = q := ⟨_, rfl⟩
              have HLT : Hid (ltS y x = q) := hq
              cases q with
              | true =>
                have HS : Hid (GoodTo L (k + 1)) := HG.out.step hlt (by rw [HX.out]; exact HQ.out) (fun h => by rw [HY.out, HX.out]; exact HLT.out)
                go_wp2_with (go_at_call 56; refine (word_any _ _).mono ?_; rintro e w' ⟨he, rfl⟩; rw [HQ.out] at he; subst he)
                go_round
                case rel => exact ⟨k + 1, by omega, by go_num, HS.out⟩
                case measure => simp [intOf]; omega
              | false =>
                have HN : Hid (dictB L = false) := dictB_no fun h => by
                  have := (h.2.2 k hlt hlt).2 (by omega)
                  rw [HY.out, HX.out, HLT.out] at this; cases this
                go_wp2_with (go_at_call 56; refine (word_any _ _).mono ?_; rintro e w' ⟨he, rfl⟩; rw [HQ.out] at he; subst he)
                go_ret
                exact ⟨ret_bool HN.out.symm, rfl⟩
        · have HN : Hid (dictB L = true) := dictB_yes ⟨h1, h2, fun i hi _ => HG.out i hi (by omega)⟩
          go_wp2
          go_ret
          exact ⟨ret_bool HN.out.symm, rfl⟩
    · have i2 : (200 : Int) < (L.length : Int) := by omega
      have HN : Hid (dictB L = false) := dictB_no fun h => h2 h.2.1
      go_enter Tryd.func42, Tryd.ntmps42
      go_wp2
      go_ret
      exact ⟨ret_bool HN.out.symm, rfl⟩
  · have i1 : (L.length : Int) < 1 := by omega
    have HN : Hid (dictB L = false) := dictB_no fun h => h1 h.1
    go_enter Tryd.func42, Tryd.ntmps42
    go_wp2
    go_ret
    exact ⟨ret_bool HN.out.symm, rfl⟩
end Go.Proofs.YtocdljmdmiphnaaDoor
/- Reference 09: Dictionary. -/
namespace Go.Proofs.YtocdljmdmiphnaaDoor
open Go.RowKit Go.WideShapes
set_option linter.unusedVariables false
set_option linter.unusedSimpArgs false

set_option maxHeartbeats 1600000 in
set_option maxRecDepth 100000 in
theorem rdictionary_any (L : List ByteArray) (n : Nat) (a : Option Addr) (cap : Nat) (w : World) (hR : StrS w a L) (hL : n = L.length) (hn : n ≤ 9223372036854775807) :
    Calls Tryd.prog 47 #[.slice a n cap] w fun e w' => e = .returned (.bool (dictB L)) ∧ Below w.heap.size w w' := by
  subst hL
  have HR := Lib.hid hR; clear hR
  go_enter Tryd.func47, Tryd.ntmps47
  go_wp2
  go_loopw [3] (fun i wr => ∃ k : Nat, k ≤ L.length ∧ i = .int .i64 k ∧ GoodTo L k ∧ Below w.heap.size w wr) (fun i _ => L.length - (intOf i).toNat)
  case atStart => exact ⟨0, Nat.zero_le _, rfl, fun i _ h => by omega, Below.refl _ _⟩
  case round =>
    obtain ⟨k, hk, rfl, hg, hB⟩ := hrel
    have HG := Lib.hid hg; have HBR := Lib.hid hB; clear hg
    by_cases hlt : k < L.length
    · obtain ⟨b, o, ha, hb, h0⟩ := (HR.out.later hB (Nat.le_refl _)).at hlt
      have hidx := idx_strs a b o L.length cap k ha hlt
      obtain ⟨x, hx⟩ : ∃ x, L[k] = x := ⟨_, rfl⟩
      have HX := Lib.hid hx
      rw [hx] at h0
      have HX0 := Lib.hid h0
      clear hx hB h0
      obtain ⟨q, hq⟩ : ∃ q, wordB x = q := ⟨_, rfl⟩
      have HQ := Lib.hid hq
      clear hq
      cases q with
      | false =>
        have HN : Hid (dictB L = false) := dictB_no fun h => by
          have := (h.2.2 k hlt hlt).1
          rw [HX.out, HQ.out] at this; cases this
        clear ha
        go_upto_region 4 with fail
        refine wp_region_rv (by kernel_rfl) (Vs [fun v _ => v = .slice a L.length cap, fun v _ => v = .int .i64 (k : Int), fun v _ => v = .pointer (some ⟨b, o + k, none⟩), fun v _ => v = .string x, fun v _ => v = .bool false, fun v _ => v = .bool true, fun v _ => v = .bool true, fun v _ => v = undef, fun v _ => v = undef, fun v _ => v = undef, fun v _ => v = undef, fun v _ => v = undef, fun v _ => v = undef, fun v _ => v = undef, fun v _ => v = undef, fun v _ => v = undef, fun v _ => v = undef, fun v _ => v = undef, fun v _ => v = undef, fun v _ => v = undef, fun v _ => v = undef, fun v _ => v = .bool true]) (fun W => Below wr.heap.size wr W) 40 (by kernel_rfl) rfl ?hVx ?hSx ?hS (opsOk_all ?hop) ?hfin
        case hop =>
          refine ⟨?_, ?_, ?_, ?_, ?_, ?_, ?_, ?_, ?_, ?_, ?_, ?_, ?_, ?_, ?_, ?_, ?_, ?_, ?_, ?_, ?_, ?_, trivial⟩
          all_goals
            intro A W hsz hS hdep hbase
            have x0' := (hS.cell (p := ⟨b, o + k, none⟩) hb).trans HX0.out
            have h0 : A.tmps.getD 0 undef = .slice a L.length cap := hbase 0 (by kernel_rfl)
            have h3 : A.tmps.getD 3 undef = .int .i64 (k : Int) := hbase 3 (by kernel_rfl)
            clear hbase
            simp [slotOf, Region.binds, Vs] at hdep
          · refine opOk_run rfl (.inl ⟨_, W, ?_, rfl, Ext.refl _⟩); clear hsz hS; simp [go_sem, Act.eval, *]
          · refine opOk_run rfl (.inl ⟨_, W, ?_, rfl, Ext.refl _⟩); clear hsz hS; simp [go_sem, Act.eval, *]
          · refine opOk_run rfl (.inl ⟨_, W, ?_, rfl, Ext.refl _⟩); clear hsz hS; simp [go_sem, Act.eval, *]
          · refine opOk_run rfl (.inl ⟨_, W, ?_, rfl, Ext.refl _⟩); clear hsz hS; simp [go_sem, Act.eval, *]
          · refine opOk_run rfl (.inr ⟨62, #[.string x], W, by (clear hsz hS; simp [go_sem, Act.eval, *]), ?_⟩)
            refine (rword_any x W).mono ?_
            rintro e w' ⟨he, rfl⟩
            rw [HQ.out] at he
            exact ⟨_, he, rfl, Ext.refl _⟩
          · refine opOk_run rfl (.inl ⟨_, W, ?_, rfl, Ext.refl _⟩); clear hsz hS; simp [go_sem, Act.eval, *]
          · refine opOk_run rfl (.inl ⟨_, W, ?_, rfl, Ext.refl _⟩); clear hsz hS; simp [go_sem, Act.eval, *]
          · exact opOk_skip (j := 6) (d := 16) (b := true) rfl (by kernel_rfl) (by first | exact hdep | exact hdep.1 | exact hdep.2 | exact hdep.2.1 | exact hdep.2.2 | exact hdep.2.2.1 | exact hdep.2.2.2 | exact hdep.2.2.2.1 | exact hdep.2.2.2.2) rfl rfl
          · exact opOk_skip (j := 6) (d := 16) (b := true) rfl (by kernel_rfl) (by first | exact hdep | exact hdep.1 | exact hdep.2 | exact hdep.2.1 | exact hdep.2.2 | exact hdep.2.2.1 | exact hdep.2.2.2 | exact hdep.2.2.2.1 | exact hdep.2.2.2.2) rfl rfl
          · exact opOk_skip (j := 6) (d := 16) (b := true) rfl (by kernel_rfl) (by first | exact hdep | exact hdep.1 | exact hdep.2 | exact hdep.2.1 | exact hdep.2.2 | exact hdep.2.2.1 | exact hdep.2.2.2 | exact hdep.2.2.2.1 | exact hdep.2.2.2.2) rfl rfl
          · exact opOk_skip_undef (j := 9) (d := 19) rfl (by kernel_rfl) (by first | exact hdep | exact hdep.1 | exact hdep.2 | exact hdep.2.1 | exact hdep.2.2 | exact hdep.2.2.1 | exact hdep.2.2.2 | exact hdep.2.2.2.1 | exact hdep.2.2.2.2) rfl
          · exact opOk_skip_undef (j := 9) (d := 19) rfl (by kernel_rfl) (by first | exact hdep | exact hdep.1 | exact hdep.2 | exact hdep.2.1 | exact hdep.2.2 | exact hdep.2.2.1 | exact hdep.2.2.2 | exact hdep.2.2.2.1 | exact hdep.2.2.2.2) rfl
          · exact opOk_skip_undef (j := 9) (d := 19) rfl (by kernel_rfl) (by first | exact hdep | exact hdep.1 | exact hdep.2 | exact hdep.2.1 | exact hdep.2.2 | exact hdep.2.2.1 | exact hdep.2.2.2 | exact hdep.2.2.2.1 | exact hdep.2.2.2.2) rfl
          · exact opOk_skip_undef (j := 9) (d := 19) rfl (by kernel_rfl) (by first | exact hdep | exact hdep.1 | exact hdep.2 | exact hdep.2.1 | exact hdep.2.2 | exact hdep.2.2.1 | exact hdep.2.2.2 | exact hdep.2.2.2.1 | exact hdep.2.2.2.2) rfl
          · exact opOk_skip_undef (j := 9) (d := 19) rfl (by kernel_rfl) (by first | exact hdep | exact hdep.1 | exact hdep.2 | exact hdep.2.1 | exact hdep.2.2 | exact hdep.2.2.1 | exact hdep.2.2.2 | exact hdep.2.2.2.1 | exact hdep.2.2.2.2) rfl
          · exact opOk_skip_undef (j := 9) (d := 19) rfl (by kernel_rfl) (by first | exact hdep | exact hdep.1 | exact hdep.2 | exact hdep.2.1 | exact hdep.2.2 | exact hdep.2.2.1 | exact hdep.2.2.2 | exact hdep.2.2.2.1 | exact hdep.2.2.2.2) rfl
          · exact opOk_skip_undef (j := 9) (d := 19) rfl (by kernel_rfl) (by first | exact hdep | exact hdep.1 | exact hdep.2 | exact hdep.2.1 | exact hdep.2.2 | exact hdep.2.2.1 | exact hdep.2.2.2 | exact hdep.2.2.2.1 | exact hdep.2.2.2.2) rfl
          · exact opOk_skip_undef (j := 9) (d := 19) rfl (by kernel_rfl) (by first | exact hdep | exact hdep.1 | exact hdep.2 | exact hdep.2.1 | exact hdep.2.2 | exact hdep.2.2.1 | exact hdep.2.2.2 | exact hdep.2.2.2.1 | exact hdep.2.2.2.2) rfl
          · exact opOk_skip_undef (j := 9) (d := 19) rfl (by kernel_rfl) (by first | exact hdep | exact hdep.1 | exact hdep.2 | exact hdep.2.1 | exact hdep.2.2 | exact hdep.2.2.1 | exact hdep.2.2.2 | exact hdep.2.2.2.1 | exact hdep.2.2.2.2) rfl
          · exact opOk_skip_undef (j := 9) (d := 19) rfl (by kernel_rfl) (by first | exact hdep | exact hdep.1 | exact hdep.2 | exact hdep.2.1 | exact hdep.2.2 | exact hdep.2.2.1 | exact hdep.2.2.2 | exact hdep.2.2.2.1 | exact hdep.2.2.2.2) rfl
          · exact opOk_skip (j := 6) (d := 16) (b := true) rfl (by kernel_rfl) (by first | exact hdep | exact hdep.1 | exact hdep.2 | exact hdep.2.1 | exact hdep.2.2 | exact hdep.2.2.1 | exact hdep.2.2.2 | exact hdep.2.2.2.1 | exact hdep.2.2.2.2) rfl rfl
          · refine opOk_run rfl (.inl ⟨_, W, ?_, rfl, Ext.refl _⟩); clear hsz hS; simp [go_sem, Act.eval, *]
        case hVx => exact vs_stays (by simp only [List.mem_cons, List.not_mem_nil, or_false, forall_eq_or_imp, forall_eq]; exact ⟨stays_const _, stays_const _, stays_const _, stays_const _, stays_const _, stays_const _, stays_const _, stays_const _, stays_const _, stays_const _, stays_const _, stays_const _, stays_const _, stays_const _, stays_const _, stays_const _, stays_const _, stays_const _, stays_const _, stays_const _, stays_const _, stays_const _⟩)
        case hSx => exact fun W W' h hx => h.trans (Below.mono hx h.size)
        case hS => exact Below.refl _ _
        case hfin =>
          intro A W hsz hdf hS hv hbase
          obtain ⟨x, hx, hA⟩ := act_puts [10, 11, 12, 13, 14, 15, 16, 17, 18, 19, 20, 21, 22, 23, 24, 25, 26, 27, 28, 29, 30, 31] (by kernel_rfl) hsz hdf hbase
          have e31 : x 31 = .bool true := (hx 31).trans (hv 21 (by decide))
          rw [hA]
          simp only [List.foldl]
          rw [e31]
          clear e31
          simp only [Act.put, List.setIfInBounds_toArray, List.set_cons_succ, List.set_cons_zero]
          clear hA hx hv hbase hsz hdf
          have HBX := Lib.hid (HBR.out.trans (hS.mono HBR.out.size))
          clear hS
          go_wp2_with fail
          go_ret
          exact ⟨ret_bool HN.out.symm, HBX.out⟩
      | true =>
        by_cases hk0 : k = 0
        · have hgt : ¬ (0 : Int) < (k : Int) := by omega
          have HS : Hid (GoodTo L (k + 1)) := HG.out.step hlt (by rw [HX.out]; exact HQ.out) (fun h => by omega)
          have HK0 := Lib.hid hk0
          clear ha hk0
          go_upto_region 4 with fail
          refine wp_region_rv (by kernel_rfl) (Vs [fun v _ => v = .slice a L.length cap, fun v _ => v = .int .i64 (k : Int), fun v _ => v = .pointer (some ⟨b, o + k, none⟩), fun v _ => v = .string x, fun v _ => v = .bool true, fun v _ => v = .bool false, fun v _ => v = .bool false, fun v _ => v = .int .i64 (k : Int), fun v _ => v = .bool false, fun v _ => v = .bool false, fun v _ => v = undef, fun v _ => v = undef, fun v _ => v = undef, fun v _ => v = undef, fun v _ => v = undef, fun v _ => v = undef, fun v _ => v = undef, fun v _ => v = undef, fun v _ => v = undef, fun v _ => v = undef, fun v _ => v = .bool false, fun v _ => v = .bool false]) (fun W => Below wr.heap.size wr W) 40 (by kernel_rfl) rfl ?hVx ?hSx ?hS (opsOk_all ?hop) ?hfin
          case hop =>
            refine ⟨?_, ?_, ?_, ?_, ?_, ?_, ?_, ?_, ?_, ?_, ?_, ?_, ?_, ?_, ?_, ?_, ?_, ?_, ?_, ?_, ?_, ?_, trivial⟩
            all_goals
              intro A W hsz hS hdep hbase
              have x0' := (hS.cell (p := ⟨b, o + k, none⟩) hb).trans HX0.out
              have h0 : A.tmps.getD 0 undef = .slice a L.length cap := hbase 0 (by kernel_rfl)
              have h3 : A.tmps.getD 3 undef = .int .i64 (k : Int) := hbase 3 (by kernel_rfl)
              clear hbase
              simp [slotOf, Region.binds, Vs] at hdep
            · refine opOk_run rfl (.inl ⟨_, W, ?_, rfl, Ext.refl _⟩); clear hsz hS; simp [go_sem, Act.eval, *]
            · refine opOk_run rfl (.inl ⟨_, W, ?_, rfl, Ext.refl _⟩); clear hsz hS; simp [go_sem, Act.eval, *]
            · refine opOk_run rfl (.inl ⟨_, W, ?_, rfl, Ext.refl _⟩); clear hsz hS; simp [go_sem, Act.eval, *]
            · refine opOk_run rfl (.inl ⟨_, W, ?_, rfl, Ext.refl _⟩); clear hsz hS; simp [go_sem, Act.eval, *]
            · refine opOk_run rfl (.inr ⟨62, #[.string x], W, by (clear hsz hS; simp [go_sem, Act.eval, *]), ?_⟩)
              refine (rword_any x W).mono ?_
              rintro e w' ⟨he, rfl⟩
              rw [HQ.out] at he
              exact ⟨_, he, rfl, Ext.refl _⟩
            · refine opOk_run rfl (.inl ⟨_, W, ?_, rfl, Ext.refl _⟩); clear hsz hS; simp [go_sem, Act.eval, *]
            · refine opOk_run rfl (.inl ⟨_, W, ?_, rfl, Ext.refl _⟩); clear hsz hS; simp [go_sem, Act.eval, *]
            · refine opOk_runG (j := 6) (d := 16) (b := false) rfl (by kernel_rfl) (by first | exact hdep | exact hdep.1 | exact hdep.2 | exact hdep.2.1 | exact hdep.2.2 | exact hdep.2.2.1 | exact hdep.2.2.2 | exact hdep.2.2.2.1 | exact hdep.2.2.2.2) rfl (.inl ⟨_, W, ?_, rfl, Ext.refl _⟩); clear hsz hS; simp [go_sem, Act.eval, *]
            · refine opOk_runG (j := 6) (d := 16) (b := false) rfl (by kernel_rfl) (by first | exact hdep | exact hdep.1 | exact hdep.2 | exact hdep.2.1 | exact hdep.2.2 | exact hdep.2.2.1 | exact hdep.2.2.2 | exact hdep.2.2.2.1 | exact hdep.2.2.2.2) rfl (.inl ⟨_, W, ?_, rfl, Ext.refl _⟩); clear hsz hS; simp [go_sem, Act.eval, *]; exact HK0.out
            · refine opOk_runG (j := 6) (d := 16) (b := false) rfl (by kernel_rfl) (by first | exact hdep | exact hdep.1 | exact hdep.2 | exact hdep.2.1 | exact hdep.2.2 | exact hdep.2.2.1 | exact hdep.2.2.2 | exact hdep.2.2.2.1 | exact hdep.2.2.2.2) rfl (.inl ⟨_, W, ?_, rfl, Ext.refl _⟩); clear hsz hS; simp [go_sem, Act.eval, *]
            · exact opOk_skip (j := 9) (d := 19) (b := false) rfl (by kernel_rfl) (by first | exact hdep | exact hdep.1 | exact hdep.2 | exact hdep.2.1 | exact hdep.2.2 | exact hdep.2.2.1 | exact hdep.2.2.2 | exact hdep.2.2.2.1 | exact hdep.2.2.2.2) rfl rfl
            · exact opOk_skip (j := 9) (d := 19) (b := false) rfl (by kernel_rfl) (by first | exact hdep | exact hdep.1 | exact hdep.2 | exact hdep.2.1 | exact hdep.2.2 | exact hdep.2.2.1 | exact hdep.2.2.2 | exact hdep.2.2.2.1 | exact hdep.2.2.2.2) rfl rfl
            · exact opOk_skip (j := 9) (d := 19) (b := false) rfl (by kernel_rfl) (by first | exact hdep | exact hdep.1 | exact hdep.2 | exact hdep.2.1 | exact hdep.2.2 | exact hdep.2.2.1 | exact hdep.2.2.2 | exact hdep.2.2.2.1 | exact hdep.2.2.2.2) rfl rfl
            · exact opOk_skip (j := 9) (d := 19) (b := false) rfl (by kernel_rfl) (by first | exact hdep | exact hdep.1 | exact hdep.2 | exact hdep.2.1 | exact hdep.2.2 | exact hdep.2.2.1 | exact hdep.2.2.2 | exact hdep.2.2.2.1 | exact hdep.2.2.2.2) rfl rfl
            · exact opOk_skip (j := 9) (d := 19) (b := false) rfl (by kernel_rfl) (by first | exact hdep | exact hdep.1 | exact hdep.2 | exact hdep.2.1 | exact hdep.2.2 | exact hdep.2.2.1 | exact hdep.2.2.2 | exact hdep.2.2.2.1 | exact hdep.2.2.2.2) rfl rfl
            · exact opOk_skip (j := 9) (d := 19) (b := false) rfl (by kernel_rfl) (by first | exact hdep | exact hdep.1 | exact hdep.2 | exact hdep.2.1 | exact hdep.2.2 | exact hdep.2.2.1 | exact hdep.2.2.2 | exact hdep.2.2.2.1 | exact hdep.2.2.2.2) rfl rfl
            · exact opOk_skip (j := 9) (d := 19) (b := false) rfl (by kernel_rfl) (by first | exact hdep | exact hdep.1 | exact hdep.2 | exact hdep.2.1 | exact hdep.2.2 | exact hdep.2.2.1 | exact hdep.2.2.2 | exact hdep.2.2.2.1 | exact hdep.2.2.2.2) rfl rfl
            · exact opOk_skip (j := 9) (d := 19) (b := false) rfl (by kernel_rfl) (by first | exact hdep | exact hdep.1 | exact hdep.2 | exact hdep.2.1 | exact hdep.2.2 | exact hdep.2.2.1 | exact hdep.2.2.2 | exact hdep.2.2.2.1 | exact hdep.2.2.2.2) rfl rfl
            · exact opOk_skip (j := 9) (d := 19) (b := false) rfl (by kernel_rfl) (by first | exact hdep | exact hdep.1 | exact hdep.2 | exact hdep.2.1 | exact hdep.2.2 | exact hdep.2.2.1 | exact hdep.2.2.2 | exact hdep.2.2.2.1 | exact hdep.2.2.2.2) rfl rfl
            · exact opOk_skip (j := 9) (d := 19) (b := false) rfl (by kernel_rfl) (by first | exact hdep | exact hdep.1 | exact hdep.2 | exact hdep.2.1 | exact hdep.2.2 | exact hdep.2.2.1 | exact hdep.2.2.2 | exact hdep.2.2.2.1 | exact hdep.2.2.2.2) rfl rfl
            · refine opOk_runG (j := 6) (d := 16) (b := false) rfl (by kernel_rfl) (by first | exact hdep | exact hdep.1 | exact hdep.2 | exact hdep.2.1 | exact hdep.2.2 | exact hdep.2.2.1 | exact hdep.2.2.2 | exact hdep.2.2.2.1 | exact hdep.2.2.2.2) rfl (.inl ⟨_, W, ?_, rfl, Ext.refl _⟩); clear hsz hS; simp [go_sem, Act.eval, *]
            · refine opOk_run rfl (.inl ⟨_, W, ?_, rfl, Ext.refl _⟩); clear hsz hS; simp [go_sem, Act.eval, *]
          case hVx => exact vs_stays (by simp only [List.mem_cons, List.not_mem_nil, or_false, forall_eq_or_imp, forall_eq]; exact ⟨stays_const _, stays_const _, stays_const _, stays_const _, stays_const _, stays_const _, stays_const _, stays_const _, stays_const _, stays_const _, stays_const _, stays_const _, stays_const _, stays_const _, stays_const _, stays_const _, stays_const _, stays_const _, stays_const _, stays_const _, stays_const _, stays_const _⟩)
          case hSx => exact fun W W' h hx => h.trans (Below.mono hx h.size)
          case hS => exact Below.refl _ _
          case hfin =>
            intro A W hsz hdf hS hv hbase
            obtain ⟨x, hx, hA⟩ := act_puts [10, 11, 12, 13, 14, 15, 16, 17, 18, 19, 20, 21, 22, 23, 24, 25, 26, 27, 28, 29, 30, 31] (by kernel_rfl) hsz hdf hbase
            have e31 : x 31 = .bool false := (hx 31).trans (hv 21 (by decide))
            rw [hA]
            simp only [List.foldl]
            rw [e31]
            clear e31
            simp only [Act.put, List.setIfInBounds_toArray, List.set_cons_succ, List.set_cons_zero]
            clear hA hx hv hbase hsz hdf
            have HBX := Lib.hid (HBR.out.trans (hS.mono HBR.out.size))
            clear hS
            go_wp2_with fail
            go_roundw
            case rel => exact ⟨k + 1, by omega, by go_num, HS.out, HBX.out⟩
            case measure => simp [intOf]; omega
        · have hj : k - 1 < L.length := by omega
          obtain ⟨j, hjk⟩ : ∃ j, k - 1 = j := ⟨_, rfl⟩
          obtain ⟨b2, o2, ha2, hb2, h2⟩ := (HR.out.later HBR.out (Nat.le_refl _)).at hj
          obtain ⟨y, hy⟩ : ∃ y, L[k - 1] = y := ⟨_, rfl⟩
          have HY := Lib.hid hy
          rw [hy] at h2
          rw [hjk] at h2 hj
          have hidx2 := idx_strs a b2 o2 L.length cap j ha2 hj
          have hw1 : IntKind.i64.wrap ((k : Int) - 1) = (j : Int) := by rw [IntWalk.i64_in _ (by omega)]; omega
          have hgt : (0 : Int) < (k : Int) := by omega
          have hkp : 0 < k := by omega
          have HX2 := Lib.hid h2
          clear hy ha ha2 hjk h2
          obtain ⟨q, hq⟩ : ∃ q, ltS y x = q := ⟨_, rfl⟩
          have HLT := Lib.hid hq
          have hle : (Op.bytesLess x.toList y.toList || x.toList == y.toList) = !q := by rw [← hq]; exact ltS_total x y
          clear hq
          cases q with
          | true =>
            have HS : Hid (GoodTo L (k + 1)) := HG.out.step hlt (by rw [HX.out]; exact HQ.out) (fun h => by rw [HY.out, HX.out]; exact HLT.out)
            have hle2 : (Op.bytesLess x.toList y.toList || x.toList == y.toList) = false := hle
            clear hle
            go_upto_region 4 with fail
            refine wp_region_rv (by kernel_rfl) (Vs [fun v _ => v = .slice a L.length cap, fun v _ => v = .int .i64 (k : Int), fun v _ => v = .pointer (some ⟨b, o + k, none⟩), fun v _ => v = .string x, fun v _ => v = .bool true, fun v _ => v = .bool false, fun v _ => v = .bool false, fun v _ => v = .int .i64 (k : Int), fun v _ => v = .bool true, fun v _ => v = .bool true, fun v _ => v = .slice a L.length cap, fun v _ => v = .int .i64 (k : Int), fun v _ => v = .pointer (some ⟨b, o + k, none⟩), fun v _ => v = .string x, fun v _ => v = .slice a L.length cap, fun v _ => v = .int .i64 (k : Int), fun v _ => v = .int .i64 (j : Int), fun v _ => v = .pointer (some ⟨b2, o2 + j, none⟩), fun v _ => v = .string y, fun v _ => v = .bool false, fun v _ => v = .bool false, fun v _ => v = .bool false]) (fun W => Below wr.heap.size wr W) 40 (by kernel_rfl) rfl ?hVx ?hSx ?hS (opsOk_all ?hop) ?hfin
            case hop =>
              refine ⟨?_, ?_, ?_, ?_, ?_, ?_, ?_, ?_, ?_, ?_, ?_, ?_, ?_, ?_, ?_, ?_, ?_, ?_, ?_, ?_, ?_, ?_, trivial⟩
              all_goals
                intro A W hsz hS hdep hbase
                have x0' := (hS.cell (p := ⟨b, o + k, none⟩) hb).trans HX0.out
                have y0' := (hS.cell (p := ⟨b2, o2 + j, none⟩) hb2).trans HX2.out
                have h0 : A.tmps.getD 0 undef = .slice a L.length cap := hbase 0 (by kernel_rfl)
                have h3 : A.tmps.getD 3 undef = .int .i64 (k : Int) := hbase 3 (by kernel_rfl)
                clear hbase
                simp [slotOf, Region.binds, Vs] at hdep
              · refine opOk_run rfl (.inl ⟨_, W, ?_, rfl, Ext.refl _⟩); clear hsz hS; simp [go_sem, Act.eval, *]
              · refine opOk_run rfl (.inl ⟨_, W, ?_, rfl, Ext.refl _⟩); clear hsz hS; simp [go_sem, Act.eval, *]
              · refine opOk_run rfl (.inl ⟨_, W, ?_, rfl, Ext.refl _⟩); clear hsz hS; simp [go_sem, Act.eval, *]
              · refine opOk_run rfl (.inl ⟨_, W, ?_, rfl, Ext.refl _⟩); clear hsz hS; simp [go_sem, Act.eval, *]
              · refine opOk_run rfl (.inr ⟨62, #[.string x], W, by (clear hsz hS; simp [go_sem, Act.eval, *]), ?_⟩)
                refine (rword_any x W).mono ?_
                rintro e w' ⟨he, rfl⟩
                rw [HQ.out] at he
                exact ⟨_, he, rfl, Ext.refl _⟩
              · refine opOk_run rfl (.inl ⟨_, W, ?_, rfl, Ext.refl _⟩); clear hsz hS; simp [go_sem, Act.eval, *]
              · refine opOk_run rfl (.inl ⟨_, W, ?_, rfl, Ext.refl _⟩); clear hsz hS; simp [go_sem, Act.eval, *]
              · refine opOk_runG (j := 6) (d := 16) (b := false) rfl (by kernel_rfl) (by first | exact hdep | exact hdep.1 | exact hdep.2 | exact hdep.2.1 | exact hdep.2.2 | exact hdep.2.2.1 | exact hdep.2.2.2 | exact hdep.2.2.2.1 | exact hdep.2.2.2.2) rfl (.inl ⟨_, W, ?_, rfl, Ext.refl _⟩); clear hsz hS; simp [go_sem, Act.eval, *]
              · refine opOk_runG (j := 6) (d := 16) (b := false) rfl (by kernel_rfl) (by first | exact hdep | exact hdep.1 | exact hdep.2 | exact hdep.2.1 | exact hdep.2.2 | exact hdep.2.2.1 | exact hdep.2.2.2 | exact hdep.2.2.2.1 | exact hdep.2.2.2.2) rfl (.inl ⟨_, W, ?_, rfl, Ext.refl _⟩); clear hsz hS; simp [go_sem, Act.eval, *]
              · refine opOk_runG (j := 6) (d := 16) (b := false) rfl (by kernel_rfl) (by first | exact hdep | exact hdep.1 | exact hdep.2 | exact hdep.2.1 | exact hdep.2.2 | exact hdep.2.2.1 | exact hdep.2.2.2 | exact hdep.2.2.2.1 | exact hdep.2.2.2.2) rfl (.inl ⟨_, W, ?_, rfl, Ext.refl _⟩); clear hsz hS; simp [go_sem, Act.eval, *]
              · refine opOk_runG (j := 9) (d := 19) (b := true) rfl (by kernel_rfl) (by first | exact hdep | exact hdep.1 | exact hdep.2 | exact hdep.2.1 | exact hdep.2.2 | exact hdep.2.2.1 | exact hdep.2.2.2 | exact hdep.2.2.2.1 | exact hdep.2.2.2.2) rfl (.inl ⟨_, W, ?_, rfl, Ext.refl _⟩); clear hsz hS; simp [go_sem, Act.eval, *]
              · refine opOk_runG (j := 9) (d := 19) (b := true) rfl (by kernel_rfl) (by first | exact hdep | exact hdep.1 | exact hdep.2 | exact hdep.2.1 | exact hdep.2.2 | exact hdep.2.2.1 | exact hdep.2.2.2 | exact hdep.2.2.2.1 | exact hdep.2.2.2.2) rfl (.inl ⟨_, W, ?_, rfl, Ext.refl _⟩); clear hsz hS; simp [go_sem, Act.eval, *]
              · refine opOk_runG (j := 9) (d := 19) (b := true) rfl (by kernel_rfl) (by first | exact hdep | exact hdep.1 | exact hdep.2 | exact hdep.2.1 | exact hdep.2.2 | exact hdep.2.2.1 | exact hdep.2.2.2 | exact hdep.2.2.2.1 | exact hdep.2.2.2.2) rfl (.inl ⟨_, W, ?_, rfl, Ext.refl _⟩); clear hsz hS; simp [go_sem, Act.eval, *]
              · refine opOk_runG (j := 9) (d := 19) (b := true) rfl (by kernel_rfl) (by first | exact hdep | exact hdep.1 | exact hdep.2 | exact hdep.2.1 | exact hdep.2.2 | exact hdep.2.2.1 | exact hdep.2.2.2 | exact hdep.2.2.2.1 | exact hdep.2.2.2.2) rfl (.inl ⟨_, W, ?_, rfl, Ext.refl _⟩); clear hsz hS; simp [go_sem, Act.eval, *]
              · refine opOk_runG (j := 9) (d := 19) (b := true) rfl (by kernel_rfl) (by first | exact hdep | exact hdep.1 | exact hdep.2 | exact hdep.2.1 | exact hdep.2.2 | exact hdep.2.2.1 | exact hdep.2.2.2 | exact hdep.2.2.2.1 | exact hdep.2.2.2.2) rfl (.inl ⟨_, W, ?_, rfl, Ext.refl _⟩); clear hsz hS; simp [go_sem, Act.eval, *]
              · refine opOk_runG (j := 9) (d := 19) (b := true) rfl (by kernel_rfl) (by first | exact hdep | exact hdep.1 | exact hdep.2 | exact hdep.2.1 | exact hdep.2.2 | exact hdep.2.2.1 | exact hdep.2.2.2 | exact hdep.2.2.2.1 | exact hdep.2.2.2.2) rfl (.inl ⟨_, W, ?_, rfl, Ext.refl _⟩); clear hsz hS; simp [go_sem, Act.eval, *]
              · refine opOk_runG (j := 9) (d := 19) (b := true) rfl (by kernel_rfl) (by first | exact hdep | exact hdep.1 | exact hdep.2 | exact hdep.2.1 | exact hdep.2.2 | exact hdep.2.2.1 | exact hdep.2.2.2 | exact hdep.2.2.2.1 | exact hdep.2.2.2.2) rfl (.inl ⟨_, W, ?_, rfl, Ext.refl _⟩); clear hsz hS; simp [go_sem, Act.eval, *]
              · refine opOk_runG (j := 9) (d := 19) (b := true) rfl (by kernel_rfl) (by first | exact hdep | exact hdep.1 | exact hdep.2 | exact hdep.2.1 | exact hdep.2.2 | exact hdep.2.2.1 | exact hdep.2.2.2 | exact hdep.2.2.2.1 | exact hdep.2.2.2.2) rfl (.inl ⟨_, W, ?_, rfl, Ext.refl _⟩); clear hsz hS; simp [go_sem, Act.eval, *]
              · refine opOk_runG (j := 9) (d := 19) (b := true) rfl (by kernel_rfl) (by first | exact hdep | exact hdep.1 | exact hdep.2 | exact hdep.2.1 | exact hdep.2.2 | exact hdep.2.2.1 | exact hdep.2.2.2 | exact hdep.2.2.2.1 | exact hdep.2.2.2.2) rfl (.inl ⟨_, W, ?_, rfl, Ext.refl _⟩); clear hsz hS; simp [go_sem, Act.eval, *]
              · refine opOk_runG (j := 9) (d := 19) (b := true) rfl (by kernel_rfl) (by first | exact hdep | exact hdep.1 | exact hdep.2 | exact hdep.2.1 | exact hdep.2.2 | exact hdep.2.2.1 | exact hdep.2.2.2 | exact hdep.2.2.2.1 | exact hdep.2.2.2.2) rfl (.inl ⟨_, W, ?_, rfl, Ext.refl _⟩); clear hsz hS; simp [go_sem, Act.eval, *]
              · refine opOk_runG (j := 6) (d := 16) (b := false) rfl (by kernel_rfl) (by first | exact hdep | exact hdep.1 | exact hdep.2 | exact hdep.2.1 | exact hdep.2.2 | exact hdep.2.2.1 | exact hdep.2.2.2 | exact hdep.2.2.2.1 | exact hdep.2.2.2.2) rfl (.inl ⟨_, W, ?_, rfl, Ext.refl _⟩); clear hsz hS; simp [go_sem, Act.eval, *]
              · refine opOk_run rfl (.inl ⟨_, W, ?_, rfl, Ext.refl _⟩); clear hsz hS; simp [go_sem, Act.eval, *]
            case hVx => exact vs_stays (by simp only [List.mem_cons, List.not_mem_nil, or_false, forall_eq_or_imp, forall_eq]; exact ⟨stays_const _, stays_const _, stays_const _, stays_const _, stays_const _, stays_const _, stays_const _, stays_const _, stays_const _, stays_const _, stays_const _, stays_const _, stays_const _, stays_const _, stays_const _, stays_const _, stays_const _, stays_const _, stays_const _, stays_const _, stays_const _, stays_const _⟩)
            case hSx => exact fun W W' h hx => h.trans (Below.mono hx h.size)
            case hS => exact Below.refl _ _
            case hfin =>
              intro A W hsz hdf hS hv hbase
              obtain ⟨x, hx, hA⟩ := act_puts [10, 11, 12, 13, 14, 15, 16, 17, 18, 19, 20, 21, 22, 23, 24, 25, 26, 27, 28, 29, 30, 31] (by kernel_rfl) hsz hdf hbase
              have e31 : x 31 = .bool false := (hx 31).trans (hv 21 (by decide))
              rw [hA]
              simp only [List.foldl]
              rw [e31]
              clear e31
              simp only [Act.put, List.setIfInBounds_toArray, List.set_cons_succ, List.set_cons_zero]
              clear hA hx hv hbase hsz hdf
              have HBX := Lib.hid (HBR.out.trans (hS.mono HBR.out.size))
              clear hS
              go_wp2_with fail
              go_roundw
              case rel => exact ⟨k + 1, by omega, by go_num, HS.out, HBX.out⟩
              case measure => simp [intOf]; omega
          | false =>
            have HN : Hid (dictB L = false) := dictB_no fun h => by
              have := (h.2.2 k hlt hlt).2 (by omega)
              rw [HY.out, HX.out, HLT.out] at this; cases this
            have hle2 : (Op.bytesLess x.toList y.toList || x.toList == y.toList) = true := hle
            clear hle
            go_upto_region 4 with fail
            refine wp_region_rv (by kernel_rfl) (Vs [fun v _ => v = .slice a L.length cap, fun v _ => v = .int .i64 (k : Int), fun v _ => v = .pointer (some ⟨b, o + k, none⟩), fun v _ => v = .string x, fun v _ => v = .bool true, fun v _ => v = .bool false, fun v _ => v = .bool false, fun v _ => v = .int .i64 (k : Int), fun v _ => v = .bool true, fun v _ => v = .bool true, fun v _ => v = .slice a L.length cap, fun v _ => v = .int .i64 (k : Int), fun v _ => v = .pointer (some ⟨b, o + k, none⟩), fun v _ => v = .string x, fun v _ => v = .slice a L.length cap, fun v _ => v = .int .i64 (k : Int), fun v _ => v = .int .i64 (j : Int), fun v _ => v = .pointer (some ⟨b2, o2 + j, none⟩), fun v _ => v = .string y, fun v _ => v = .bool true, fun v _ => v = .bool true, fun v _ => v = .bool true]) (fun W => Below wr.heap.size wr W) 40 (by kernel_rfl) rfl ?hVx ?hSx ?hS (opsOk_all ?hop) ?hfin
            case hop =>
              refine ⟨?_, ?_, ?_, ?_, ?_, ?_, ?_, ?_, ?_, ?_, ?_, ?_, ?_, ?_, ?_, ?_, ?_, ?_, ?_, ?_, ?_, ?_, trivial⟩
              all_goals
                intro A W hsz hS hdep hbase
                have x0' := (hS.cell (p := ⟨b, o + k, none⟩) hb).trans HX0.out
                have y0' := (hS.cell (p := ⟨b2, o2 + j, none⟩) hb2).trans HX2.out
                have h0 : A.tmps.getD 0 undef = .slice a L.length cap := hbase 0 (by kernel_rfl)
                have h3 : A.tmps.getD 3 undef = .int .i64 (k : Int) := hbase 3 (by kernel_rfl)
                clear hbase
                simp [slotOf, Region.binds, Vs] at hdep
              · refine opOk_run rfl (.inl ⟨_, W, ?_, rfl, Ext.refl _⟩); clear hsz hS; simp [go_sem, Act.eval, *]
              · refine opOk_run rfl (.inl ⟨_, W, ?_, rfl, Ext.refl _⟩); clear hsz hS; simp [go_sem, Act.eval, *]
              · refine opOk_run rfl (.inl ⟨_, W, ?_, rfl, Ext.refl _⟩); clear hsz hS; simp [go_sem, Act.eval, *]
              · refine opOk_run rfl (.inl ⟨_, W, ?_, rfl, Ext.refl _⟩); clear hsz hS; simp [go_sem, Act.eval, *]
              · refine opOk_run rfl (.inr ⟨62, #[.string x], W, by (clear hsz hS; simp [go_sem, Act.eval, *]), ?_⟩)
                refine (rword_any x W).mono ?_
                rintro e w' ⟨he, rfl⟩
                rw [HQ.out] at he
                exact ⟨_, he, rfl, Ext.refl _⟩
              · refine opOk_run rfl (.inl ⟨_, W, ?_, rfl, Ext.refl _⟩); clear hsz hS; simp [go_sem, Act.eval, *]
              · refine opOk_run rfl (.inl ⟨_, W, ?_, rfl, Ext.refl _⟩); clear hsz hS; simp [go_sem, Act.eval, *]
              · refine opOk_runG (j := 6) (d := 16) (b := false) rfl (by kernel_rfl) (by first | exact hdep | exact hdep.1 | exact hdep.2 | exact hdep.2.1 | exact hdep.2.2 | exact hdep.2.2.1 | exact hdep.2.2.2 | exact hdep.2.2.2.1 | exact hdep.2.2.2.2) rfl (.inl ⟨_, W, ?_, rfl, Ext.refl _⟩); clear hsz hS; simp [go_sem, Act.eval, *]
              · refine opOk_runG (j := 6) (d := 16) (b := false) rfl (by kernel_rfl) (by first | exact hdep | exact hdep.1 | exact hdep.2 | exact hdep.2.1 | exact hdep.2.2 | exact hdep.2.2.1 | exact hdep.2.2.2 | exact hdep.2.2.2.1 | exact hdep.2.2.2.2) rfl (.inl ⟨_, W, ?_, rfl, Ext.refl _⟩); clear hsz hS; simp [go_sem, Act.eval, *]
              · refine opOk_runG (j := 6) (d := 16) (b := false) rfl (by kernel_rfl) (by first | exact hdep | exact hdep.1 | exact hdep.2 | exact hdep.2.1 | exact hdep.2.2 | exact hdep.2.2.1 | exact hdep.2.2.2 | exact hdep.2.2.2.1 | exact hdep.2.2.2.2) rfl (.inl ⟨_, W, ?_, rfl, Ext.refl _⟩); clear hsz hS; simp [go_sem, Act.eval, *]
              · refine opOk_runG (j := 9) (d := 19) (b := true) rfl (by kernel_rfl) (by first | exact hdep | exact hdep.1 | exact hdep.2 | exact hdep.2.1 | exact hdep.2.2 | exact hdep.2.2.1 | exact hdep.2.2.2 | exact hdep.2.2.2.1 | exact hdep.2.2.2.2) rfl (.inl ⟨_, W, ?_, rfl, Ext.refl _⟩); clear hsz hS; simp [go_sem, Act.eval, *]
              · refine opOk_runG (j := 9) (d := 19) (b := true) rfl (by kernel_rfl) (by first | exact hdep | exact hdep.1 | exact hdep.2 | exact hdep.2.1 | exact hdep.2.2 | exact hdep.2.2.1 | exact hdep.2.2.2 | exact hdep.2.2.2.1 | exact hdep.2.2.2.2) rfl (.inl ⟨_, W, ?_, rfl, Ext.refl _⟩); clear hsz hS; simp [go_sem, Act.eval, *]
              · refine opOk_runG (j := 9) (d := 19) (b := true) rfl (by kernel_rfl) (by first | exact hdep | exact hdep.1 | exact hdep.2 | exact hdep.2.1 | exact hdep.2.2 | exact hdep.2.2.1 | exact hdep.2.2.2 | exact hdep.2.2.2.1 | exact hdep.2.2.2.2) rfl (.inl ⟨_, W, ?_, rfl, Ext.refl _⟩); clear hsz hS; simp [go_sem, Act.eval, *]
              · refine opOk_runG (j := 9) (d := 19) (b := true) rfl (by kernel_rfl) (by first | exact hdep | exact hdep.1 | exact hdep.2 | exact hdep.2.1 | exact hdep.2.2 | exact hdep.2.2.1 | exact hdep.2.2.2 | exact hdep.2.2.2.1 | exact hdep.2.2.2.2) rfl (.inl ⟨_, W, ?_, rfl, Ext.refl _⟩); clear hsz hS; simp [go_sem, Act.eval, *]
              · refine opOk_runG (j := 9) (d := 19) (b := true) rfl (by kernel_rfl) (by first | exact hdep | exact hdep.1 | exact hdep.2 | exact hdep.2.1 | exact hdep.2.2 | exact hdep.2.2.1 | exact hdep.2.2.2 | exact hdep.2.2.2.1 | exact hdep.2.2.2.2) rfl (.inl ⟨_, W, ?_, rfl, Ext.refl _⟩); clear hsz hS; simp [go_sem, Act.eval, *]
              · refine opOk_runG (j := 9) (d := 19) (b := true) rfl (by kernel_rfl) (by first | exact hdep | exact hdep.1 | exact hdep.2 | exact hdep.2.1 | exact hdep.2.2 | exact hdep.2.2.1 | exact hdep.2.2.2 | exact hdep.2.2.2.1 | exact hdep.2.2.2.2) rfl (.inl ⟨_, W, ?_, rfl, Ext.refl _⟩); clear hsz hS; simp [go_sem, Act.eval, *]
              · refine opOk_runG (j := 9) (d := 19) (b := true) rfl (by kernel_rfl) (by first | exact hdep | exact hdep.1 | exact hdep.2 | exact hdep.2.1 | exact hdep.2.2 | exact hdep.2.2.1 | exact hdep.2.2.2 | exact hdep.2.2.2.1 | exact hdep.2.2.2.2) rfl (.inl ⟨_, W, ?_, rfl, Ext.refl _⟩); clear hsz hS; simp [go_sem, Act.eval, *]
              · refine opOk_runG (j := 9) (d := 19) (b := true) rfl (by kernel_rfl) (by first | exact hdep | exact hdep.1 | exact hdep.2 | exact hdep.2.1 | exact hdep.2.2 | exact hdep.2.2.1 | exact hdep.2.2.2 | exact hdep.2.2.2.1 | exact hdep.2.2.2.2) rfl (.inl ⟨_, W, ?_, rfl, Ext.refl _⟩); clear hsz hS; simp [go_sem, Act.eval, *]
              · refine opOk_runG (j := 9) (d := 19) (b := true) rfl (by kernel_rfl) (by first | exact hdep | exact hdep.1 | exact hdep.2 | exact hdep.2.1 | exact hdep.2.2 | exact hdep.2.2.1 | exact hdep.2.2.2 | exact hdep.2.2.2.1 | exact hdep.2.2.2.2) rfl (.inl ⟨_, W, ?_, rfl, Ext.refl _⟩); clear hsz hS; simp [go_sem, Act.eval, *]
              · refine opOk_runG (j := 9) (d := 19) (b := true) rfl (by kernel_rfl) (by first | exact hdep | exact hdep.1 | exact hdep.2 | exact hdep.2.1 | exact hdep.2.2 | exact hdep.2.2.1 | exact hdep.2.2.2 | exact hdep.2.2.2.1 | exact hdep.2.2.2.2) rfl (.inl ⟨_, W, ?_, rfl, Ext.refl _⟩); clear hsz hS; simp [go_sem, Act.eval, *]
              · refine opOk_runG (j := 6) (d := 16) (b := false) rfl (by kernel_rfl) (by first | exact hdep | exact hdep.1 | exact hdep.2 | exact hdep.2.1 | exact hdep.2.2 | exact hdep.2.2.1 | exact hdep.2.2.2 | exact hdep.2.2.2.1 | exact hdep.2.2.2.2) rfl (.inl ⟨_, W, ?_, rfl, Ext.refl _⟩); clear hsz hS; simp [go_sem, Act.eval, *]
              · refine opOk_run rfl (.inl ⟨_, W, ?_, rfl, Ext.refl _⟩); clear hsz hS; simp [go_sem, Act.eval, *]
            case hVx => exact vs_stays (by simp only [List.mem_cons, List.not_mem_nil, or_false, forall_eq_or_imp, forall_eq]; exact ⟨stays_const _, stays_const _, stays_const _, stays_const _, stays_const _, stays_const _, stays_const _, stays_const _, stays_const _, stays_const _, stays_const _, stays_const _, stays_const _, stays_const _, stays_const _, stays_const _, stays_const _, stays_const _, stays_const _, stays_const _, stays_const _, stays_const _⟩)
            case hSx => exact fun W W' h hx => h.trans (Below.mono hx h.size)
            case hS => exact Below.refl _ _
            case hfin =>
              intro A W hsz hdf hS hv hbase
              obtain ⟨x, hx, hA⟩ := act_puts [10, 11, 12, 13, 14, 15, 16, 17, 18, 19, 20, 21, 22, 23, 24, 25, 26, 27, 28, 29, 30, 31] (by kernel_rfl) hsz hdf hbase
              have e31 : x 31 = .bool true := (hx 31).trans (hv 21 (by decide))
              rw [hA]
              simp only [List.foldl]
              rw [e31]
              clear e31
              simp only [Act.put, List.setIfInBounds_toArray, List.set_cons_succ, List.set_cons_zero]
              clear hA hx hv hbase hsz hdf
              have HBX := Lib.hid (HBR.out.trans (hS.mono HBR.out.size))
              clear hS
              go_wp2_with fail
              go_ret
              exact ⟨ret_bool HN.out.symm, HBX.out⟩
    · obtain ⟨u, hu⟩ : ∃ u, decide (1 ≤ L.length) = u := ⟨_, rfl⟩
      clear hB
      by_cases h1 : 1 ≤ L.length
      · have i1 : (1 : Int) ≤ (L.length : Int) := by omega
        by_cases h2 : L.length ≤ 200
        · have i2 : (L.length : Int) ≤ 200 := by omega
          have HN : Hid (dictB L = true) := dictB_yes ⟨h1, h2, fun i hi _ => HG.out i hi (by omega)⟩
          go_wp2
          go_ret
          exact ⟨ret_bool HN.out.symm, HBR.out⟩
        · have i2 : ¬ (L.length : Int) ≤ 200 := by omega
          have HN : Hid (dictB L = false) := dictB_no fun h => h2 h.2.1
          go_wp2
          go_ret
          exact ⟨ret_bool HN.out.symm, HBR.out⟩
      · have i1 : ¬ (1 : Int) ≤ (L.length : Int) := by omega
        have HN : Hid (dictB L = false) := dictB_no fun h => h1 h.1
        go_wp2
        go_ret
        exact ⟨ret_bool HN.out.symm, HBR.out⟩
end Go.Proofs.YtocdljmdmiphnaaDoor
