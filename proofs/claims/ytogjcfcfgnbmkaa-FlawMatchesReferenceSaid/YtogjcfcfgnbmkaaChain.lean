/- Chains (slices of ints that the code makes): slices.Clone and slices.Compare at []int. -/
import Derived.Test.YtogjcfcfgnbmkaaComm
import Derived.Laws.AppendOwn
import Derived.Laws.OwnMore
import Derived.Maps.AppendAt
import Derived.Lib.LazyBuf
namespace Go.Proofs.Ytogjcfcfgnbmkaa
open Go.RowKit
set_option linter.unusedVariables false
set_option linter.unusedSimpArgs false

def nats (xs : List Nat) : List Value := xs.map fun (n : Nat) => Value.int .i64 (n : Int)
theorem nats_length (xs : List Nat) : (nats xs).length = xs.length := by simp [nats]
theorem nats_get {xs : List Nat} {k : Nat} (h : k < xs.length) : (nats xs)[k]? = some (.int .i64 (xs[k] : Int)) := by simp [nats, h]
/-- the slice v reads as xs, in a block of its own from B on (or is nil) -/
def Ch (w : World) (B : Nat) (v : Value) (xs : List Nat) : Prop := w.ownsRow B 3 1 v xs.length (nats xs)
theorem Ch.nil (w : World) (B : Nat) : Ch w B (.slice none 0 0) [] := ⟨rfl, .inl ⟨rfl, rfl⟩⟩
theorem Ch.below {w w1 : World} {B C : Nat} {v : Value} {xs : List Nat} (h : Ch w B v xs) (hb : Below C w w1) (hv : ∀ g, v.ownBlock = some g → g < C) : Ch w1 B v xs := by
  refine ⟨h.1, h.2.imp id ?_⟩
  rintro ⟨g, cap, cur, rfl, h1, h2, h3⟩
  exact ⟨g, cap, cur, rfl, h1, (hb.block g (hv g rfl)).trans h2, h3⟩
theorem Ch.lt {w : World} {B : Nat} {v : Value} {xs : List Nat} (h : Ch w B v xs) : ∀ g, v.ownBlock = some g → g < w.heap.size := by
  intro g hg
  rcases h.2 with ⟨rfl, _⟩ | ⟨g', cap, cur, rfl, h1, h2, h3⟩
  · cases hg
  · cases hg; exact (Array.getElem?_eq_some_iff.1 h2).1
theorem Ch.ge {w : World} {B : Nat} {v : Value} {xs : List Nat} (h : Ch w B v xs) : ∀ g, v.ownBlock = some g → B ≤ g := by
  intro g hg
  rcases h.2 with ⟨rfl, _⟩ | ⟨g', cap, cur, rfl, h1, h2, h3⟩
  · cases hg
  · cases hg; exact h1
theorem Ch.mono {w : World} {B C : Nat} {v : Value} {xs : List Nat} (h : Ch w B v xs) (hC : C ≤ B) : Ch w C v xs := by
  refine ⟨h.1, h.2.imp id ?_⟩
  rintro ⟨g, cap, cur, rfl, h1, h2⟩
  exact ⟨g, cap, cur, rfl, by omega, h2⟩
theorem Ch.cell {w : World} {B : Nat} {g n cap : Nat} {xs : List Nat} (h : Ch w B (.slice (some ⟨g, 0, none⟩) n cap) xs) {k : Nat} (hk : k < xs.length) : w.cell? ⟨g, k, none⟩ = some (.int .i64 (xs[k] : Int)) := by
  have := World.ownsRow.cells (g := g) h rfl k _ (nats_get hk)
  rw [Addr.add_lit] at this
  simpa using this

theorem info_int : (Try.prog.info? 3).map (fun i => (i.zero, i.size, i.bytes)) = some (some (.int .i64 0), 1, 8) := by kernel_rfl

set_option maxHeartbeats 1600000 in
set_option maxRecDepth 100000 in
theorem clone_any (v : Value) (xs : List Nat) (B : Nat) (w : World) (h : Ch w B v xs) (hl : xs.length ≤ 1000) :
    Calls Try.prog 62 #[v] w fun e w' => ∃ v', e = .returned v' ∧ Ch w' w.heap.size v' xs ∧ Below w.heap.size w w' := by
  obtain ⟨i0, hi, hz0, hz1, hz2⟩ := info_parts info_int
  rcases h.2 with ⟨rfl, h0⟩ | ⟨g, cap, cur, rfl, h1, h2, h3, h4, h5, h6⟩
  · obtain rfl : xs = [] := List.eq_nil_of_length_eq_zero h0
    have hn := run_eql_slice_nil (P := Try.prog) w 38 3 none 0 0 Try.underlying38
    go_enter Try.func62, Try.ntmps62
    go_wp2
    go_ret
    exact ⟨_, rfl, Ch.nil _ _, by go_grown⟩
  · have hg := (Array.getElem?_eq_some_iff.1 h2).1
    have h7 : World.ownsRow (w.alloc (.cells #[] 3)) w.heap.size 3 1 (.slice (some ⟨w.heap.size, 0, none⟩) 0 0) 0 [] :=
      ⟨rfl, .inr ⟨_, 0, #[], rfl, Nat.le_refl _, heap_alloc_new _ _, Nat.le_refl _, Nat.zero_le _, rfl, rfl⟩⟩
    have c1 : ∀ j u, (nats xs)[j]? = some u → (w.alloc (.cells #[] 3)).cell? ((⟨g, 0, none⟩ : Addr).add j) = some u := fun j u hj => by
      have := World.ownsRow.cells (g := g) h rfl j u hj
      rw [Addr.add_lit] at this ⊢
      rw [World.cell?_alloc_past _ _ _ hg]; exact this
    have c2 : ∀ u ∈ nats xs, u.oneCell' = true := fun u hu => by obtain ⟨n, _, rfl⟩ := List.mem_map.1 hu; rfl
    have c3 : 0 + xs.length ≤ maxLen := by unfold maxLen; omega
    have c4 : (0 + xs.length) * 8 ≤ 140737488355328 := by omega
    have c5 : (nats xs).length = xs.length * 1 := by rw [nats_length]; omega
    have hn := run_eql_slice_nil (P := Try.prog) w 38 3 (some ⟨g, 0, none⟩) xs.length cap Try.underlying38
    simp only [Option.isNone_some, Option.isNone_none] at hn
    have H1 := Lib.hid h1; have H2 := Lib.hid h2; have H6 := Lib.hid h6; have HH := Lib.hid h; clear h1 h2 h6 h
    go_enter Try.func62, Try.ntmps62
    go_wp2_with (first | (at_builtin; refine wpList_append_own _ rfl _ _ 38 rfl w.heap.size 3 i0 (.int .i64 0) 1 8 Try.underlying38 hi hz0 hz1 hz2 rfl (by decide) _ _ _ rfl h7 ⟨g, 0, none⟩ xs.length cap (nats xs) rfl c5 c1 c2 c3 c4 (by simp) ?_; intro v' w1 hown hgrow _) | fail)
    go_ret
    refine ⟨_, rfl, ?_, ?_⟩
    · simpa [Ch] using hown
    · exact ((Below.refl _ w).alloc (Nat.le_refl _) _).grown (row := some w.heap.size) hgrow (by simp) (fun k hk => by cases hk; exact Nat.le_refl _)

/-! ### comparing -/
def cmpN (a b : Int) : Int := if a < b then -1 else if b < a then 1 else 0
def lexC : List Int → List Int → Int
  | [], [] => 0
  | [], _ :: _ => -1
  | _ :: _, [] => 1
  | a :: xs, b :: ys => if a < b then -1 else if b < a then 1 else lexC xs ys
theorem isNaN_any (a : Int) (w : World) : Calls Try.prog 69 #[.int .i64 a] w fun e w' => e = .returned (.bool false) ∧ w' = w := by
  go_enter Try.func69, Try.ntmps69
  go_wp2
  go_ret
  exact ⟨by simp, rfl⟩
theorem cmp_any (a b : Int) (w : World) : Calls Try.prog 67 #[.int .i64 a, .int .i64 b] w fun e w' => e = .returned (.int .i64 (cmpN a b)) ∧ w' = w := by
  unfold cmpN
  by_cases h1 : a < b
  · rw [if_pos h1]
    go_enter Try.func67, Try.ntmps67
    go_wp2_with (go_at_call 69; refine (isNaN_any _ _).mono ?_; rintro e w' ⟨rfl, rfl⟩)
    go_ret
    exact ⟨rfl, rfl⟩
  · rw [if_neg h1]
    by_cases h2 : b < a
    · rw [if_pos h2]
      go_enter Try.func67, Try.ntmps67
      go_wp2_with (go_at_call 69; refine (isNaN_any _ _).mono ?_; rintro e w' ⟨rfl, rfl⟩)
      go_ret
      exact ⟨rfl, rfl⟩
    · rw [if_neg h2]
      go_enter Try.func67, Try.ntmps67
      go_wp2_with (go_at_call 69; refine (isNaN_any _ _).mono ?_; rintro e w' ⟨rfl, rfl⟩)
      go_ret
      exact ⟨rfl, rfl⟩

/-- the slice at a reads as xs -/
def SlS (w : World) (a : Option Addr) (xs : List Int) : Prop := ∀ k (hk : k < xs.length), ∃ b o, a = some ⟨b, o, none⟩ ∧ b < w.heap.size ∧ w.cell? ⟨b, o + k, none⟩ = some (.int .i64 xs[k])
theorem SlS.at {w : World} {a : Option Addr} {xs : List Int} (h : SlS w a xs) {k : Nat} (hk : k < xs.length) : ∃ b o, a = some ⟨b, o, none⟩ ∧ b < w.heap.size ∧ w.cell? ⟨b, o + k, none⟩ = some (.int .i64 xs[k]) := h k hk
theorem SlS.later {w w1 : World} {a : Option Addr} {xs : List Int} {B : Nat} (h : SlS w a xs) (hb : Below B w w1) (hB : w.heap.size ≤ B) : SlS w1 a xs := fun k hk => by
  obtain ⟨b, o, ha, h1, h2⟩ := h k hk
  exact ⟨b, o, ha, by have := hb.size; omega, (hb.cell (p := ⟨b, o + k, none⟩) (by show b < B; omega)).trans h2⟩
theorem Ch.sl {w : World} {B : Nat} {v : Value} {xs : List Nat} (h : Ch w B v xs) : ∃ a c, v = .slice a xs.length c ∧ xs.length ≤ c ∧ SlS w a (xs.map fun (n : Nat) => (n : Int)) := by
  rcases id h.2 with ⟨rfl, h0⟩ | ⟨g, cap, cur, rfl, h1, h2, h3, h4⟩
  · exact ⟨none, 0, by rw [h0], by omega, fun k hk => by simp at hk; omega⟩
  · refine ⟨some ⟨g, 0, none⟩, cap, rfl, h3, fun k hk => ⟨g, 0, rfl, (Array.getElem?_eq_some_iff.1 h2).1, ?_⟩⟩
    have hk' : k < xs.length := by simpa using hk
    rw [Nat.zero_add, h.cell hk']; simp
theorem idx_ints (a : Option Addr) (b o len cap k : Nat) (ha : a = some ⟨b, o, none⟩) (hk : k < len) (w : World) :
    (Instr.indexAt 38 (.slice a len cap) (.int .i64 (k : Int))).run Try.prog w = .ok (.pointer (some ⟨b, o + k, none⟩)) w := by
  subst ha
  have h0 : (0 : Int) ≤ (k : Int) := by omega
  have h1 : (k : Int) < (len : Int) := by omega
  simp [go_sem, h0, h1]
theorem lexC_drop {xs ys : List Int} {k : Nat} (hx : k < xs.length) (hy : k < ys.length) : lexC (xs.drop k) (ys.drop k) = if xs[k] < ys[k] then -1 else if ys[k] < xs[k] then 1 else lexC (xs.drop (k + 1)) (ys.drop (k + 1)) := by
  rw [List.drop_eq_getElem_cons hx, List.drop_eq_getElem_cons hy, lexC]
theorem lexC_end {xs ys : List Int} {k : Nat} (hx : k < xs.length) (hy : ys.length ≤ k) : lexC (xs.drop k) (ys.drop k) = 1 := by
  rw [List.drop_eq_getElem_cons hx, List.drop_eq_nil_of_le hy, lexC]
theorem lexC_first {xs ys : List Int} {k : Nat} (hx : xs.length = k) (hy : k ≤ ys.length) : lexC (xs.drop k) (ys.drop k) = if k < ys.length then -1 else 0 := by
  rw [List.drop_eq_nil_of_le (by omega)]
  split
  · rename_i h; rw [List.drop_eq_getElem_cons h, lexC]
  · rw [List.drop_eq_nil_of_le (by omega), lexC]

set_option maxHeartbeats 1600000 in
set_option maxRecDepth 100000 in
theorem scmp_any (a a' : Option Addr) (c c' : Nat) (xs ys : List Int) (w : World) (h1 : SlS w a xs) (h2 : SlS w a' ys) (l1 : xs.length ≤ 100000) (l2 : ys.length ≤ 100000) :
    Calls Try.prog 63 #[.slice a xs.length c, .slice a' ys.length c'] w fun e w' => e = .returned (.int .i64 (lexC xs ys)) ∧ Below w.heap.size w w' := by
  have H1 := Lib.hid h1; have H2 := Lib.hid h2; clear h1 h2
  go_enter Try.func63, Try.ntmps63
  go_wp2
  go_loopw [11] (fun i wr => ∃ k : Nat, k ≤ xs.length ∧ k ≤ ys.length ∧ i = .int .i64 k ∧ lexC (xs.drop k) (ys.drop k) = lexC xs ys ∧ wr = w) (fun i _ => xs.length - (intOf i).toNat)
  case atStart => exact ⟨0, Nat.zero_le _, Nat.zero_le _, rfl, by simp, rfl⟩
  case round =>
    obtain ⟨k, hk, hk2, rfl, hlex, rfl⟩ := hrel
    have HL := Lib.hid hlex; clear hlex
    by_cases hx : k < xs.length
    · obtain ⟨b, o, ha, hb, q⟩ := H1.out.at hx
      have hidx := idx_ints a b o xs.length c k ha hx
      have HA := Lib.hid ha; clear ha
      by_cases hy : k < ys.length
      · obtain ⟨b', o', ha', hb', q'⟩ := H2.out.at hy
        have hidx' := idx_ints a' b' o' ys.length c' k ha' hy
        have HA' := Lib.hid ha'; clear ha'
        have HD : Hid (_ = _) := lexC_drop hx hy
        by_cases e1 : cmpN xs[k] ys[k] = 0
        · have HE : Hid (cmpN xs[k] ys[k] = 0) := e1
          have HN : Hid (lexC (xs.drop (k + 1)) (ys.drop (k + 1)) = lexC xs ys) := by
            have h := HD.out
            have e2 := e1
            unfold cmpN at e2
            show _ = _
            rw [← HL.out, h]
            split at e2
            · omega
            · rename_i g1; rw [if_neg g1]; split at e2
              · omega
              · rename_i g2; rw [if_neg g2]
          clear e1
          go_wp2_with (go_at_call 67; refine (cmp_any _ _ _).mono ?_; rintro e w' ⟨he, rfl⟩; rw [HE.out] at he; subst he)
          go_roundw
          case rel => exact ⟨k + 1, by omega, by omega, by go_num, HN.out, trivial⟩
          case measure => simp [intOf]; omega
        · obtain ⟨d, hd⟩ : ∃ d, cmpN xs[k] ys[k] = d := ⟨_, rfl⟩
          have HE := Lib.hid hd
          have hd0 : d ≠ 0 := by rw [← hd]; exact e1
          have HN : Hid (d = lexC xs ys) := by
            have h := HD.out
            have e2 := e1
            show _ = _
            rw [← HL.out, h, ← hd]
            unfold cmpN at e2 ⊢
            split
            · rfl
            · rename_i g1; rw [if_neg g1] at e2; split
              · rfl
              · rename_i g2; rw [if_neg g2] at e2; omega
          clear e1 hd
          go_wp2_with (go_at_call 67; refine (cmp_any _ _ _).mono ?_; rintro e w' ⟨he, rfl⟩; rw [HE.out] at he; subst he)
          go_ret
          exact ⟨ret_int HN.out, Below.refl _ _⟩
      · have HN : Hid (1 = lexC xs ys) := by show _ = _; rw [← HL.out, lexC_end hx (by omega)]
        go_wp2
        go_ret
        exact ⟨ret_int HN.out, Below.refl _ _⟩
    · have hxe : xs.length = k := by omega
      by_cases hy : k < ys.length
      · have HN : Hid (-1 = lexC xs ys) := by show _ = _; rw [← HL.out, lexC_first hxe hk2, if_pos hy]
        go_wp2
        go_ret
        exact ⟨ret_int HN.out, Below.refl _ _⟩
      · have HN : Hid (0 = lexC xs ys) := by show _ = _; rw [← HL.out, lexC_first hxe hk2, if_neg hy]
        go_wp2
        go_ret
        exact ⟨ret_int HN.out, Below.refl _ _⟩

/-- chains by their length, and then lexicographically -/
def ordC (xs ys : List Int) : Int := if xs.length = ys.length then lexC xs ys else (xs.length : Int) - ys.length
theorem compare_any (a a' : Option Addr) (c c' : Nat) (xs ys : List Int) (w : World) (h1 : SlS w a xs) (h2 : SlS w a' ys) (l1 : xs.length ≤ 100000) (l2 : ys.length ≤ 100000) :
    Calls Try.prog 57 #[.slice a xs.length c, .slice a' ys.length c'] w fun e w' => e = .returned (.int .i64 (ordC xs ys)) ∧ Below w.heap.size w w' := by
  unfold ordC
  by_cases h : xs.length = ys.length
  · rw [if_pos h]
    have q : ((xs.length : Int)) = ys.length := by omega
    have HC := Lib.hid (fun w' (hb : Below w.heap.size w w') => scmp_any a a' c c' xs ys w' (h1.later hb (Nat.le_refl _)) (h2.later hb (Nat.le_refl _)) l1 l2)
    clear h1 h2 h
    go_enter Try.func57, Try.ntmps57
    go_wp2_with (go_at_call 63; refine (HC.out _ (by go_grown)).mono ?_; rintro e w' ⟨rfl, hb⟩)
    go_ret
    exact ⟨rfl, hb⟩
  · rw [if_neg h]
    have q : ((xs.length : Int)) ≠ ys.length := by omega
    clear h1 h2 h
    go_enter Try.func57, Try.ntmps57
    go_wp2
    go_ret
    exact ⟨by go_num, by go_grown⟩
end Go.Proofs.Ytogjcfcfgnbmkaa
