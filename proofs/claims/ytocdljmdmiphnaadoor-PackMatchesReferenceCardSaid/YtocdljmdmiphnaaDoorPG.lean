
/- Pack: the laws' counts. -/
import Derived.Test.YtocdljmdmiphnaaDoorPF
import Derived.Laws.BytesString
import Derived.Laws.Cells
import Derived.Test.YtocdljmdmiphnaaDoorDMin
import Derived.Test.YtocdljmdmiphnaaDoorOpen
import Derived.Test.YtocdljmdmiphnaaDoorDViews
namespace Go.Proofs.YtocdljmdmiphnaaDoor
open Go.RowKit Go.WideShapes
set_option linter.unusedVariables false
set_option linter.unusedSimpArgs false

/-- a slice of uint32 -/
def UintS (w : World) (a : Option Addr) (len : Nat) (Z : Nat → Int) : Prop := ∀ k, k < len → ∃ b o, a = some ⟨b, o, none⟩ ∧ b < w.heap.size ∧ w.cell? ⟨b, o + k, none⟩ = some (.int .u32 (Z k)) ∧ 0 ≤ Z k ∧ Z k ≤ 4294967295
theorem UintS.go {w w1 : World} {a : Option Addr} {len : Nat} {Z : Nat → Int} (h : UintS w a len Z) (hb : Below w.heap.size w w1) : UintS w1 a len Z := fun k hk => by
  obtain ⟨b, o, ha, h1, h2, h3⟩ := h k hk
  exact ⟨b, o, ha, Nat.lt_of_lt_of_le h1 hb.size, (hb.cell (p := ⟨b, o + k, none⟩) h1).trans h2, h3⟩
def mkC (Z : Nat → Int) (len n : Nat) : List Int := (List.range n).map fun i => if i < len then (Z i).tmod 1073741825 else 0
theorem mkC_len (Z : Nat → Int) (len n : Nat) : (mkC Z len n).length = n := by simp [mkC]
theorem mkC_succ (Z : Nat → Int) (len n : Nat) : mkC Z len (n + 1) = mkC Z len n ++ [if n < len then (Z n).tmod 1073741825 else 0] := by simp [mkC, List.range_succ]
theorem mkC_ok {w : World} {a : Option Addr} {Z : Nat → Int} {len : Nat} (h : UintS w a len Z) (n : Nat) : cntOk n (mkC Z len n) := by
  refine ⟨mkC_len _ _ _, fun x hx => ?_⟩
  obtain ⟨i, hi, rfl⟩ := List.mem_map.1 hx
  split
  · rename_i h9
    obtain ⟨_, _, _, _, _, h0, h1⟩ := h i h9
    rw [Int.tmod_eq_emod_of_nonneg h0]
    omega
  · omega
theorem idx_u32 (a : Option Addr) (b o len cap k : Nat) (ha : a = some ⟨b, o, none⟩) (hk : k < len) (w : World) :
    (Instr.indexAt 23 (.slice a len cap) (.int .i64 (k : Int))).run Tryd.prog w = .ok (.pointer (some ⟨b, o + k, none⟩)) w := by
  subst ha
  have h0 : (0 : Int) ≤ (k : Int) := by omega
  have h1 : (k : Int) < (len : Int) := by omega
  simp [go_sem, h0, h1]
/-- a list of counts in memory -/
structure CntS (w : World) (a : Option Addr) (n cap : Nat) (c : List Int) : Prop where
  ints : IntS w a c
  len : n = c.length
  cap : n ≤ cap
theorem CntS.go {w w1 : World} {a : Option Addr} {n cap : Nat} {c : List Int} (h : CntS w a n cap c) (hb : Below w.heap.size w w1) : CntS w1 a n cap c := ⟨h.ints.go hb, h.len, h.cap⟩
theorem OwnG.cntS {w : World} {B : Nat} {v : Value} {c : List Int} (h : OwnG rowInt w B v c) : ∃ a cap, v = .slice a c.length cap ∧ CntS w a c.length cap c := by
  obtain ⟨a, cap, rfl, h1, -⟩ := h.form
  exact ⟨a, cap, rfl, h.ints.1, rfl, h1⟩
set_option maxHeartbeats 1600000 in
set_option maxRecDepth 100000 in
theorem rmade_any (Z : Nat → Int) (a : Option Addr) (len cap n : Nat) (w : World) (hZ : UintS w a len Z) (hl : len ≤ 9223372036854775807) (hn : n ≤ 1000) :
    Calls Tryd.prog 15 #[.slice a len cap, .int .i64 (n : Int)] w fun e w' => ∃ a1 c1, e = .returned (.slice a1 n c1) ∧ CntS w' a1 n c1 (mkC Z len n) ∧ Below w.heap.size w w' := by
  have HZ := Lib.hid hZ
  clear hZ
  go_enter Tryd.func15, Tryd.ntmps15
  go_wp2
  go_loopw [6, 5] (fun q v wr => ∃ k : Nat, k ≤ n ∧ q = .int .i64 (k : Int) ∧ OwnG rowInt wr w.heap.size v (mkC Z len k) ∧ Since w wr) (fun q _ _ => n - (intOf q).toNat)
  case atStart => exact ⟨0, Nat.zero_le _, rfl, OwnG.empty rowInt (heap_alloc_new w (.cells #[] 3)) (Nat.le_refl _), ⟨(Below.refl _ _).alloc (Nat.le_refl _) _⟩⟩
  case round =>
    obtain ⟨k, hk, rfl, ho, hS⟩ := hrel
    have HO := Lib.hid ho; have HS := Lib.hid hS
    obtain ⟨va, vc, hv, -, -⟩ := ho.form
    subst hv
    have hml := mkC_len Z len k
    have HML := Lib.hid hml
    clear ho hS hml
    by_cases hlt : k < n
    · have HMS := Lib.hid (mkC_succ Z len k)
      have hzr := HS.out.out.size
      obtain ⟨x, hx⟩ : ∃ x, (if k < len then (Z k).tmod 1073741825 else 0) = x := ⟨_, rfl⟩
      rw [hx] at HMS
      have hxA : Below wr.heap.size wr (wr.alloc (.cells #[.int .i64 x] 3)) := (Below.refl _ wr).alloc (Nat.le_refl _) _
      have HXA := Lib.hid hxA
      have HSX := Lib.hid (HS.out.go hxA)
      clear hxA
      by_cases hkl : k < len
      · rw [if_pos hkl] at hx
        obtain ⟨b, o, ha, hb, q0, z0, z1⟩ := HZ.out.go HS.out.out k hkl
        have hidx := idx_u32 a b o len cap k ha hkl
        obtain ⟨z, hz⟩ : ∃ z, Z k = z := ⟨_, rfl⟩
        rw [hz] at q0 z0 z1 hx
        have hm := Int.tmod_eq_emod_of_nonneg z0 (b := 1073741825)
        have hw1 : IntKind.u32.wrap x = x := IntWalk.u32_in _ (by omega)
        have hw2 : IntKind.i64.wrap x = x := IntWalk.i64_in _ (by omega)
        clear ha hz hm
        go_wp2_with (first | (at_builtin; go_loud (refine wpList_app rowInt_ok rfl _ _ rfl rfl (HO.out.later HXA.out (Nat.le_refl _)) ⟨wr.heap.size, 0, none⟩ 1 [x] rfl (cells_built (heap_alloc_new wr (.cells #[.int .i64 x] 3))) (by have := HML.out; simp only [List.length_singleton]; omega) (by simp only [World.size_alloc]; omega) ?_); intro v4 w4 hown4 hg4; have HO4 := Lib.hid hown4; have HG4 := Lib.hid hg4; clear hown4 hg4))
        go_roundw
        case rel => exact ⟨k + 1, by omega, by go_num, by rw [HMS.out]; exact HO4.out, ⟨HSX.out.out.trans (HG4.out.below HSX.out.out.size HO.out.ge)⟩⟩
        case measure => simp [intOf]; omega
      · rw [if_neg hkl] at hx
        subst hx
        go_wp2_with (first | (at_builtin; go_loud (refine wpList_app rowInt_ok rfl _ _ rfl rfl (HO.out.later HXA.out (Nat.le_refl _)) ⟨wr.heap.size, 0, none⟩ 1 [0] rfl (cells_built (heap_alloc_new wr (.cells #[.int .i64 0] 3))) (by have := HML.out; simp only [List.length_singleton]; omega) (by simp only [World.size_alloc]; omega) ?_); intro v4 w4 hown4 hg4; have HO4 := Lib.hid hown4; have HG4 := Lib.hid hg4; clear hown4 hg4))
        go_roundw
        case rel => exact ⟨k + 1, by omega, by go_num, by rw [HMS.out]; exact HO4.out, ⟨HSX.out.out.trans (HG4.out.below HSX.out.out.size HO.out.ge)⟩⟩
        case measure => simp [intOf]; omega
    · have hkn : k = n := by omega
      subst hkn
      go_wp2
      go_ret
      obtain ⟨a1, c1, e, hc⟩ := HO.out.cntS
      have e9 := HML.out
      rw [e9] at hc
      injection e with e1 e2 e3
      refine ⟨va, vc, ?_, by rw [e1, e3]; exact hc, HS.out.out⟩
      show Ending.returned (.slice va (mkC Z len k).length vc) = _
      rw [e9]
end Go.Proofs.YtocdljmdmiphnaaDoor
/- Pack: the laws' same and unpack. -/
namespace Go.Proofs.YtocdljmdmiphnaaDoor
open Go.RowKit Go.WideShapes
set_option linter.unusedVariables false
set_option linter.unusedSimpArgs false

def UVal (aD : Option Addr) (nD cD : Nat) (aC : Option Addr) (nC cC : Nat) (e : Int) : Value := .agg #[.slice aD nD cD, .slice aC nC cC, .int .i64 e]
set_option maxHeartbeats 1600000 in
set_option maxRecDepth 100000 in
theorem same_core (D E : List Nd) (c d : List Int) (e f : Int) (aD aE ac ad : Option Addr) (nD nE nc nd cD cE cc cd : Nat) (w : World) (hD : DawgS w aD D) (hE : DawgS w aE E) (hc : IntS w ac c) (hd : IntS w ad d)
    (h1 : nD = D.length) (h2 : nE = E.length) (h3 : nc = c.length) (h4 : nd = d.length) (l1 : nD ≤ 9223372036854775807) (l2 : nE ≤ 9223372036854775807) (l3 : nc ≤ 9223372036854775807) (l4 : nd ≤ 9223372036854775807) :
    Calls Tryd.prog 17 #[UVal aD nD cD ac nc cc e, UVal aE nE cE ad nd cd f] w fun r w' => r = .returned (.bool (decide (e = f ∧ D = E ∧ c = d))) ∧ Below w.heap.size w w' := by
  have hs0 := Since.refl w
  have HD := Lib.hid hD; have HE := Lib.hid hE; have HC := Lib.hid hc; have HC2 := Lib.hid hd
  have H1 := Lib.hid h1; have H2 := Lib.hid h2; have H3 := Lib.hid h3; have H4 := Lib.hid h4
  clear hD hE hc hd h1 h2 h3 h4 hs0
  unfold UVal
  have hx0 : Below w.heap.size w ((w.alloc (.cells #[.slice aD nD cD, .slice ac nc cc, .int .i64 e] 40)).alloc (.cells #[.slice aE nE cE, .slice ad nd cd, .int .i64 f] 40)) := ((Below.refl _ w).alloc (Nat.le_refl _) _).alloc (by simp only [World.size_alloc]; omega) _
  have HX0 := Lib.hid hx0
  clear hx0
  by_cases he : e = f
  · subst he
    obtain ⟨q, hq⟩ : ∃ q, decide (D = E) = q := ⟨_, rfl⟩
    have HQ := Lib.hid hq
    clear hq
    cases q with
    | true =>
      have HR : Hid (decide (e = e ∧ D = E ∧ c = d) = decide (c = d)) := by show _ = _; rw [decide_eq_decide]; exact ⟨fun h => h.2.2, fun h => ⟨rfl, of_decide_eq_true HQ.out, h⟩⟩
      go_enter Tryd.func17, Tryd.ntmps17
      go_wp2_with fail
      refine (rsame_any D E aD aE nD nE cD cE _ (HD.out.go HX0.out) (HE.out.go HX0.out) H1.out H2.out l1 l2).mono ?_
      rintro r w1 ⟨hr, hb⟩
      rw [HQ.out] at hr
      subst hr
      have q0 := (hb.cell (p := ⟨w.heap.size, 1, none⟩) (by show w.heap.size < _; simp only [World.size_alloc]; omega)).trans (show ((w.alloc (.cells #[.slice aD nD cD, .slice ac nc cc, .int .i64 e] 40)).alloc (.cells #[.slice aE nE cE, .slice ad nd cd, .int .i64 e] 40)).cell? ⟨w.heap.size, 1, none⟩ = some (.slice ac nc cc) by go_simp)
      have q1 := (hb.cell (p := ⟨w.heap.size + 1, 1, none⟩) (by show w.heap.size + 1 < _; simp only [World.size_alloc]; omega)).trans (show ((w.alloc (.cells #[.slice aD nD cD, .slice ac nc cc, .int .i64 e] 40)).alloc (.cells #[.slice aE nE cE, .slice ad nd cd, .int .i64 e] 40)).cell? ⟨w.heap.size + 1, 1, none⟩ = some (.slice ad nd cd) by go_simp)
      have HX1 := Lib.hid (HX0.out.trans (hb.mono HX0.out.size))
      clear hb
      go_wp2_with fail
      refine (ints_any c d nc nd ac ad cc cd w1 (HC.out.go HX1.out) (HC2.out.go HX1.out) H3.out H4.out l3 l4).mono ?_
      rintro r w2 ⟨rfl, hb⟩
      have HX2 := Lib.hid (HX1.out.trans (hb.mono HX1.out.size))
      clear hb q0 q1
      go_wp2
      go_ret
      exact ⟨by rw [HR.out]; rfl, HX2.out⟩
    | false =>
      have HR : Hid (decide (e = e ∧ D = E ∧ c = d) = false) := Lib.hid (decide_eq_false fun h => of_decide_eq_false HQ.out h.2.1)
      go_enter Tryd.func17, Tryd.ntmps17
      go_wp2_with fail
      refine (rsame_any D E aD aE nD nE cD cE _ (HD.out.go HX0.out) (HE.out.go HX0.out) H1.out H2.out l1 l2).mono ?_
      rintro r w1 ⟨hr, hb⟩
      rw [HQ.out] at hr
      subst hr
      have HX1 := Lib.hid (HX0.out.trans (hb.mono HX0.out.size))
      clear hb
      go_wp2
      go_ret
      exact ⟨by rw [HR.out]; rfl, HX1.out⟩
  · have HR : Hid (decide (e = f ∧ D = E ∧ c = d) = false) := Lib.hid (decide_eq_false fun h => he h.1)
    have he2 : (e == f) = false := by simpa using he
    go_enter Tryd.func17, Tryd.ntmps17
    go_wp2
    go_ret
    exact ⟨by rw [HR.out]; rfl, HX0.out⟩
/-! ### results of Unpack -/
/-- the result of Unpack as the laws hold it -/
def UnpV (w : World) (o : Option (List Nd × List Int)) (v : Value) : Prop := match o with
  | none => v = UVal none 0 0 none 0 0 100
  | some (D, c) => ∃ aD cD aC cC, v = UVal aD D.length cD aC c.length cC 0 ∧ D.length ≤ cD ∧ c.length ≤ cC ∧ DawgS w aD D ∧ IntS w aC c ∧ D.length ≤ 20000 ∧ c.length ≤ 20000
theorem UnpV.go {w w1 : World} {o : Option (List Nd × List Int)} {v : Value} (h : UnpV w o v) (hb : Below w.heap.size w w1) : UnpV w1 o v := by
  cases o with
  | none => exact h
  | some p =>
    obtain ⟨D, c⟩ := p
    obtain ⟨aD, cD, aC, cC, rfl, h1, h2, h3, h4, h5⟩ := h
    exact ⟨aD, cD, aC, cC, rfl, h1, h2, h3.later hb (Nat.le_refl _), h4.go hb, h5⟩
theorem same_u (o p : Option (List Nd × List Int)) (u v : Value) (w : World) (hu : UnpV w o u) (hv : UnpV w p v) :
    Calls Tryd.prog 17 #[u, v] w fun r w' => r = .returned (.bool (decide (o = p))) ∧ Below w.heap.size w w' := by
  cases o with
  | none =>
    obtain rfl : u = UVal none 0 0 none 0 0 100 := hu
    cases p with
    | none =>
      obtain rfl : v = UVal none 0 0 none 0 0 100 := hv
      refine (same_core [] [] [] [] 100 100 _ _ _ _ 0 0 0 0 0 0 0 0 w (DawgS.nil _ _) (DawgS.nil _ _) (IntS.nil _ _) (IntS.nil _ _) rfl rfl rfl rfl (by omega) (by omega) (by omega) (by omega)).mono ?_
      rintro r w' ⟨rfl, hb⟩
      exact ⟨by simp, hb⟩
    | some q =>
      obtain ⟨D, c⟩ := q
      obtain ⟨aD, cD, aC, cC, rfl, h1, h2, h3, h4, h5, h6⟩ := hv
      refine (same_core [] D [] c 100 0 _ _ _ _ 0 _ 0 _ 0 _ 0 _ w (DawgS.nil _ _) h3 (IntS.nil _ _) h4 rfl rfl rfl rfl (by omega) (by omega) (by omega) (by omega)).mono ?_
      rintro r w' ⟨rfl, hb⟩
      exact ⟨by simp, hb⟩
  | some q =>
    obtain ⟨D, c⟩ := q
    obtain ⟨aD, cD, aC, cC, rfl, h1, h2, h3, h4, h5, h6⟩ := hu
    cases p with
    | none =>
      obtain rfl : v = UVal none 0 0 none 0 0 100 := hv
      refine (same_core D [] c [] 0 100 _ _ _ _ _ 0 _ 0 _ 0 _ 0 w h3 (DawgS.nil _ _) h4 (IntS.nil _ _) rfl rfl rfl rfl (by omega) (by omega) (by omega) (by omega)).mono ?_
      rintro r w' ⟨rfl, hb⟩
      exact ⟨by simp, hb⟩
    | some q2 =>
      obtain ⟨E, d⟩ := q2
      obtain ⟨aE, cE, ad, cd, rfl, k1, k2, k3, k4, k5, k6⟩ := hv
      refine (same_core D E c d 0 0 _ _ _ _ _ _ _ _ _ _ _ _ w h3 k3 h4 k4 rfl rfl rfl rfl (by omega) (by omega) (by omega) (by omega)).mono ?_
      rintro r w' ⟨rfl, hb⟩
      exact ⟨by simp, hb⟩
theorem unpF_small {b : Wd} {D : List Nd} {c : List Int} (h : unpF b = some (D, c)) : D.length ≤ b.length ∧ c.length ≤ 200 := by
  have hp := unpF_some h
  have h1 := read_pack (okN := fun _ => true) (okK := fun _ => true) (fun _ _ => rfl) (fun _ _ => rfl) hp
  obtain ⟨-, h2, h3⟩ := readF_some h1
  have h4 := (sizeN_M D).2
  have h5 := wordsF_len D
  rw [List.length_take] at h2
  omega
/-- a block that holds neither marks nor bytes is written -/
theorem DawgS.other {w w1 : World} {s : Nat} {cs : Array Value} {t : TypeId} {f : Nat × Nat} {a : Option Addr} {D : List Nd} (h : DawgS w a D) (hs : w.heap[s]? = some (.cells cs t f)) (hcs : ∀ v ∈ cs, (∀ b, v ≠ .bool b) ∧ ∀ z, v ≠ .int .u8 z)
    (hk : ∀ q, q ≠ s → w1.heap[q]? = w.heap[q]?) (hz : w.heap.size ≤ w1.heap.size) : DawgS w1 a D := fun k hkD => by
  have hne : ∀ b o v, w.cell? ⟨b, o, none⟩ = some v → ((∃ x, v = .bool x) ∨ ∃ z, v = .int .u8 z) → b ≠ s := fun b o v hv hx e => by
    subst e
    simp only [World.cell?, hs] at hv
    have hm : v ∈ cs := Array.mem_of_getElem? (by simpa using hv)
    obtain ⟨h1, h2⟩ := hcs v hm
    rcases hx with ⟨x, e⟩ | ⟨z, e⟩
    · exact h1 x e
    · exact h2 z e
  have hcell : ∀ b o, b ≠ s → w1.cell? ⟨b, o, none⟩ = w.cell? ⟨b, o, none⟩ := fun b o hb => by simp only [World.cell?, hk b hb]
  obtain ⟨b, o, ha, h1, h2, aa, cc, h3, h4, h5⟩ := h k hkD
  have hb := hne b _ _ h2 (.inl ⟨_, rfl⟩)
  refine ⟨b, o, ha, by omega, (hcell _ _ hb).trans h2, aa, cc, (hcell _ _ hb).trans h3, h4, fun j hj => ?_⟩
  obtain ⟨b1, o1, e1, k1, k2, k3⟩ := h5 j hj
  have hb1 := hne b1 _ _ k2 (.inr ⟨_, rfl⟩)
  exact ⟨b1, o1, e1, by omega, (hcell _ _ hb1).trans k2, (hcell _ _ hb1).trans k3⟩
theorem unpP_form {B : Nat} {bs : Wd} {e : Ending} {w' : World} (h : UnpP B (unpF bs) e w') (hl : bs.length ≤ 20000) : ∃ aD nD cD aC nC cC er, e = .returned (.tuple #[.slice aD nD cD, .slice aC nC cC, .int .i64 er]) ∧ UnpV w' (unpF bs) (UVal aD nD cD aC nC cC er) ∧
    ((unpF bs = none ∧ UVal aD nD cD aC nC cC er = UVal none 0 0 none 0 0 100) ∨ ∃ D c, unpF bs = some (D, c) ∧ UVal aD nD cD aC nC cC er = UVal aD D.length cD aC c.length cC 0 ∧ D.length ≤ cD ∧ c.length ≤ cC ∧ DawgS w' aD D ∧ OwnG rowInt w' B (.slice aC c.length cC) c ∧ D.length ≤ 20000 ∧ c.length ≤ 20000) := by
  cases hq : unpF bs with
  | none =>
    rw [hq] at h
    exact ⟨none, 0, 0, none, 0, 0, 100, h, rfl, .inl ⟨rfl, rfl⟩⟩
  | some p =>
    obtain ⟨D, c⟩ := p
    rw [hq] at h
    obtain ⟨aD, cD, aC, cC, he, h1, h2, h3, h4⟩ := h
    obtain ⟨s1, s2⟩ := unpF_small hq
    exact ⟨aD, D.length, cD, aC, c.length, cC, 0, he, ⟨aD, cD, aC, cC, rfl, h1, h2, h3, h4.ints.1, by omega, by omega⟩, .inr ⟨D, c, rfl, rfl, h1, h2, h3, h4, by omega, by omega⟩⟩
set_option maxHeartbeats 1600000 in
set_option maxRecDepth 100000 in
theorem unpackL_any (bs : Wd) (n : Nat) (a : Option Addr) (cap : Nat) (w : World) (hB : BytS w a bs) (hn : n = bs.length) (hcap : n ≤ cap) (hl : n ≤ 20000) (hT : Tab w) :
    Calls Tryd.prog 18 #[.slice a n cap] w fun e w' => ∃ v, e = .returned v ∧ UnpV w' (unpF bs) v ∧ Below w.heap.size w w' := by
  have HB := Lib.hid hB; have HN := Lib.hid hn; have HT := Lib.hid hT
  clear hB hn hT
  have hx0 : Below w.heap.size w (w.alloc (.cells #[.slice none 0 0, .slice none 0 0, .int .i64 0] 40)) := (Below.refl _ w).alloc (Nat.le_refl _) _
  have HX0 := Lib.hid hx0
  clear hx0
  go_enter Tryd.func18, Tryd.ntmps18
  go_wp2_with fail
  refine (unpack_any bs n a cap _ (HB.out.go HX0.out) HN.out hcap hl (HT.out.go HX0.out)).mono ?_
  rintro e w1 ⟨hp, hb⟩
  have hrep : w1.heap[w.heap.size]? = some (.cells #[.slice none 0 0, .slice none 0 0, .int .i64 0] 40 (0, 0)) := (hb.block _ (by simp only [World.size_alloc]; omega)).trans (heap_alloc_new _ _)
  obtain ⟨c0, c1, c2⟩ := cells3' hrep
  have f0 : w1.frozen? ⟨w.heap.size, 0, none⟩ = false := by simp [World.frozen?, hrep]
  have f1 : w1.frozen? ⟨w.heap.size, 1, none⟩ = false := by simp [World.frozen?, hrep]
  have f2 : w1.frozen? ⟨w.heap.size, 2, none⟩ = false := by simp [World.frozen?, hrep]
  obtain ⟨aD, nD, cD, aC, nC, cC, er, rfl, hu, hcase⟩ := unpP_form hp (by have := HN.out; omega)
  have HX1 := Lib.hid (HX0.out.trans (hb.mono HX0.out.size))
  have hset : Hid (∀ w9 : World, w9 = ((w1.setCell ⟨w.heap.size, 0, none⟩ (.slice aD nD cD)).setCell ⟨w.heap.size, 1, none⟩ (.slice aC nC cC)).setCell ⟨w.heap.size, 2, none⟩ (.int .i64 er) → UnpV w9 (unpF bs) (UVal aD nD cD aC nC cC er) ∧ Below w.heap.size w w9 ∧ w9.heap[w.heap.size]? = some (.cells #[.slice aD nD cD, .slice aC nC cC, .int .i64 er] 40 (0, 0))) := fun w9 hw9 => by
    have hk : ∀ q, q ≠ w.heap.size → w9.heap[q]? = w1.heap[q]? := fun q hq => by
      rw [hw9, Below.heap_setCell _ _ _ _ hq, Below.heap_setCell _ _ _ _ hq, Below.heap_setCell _ _ _ _ hq]
    have hz : w1.heap.size ≤ w9.heap.size := by rw [hw9]; simp only [World.size_setCell]; exact Nat.le_refl _
    refine ⟨?_, ?_, ?_⟩
    · rcases hcase with ⟨h1, h2⟩ | ⟨D, c, h1, h2, h3, h4, h5, h6, h7, h8⟩
      · rw [h1]; exact h2
      · rw [h1]
        refine ⟨aD, cD, aC, cC, h2, h3, h4, h5.other hrep (fun v hv => ?_) hk hz, ?_, h7, h8⟩
        · simp only [List.mem_toArray, List.mem_cons, List.not_mem_nil, or_false] at hv
          rcases hv with rfl | rfl | rfl <;> exact ⟨fun b e => (by cases e), fun z e => (by cases e)⟩
        · have h9 : OwnG rowInt w9 _ (.slice aC c.length cC) c := h6.keep fun q hq => hk q fun e => by
            have := h6.ge q hq
            simp only [World.size_alloc] at this
            omega
          exact h9.ints.1
    · rw [hw9]
      exact ((HX1.out.setCell (p := ⟨w.heap.size, 0, none⟩) (Nat.le_refl _) _).setCell (p := ⟨w.heap.size, 1, none⟩) (Nat.le_refl _) _).setCell (p := ⟨w.heap.size, 2, none⟩) (Nat.le_refl _) _
    · rw [hw9]
      exact set_one (set_one (set_one hrep rfl) rfl) rfl
  clear hb hp hu hcase hrep HB HN HT
  go_wp2
  obtain ⟨w9, hw9⟩ : ∃ w9, ((w1.setCell ⟨w.heap.size, 0, none⟩ (.slice aD nD cD)).setCell ⟨w.heap.size, 1, none⟩ (.slice aC nC cC)).setCell ⟨w.heap.size, 2, none⟩ (.int .i64 er) = w9 := ⟨_, rfl⟩
  obtain ⟨hv9, hb9, hr9⟩ := hset.out w9 hw9.symm
  rw [hw9]
  obtain ⟨k0, k1, k2⟩ := cells3' hr9
  refine bodyPost_ret (v := UVal aD nD cD aC nC cC er) ?_ rfl ⟨_, rfl, hv9, hb9⟩
  simp [results, Tryd.results18, go_sem, k0, k1, k2, UVal]
end Go.Proofs.YtocdljmdmiphnaaDoor
/- Pack: bytes as strings; literals. -/
namespace Go.Proofs.YtocdljmdmiphnaaDoor
open Go.RowKit Go.WideShapes
set_option linter.unusedVariables false
set_option linter.unusedSimpArgs false

theorem push_fold : ∀ (l : Wd) (s : ByteArray), (l.map fun x => (x.toNat : Int)).foldl (fun r n => r.push (UInt8.ofNat n.toNat)) s = ⟨s.data ++ l.toArray⟩
  | [], s => by simp
  | x :: l, s => by
    rw [List.map_cons, List.foldl_cons, push_fold l]
    simp [ByteArray.push]
/-- a slice of bytes as a string -/
theorem conv_byts (w : World) (a : Option Addr) (n c : Nat) (l : Wd) (h : BytS w a l) (hn : n = l.length) :
    (Go.convert 24 9 (.slice a n c)).run Tryd.prog w = .ok (.string ⟨l.toArray⟩) w := by
  rw [run_convert_bytes_string w _ _ 5 a n c Tryd.underlying24 Tryd.underlying5 Tryd.underlying9]
  cases l with
  | nil =>
    have hn0 : n = 0 := hn
    subst hn0
    cases a with
    | none => rfl
    | some a =>
      have := run_bytesToString (P := Tryd.prog) w a 0 c [] (by rfl)
      rw [this]; rfl
  | cons x l =>
    obtain ⟨b, o, rfl, _, _⟩ := h.at (k := 0) (by simp)
    have hc := cells_byts h
    subst hn
    have hl : ((x :: l).map fun z => (Value.int .u8 (z.toNat : Int))) = (x :: l).flatMap rowU8.enc := by
      have : ∀ m : Wd, (m.map fun z => (Value.int .u8 (z.toNat : Int))) = m.flatMap rowU8.enc := by
        intro m
        induction m with
        | nil => rfl
        | cons y m ih => rw [List.map_cons, List.flatMap_cons, ih]; rfl
      exact this _
    have h2 := run_loadCells_list (P := Tryd.prog) (w := w) ⟨b, o, none⟩ ((x :: l).map fun z => (Value.int .u8 (z.toNat : Int))) (by rw [hl]; exact hc)
    rw [List.length_map] at h2
    have h3 := run_bytesToString (P := Tryd.prog) w ⟨b, o, none⟩ (x :: l).length c ((x :: l).map fun z => (z.toNat : Int)) (by rw [h2, List.map_map]; rfl)
    rw [h3, push_fold]
    simp
theorem str_eq {l m : Wd} : ((⟨l.toArray⟩ : ByteArray) = ⟨m.toArray⟩) ↔ l = m := by
  constructor
  · intro h
    injection h with h
    have := congrArg Array.toList h
    simpa using this
  · intro h; rw [h]
end Go.Proofs.YtocdljmdmiphnaaDoor
/- Pack: the contracts at dictionaries of few words. -/
namespace Go.Proofs.YtocdljmdmiphnaaDoor
open Go.RowKit Go.WideShapes
set_option linter.unusedVariables false
set_option linter.unusedSimpArgs false

/-! ### plain -/
theorem size_bounds : ∀ X : List Nd, (∀ x ∈ X, x.arcs.length ≤ 94) → sizeN X ≤ X.length * 189 ∧ sizeM X ≤ X.length * 283 := by
  intro X
  induction X with
  | nil => intro _; exact ⟨Nat.le_refl _, Nat.le_refl _⟩
  | cons x X ih =>
    intro h
    obtain ⟨h4, h6⟩ := ih fun y hy => h y (List.mem_cons_of_mem _ hy)
    have h5 := h x (by simp)
    have e1 : sizeN (x :: X) = 1 + 2 * x.arcs.length + sizeN X := rfl
    have e2 : sizeM (x :: X) = 1 + 3 * x.arcs.length + sizeM X := rfl
    rw [e1, e2, List.length_cons]
    omega
theorem small_dict {L : List ByteArray} (hd : Dict L) (hl : L.length ≤ 12) (hs : ∀ x ∈ L, x.size ≤ 4) : (ofF (restAt 0 L)).length ≤ 70 ∧ sizeN (ofF (restAt 0 L)) ≤ 20000 ∧ (formB (ofF (restAt 0 L))).length ≤ 19810 := by
  have h4 : (restAt 0 L).length = L.length := by simp [restAt]
  have h0 := refV_le2 21 5 (restAt 0 L) [] [] hd.okR.1 fun s h => by
    obtain ⟨x, hx, rfl⟩ := List.mem_map.1 h
    have := hs x hx
    have e : x.data.toList.length = x.size := by simp
    rw [List.drop_zero, e]; omega
  have h5 : (ofF (restAt 0 L)).length = (refV 21 (restAt 0 L) [] []).2.2.length := rfl
  simp only [List.length_nil] at h0
  have hn : (ofF (restAt 0 L)).length ≤ 70 := by omega
  obtain ⟨Mt, h1, h2⟩ := of_tab hd.okR.1 hd.okR.2
  obtain ⟨b1, b2⟩ := size_bounds (ofF (restAt 0 L)) fun x hx => by
    obtain ⟨i, hi, rfl⟩ := List.getElem_of_mem hx
    obtain ⟨r, _, _, h3⟩ := h1.nd i hi
    rw [h3.len]; exact grp_len r
  have h6 := (form_len hd).2
  exact ⟨hn, by omega, by omega⟩
theorem pack_small {L : List ByteArray} {c : List Int} (hf : (formB (ofF (restAt 0 L))).length ≤ 19810) (hl : L.length ≤ 12) (hc : cntOk L.length c) : (packB (ofF (restAt 0 L)) c).length ≤ 19900 := by
  have h1 := cntB_len5 hc.2
  have h2 := hc.1
  rw [packB_len]
  unfold dataB
  rw [pad_len]
  unfold bodyB
  rw [List.length_append]
  omega
/-- bytes in memory -/
structure ByS (w : World) (a : Option Addr) (n c : Nat) (l : Wd) : Prop where
  byts : BytS w a l
  len : n = l.length
  cap : n ≤ c
theorem ByS.go {w w1 : World} {a : Option Addr} {n c : Nat} {l : Wd} (h : ByS w a n c l) (hb : Below w.heap.size w w1) : ByS w1 a n c l := ⟨h.byts.go hb, h.len, h.cap⟩
theorem OwnG.byS {w : World} {B : Nat} {v : Value} {l : Wd} (h : OwnG rowU8 w B v l) : ∃ a c, v = .slice a l.length c ∧ ByS w a l.length c l := by
  obtain ⟨a, cap, rfl, h1, -⟩ := h.form
  exact ⟨a, cap, rfl, h.byts.1, rfl, h1⟩
/-- Pack at an automaton of a dictionary -/
theorem pack_yes {L : List ByteArray} {n cap n2 c2 : Nat} {a a2 : Option Addr} {c : List Int} {w : World} (hA : AutS w a n cap L) (hz : sizeN (ofF (restAt 0 L)) ≤ 20000) (hC : CntS w a2 n2 c2 c) (hc : cntOk L.length c) (hT : Tab w) :
    Calls Tryd.prog 13 #[.slice a n cap, .slice a2 n2 c2] w fun e w' => ∃ a3 n3 c3, e = .returned (.tuple #[.slice a3 n3 c3, .int .i64 0]) ∧ ByS w' a3 n3 c3 (packB (ofF (restAt 0 L)) c) ∧ Below w.heap.size w w' := by
  refine (pack_any _ n cap a c n2 c2 a2 w hA.rows hA.len hz (csOk_of hA.dict) hC.ints hC.len (by have := hC.len; have := hc.1; have := hA.dict.2.1; omega) hT).mono ?_
  rintro e w1 ⟨hr, hb⟩
  rcases hr with ⟨h1, he⟩ | ⟨h1, h2, he⟩ | ⟨h1, h2, v3, he, ho⟩
  · rw [valid_of hA.dict] at h1; cases h1
  · rw [words_of hA.dict, cntD_iff.2 hc] at h2; cases h2
  · obtain ⟨a3, c3, rfl, h3⟩ := ho.byS
    exact ⟨a3, _, c3, he, h3, hb⟩
theorem pack_no {L : List ByteArray} {n cap n2 c2 : Nat} {a a2 : Option Addr} {c : List Int} {w : World} (hA : AutS w a n cap L) (hz : sizeN (ofF (restAt 0 L)) ≤ 20000) (hC : CntS w a2 n2 c2 c) (hl : c.length ≤ 20000) (hc : ¬ cntOk L.length c) (hT : Tab w) :
    Calls Tryd.prog 13 #[.slice a n cap, .slice a2 n2 c2] w fun e w' => e = .returned (.tuple #[.slice none 0 0, .int .i64 1]) ∧ Below w.heap.size w w' := by
  refine (pack_any _ n cap a c n2 c2 a2 w hA.rows hA.len hz (csOk_of hA.dict) hC.ints hC.len (by have := hC.len; omega) hT).mono ?_
  rintro e w1 ⟨hr, hb⟩
  rcases hr with ⟨h1, he⟩ | ⟨h1, h2, he⟩ | ⟨h1, h2, v3, he, ho⟩
  · rw [valid_of hA.dict] at h1; cases h1
  · exact ⟨he, hb⟩
  · rw [words_of hA.dict, cntD_iff] at h2; exact absurd h2 hc
/-- the pack of a dictionary -/
theorem isPack_mk {L : List ByteArray} {c : List Int} (hd : Dict L) (hc : cntOk L.length c) : IsPack (packB (ofF (restAt 0 L)) c) (ofF (restAt 0 L)) c := ⟨L, hd, rfl, hc, rfl⟩
theorem unpack_d {l : Wd} {n cap : Nat} {a : Option Addr} {w : World} (hB : ByS w a n cap l) (hl : l.length ≤ 20000) (hT : Tab w) :
    Calls Tryd.prog 23 #[.slice a n cap] w fun e w' => UnpP w.heap.size (unpF l) e w' ∧ Below w.heap.size w w' :=
  unpack_any l n a cap w hB.byts hB.len hB.cap (by have := hB.len; omega) hT
theorem unpackL_d {l : Wd} {n cap : Nat} {a : Option Addr} {w : World} (hB : ByS w a n cap l) (hl : l.length ≤ 20000) (hT : Tab w) :
    Calls Tryd.prog 18 #[.slice a n cap] w fun e w' => ∃ v, e = .returned v ∧ UnpV w' (unpF l) v ∧ Below w.heap.size w w' :=
  unpackL_any l n a cap w hB.byts hB.len hB.cap (by have := hB.len; omega) hT
/-! ### the fixed example -/
def LA : List ByteArray := [⟨#[65]⟩]
def DA : List Nd := [⟨false, [⟨65, 1⟩]⟩, ⟨true, []⟩]
theorem dictA : Dict LA := dict_mk (by decide) (by decide) (by kernel_rfl)
theorem ofA : ofF (restAt 0 LA) = DA := by kernel_rfl
theorem validN : validF [] = false := validF_no fun h => by
  have h2 := h.1.1
  have e : (visitL [] 22 0 []).1 = [(⟨#[]⟩, false)] := by kernel_rfl
  rw [e] at h2
  have := h2 _ (List.mem_singleton.2 rfl)
  cases this
theorem formA : formB DA = [2, 65, 0, 1] := by
  have e0 : numB 0 = [0] := numB_zero
  have e1 : numB 1 = [1] := numB_lt (by decide)
  have e2 : numB 2 = [2] := numB_lt (by decide)
  simp [formB, DA, pkWrite, pkArms, headN, bit, e0, e1, e2, byteC]
theorem dataA : dataB DA [5] = [2, 65, 0, 1, 5, 0] := by
  have e5 : numB 5 = [5] := numB_lt (by decide)
  have h : bodyB DA [5] = [2, 65, 0, 1, 5] := by
    unfold bodyB
    rw [formA]
    simp [cntB, numZ, e5]
  unfold dataB
  rw [h]
  rfl
theorem cntA : cntOk LA.length [5] := ⟨rfl, fun x hx => by rw [List.mem_singleton.1 hx]; decide⟩
end Go.Proofs.YtocdljmdmiphnaaDoor
/- Pack: the fixed examples. -/
namespace Go.Proofs.YtocdljmdmiphnaaDoor
open Go.RowKit Go.WideShapes
set_option linter.unusedVariables false
set_option linter.unusedSimpArgs false

theorem intS_row {w : World} {g : Nat} {cs : Array Value} {t : TypeId} {fz : Nat × Nat} {l : List Int} (h : w.heap[g]? = some (.cells cs t fz)) (hcs : cs.toList = l.map (Value.int .i64)) : IntS w (some ⟨g, 0, none⟩) l := fun k hk => by
  refine ⟨g, 0, rfl, (Array.getElem?_eq_some_iff.1 h).1, ?_⟩
  rw [cell_of_row _ _ _ _ _ _ h, ← Array.getElem?_toList, hcs]
  simp [hk]
theorem bytS_row {w : World} {g : Nat} {cs : Array Value} {t : TypeId} {fz : Nat × Nat} {l : Wd} (h : w.heap[g]? = some (.cells cs t fz)) (hcs : cs.toList = l.map fun x => Value.int .u8 (x.toNat : Int)) : BytS w (some ⟨g, 0, none⟩) l := fun k hk => by
  refine ⟨g, 0, rfl, (Array.getElem?_eq_some_iff.1 h).1, ?_⟩
  rw [cell_of_row _ _ _ _ _ _ h, ← Array.getElem?_toList, hcs]
  simp [hk]
def dl : Wd := [2, 65, 0, 1, 5, 0]
def SD : ByteArray := ⟨(sumB dl).toArray⟩
theorem packA : packB (ofF (restAt 0 LA)) [5] = dl ++ sumB dl := by rw [ofA]; unfold packB; rw [dataA]; rfl
def NewB (v : Value) (w : World) : Prop := ∃ g, v = .slice (some ⟨g, 0, none⟩) 6 6 ∧ BytS w (some ⟨g, 0, none⟩) dl
theorem newB_stays : Stays NewB := by
  rintro v w w' ⟨g, rfl, h⟩ hx
  exact ⟨g, rfl, h.go hx⟩
theorem one_int {w : World} {x : Int} : CntS (w.alloc (.cells #[.int .i64 x] 3)) (some ⟨w.heap.size, 0, none⟩) 1 1 [x] := ⟨intS_row (heap_alloc_new _ _) rfl, rfl, Nat.le_refl _⟩
theorem unpA : unpF (dl ++ sumB dl) = some (ofF (restAt 0 LA), [5]) := unpF_yes (by rw [← packA]; exact isPack_mk dictA cntA)
theorem unpN : unpF [] = none := no_sum fun h => by have := h.1; simp at this
theorem unp9 : unpF ((dl ++ sumB dl).take 9) = none := no_odd (by rfl)
theorem CntS.nil (w : World) : CntS w none 0 0 [] := ⟨IntS.nil _ _, rfl, Nat.le_refl _⟩
theorem cntN0 : ¬ cntOk LA.length [] := fun h => by have := h.1; simp [LA] at this
theorem cntN1 : ¬ cntOk LA.length [-1] := fun h => by have := (h.2 (-1) (by simp)).1; omega
theorem below_new (w : World) (o : Obj) : Below w.heap.size w (w.alloc o) := (Below.refl _ _).alloc (Nat.le_refl _) _
set_option maxHeartbeats 6400000 in
set_option maxRecDepth 100000 in
theorem psanity_any (w : World) (hT : Tab w) : Calls Tryd.prog 10 #[] w fun e w' => e = .returned (.bool true) ∧ Below w.heap.size w w' := by
  have HT := Lib.hid hT
  have hs0 := Since.refl w
  have HS := Lib.hid hs0
  clear hT hs0
  have hzA : sizeN (ofF (restAt 0 LA)) ≤ 20000 := by rw [ofA]; decide
  have HZA := Lib.hid hzA
  have HX := Lib.hid (below_new w (.cells #[.string ⟨#[65]⟩] 9))
  clear hzA
  go_enter Tryd.func10, Tryd.ntmps10
  go_wp2_with fail
  refine (of_d (L := LA) dictA (strS_row (heap_alloc_new _ _) rfl) rfl (Nat.le_refl _)).mono ?_
  rintro e w1 ⟨a1, n1, c1, rfl, hA, hb⟩
  replace HS := Lib.hid ((HS.out.go HX.out).go hb)
  have HA := Lib.hid hA
  have HX1 := Lib.hid (below_new w1 (.cells #[.int .i64 5] 3))
  clear hA hb HX
  go_wp2_with fail
  refine (pack_yes (HA.out.go HX1.out) HZA.out one_int cntA (HT.out.go (HS.out.go HX1.out).out)).mono ?_
  rintro e w2 ⟨a3, n3, c3, rfl, hB, hb⟩
  replace HS := Lib.hid ((HS.out.go HX1.out).go hb)
  replace HA := Lib.hid ((HA.out.go HX1.out).go hb)
  rw [packA] at hB
  obtain rfl : n3 = 10 := hB.len
  have hc3 := hB.cap
  obtain ⟨b3, o3, ha3, -, -⟩ := hB.byts.at (k := 0) (by decide)
  subst ha3
  have HB := Lib.hid hB
  obtain ⟨o4, ho4, hhigh⟩ := slice_high_u8 b3 o3 10 c3 6 (by decide) hc3
  have hlow := slice_low_u8 (some ⟨b3, o3, none⟩) 10 c3 6 (by omega)
  have hdr : BytS w2 (some ⟨b3, o4, none⟩) (sumB dl) := hB.byts.drop (k := 6) (o' := o4) fun _ => ho4 (by decide)
  have htk : BytS w2 (some ⟨b3, o3, none⟩) dl := hB.byts.take 6
  have HDR := Lib.hid hdr; have HTK := Lib.hid htk
  have hSD : ((⟨#[2, 65, 0, 1, 5, 0]⟩ : ByteArray) = ⟨dl.toArray⟩) := rfl
  simp only [Int.cast_ofNat_Int, Nat.reduceSub] at hhigh hlow
  have HSD := Lib.hid hSD
  clear hB hb HX1 hdr htk ho4 hSD
  go_upto_region 3 with fail
  refine wp_region_st (by kernel_rfl) (Vs [fun v _ => v = .int .i64 0, fun v _ => v = .bool false, fun v _ => v = .bool false, fun v _ => v = .slice (some ⟨b3, o3, none⟩) 10 c3, fun v _ => v = .int .i64 10, fun v _ => v = .bool false, fun v _ => v = .bool false, fun v _ => v = .bool false, fun v _ => v = .slice (some ⟨b3, o3, none⟩) 10 c3, fun v _ => v = .slice (some ⟨b3, o3, none⟩) 6 c3, fun v _ => v = .string ⟨dl.toArray⟩, NewB, fun v _ => v = .string ⟨dl.toArray⟩, fun v _ => v = .bool false, fun v _ => v = .bool false, fun v _ => v = .bool false, fun v _ => v = .slice (some ⟨b3, o3, none⟩) 10 c3, fun v _ => v = .slice (some ⟨b3, o4, none⟩) 4 (c3 - 6), fun v _ => v = .string SD, fun v _ => v = .slice (some ⟨b3, o3, none⟩) 10 c3, fun v _ => v = .slice (some ⟨b3, o3, none⟩) 6 c3, SumRow dl, fun v _ => v = .string SD, fun v _ => v = .bool false, fun v _ => v = .bool false]) (Xs [Ext, Ext, Ext, Ext, Ext, Ext, Ext, Ext, Ext, Ext, Ext, Ext, Ext, Ext, Ext, Ext, Ext, Ext, Ext, Ext, Ext, Ext, Ext, Ext, Ext]) (fun fL => (fun W => Below w2.heap.size w2 W) ) [0, 1, 3, 7, 15, 31, 63, 127, 255, 511, 1023, 255, 2303, 8191, 16383, 32767, 65535, 131071, 262143, 65535, 589823, 1638399, 3735551, 8388607, 16777215] 118 25 (by kernel_rfl) rfl ?hV ?hS ?hop ?hfin ?hlast
  case hV =>
    refine xs_stays (vs_stays (by simp only [List.mem_cons, List.not_mem_nil, or_false, forall_eq_or_imp, forall_eq]; exact ⟨stays_const _, stays_const _, stays_const _, stays_const _, stays_const _, stays_const _, stays_const _, stays_const _, stays_const _, stays_const _, stays_const _, newB_stays, stays_const _, stays_const _, stays_const _, stays_const _, stays_const _, stays_const _, stays_const _, stays_const _, stays_const _, sumRow_stays _, stays_const _, stays_const _, stays_const _⟩)) ?_
    exact ⟨.inl rfl, .inl rfl, .inl rfl, .inl rfl, .inl rfl, .inl rfl, .inl rfl, .inl rfl, .inl rfl, .inl rfl, .inl rfl, .inl rfl, .inl rfl, .inl rfl, .inl rfl, .inl rfl, .inl rfl, .inl rfl, .inl rfl, .inl rfl, .inl rfl, .inl rfl, .inl rfl, .inl rfl, .inl rfl, trivial⟩
  case hS =>
    intro fL hf
    show (fun W => Below w2.heap.size w2 W)  _
    exact (Below.refl _ w2).drew
  case hop =>
    refine ⟨?_, ?_, ?_, ?c3, ?c4, ?c5, ?_, ?_, ?c8, ?c9, ?c10, ?c11, ?c12, ?c13, ?_, ?_, ?c16, ?c17, ?c18, ?c19, ?c20, ?c21, ?c22, ?c23, ?_, trivial⟩
    all_goals first | rw [if_neg (by decide)] | rw [if_pos (by decide)]
    all_goals try intro ac W fL hsz hfi hms hdn hS0 hdep hbase hund
    all_goals try have hS : (fun W => Below w2.heap.size w2 W)  W := hS0
    all_goals try (have h3 : ac.tmps.getD 3 undef = .int .i64 0 := hbase 3 (by kernel_rfl); have hh3 := h3; rw [Array.getD_eq_getD_getElem?] at hh3)
    all_goals try (have h2 : ac.tmps.getD 2 undef = .slice (some ⟨b3, o3, none⟩) 10 c3 := hbase 2 (by kernel_rfl); have hh2 := h2; rw [Array.getD_eq_getD_getElem?] at hh2)
    all_goals try (have d27 : ac.tmps.getD 27 undef = .int .i64 0 := hdep 0 (by decide); have dd27 := d27; rw [Array.getD_eq_getD_getElem?] at dd27)
    all_goals try (have d28 : ac.tmps.getD 28 undef = .bool false := hdep 1 (by decide); have dd28 := d28; rw [Array.getD_eq_getD_getElem?] at dd28)
    all_goals try (have d29 : ac.tmps.getD 29 undef = .bool false := hdep 2 (by decide); have dd29 := d29; rw [Array.getD_eq_getD_getElem?] at dd29)
    all_goals try (have d30 : ac.tmps.getD 30 undef = .slice (some ⟨b3, o3, none⟩) 10 c3 := hdep 3 (by decide); have dd30 := d30; rw [Array.getD_eq_getD_getElem?] at dd30)
    all_goals try (have d31 : ac.tmps.getD 31 undef = .int .i64 10 := hdep 4 (by decide); have dd31 := d31; rw [Array.getD_eq_getD_getElem?] at dd31)
    all_goals try (have d32 : ac.tmps.getD 32 undef = .bool false := hdep 5 (by decide); have dd32 := d32; rw [Array.getD_eq_getD_getElem?] at dd32)
    all_goals try (have d33 : ac.tmps.getD 33 undef = .bool false := hdep 6 (by decide); have dd33 := d33; rw [Array.getD_eq_getD_getElem?] at dd33)
    all_goals try (have d34 : ac.tmps.getD 34 undef = .bool false := hdep 7 (by decide); have dd34 := d34; rw [Array.getD_eq_getD_getElem?] at dd34)
    all_goals try (have d35 : ac.tmps.getD 35 undef = .slice (some ⟨b3, o3, none⟩) 10 c3 := hdep 8 (by decide); have dd35 := d35; rw [Array.getD_eq_getD_getElem?] at dd35)
    all_goals try (have d36 : ac.tmps.getD 36 undef = .slice (some ⟨b3, o3, none⟩) 6 c3 := hdep 9 (by decide); have dd36 := d36; rw [Array.getD_eq_getD_getElem?] at dd36)
    all_goals try (have d37 : ac.tmps.getD 37 undef = .string ⟨dl.toArray⟩ := hdep 10 (by decide); have dd37 := d37; rw [Array.getD_eq_getD_getElem?] at dd37)
    all_goals try have d38 : (NewB) (ac.tmps.getD 38 undef) W := hdep 11 (by decide)
    all_goals try (have d39 : ac.tmps.getD 39 undef = .string ⟨dl.toArray⟩ := hdep 12 (by decide); have dd39 := d39; rw [Array.getD_eq_getD_getElem?] at dd39)
    all_goals try (have d40 : ac.tmps.getD 40 undef = .bool false := hdep 13 (by decide); have dd40 := d40; rw [Array.getD_eq_getD_getElem?] at dd40)
    all_goals try (have d41 : ac.tmps.getD 41 undef = .bool false := hdep 14 (by decide); have dd41 := d41; rw [Array.getD_eq_getD_getElem?] at dd41)
    all_goals try (have d42 : ac.tmps.getD 42 undef = .bool false := hdep 15 (by decide); have dd42 := d42; rw [Array.getD_eq_getD_getElem?] at dd42)
    all_goals try (have d43 : ac.tmps.getD 43 undef = .slice (some ⟨b3, o3, none⟩) 10 c3 := hdep 16 (by decide); have dd43 := d43; rw [Array.getD_eq_getD_getElem?] at dd43)
    all_goals try (have d44 : ac.tmps.getD 44 undef = .slice (some ⟨b3, o4, none⟩) 4 (c3 - 6) := hdep 17 (by decide); have dd44 := d44; rw [Array.getD_eq_getD_getElem?] at dd44)
    all_goals try (have d45 : ac.tmps.getD 45 undef = .string SD := hdep 18 (by decide); have dd45 := d45; rw [Array.getD_eq_getD_getElem?] at dd45)
    all_goals try (have d46 : ac.tmps.getD 46 undef = .slice (some ⟨b3, o3, none⟩) 10 c3 := hdep 19 (by decide); have dd46 := d46; rw [Array.getD_eq_getD_getElem?] at dd46)
    all_goals try (have d47 : ac.tmps.getD 47 undef = .slice (some ⟨b3, o3, none⟩) 6 c3 := hdep 20 (by decide); have dd47 := d47; rw [Array.getD_eq_getD_getElem?] at dd47)
    all_goals try have d48 : (SumRow dl) (ac.tmps.getD 48 undef) W := hdep 21 (by decide)
    all_goals try (have d49 : ac.tmps.getD 49 undef = .string SD := hdep 22 (by decide); have dd49 := d49; rw [Array.getD_eq_getD_getElem?] at dd49)
    all_goals try (have d50 : ac.tmps.getD 50 undef = .bool false := hdep 23 (by decide); have dd50 := d50; rw [Array.getD_eq_getD_getElem?] at dd50)
    all_goals try clear hbase hdep hms hdn hund
    case c3 => refine opOk_runG (j := 2) (d := 29) (b := false) rfl (by kernel_rfl) dd29 rfl (.inl ⟨_, W, ?_, rfl, Ext.refl _, hS0⟩); clear hsz hS hS0 hfi; simp [go_sem, Act.eval, *]
    case c4 => refine opOk_runG (j := 2) (d := 29) (b := false) rfl (by kernel_rfl) dd29 rfl (.inl ⟨_, W, ?_, rfl, Ext.refl _, hS0⟩); clear hsz hS hS0 hfi; simp [go_sem, Act.eval, *]
    case c5 => refine opOk_runG (j := 2) (d := 29) (b := false) rfl (by kernel_rfl) dd29 rfl (.inl ⟨_, W, ?_, rfl, Ext.refl _, hS0⟩); clear hsz hS hS0 hfi; simp [go_sem, Act.eval, *]
    case c8 => refine opOk_runG (j := 7) (d := 34) (b := false) rfl (by kernel_rfl) dd34 rfl (.inl ⟨_, W, ?_, rfl, Ext.refl _, hS0⟩); clear hsz hS hS0 hfi; simp [go_sem, Act.eval, *]
    case c9 => refine opOk_runG (j := 7) (d := 34) (b := false) rfl (by kernel_rfl) dd34 rfl (.inl ⟨_, W, ?_, rfl, Ext.refl _, hS0⟩); clear hsz hS hS0 hfi; simp [go_sem, Act.eval, *]
    case c10 =>
      have hcv := conv_byts W (some ⟨b3, o3, none⟩) 6 c3 dl (HTK.out.go hS) rfl
      refine opOk_runG (j := 7) (d := 34) (b := false) rfl (by kernel_rfl) dd34 rfl (.inl ⟨_, W, ?_, rfl, Ext.refl _, hS0⟩)
      clear hsz hS hS0 hfi; simp [go_sem, Act.eval, *]
    case c11 =>
      refine opOk_runG (j := 7) (d := 34) (b := false) rfl (by kernel_rfl) dd34 rfl (.inl ⟨.slice (some ⟨W.heap.size, 0, none⟩) 6 6, W.alloc (.cells #[.int .u8 2, .int .u8 65, .int .u8 0, .int .u8 1, .int .u8 5, .int .u8 0] 5), ?_, ⟨W.heap.size, rfl, bytS_row (heap_alloc_new _ _) rfl⟩, (Below.refl _ _).alloc (Nat.le_refl _) _, Below.trans hS ((Below.refl _ _).alloc hS.size _)⟩)
      clear hsz hS hS0 hfi; simp [go_sem, Act.eval, *]
    case c12 =>
      obtain ⟨g, e38, hg38⟩ := d38
      have dd38 := e38
      rw [Array.getD_eq_getD_getElem?] at dd38
      have hcv := conv_byts W (some ⟨g, 0, none⟩) 6 6 dl hg38 rfl
      refine opOk_runG (j := 7) (d := 34) (b := false) rfl (by kernel_rfl) dd34 rfl (.inl ⟨_, W, ?_, rfl, Ext.refl _, hS0⟩)
      clear hsz hS hS0 hfi hg38; simp [go_sem, Act.eval, *]
    case c13 => refine opOk_runG (j := 7) (d := 34) (b := false) rfl (by kernel_rfl) dd34 rfl (.inl ⟨_, W, ?_, rfl, Ext.refl _, hS0⟩); clear hsz hS hS0 hfi; simp [go_sem, Act.eval, *]
    case c16 => refine opOk_runG (j := 15) (d := 42) (b := false) rfl (by kernel_rfl) dd42 rfl (.inl ⟨_, W, ?_, rfl, Ext.refl _, hS0⟩); clear hsz hS hS0 hfi; simp [go_sem, Act.eval, *]
    case c17 => refine opOk_runG (j := 15) (d := 42) (b := false) rfl (by kernel_rfl) dd42 rfl (.inl ⟨_, W, ?_, rfl, Ext.refl _, hS0⟩); clear hsz hS hS0 hfi; simp [go_sem, Act.eval, *]
    case c18 =>
      have hcv : (Go.convert 24 9 (.slice (some ⟨b3, o4, none⟩) 4 (c3 - 6))).run Tryd.prog W = .ok (.string SD) W := conv_byts W (some ⟨b3, o4, none⟩) 4 (c3 - 6) (sumB dl) (HDR.out.go hS) rfl
      refine opOk_runG (j := 15) (d := 42) (b := false) rfl (by kernel_rfl) dd42 rfl (.inl ⟨_, W, ?_, rfl, Ext.refl _, hS0⟩)
      clear hsz hS hS0 hfi; simp [go_sem, Act.eval, *]
    case c19 => refine opOk_runG (j := 15) (d := 42) (b := false) rfl (by kernel_rfl) dd42 rfl (.inl ⟨_, W, ?_, rfl, Ext.refl _, hS0⟩); clear hsz hS hS0 hfi; simp [go_sem, Act.eval, *]
    case c20 => refine opOk_runG (j := 15) (d := 42) (b := false) rfl (by kernel_rfl) dd42 rfl (.inl ⟨_, W, ?_, rfl, Ext.refl _, hS0⟩); clear hsz hS hS0 hfi; simp [go_sem, Act.eval, *]
    case c21 =>
      refine opOk_runG (j := 15) (d := 42) (b := false) rfl (by kernel_rfl) dd42 rfl (.inr ⟨16, #[.slice (some ⟨b3, o3, none⟩) 6 c3], W, by (clear hsz hS hS0 hfi; simp [go_sem, Act.eval, *]), ?_⟩)
      refine (rsum_any dl 6 _ c3 W (HTK.out.go hS) rfl (by omega)).mono ?_
      rintro e w8 ⟨g, rfl, ho8, hb8⟩
      exact ⟨_, rfl, ⟨g, rfl, ho8.byts.1⟩, hb8, Below.trans hS (Below.mono hb8 hS.size)⟩
    case c22 =>
      obtain ⟨g, e48, hg48⟩ := d48
      have dd48 := e48
      rw [Array.getD_eq_getD_getElem?] at dd48
      have hcv : (Go.convert 24 9 (.slice (some ⟨g, 0, none⟩) 4 4)).run Tryd.prog W = .ok (.string SD) W := conv_byts W (some ⟨g, 0, none⟩) 4 4 (sumB dl) hg48 rfl
      refine opOk_runG (j := 15) (d := 42) (b := false) rfl (by kernel_rfl) dd42 rfl (.inl ⟨_, W, ?_, rfl, Ext.refl _, hS0⟩)
      clear hsz hS hS0 hfi hg48; simp [go_sem, Act.eval, *]
    case c23 => refine opOk_runG (j := 15) (d := 42) (b := false) rfl (by kernel_rfl) dd42 rfl (.inl ⟨_, W, ?_, rfl, Ext.refl _, hS0⟩); clear hsz hS hS0 hfi; simp [go_sem, Act.eval, *]
    all_goals (refine opOk_run rfl (.inl ⟨_, W, ?_, rfl, Ext.refl _, hS0⟩); clear hsz hS hS0 hfi; simp [go_sem, Act.eval, *]; done)
  case hlast =>
    intro h; exact absurd rfl h
  case hfin =>
    intro _ ac W hsz hdf fL hf hS0 hv hbase
    have hS : (fun W => Below w2.heap.size w2 W)  W := hS0
    clear hS0
    obtain ⟨sx, hsx, hsA⟩ := act_puts [27, 28, 29, 30, 31, 32, 33, 34, 35, 36, 37, 38, 39, 40, 41, 42, 43, 44, 45, 46, 47, 48, 49, 50, 51] (by kernel_rfl) hsz hdf hbase
    have e51 : sx 51 = .bool false := (hsx 51).trans (hv 24 (by decide))
    rw [hsA]
    simp only [List.foldl]
    rw [e51]
    clear e51
    simp only [Act.put, List.setIfInBounds_toArray, List.set_cons_succ, List.set_cons_zero]
    clear hsA hsx hv hbase hsz hdf hf
    have HSr := Lib.hid (HS.out.go hS)
    have HAr := Lib.hid (HA.out.go hS)
    have HBr := Lib.hid (HB.out.go hS)
    clear hS HS HA HB HDR HTK
    obtain ⟨w3, hw3⟩ : ∃ w3, W = w3 := ⟨_, rfl⟩
    subst hw3
    go_wp2_with fail
    refine (unpack_d HBr.out (by decide) (HT.out.go HSr.out.out)).mono ?_
    rintro e w4 ⟨hp, hb⟩
    rw [unpA] at hp
    obtain ⟨aD, cD, aC, cC, he, -, -, hdw, hown⟩ := hp
    have hlA : (ofF (restAt 0 LA)).length = 2 := by rw [ofA]; rfl
    rw [hlA] at he
    change e = .returned (.tuple #[.slice aD 2 cD, .slice aC 1 cC, .int .i64 0]) at he
    subst he
    have HDW := Lib.hid hdw; have HIN := Lib.hid hown.ints.1; have HLA := Lib.hid hlA
    replace HSr := Lib.hid (HSr.out.go hb); replace HAr := Lib.hid (HAr.out.go hb); replace HBr := Lib.hid (HBr.out.go hb)
    clear hb hdw hown hlA
    go_wp2_with fail
    refine (pack_no HAr.out HZA.out (CntS.nil w4) (by decide) cntN0 (HT.out.go HSr.out.out)).mono ?_
    rintro e w5 ⟨rfl, hb⟩
    replace HSr := Lib.hid (HSr.out.go hb); replace HAr := Lib.hid (HAr.out.go hb); replace HBr := Lib.hid (HBr.out.go hb); replace HDW := Lib.hid (HDW.out.go hb); replace HIN := Lib.hid (HIN.out.go hb)
    clear hb
    have HY := Lib.hid (below_new w5 (.cells #[] 53))
    replace HSr := Lib.hid (HSr.out.go HY.out); replace HAr := Lib.hid (HAr.out.go HY.out); replace HBr := Lib.hid (HBr.out.go HY.out); replace HDW := Lib.hid (HDW.out.go HY.out); replace HIN := Lib.hid (HIN.out.go HY.out)
    clear HY
    go_wp2_with fail
    refine (pack_any [] 0 0 _ [] 0 0 none _ (DawgS.nil _ _) rfl (by decide) (fun i hi => by simp at hi) (IntS.nil _ _) rfl (by omega) (HT.out.go HSr.out.out)).mono ?_
    rintro e w6 ⟨hr, hb⟩
    have he : e = .returned (.tuple #[.slice none 0 0, .int .i64 90]) := by
      rcases hr with ⟨h1, he⟩ | ⟨h1, h2, he⟩ | ⟨h1, h2, v3, he, ho⟩
      · exact he
      · rw [validN] at h1; cases h1
      · rw [validN] at h1; cases h1
    subst he
    replace HSr := Lib.hid (HSr.out.go hb); replace HAr := Lib.hid (HAr.out.go hb); replace HBr := Lib.hid (HBr.out.go hb); replace HDW := Lib.hid (HDW.out.go hb); replace HIN := Lib.hid (HIN.out.go hb)
    clear hb hr
    have HY := Lib.hid (below_new w6 (.cells #[.int .i64 (-1)] 3))
    replace HSr := Lib.hid (HSr.out.go HY.out); replace HAr := Lib.hid (HAr.out.go HY.out); replace HBr := Lib.hid (HBr.out.go HY.out); replace HDW := Lib.hid (HDW.out.go HY.out); replace HIN := Lib.hid (HIN.out.go HY.out)
    clear HY
    go_wp2_with fail
    refine (pack_no HAr.out HZA.out one_int (by decide) cntN1 (HT.out.go HSr.out.out)).mono ?_
    rintro e w7 ⟨rfl, hb⟩
    replace HSr := Lib.hid (HSr.out.go hb); replace HAr := Lib.hid (HAr.out.go hb); replace HBr := Lib.hid (HBr.out.go hb); replace HDW := Lib.hid (HDW.out.go hb); replace HIN := Lib.hid (HIN.out.go hb)
    clear hb
    go_wp2_with fail
    refine (unpack_any [] 0 none 0 w7 (BytS.nil _ _) rfl (by omega) (by omega) (HT.out.go HSr.out.out)).mono ?_
    rintro e w8 ⟨hp, hb⟩
    rw [unpN] at hp
    obtain rfl : e = .returned (.tuple #[.slice none 0 0, .slice none 0 0, .int .i64 100]) := hp
    replace HSr := Lib.hid (HSr.out.go hb); replace HAr := Lib.hid (HAr.out.go hb); replace HBr := Lib.hid (HBr.out.go hb); replace HDW := Lib.hid (HDW.out.go hb); replace HIN := Lib.hid (HIN.out.go hb)
    clear hb
    have hlow9 := slice_low_u8 (some ⟨b3, o3, none⟩) 10 c3 9 (by omega)
    simp only [Int.cast_ofNat_Int] at hlow9
    go_wp2_with fail
    refine (unpack_any ((dl ++ sumB dl).take 9) 9 (some ⟨b3, o3, none⟩) c3 w8 (HBr.out.byts.take 9) rfl (by omega) (by omega) (HT.out.go HSr.out.out)).mono ?_
    rintro e w9 ⟨hp, hb⟩
    rw [unp9] at hp
    obtain rfl : e = .returned (.tuple #[.slice none 0 0, .slice none 0 0, .int .i64 100]) := hp
    replace HSr := Lib.hid (HSr.out.go hb); replace HAr := Lib.hid (HAr.out.go hb); replace HDW := Lib.hid (HDW.out.go hb); replace HIN := Lib.hid (HIN.out.go hb)
    clear hb hlow9
    go_wp2_with fail
    refine (rsame_any _ _ aD a1 2 n1 cD c1 w9 HDW.out HAr.out.rows HLA.out.symm HAr.out.len (by omega) (by have := HAr.out.small; omega)).mono ?_
    rintro e w10 ⟨he, hb⟩
    rw [decide_eq_true rfl] at he
    subst he
    replace HSr := Lib.hid (HSr.out.go hb); replace HIN := Lib.hid (HIN.out.go hb)
    clear hb
    have HY := Lib.hid (below_new w10 (.cells #[.int .i64 5] 3))
    replace HSr := Lib.hid (HSr.out.go HY.out); replace HIN := Lib.hid (HIN.out.go HY.out)
    clear HY
    go_wp2_with fail
    refine (ints_any [5] [5] 1 1 aC _ cC 1 _ HIN.out one_int.ints rfl rfl (by omega) (by omega)).mono ?_
    rintro e w11 ⟨he, hb⟩
    rw [decide_eq_true rfl] at he
    subst he
    replace HSr := Lib.hid (HSr.out.go hb)
    clear hb
    go_wp2
    go_ret
    exact ⟨rfl, HSr.out.out⟩
end Go.Proofs.YtocdljmdmiphnaaDoor
/- Pack: the arguments of the laws, opened. -/
namespace Go.Proofs.YtocdljmdmiphnaaDoor
set_option linter.unusedVariables false
set_option linter.unusedSimpArgs false
open Go.ChangeShapes Go.WideShapes Go.ChangeAt Go.RowKit

structure UintA where
  a : Option Addr
  len : Nat
  cap : Nat
  Z : Nat → Int
def UintA.val (x : UintA) : Value := .slice x.a x.len x.cap
structure UintOk (w : World) (x : UintA) : Prop where
  by' : UintS w x.a x.len x.Z
  le : x.len ≤ 9223372036854775807
section
variable {H : Type} {enc : TypeId × Value → H} {w : World} {base : Nat} {spare : Nat → Bool} {held : Bool} {d : DataW H} {p : List MemPlace} {r : Reach} {b0 : Nat} {v : Value}

open Go.Deep in
theorem slice_uints {fuel : Nat} {cs : List Value} {x : DataW H × List MemPlace} (h : DataW.trod enc Tryd.prog w base spare held fuel 23 cs = some x) : ∃ a len cap Z, cs = [.slice a len cap] ∧ UintS w a len Z ∧ len ≤ 9223372036854775807 := by
  rcases open_slice1 Tryd.underlying23 (by kernel_rfl) h with ⟨h0, _⟩ | ⟨ad, l, c, m, n, V, D, Pl, h0, hba, hl, hcm, hmm, _, hel⟩
  · exact ⟨none, 0, 0, fun _ => 0, h0, fun k hk => absurd hk (Nat.not_lt_zero k), by omega⟩
  · have hlm : l ≤ m := by rw [hmm]; split <;> omega
    have hle : l ≤ 9223372036854775807 := by unfold maxLen at hcm; omega
    have key : ∀ i, i < l → ∃ z, w.cell? (ad.add i) = some (.int .u32 z) ∧ 0 ≤ z ∧ z ≤ 4294967295 := fun i hi => by
      obtain ⟨h1, h2⟩ := hel i (by omega)
      obtain ⟨z, hz, _, hw⟩ := DataW.trod_int Tryd.underlying32 h2
      have : V i = .int .u32 z := List.head_eq_of_cons_eq hz
      rw [this] at h1
      have hb : 0 ≤ z ∧ z ≤ 4294967295 := bounds_u32 hw
      exact ⟨z, h1, hb⟩
    by_cases h9 : l = 0
    · exact ⟨some ad, l, c, fun _ => 0, h0, fun k hk => absurd hk (by omega), hle⟩
    · obtain ⟨Z, hZ⟩ := choose_lt (α := Int) key
      obtain ⟨b, o, sp⟩ := ad
      have hs := World.cell?_spot (hZ 0 (by omega)).1
      obtain rfl : sp = none := by simpa [Addr.add] using hs
      refine ⟨some ⟨b, o, none⟩, l, c, Z, h0, fun i hi => ?_, hle⟩
      have hb := World.block_lt_of_cell? w _ (hZ 0 (by omega)).1
      rw [addr_block] at hb
      have hk := hZ i hi
      rw [addr_add] at hk
      exact ⟨b, o, rfl, hb, hk⟩
set_option maxRecDepth 100000 in
theorem open_uints (hv : Value.okWide Tryd.prog w r b0 23 v) (h : DataW.Trod enc Tryd.prog w base spare held 23 v d p) : ∃ x : UintA, v = x.val ∧ UintOk w x := by
  obtain ⟨a, len, cap, rfl⟩ := okWide_slice Tryd.underlying23 hv
  obtain ⟨f, hf⟩ := h
  have hf2 : DataW.trod enc Tryd.prog w base spare held f 23 [.slice a len cap] = some (d, p) := by simpa [Value.cells] using hf
  obtain ⟨a1, l1, c1, Z, h0, h1, h2⟩ := slice_uints hf2
  cases h0
  exact ⟨⟨a, len, cap, Z⟩, rfl, h1, h2⟩
end
end Go.Proofs.YtocdljmdmiphnaaDoor
