/- Contract of reference 02: Made1. -/
import Derived.Test.YtogjcfcfgnbmkaaBase
import Derived.Test.YtogjcfcfgnbmkaaWalk
import Derived.Laws.Concat
namespace Go.Proofs.Ytogjcfcfgnbmkaa
open Go.RowKit
set_option linter.unusedVariables false
set_option linter.unusedSimpArgs false

theorem cells5 {w : World} {g : Nat} {a b c d e : Value} {t : TypeId} {f : Nat × Nat} (h : w.heap[g]? = some (.cells #[a, b, c, d, e] t f)) : w.cell? ⟨g, 0, none⟩ = some a ∧ w.cell? ⟨g, 1, none⟩ = some b ∧ w.cell? ⟨g, 2, none⟩ = some c ∧ w.cell? ⟨g, 3, none⟩ = some d ∧ w.cell? ⟨g, 4, none⟩ = some e :=
  ⟨cell_of_row w g 0 _ _ f h, cell_of_row w g 1 _ _ f h, cell_of_row w g 2 _ _ f h, cell_of_row w g 3 _ _ f h, cell_of_row w g 4 _ _ f h⟩
theorem set5 {w : World} {g : Nat} {x0 x1 x2 x3 x4 a b c d e : Value} {t : TypeId} {f : Nat × Nat} (h : w.heap[g]? = some (.cells #[x0, x1, x2, x3, x4] t f)) :
    (((((w.setCell ⟨g, 0, none⟩ a).setCell ⟨g, 1, none⟩ b).setCell ⟨g, 2, none⟩ c).setCell ⟨g, 3, none⟩ d).setCell ⟨g, 4, none⟩ e).heap[g]? = some (.cells #[a, b, c, d, e] t f) :=
  set_one (set_one (set_one (set_one (set_one h rfl) rfl) rfl) rfl) rfl
theorem below5 {w w' : World} {B g : Nat} {a b c d e : Value} (h : Below B w w') (hg : B ≤ g) : Below B w (((((w'.setCell ⟨g, 0, none⟩ a).setCell ⟨g, 1, none⟩ b).setCell ⟨g, 2, none⟩ c).setCell ⟨g, 3, none⟩ d).setCell ⟨g, 4, none⟩ e) :=
  ((((h.setCell hg _).setCell hg _).setCell hg _).setCell hg _).setCell hg _

set_option maxHeartbeats 12800000 in
theorem made1_any (f d c m : Int) (ai ao : Option Addr) (li ci lo co : Nat) (ZI ZO : Nat → Int) (w : World) (hf0 : 0 ≤ f) (hf1 : f ≤ 255) (hd0 : 0 ≤ d) (hd1 : d ≤ 255) (hc0 : 0 ≤ c) (hc1 : c ≤ 255) (hm0 : 1 ≤ m) (hm1 : m ≤ 2) (hI : IsBytes w ai li ZI) (hO : IsBytes w ao lo ZO) :
    Calls Try.prog 34 #[.agg #[.slice ai li ci, .slice ao lo co, .int .u8 f, .int .u8 d, .int .u8 c], .int .i64 m] w fun e w' => ∃ r : Rl, e = .returned (.agg #[.int .i64 r.frm, .int .i64 r.dst, .string r.inp, .string r.out, .int .i64 r.cost]) ∧ r.inp.size ≤ 2 ∧ r.out.size ≤ 2 ∧ Below w.heap.size w w' := by
  have HI := Lib.hid hI; have HO := Lib.hid hO; clear hI hO
  have hmz : m ≠ 0 := by omega
  go_enter Try.func34, Try.ntmps34
  go_upto_region 2 with fail
  have hmb : (m == 0) = false := by simp; omega
  go_region
  go_upto_block 0 with fail
  have HB0 : Hid (Below (w.heap.size + 2) ((w.alloc (.cells #[.slice ai li ci, .slice ao lo co, .int .u8 f, .int .u8 d, .int .u8 c] 71)).alloc (.cells #[.int .i64 0, .int .i64 0, .string ⟨#[]⟩, .string ⟨#[]⟩, .int .i64 0] 29)) ((((w.alloc (.cells #[.slice ai li ci, .slice ao lo co, .int .u8 f, .int .u8 d, .int .u8 c] 71)).alloc (.cells #[.int .i64 0, .int .i64 0, .string ⟨#[]⟩, .string ⟨#[]⟩, .int .i64 0] 29)).alloc (.cells #[.int .i64 (f % m), .int .i64 (d % m), .string ⟨#[]⟩, .string ⟨#[]⟩, .int .i64 (c * 2)] 29))).drew) := (((Below.refl _ _).alloc (by simp) _).trans (below_drewN _ 1))
  have HR0 : Hid (((((w.alloc (.cells #[.slice ai li ci, .slice ao lo co, .int .u8 f, .int .u8 d, .int .u8 c] 71)).alloc (.cells #[.int .i64 0, .int .i64 0, .string ⟨#[]⟩, .string ⟨#[]⟩, .int .i64 0] 29)).alloc (.cells #[.int .i64 (f % m), .int .i64 (d % m), .string ⟨#[]⟩, .string ⟨#[]⟩, .int .i64 (c * 2)] 29))).drew.heap[w.heap.size + 1 + 1]? = some (.cells #[.int .i64 (f % m), .int .i64 (d % m), .string ⟨#[]⟩, .string ⟨#[]⟩, .int .i64 (c * 2)] 29 (0, 0))) := by
    have := heap_alloc_new ((w.alloc (.cells #[.slice ai li ci, .slice ao lo co, .int .u8 f, .int .u8 d, .int .u8 c] 71)).alloc (.cells #[.int .i64 0, .int .i64 0, .string ⟨#[]⟩, .string ⟨#[]⟩, .int .i64 0] 29)) (.cells #[.int .i64 (f % m), .int .i64 (d % m), .string ⟨#[]⟩, .string ⟨#[]⟩, .int .i64 (c * 2)] 29)
    simp only [World.size_alloc] at this
    exact this
  go_cut [] (fun wx => ∃ wz : World, wz = wx ∧ ∃ s : ByteArray, s.size ≤ 2 ∧ wz.heap[w.heap.size + 1 + 1]? = some (.cells #[.int .i64 (f % m), .int .i64 (d % m), .string s, .string ⟨#[]⟩, .int .i64 (c * 2)] 29 (0, 0)) ∧ Below (w.heap.size + 2) ((w.alloc (.cells #[.slice ai li ci, .slice ao lo co, .int .u8 f, .int .u8 d, .int .u8 c] 71)).alloc (.cells #[.int .i64 0, .int .i64 0, .string ⟨#[]⟩, .string ⟨#[]⟩, .int .i64 0] 29)) wz)
  case first =>
    go_wp2_with fail
    go_loopw [6] (fun i wr => ∃ (j : Nat) (s : ByteArray), j ≤ 2 ∧ i = .int .i64 j ∧ s.size = j ∧ wr.heap[w.heap.size + 1 + 1]? = some (.cells #[.int .i64 (f % m), .int .i64 (d % m), .string s, .string ⟨#[]⟩, .int .i64 (c * 2)] 29 (0, 0)) ∧ Below (w.heap.size + 2) ((w.alloc (.cells #[.slice ai li ci, .slice ao lo co, .int .u8 f, .int .u8 d, .int .u8 c] 71)).alloc (.cells #[.int .i64 0, .int .i64 0, .string ⟨#[]⟩, .string ⟨#[]⟩, .int .i64 0] 29)) wr) (fun i _ => 2 - (intOf i).toNat)
    case atStart => exact ⟨0, ⟨#[]⟩, by omega, rfl, rfl, HR0.out, HB0.out⟩
    case round =>
      obtain ⟨j, s, hj, rfl, hs, hrep, hal⟩ := hrel
      have HREP := Lib.hid hrep; have HAL := Lib.hid hal; have HS := Lib.hid hs
      have hB : Below w.heap.size w wr := (((Below.refl _ _).alloc (Nat.le_refl _) _).alloc (by simp) _).trans (hal.mono (by omega))
      have HB := Lib.hid hB
      obtain ⟨hz, hc, hf⟩ := bcellB hal rfl
      simp only [World.size_alloc] at hz
      have r0 := cell_of_row wr _ 0 _ _ (0, 0) hrep
      have r1 := cell_of_row wr _ 1 _ _ (0, 0) hrep
      have r2 := cell_of_row wr _ 2 _ _ (0, 0) hrep
      have r3 := cell_of_row wr _ 3 _ _ (0, 0) hrep
      have r4 := cell_of_row wr _ 4 _ _ (0, 0) hrep
      have rf : ∀ i, wr.frozen? ⟨w.heap.size + 1 + 1, i, none⟩ = false := fun i => by simp [World.frozen?, hrep]
      clear hrep hal hB hs
      by_cases hjl : j < li
      · by_cases hj2 : j < 2
        · have hj2I : (j : Int) < 2 := by omega
          obtain ⟨bz, oz, hza, hzb, hzc, hz0', hz1'⟩ := (HI.out.later HB.out (Nat.le_refl _)).at hjl
          have hidz := idx_bytes ai bz oz li ci j hza hjl
          have HZA := Lib.hid hza; clear hza
          have hx0 : (⟨#[97, 98, 99]⟩ : ByteArray).extract 0 1 = ⟨#[97]⟩ := by decide
          have hx1 : (⟨#[97, 98, 99]⟩ : ByteArray).extract 1 2 = ⟨#[98]⟩ := by decide
          have hx2 : (⟨#[97, 98, 99]⟩ : ByteArray).extract 2 3 = ⟨#[99]⟩ := by decide
          have hcat : ∀ (y : UInt8) (W : World), (Op.stringOp .add s ⟨#[y]⟩).run Try.prog W = .ok (.string (s ++ ⟨#[y]⟩)) W := fun y W => run_string_add_sum W s ⟨#[y]⟩ (by have := HS.out; rw [this]; show j + 1 ≤ _; omega)
          rcases (show ZI j % 3 = 0 ∨ ZI j % 3 = 1 ∨ ZI j % 3 = 2 by omega) with h3 | h3 | h3
          all_goals
            go_upto_region 5 with fail
            go_region
            go_wp2_with fail
            go_roundw
            case rel => exact ⟨j + 1, _, by omega, by go_num, by rw [ByteArray.size_append, HS.out]; rfl, set_one HREP.out rfl, (HAL.out.setCell (by show _ ≤ w.heap.size + 1 + 1; omega) _).trans (below_drewN _ 1)⟩
            case measure => simp [intOf]; omega
        · obtain rfl : j = 2 := by omega
          go_wp2_with fail
          go_meet
          exact ⟨_, rfl, s, by have := HS.out; omega, HREP.out, HAL.out⟩
      · have hjI : ¬ (j : Int) < (li : Int) := by omega
        go_wp2_with fail
        go_meet
        exact ⟨_, rfl, s, by have := HS.out; omega, HREP.out, HAL.out⟩
  case rest =>
    obtain ⟨wc, rfl, s1, hs1, hrep1, hb1⟩ := hcut
    have HR1 := Lib.hid hrep1; have HB1 := Lib.hid hb1; have HS1 := Lib.hid hs1
    clear hrep1 hb1 hs1
    have HZ0 : Hid (((w.alloc (.cells #[.slice ai li ci, .slice ao lo co, .int .u8 f, .int .u8 d, .int .u8 c] 71)).alloc (.cells #[.int .i64 0, .int .i64 0, .string ⟨#[]⟩, .string ⟨#[]⟩, .int .i64 0] 29)).heap[w.heap.size + 1]? = some (.cells #[.int .i64 0, .int .i64 0, .string ⟨#[]⟩, .string ⟨#[]⟩, .int .i64 0] 29 (0, 0))) := by
      have := heap_alloc_new (w.alloc (.cells #[.slice ai li ci, .slice ao lo co, .int .u8 f, .int .u8 d, .int .u8 c] 71)) (.cells #[.int .i64 0, .int .i64 0, .string ⟨#[]⟩, .string ⟨#[]⟩, .int .i64 0] 29)
      simp only [World.size_alloc] at this
      exact this
    go_wp2_with fail
    go_loopw [7] (fun i wr => ∃ (j : Nat) (s : ByteArray), j ≤ 2 ∧ i = .int .i64 j ∧ s.size = j ∧ wr.heap[w.heap.size + 1 + 1]? = some (.cells #[.int .i64 (f % m), .int .i64 (d % m), .string s1, .string s, .int .i64 (c * 2)] 29 (0, 0)) ∧ Below (w.heap.size + 2) ((w.alloc (.cells #[.slice ai li ci, .slice ao lo co, .int .u8 f, .int .u8 d, .int .u8 c] 71)).alloc (.cells #[.int .i64 0, .int .i64 0, .string ⟨#[]⟩, .string ⟨#[]⟩, .int .i64 0] 29)) wr) (fun i _ => 2 - (intOf i).toNat)
    case atStart => exact ⟨0, ⟨#[]⟩, by omega, rfl, rfl, HR1.out, HB1.out⟩
    case round =>
      obtain ⟨j, s, hj, rfl, hs, hrep, hal⟩ := hrel
      have HREP := Lib.hid hrep; have HAL := Lib.hid hal; have HS := Lib.hid hs
      have hB : Below w.heap.size w wr := (((Below.refl _ _).alloc (Nat.le_refl _) _).alloc (by simp) _).trans (hal.mono (by omega))
      have HB := Lib.hid hB
      obtain ⟨hz, hc, hf⟩ := bcellB hal rfl
      simp only [World.size_alloc] at hz
      have r0 := cell_of_row wr _ 0 _ _ (0, 0) hrep
      have r1 := cell_of_row wr _ 1 _ _ (0, 0) hrep
      have r2 := cell_of_row wr _ 2 _ _ (0, 0) hrep
      have r3 := cell_of_row wr _ 3 _ _ (0, 0) hrep
      have r4 := cell_of_row wr _ 4 _ _ (0, 0) hrep
      have rf : ∀ i, wr.frozen? ⟨w.heap.size + 1 + 1, i, none⟩ = false := fun i => by simp [World.frozen?, hrep]
      have HZ1 := Lib.hid ((hal.block (w.heap.size + 1) (by omega)).trans HZ0.out)
      obtain ⟨y0, y1, y2, y3, y4⟩ := cells5 HZ1.out
      have yf : ∀ i, wr.frozen? ⟨w.heap.size + 1, i, none⟩ = false := fun i => by simp [World.frozen?, HZ1.out]
      clear hrep hal hB hs
      by_cases hjl : j < lo
      · by_cases hj2 : j < 2
        · have hj2I : (j : Int) < 2 := by omega
          obtain ⟨bz, oz, hza, hzb, hzc, hz0', hz1'⟩ := (HO.out.later HB.out (Nat.le_refl _)).at hjl
          have hidz := idx_bytes ao bz oz lo co j hza hjl
          have HZA := Lib.hid hza; clear hza
          have hx0 : (⟨#[97, 98, 99, 65, 66, 49]⟩ : ByteArray).extract 0 1 = ⟨#[97]⟩ := by decide
          have hx1 : (⟨#[97, 98, 99, 65, 66, 49]⟩ : ByteArray).extract 1 2 = ⟨#[98]⟩ := by decide
          have hx2 : (⟨#[97, 98, 99, 65, 66, 49]⟩ : ByteArray).extract 2 3 = ⟨#[99]⟩ := by decide
          have hx3 : (⟨#[97, 98, 99, 65, 66, 49]⟩ : ByteArray).extract 3 4 = ⟨#[65]⟩ := by decide
          have hx4 : (⟨#[97, 98, 99, 65, 66, 49]⟩ : ByteArray).extract 4 5 = ⟨#[66]⟩ := by decide
          have hx5 : (⟨#[97, 98, 99, 65, 66, 49]⟩ : ByteArray).extract 5 6 = ⟨#[49]⟩ := by decide
          have hcat : ∀ (y : UInt8) (W : World), (Op.stringOp .add s ⟨#[y]⟩).run Try.prog W = .ok (.string (s ++ ⟨#[y]⟩)) W := fun y W => run_string_add_sum W s ⟨#[y]⟩ (by have := HS.out; rw [this]; show j + 1 ≤ _; omega)
          rcases (show ZO j % 6 = 0 ∨ ZO j % 6 = 1 ∨ ZO j % 6 = 2 ∨ ZO j % 6 = 3 ∨ ZO j % 6 = 4 ∨ ZO j % 6 = 5 by omega) with h3 | h3 | h3 | h3 | h3 | h3
          all_goals
            go_upto_region 9 with fail
            go_region
            go_wp2_with fail
            go_roundw
            case rel => exact ⟨j + 1, _, by omega, by go_num, by rw [ByteArray.size_append, HS.out]; rfl, set_one HREP.out rfl, (HAL.out.setCell (by show _ ≤ w.heap.size + 1 + 1; omega) _).trans (below_drewN _ 1)⟩
            case measure => simp [intOf]; omega
        · obtain rfl : j = 2 := by omega
          go_wp2_with fail
          obtain ⟨c0, c1, c2, c3, c4⟩ := cells5 (set5 (a := .int .i64 (f % m)) (b := .int .i64 (d % m)) (c := .string s1) (d := .string s) (e := .int .i64 (c * 2)) HZ1.out)
          refine bodyPost_ret (v := .agg #[.int .i64 (f % m), .int .i64 (d % m), .string s1, .string s, .int .i64 (c * 2)]) (by simp [results, Try.results34, go_sem, c0, c1, c2, c3, c4]) rfl ⟨⟨f % m, d % m, s1, s, c * 2⟩, rfl, HS1.out, by have := HS.out; show s.size ≤ 2; omega, below5 HB.out (by omega)⟩
      · have hjI : ¬ (j : Int) < (lo : Int) := by omega
        go_wp2_with fail
        obtain ⟨c0, c1, c2, c3, c4⟩ := cells5 (set5 (a := .int .i64 (f % m)) (b := .int .i64 (d % m)) (c := .string s1) (d := .string s) (e := .int .i64 (c * 2)) HZ1.out)
        refine bodyPost_ret (v := .agg #[.int .i64 (f % m), .int .i64 (d % m), .string s1, .string s, .int .i64 (c * 2)]) (by simp [results, Try.results34, go_sem, c0, c1, c2, c3, c4]) rfl ⟨⟨f % m, d % m, s1, s, c * 2⟩, rfl, HS1.out, by have := HS.out; show s.size ≤ 2; omega, below5 HB.out (by omega)⟩
end Go.Proofs.Ytogjcfcfgnbmkaa
