/- The contract of Some: it makes at most n tallies of rows of two numbers. -/
import Derived.Test.YtfhjgkacedgpgaaL9
import Derived.Deep.RegionHeld3
import Derived.Deep.AppendLies
namespace Go.Proofs.Ytfhjgkacedgpgaa
open Go.RowKit

/-- the cells of n rows of two numbers -/
def rows2 (E V : Nat → Int) : Nat → List Value
  | 0 => []
  | n + 1 => rows2 E V n ++ [.int .i64 (E n), .int .i64 (V n)]
theorem rows2_len (E V : Nat → Int) : ∀ n, (rows2 E V n).length = n * 2
  | 0 => rfl
  | n + 1 => by rw [rows2, List.length_append, rows2_len E V n]; simp; omega
theorem rows2_get (E V : Nat → Int) : ∀ n j, j < n → (rows2 E V n)[j * 2]? = some (.int .i64 (E j)) ∧ (rows2 E V n)[j * 2 + 1]? = some (.int .i64 (V j))
  | n + 1, j, h => by
    rw [rows2]
    by_cases hj : j = n
    · subst hj
      rw [List.getElem?_append_right (by rw [rows2_len]; omega), List.getElem?_append_right (by rw [rows2_len]; omega), rows2_len]
      rw [show j * 2 - j * 2 = 0 by omega, show j * 2 + 1 - j * 2 = 1 by omega]
      exact ⟨rfl, rfl⟩
    · rw [List.getElem?_append_left (by rw [rows2_len]; omega), List.getElem?_append_left (by rw [rows2_len]; omega)]
      exact rows2_get E V n j (by omega)
theorem ownsRow_base {w : World} {base e size : Nat} {g n cap : Nat} {xs : List Value} (h : w.ownsRow base e size (.slice (some ⟨g, 0, none⟩) n cap) n xs) : base ≤ g ∧ g < w.heap.size := by
  obtain ⟨g', cap', cur, hv, hb, hh, _⟩ := h.2.resolve_left (fun h => by cases h.1)
  cases hv
  exact ⟨hb, (Array.getElem?_eq_some_iff.1 hh).1⟩

def SomePost (m : Nat) (E V : Nat → Int) (w : World) (e : Ending) (w' : World) : Prop :=
  ∃ g cap, e = .returned (.slice (some ⟨g, 0, none⟩) m cap) ∧ w'.ownsRow w.heap.size 26 2 (.slice (some ⟨g, 0, none⟩) m cap) m (rows2 E V m) ∧ Below w.heap.size w w'

set_option maxHeartbeats 3200000 in
set_option maxRecDepth 100000 in
theorem some_any (len cap b o : Nat) (X Y : Nat → Int) (w : World) (hlen : len ≤ 9223372036854775807) (hX : ∀ i, i < len → w.cell? ⟨b, o + i * 2, none⟩ = some (.int .u16 (X i))) (hY : ∀ i, i < len → w.cell? ⟨b, o + i * 2 + 1, none⟩ = some (.int .u16 (Y i)))
    (hb : ∀ i, i < len → 0 ≤ X i ∧ X i ≤ 65535 ∧ 0 ≤ Y i ∧ Y i ≤ 65535) (hbw : b < w.heap.size) :
    Calls Try.prog 18 #[.slice (some ⟨b, o, none⟩) len cap, .int .i64 12] w (SomePost (min len 12) (fun i => X i % 21) Y w) := by
  obtain ⟨i26, hi, hz0, hz1, hz2⟩ := info_parts info26
  have HX := Lib.hid hX; have HY := Lib.hid hY; have HB := Lib.hid hb; clear hX hY hb
  go_enter Try.func18, Try.ntmps18
  go_wp2
  go_loopw [5, 6] (fun v i wr => ∃ k : Nat, k ≤ len ∧ k ≤ 12 ∧ i = .int .i64 k ∧ ∃ g c, v = .slice (some ⟨g, 0, none⟩) k c ∧ wr.ownsRow w.heap.size 26 2 (.slice (some ⟨g, 0, none⟩) k c) k (rows2 (fun i => X i % 21) Y k) ∧ Below w.heap.size w wr) (fun _ i _ => 12 - (intOf i).toNat)
  case atStart =>
    refine ⟨0, by omega, by omega, rfl, w.heap.size, 0, rfl, ?_, by go_grown⟩
    exact World.ownsRow_lit _ _ 0 (by simp) (by unfold maxLen; omega) rfl
  case round =>
    obtain ⟨k, hk, hk12, rfl, g, c, rfl, hown, hB⟩ := hrel
    obtain ⟨hgb, hgs⟩ := ownsRow_base hown
    have HO := Lib.hid hown; clear hown
    by_cases hlt : k < len ∧ k < 12
    · obtain ⟨h1, h2⟩ := hlt
      have c1 := (hB.cell (p := ⟨b, o + k * 2, none⟩) hbw).trans (HX.out k h1)
      have c2 := (hB.cell (p := ⟨b, o + k * 2 + 1, none⟩) hbw).trans (HY.out k h1)
      obtain ⟨x0, x1, y0, y1⟩ := HB.out k h1
      have hk0 : (0 : Int) ≤ (k : Int) := by omega
      have hk1 : (k : Int) < (len : Int) := by omega
      generalize hXk : X k = xk at c1 x0 x1
      generalize hYk : Y k = yk at c2 y0 y1
      have HXk := Lib.hid hXk; have HYk := Lib.hid hYk; clear hXk hYk
      go_wp2_with fail
      have m1 : k + 1 ≤ maxLen := by unfold maxLen; omega
      have m2 : (k + 1) * 16 ≤ 140737488355328 := by omega
      have m3 : b < wr.heap.size + 1 := by omega
      have m4 : b ≠ g := by omega
      have m5 := hB.size
      have m6 : w.heap.size ≤ wr.heap.size + 1 := by omega
      have wx : IntKind.i64.wrap xk = xk := IntWalk.i64_in _ (by omega)
      have wy : IntKind.i64.wrap yk = yk := IntWalk.i64_in _ (by omega)
      have tm : xk.tmod 21 = xk % 21 := Int.tmod_eq_emod_of_nonneg x0
      go_region_held3 (fun w' => w'.cell? ⟨b, o + k * 2, none⟩ = some (.int .u16 xk) ∧ w'.cell? ⟨b, o + k * 2 + 1, none⟩ = some (.int .u16 yk))
        (first
          | (simp [go_sem, *]; done)
          | go_keep
          | (go_split_ands
             refine ⟨?_, ?_⟩
             · (rw [hgrow.cell_far _ (by simp [m3]) (by simp [Value.ownBlock, m4])]; simp [go_sem, *])
             · (rw [hgrow.cell_far _ (by simp [m3]) (by simp [Value.ownBlock, m4])]; simp [go_sem, *])))
        ((refine step_append_lies _ (by rfl) _ _ _ (by rfl) w.heap.size 26 i26 _ 2 16 Try.underlying44 hi hz0 hz1 hz2 rfl (by omega) (.slice (some ⟨g, 0, none⟩) k c) k _ (by rfl) ((HO.out.alloc _).drew)
            ⟨wr.heap.size, 0, none⟩ 1 1 [.int .i64 (xk % 21), .int .i64 yk] (by rfl) (by rfl) (World.news_of_block (cs := #[.int .i64 (xk % 21), .int .i64 yk]) (t := 26) (fr := (0, 0)) (heap_alloc_new wr _)) (by simp [Value.oneCell'])
            (by decide) m1 m2 (by simp [m6]) (wr.heap.size + 1) (by simp) ?_; intro gg cc w1 hown1 hgrow hat hlt2))
      clear wx wy tm
      have hR : Hid (rows2 (fun i => X i % 21) Y (k + 1) = rows2 (fun i => X i % 21) Y k ++ [.int .i64 (xk % 21), .int .i64 yk]) := by show rows2 _ _ _ = _; rw [rows2, HXk.out, HYk.out]
      have hB1 : Below w.heap.size w w1 := ((hB.alloc m5 _).drew).grown hgrow (by simp; omega) (fun q hq => by simp [Value.ownBlock] at hq; omega)
      have HO1 := Lib.hid hown1; clear hown1 hgrow hat
      go_wp2
      go_roundw
      case rel => exact ⟨k + 1, by omega, by omega, by go_num, gg, cc, rfl, by rw [hR.out]; exact HO1.out, hB1⟩
      case measure => simp [intOf]; omega
    · have hm : min len 12 = k := by omega
      have HM := Lib.hid hm; clear hm
      by_cases h1 : k < len
      · have h2 : ¬ k < 12 := by omega
        clear hlt
        go_wp2
        go_ret
        exact ⟨g, c, by rw [HM.out]; rfl, by rw [HM.out]; exact HO.out, hB⟩
      · clear hlt
        go_wp2
        go_ret
        exact ⟨g, c, by rw [HM.out]; rfl, by rw [HM.out]; exact HO.out, hB⟩
/-- the same at an empty slice, wherever it lies -/
theorem some_none (a : Option Addr) (cap : Nat) (X Y : Nat → Int) (w : World) :
    Calls Try.prog 18 #[.slice a 0 cap, .int .i64 12] w (SomePost 0 (fun i => X i % 21) Y w) := by
  go_enter Try.func18, Try.ntmps18
  go_wp2
  refine wp_loop_rounds 1 ?_
  rw [rounds_succ]
  go_wp2
  go_ret
  exact ⟨w.heap.size, 0, rfl, World.ownsRow_lit _ _ 0 (by simp) (by unfold maxLen; omega) rfl, by go_grown⟩
end Go.Proofs.Ytfhjgkacedgpgaa
