/- The law DecaySums: the walk, for every slice of rows that came in. -/
import Derived.Test.YtfhjgkacedgpgaaL7
import Derived.Test.YtfhjgkacedgpgaaOpen
namespace Go.Proofs.Ytfhjgkacedgpgaa
open Go.RowKit

theorem sums_walk (a : Option Addr) (len cap : Nat) (Z : Nat → Nat → Int) (x y : Int) (w : World) (hv : IsRows .u16 2 w a len Z)
    (hx0 : 0 ≤ x) (hx1 : x ≤ 255) (hy0 : 0 ≤ y) (hy1 : y ≤ 255) :
    Calls Try.prog 7 #[.slice a len cap, .agg #[.int .u8 x, .int .u8 y]] w fun e w' => e = .returned (.bool true) ∧ Below w.heap.size w w' := by
  rcases hv with rfl | ⟨b, o, rfl, hl, hb, hc⟩
  · exact sums_core a 0 cap 0 (fun i => Z i 0 % 21) (fun i => Z i 1) x y w (by omega) (fun i hi => by omega) (fun W _ => some_none a cap (fun i => Z i 0) (fun i => Z i 1) W) hx0 hx1 hy0 hy1
  · have hbd : ∀ i, i < len → 0 ≤ Z i 0 ∧ Z i 0 ≤ 65535 ∧ 0 ≤ Z i 1 ∧ Z i 1 ≤ 65535 := fun i hi => by
      have h0 := bounds_u16 (hc i hi 0 (by omega)).2
      have h1 := bounds_u16 (hc i hi 1 (by omega)).2
      omega
    refine sums_core _ len cap (min len 12) (fun i => Z i 0 % 21) (fun i => Z i 1) x y w (by omega) (fun i hi => ?_) (fun W hW => ?_) hx0 hx1 hy0 hy1
    · have := hbd i (by omega)
      show 0 ≤ Z i 0 % 21 ∧ Z i 0 % 21 ≤ 20 ∧ 0 ≤ Z i 1 ∧ Z i 1 ≤ 65535
      omega
    · exact some_any len cap b o (fun i => Z i 0) (fun i => Z i 1) W hl (fun i hi => (hW.cell (p := ⟨b, o + i * 2, none⟩) hb).trans (hc i hi 0 (by omega)).1) (fun i hi => (hW.cell (p := ⟨b, o + i * 2 + 1, none⟩) hb).trans (hc i hi 1 (by omega)).1) hbd (by have := hW.size; omega)
end Go.Proofs.Ytfhjgkacedgpgaa
