/- Contracts of Add, Gone, and their references. -/
import Derived.Test.YtfhjgkacedgpgaaW1
namespace Go.Proofs.Ytfhjgkacedgpgaa
open Go.RowKit

def addP (ep k n : Int) : Int := if n < 0 ∨ 1073741824 < n then 0 else if k < ep ∨ 10000 < k then 0 else k
def addV (a ep k n : Int) : Int := if n < 0 ∨ 1073741824 < n then 0 else if k < ep ∨ 10000 < k then 0 else min (a + n) 1073741824
def addE (ep k n : Int) : Int := if n < 0 ∨ 1073741824 < n then 1 else if k < ep ∨ 10000 < k then 120 else 0

theorem afterF_lo (v k : Int) (h : 0 ≤ v) : 0 ≤ afterF v k := by
  unfold afterF; split
  · omega
  · exact half_lo _ _ h
theorem afterF_hi (v k : Int) (h : 0 ≤ v) : afterF v k ≤ v := by
  unfold afterF; split
  · omega
  · exact half_hi _ _ h
theorem atV_lo (ep v k : Int) (h : 0 ≤ v) : 0 ≤ atV ep v k := by
  unfold atV; split
  · omega
  · exact afterF_lo _ _ h
theorem atV_hi (ep v k : Int) (h : 0 ≤ v) : atV ep v k ≤ v := by
  unfold atV; split
  · omega
  · exact afterF_hi _ _ h
theorem ratV_lo (ep v k : Int) (h : 0 ≤ v) : 0 ≤ ratV ep v k := by
  unfold ratV; split
  · omega
  · exact half_lo _ _ h
theorem ratV_hi (ep v k : Int) (h : 0 ≤ v) : ratV ep v k ≤ v := by
  unfold ratV; split
  · omega
  · exact half_hi _ _ h

theorem ret_add {a b c a' b' c' : Int} (h1 : a = a') (h2 : b = b') (h3 : c = c') : Ending.returned (.tuple #[.agg #[.int .i64 a, .int .i64 b], .int .i64 c]) = .returned (.tuple #[.agg #[.int .i64 a', .int .i64 b'], .int .i64 c']) := by rw [h1, h2, h3]


set_option maxHeartbeats 800000 in
theorem add_any (ep v k n : Int) (w : World) (h1 : 0 ≤ ep) (h2 : ep ≤ 100000) (h3 : 0 ≤ v) (h4 : v ≤ 4611686018427387904) :
    Calls Try.prog 14 #[.agg #[.int .i64 ep, .int .i64 v], .int .i64 k, .int .i64 n] w fun e w' => e = .returned (.tuple #[.agg #[.int .i64 (addP ep k n), .int .i64 (addV (atV ep v k) ep k n)], .int .i64 (addE ep k n)]) ∧ Below w.heap.size w w' := by
  have hlo := atV_lo ep v k h3
  have hhi := atV_hi ep v k h3
  by_cases hn : n < 0
  · go_enter Try.func14, Try.ntmps14
    go_wp2
    refine bodyPost_ret (v := .tuple #[.agg #[.int .i64 0, .int .i64 0], .int .i64 1]) (by simp [results, Try.results14, go_sem]) rfl ⟨ret_add (by simp [addP, hn]) (by simp [addV, hn]) (by simp [addE, hn]), ?_⟩
    go_grown
  · by_cases hn' : 1073741824 < n
    · go_enter Try.func14, Try.ntmps14
      go_wp2
      refine bodyPost_ret (v := .tuple #[.agg #[.int .i64 0, .int .i64 0], .int .i64 1]) (by simp [results, Try.results14, go_sem]) rfl ⟨ret_add (by simp [addP, hn']) (by simp [addV, hn']) (by simp [addE, hn']), ?_⟩
      go_grown
    · by_cases h : k < ep ∨ 10000 < k
      · have he : atE ep v k = 120 := by simp [atE, h]
        have HE := Lib.hid he; clear he
        have hne : (atE ep v k != 0) = true := by rw [HE.out]; rfl
        have hv : addV (atV ep v k) ep k n = 0 := by rw [addV, if_neg (by omega), if_pos h]
        have hp : addP ep k n = 0 := by rw [addP, if_neg (by omega), if_pos h]
        have hE : addE ep k n = atE ep v k := by rw [addE, if_neg (by omega), if_pos h, HE.out]
        have HV := Lib.hid hv; have HP := Lib.hid hp; have HH := Lib.hid hE; have H0 := Lib.hid h; clear hv hp hE h
        go_enter Try.func14, Try.ntmps14
        go_wp2_with (go_at_call 12; refine (at_any _ _ _ _ h1 h2).mono ?_; rintro e w1 ⟨rfl, hb⟩; obtain ⟨hz, hc, hf⟩ := bcell hb (by simp only [World.size_alloc]; rfl))
        refine bodyPost_ret (v := .tuple #[.agg #[.int .i64 0, .int .i64 0], .int .i64 (atE ep v k)]) (by simp [results, Try.results14, go_sem, hc]) rfl ⟨ret_add HP.out.symm HV.out.symm HH.out.symm, ?_⟩
        exact (((((Below.refl _ _).alloc (Nat.le_refl _) _).alloc (by simp) _).trans (hb.mono (by simp; omega))).setCell (by simp) _).setCell (by simp) _
      · have he : atE ep v k = 0 := by simp [atE, h]
        have HE := Lib.hid he; clear he
        have hne : (atE ep v k != 0) = false := by rw [HE.out]; rfl
        have hv : addV (atV ep v k) ep k n = min (atV ep v k + n) 1073741824 := by rw [addV, if_neg (by omega), if_neg h]
        have hp : addP ep k n = k := by rw [addP, if_neg (by omega), if_neg h]
        have hE : addE ep k n = 0 := by rw [addE, if_neg (by omega), if_neg h]
        have HV := Lib.hid hv; have HP := Lib.hid hp; have HH := Lib.hid hE; have H0 := Lib.hid h; clear hv hp hE h
        by_cases hm : 1073741824 < atV ep v k + n
        · go_enter Try.func14, Try.ntmps14
          go_wp2_with (go_at_call 12; refine (at_any _ _ _ _ h1 h2).mono ?_; rintro e w1 ⟨rfl, hb⟩; obtain ⟨hz, hc, hf⟩ := bcell hb (by simp only [World.size_alloc]; rfl))
          refine bodyPost_ret (v := .tuple #[.agg #[.int .i64 k, .int .i64 1073741824], .int .i64 0]) (by simp [results, Try.results14, go_sem, hc]) rfl ⟨ret_add HP.out.symm (by rw [HV.out]; omega) HH.out.symm, ?_⟩
          exact (((((Below.refl _ _).alloc (Nat.le_refl _) _).alloc (by simp) _).trans (hb.mono (by simp; omega))).setCell (by simp) _).setCell (by simp) _
        · go_enter Try.func14, Try.ntmps14
          go_wp2_with (go_at_call 12; refine (at_any _ _ _ _ h1 h2).mono ?_; rintro e w1 ⟨rfl, hb⟩; obtain ⟨hz, hc, hf⟩ := bcell hb (by simp only [World.size_alloc]; rfl))
          refine bodyPost_ret (v := .tuple #[.agg #[.int .i64 k, .int .i64 (atV ep v k + n)], .int .i64 0]) (by simp [results, Try.results14, go_sem, hc]) rfl ⟨ret_add HP.out.symm (by rw [HV.out]; omega) HH.out.symm, ?_⟩
          exact (((((Below.refl _ _).alloc (Nat.le_refl _) _).alloc (by simp) _).trans (hb.mono (by simp; omega))).setCell (by simp) _).setCell (by simp) _

set_option maxHeartbeats 800000 in
theorem radd_any (ep v k n : Int) (w : World) (h1 : 0 ≤ ep) (h2 : ep ≤ 100000) (h3 : 0 ≤ v) (h4 : v ≤ 4611686018427387904) :
    Calls Try.prog 15 #[.agg #[.int .i64 ep, .int .i64 v], .int .i64 k, .int .i64 n] w fun e w' => e = .returned (.tuple #[.agg #[.int .i64 (addP ep k n), .int .i64 (addV (ratV ep v k) ep k n)], .int .i64 (addE ep k n)]) ∧ Below w.heap.size w w' := by
  have hlo := ratV_lo ep v k h3
  have hhi := ratV_hi ep v k h3
  by_cases hn : n < 0
  · go_enter Try.func15, Try.ntmps15
    go_wp2
    refine bodyPost_ret (v := .tuple #[.agg #[.int .i64 0, .int .i64 0], .int .i64 1]) (by simp [results, Try.results15, go_sem]) rfl ⟨ret_add (by simp [addP, hn]) (by simp [addV, hn]) (by simp [addE, hn]), ?_⟩
    go_grown
  · by_cases hn' : 1073741824 < n
    · go_enter Try.func15, Try.ntmps15
      go_wp2
      refine bodyPost_ret (v := .tuple #[.agg #[.int .i64 0, .int .i64 0], .int .i64 1]) (by simp [results, Try.results15, go_sem]) rfl ⟨ret_add (by simp [addP, hn']) (by simp [addV, hn']) (by simp [addE, hn']), ?_⟩
      go_grown
    · by_cases h : k < ep ∨ 10000 < k
      · have he : atE ep v k = 120 := by simp [atE, h]
        have HE := Lib.hid he; clear he
        have hne : (atE ep v k != 0) = true := by rw [HE.out]; rfl
        have hv : addV (ratV ep v k) ep k n = 0 := by rw [addV, if_neg (by omega), if_pos h]
        have hp : addP ep k n = 0 := by rw [addP, if_neg (by omega), if_pos h]
        have hE : addE ep k n = atE ep v k := by rw [addE, if_neg (by omega), if_pos h, HE.out]
        have HV := Lib.hid hv; have HP := Lib.hid hp; have HH := Lib.hid hE; have H0 := Lib.hid h; clear hv hp hE h
        go_enter Try.func15, Try.ntmps15
        go_wp2_with (go_at_call 13; refine (rat_any _ _ _ _ h1 h2 h3 h4).mono ?_; rintro e w1 ⟨rfl, hb⟩; obtain ⟨hz, hc, hf⟩ := bcell hb (by simp only [World.size_alloc]; rfl))
        refine bodyPost_ret (v := .tuple #[.agg #[.int .i64 0, .int .i64 0], .int .i64 (atE ep v k)]) (by simp [results, Try.results15, go_sem, hc]) rfl ⟨ret_add HP.out.symm HV.out.symm HH.out.symm, ?_⟩
        exact (((((Below.refl _ _).alloc (Nat.le_refl _) _).alloc (by simp) _).trans (hb.mono (by simp; omega))).setCell (by simp) _).setCell (by simp) _
      · have he : atE ep v k = 0 := by simp [atE, h]
        have HE := Lib.hid he; clear he
        have hne : (atE ep v k != 0) = false := by rw [HE.out]; rfl
        have hv : addV (ratV ep v k) ep k n = min (ratV ep v k + n) 1073741824 := by rw [addV, if_neg (by omega), if_neg h]
        have hp : addP ep k n = k := by rw [addP, if_neg (by omega), if_neg h]
        have hE : addE ep k n = 0 := by rw [addE, if_neg (by omega), if_neg h]
        have HV := Lib.hid hv; have HP := Lib.hid hp; have HH := Lib.hid hE; have H0 := Lib.hid h; clear hv hp hE h
        by_cases hm : 1073741824 < ratV ep v k + n
        · go_enter Try.func15, Try.ntmps15
          go_wp2_with (go_at_call 13; refine (rat_any _ _ _ _ h1 h2 h3 h4).mono ?_; rintro e w1 ⟨rfl, hb⟩; obtain ⟨hz, hc, hf⟩ := bcell hb (by simp only [World.size_alloc]; rfl))
          refine bodyPost_ret (v := .tuple #[.agg #[.int .i64 k, .int .i64 1073741824], .int .i64 0]) (by simp [results, Try.results15, go_sem, hc]) rfl ⟨ret_add HP.out.symm (by rw [HV.out]; omega) HH.out.symm, ?_⟩
          exact (((((Below.refl _ _).alloc (Nat.le_refl _) _).alloc (by simp) _).trans (hb.mono (by simp; omega))).setCell (by simp) _).setCell (by simp) _
        · go_enter Try.func15, Try.ntmps15
          go_wp2_with (go_at_call 13; refine (rat_any _ _ _ _ h1 h2 h3 h4).mono ?_; rintro e w1 ⟨rfl, hb⟩; obtain ⟨hz, hc, hf⟩ := bcell hb (by simp only [World.size_alloc]; rfl))
          refine bodyPost_ret (v := .tuple #[.agg #[.int .i64 k, .int .i64 (ratV ep v k + n)], .int .i64 0]) (by simp [results, Try.results15, go_sem, hc]) rfl ⟨ret_add HP.out.symm (by rw [HV.out]; omega) HH.out.symm, ?_⟩
          exact (((((Below.refl _ _).alloc (Nat.le_refl _) _).alloc (by simp) _).trans (hb.mono (by simp; omega))).setCell (by simp) _).setCell (by simp) _
end Go.Proofs.Ytfhjgkacedgpgaa
