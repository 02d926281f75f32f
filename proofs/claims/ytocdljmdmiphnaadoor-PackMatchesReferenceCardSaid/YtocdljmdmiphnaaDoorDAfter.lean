
/- Reference 09: After, Without, Insert, Word, Made. -/
import Derived.Test.YtocdljmdmiphnaaDoorDRow
import Derived.Test.YtocdljmdmiphnaaDoorDDict
namespace Go.Proofs.YtocdljmdmiphnaaDoor
open Go.RowKit Go.WideShapes
set_option linter.unusedVariables false
set_option linter.unusedSimpArgs false

def tailB (s : ByteArray) : ByteArray := s.extract 1 s.size
def headB (s : ByteArray) (c : Int) : Bool := decide (0 < s.size) && decide (((s.data.toList.headD 0).toNat : Int) = c)
/-- what follows c -/
def afterF (L : List ByteArray) (c : Int) : List ByteArray := (L.filter fun s => headB s c).map tailB
theorem afterF_succ {L : List ByteArray} {c : Int} {k : Nat} (hk : k < L.length) : afterF (L.take (k + 1)) c = afterF (L.take k) c ++ if headB L[k] c = true then [tailB L[k]] else [] := by
  rw [afterF, List.take_succ_eq_append_getElem hk, List.filter_append, List.map_append, afterF]
  congr 1
  by_cases h : headB L[k] c = true <;> simp [h]
theorem afterF_len (L : List ByteArray) (c : Int) : (afterF L c).length ≤ L.length := by
  rw [afterF, List.length_map]; exact List.length_filter_le _ _
theorem headD_at (s : ByteArray) (h : 0 < s.size) : s.data.toList.headD 0 = s[0] := by
  have h2 : 0 < s.data.toList.length := by simpa using h
  have e : s.data.toList = s.data.toList[0] :: s.data.toList.drop 1 := by
    have := List.drop_eq_getElem_cons h2
    simpa using this
  rw [e]; rfl
set_option maxHeartbeats 1600000 in
set_option maxRecDepth 100000 in
theorem after_any (L : List ByteArray) (n : Nat) (a : Option Addr) (cap : Nat) (c : Int) (w : World) (hR : StrS w a L) (hL : n = L.length) (hn : n ≤ 100000) :
    Calls Tryd.prog 51 #[.slice a n cap, .int .u8 c] w fun e w' => ∃ v, e = .returned v ∧ OwnG rowStr w' w.heap.size v (afterF L c) ∧ Below w.heap.size w w' := by
  subst hL
  have HR := Lib.hid hR; clear hR
  go_enter Tryd.func51, Tryd.ntmps51
  go_wp2
  go_loopw [6, 5] (fun i v wr => ∃ k : Nat, k ≤ L.length ∧ i = .int .i64 (k : Int) ∧ OwnG rowStr wr w.heap.size v (afterF (L.take k) c) ∧ Below w.heap.size w wr) (fun i _ _ => L.length - (intOf i).toNat)
  case atStart => exact ⟨0, Nat.zero_le _, rfl, OwnG.empty rowStr (heap_alloc_new _ _) (Nat.le_refl _), (Below.refl _ _).alloc (Nat.le_refl _) _⟩
  case round =>
    obtain ⟨k, hk, rfl, hown, hB⟩ := hrel
    have HO := Lib.hid hown; have HB := Lib.hid hB
    have hzB := hB.size
    clear hown hB
    by_cases hlt : k < L.length
    · obtain ⟨b, o, ha, hb, h0⟩ := (HR.out.later HB.out (Nat.le_refl _)).at hlt
      have hidx := idx_strs a b o L.length cap k ha hlt
      have HSU := Lib.hid (afterF_succ (c := c) hlt)
      obtain ⟨x, hx⟩ : ∃ x, L[k] = x := ⟨_, rfl⟩
      rw [hx] at h0 HSU
      clear hx ha
      by_cases hs : 0 < x.size
      · have hsI : (0 : Int) < (x.size : Int) := by omega
        have HHD := Lib.hid (headD_at x hs)
        by_cases hq : ((x[0]'hs).toNat : Int) = c
        · have hqb : (((x[0]'hs).toNat : Int) == c) = true := by simp [hq]
          have HN : Hid (afterF (L.take (k + 1)) c = afterF (L.take k) c ++ [tailB x]) := by
            show _ = _
            rw [HSU.out, if_pos (by simp only [headB, HHD.out]; simp [hs, hq])]
          have hl : (afterF (L.take k) c).length ≤ 100000 := by have := afterF_len (L.take k) c; have := List.length_take_le' k L; omega
          have HL := Lib.hid hl
          clear hq hl
          go_wp2_with (first
            | (at_builtin; go_loud (refine wpList_append_g rowStr_ok rfl _ _ rfl rfl (HO.out.later ((Below.refl _ wr).alloc (Nat.le_refl _) _) (Nat.le_refl _)) ⟨wr.heap.size, 0, none⟩ 1 [tailB x] rfl (cells_built (heap_alloc_new _ _)) (by have := HL.out; simp only [List.length_singleton]; omega) (by simp only [World.size_alloc]; omega) ?_); intro v5 w5 hown5 hgrow5 _; have HO5 := Lib.hid hown5; have HB5 := Lib.hid (HB.out.trans ((((Below.refl w.heap.size wr).alloc hzB _).grown hgrow5 (by simp only [World.size_alloc]; omega) HO.out.ge))); clear hown5 hgrow5))
          go_roundw
          case rel => exact ⟨k + 1, by omega, by go_num, by rw [HN.out]; exact HO5.out, HB5.out⟩
          case measure => simp [intOf]; omega
        · have hqb : (((x[0]'hs).toNat : Int) == c) = false := by rw [beq_eq_false_iff_ne]; exact hq
          have HN : Hid (afterF (L.take (k + 1)) c = afterF (L.take k) c) := by
            show _ = _
            rw [HSU.out, if_neg (by simp only [headB, HHD.out]; simp [hq]), List.append_nil]
          clear hq
          go_wp2
          go_roundw
          case rel => exact ⟨k + 1, by omega, by go_num, by rw [HN.out]; exact HO.out, HB.out⟩
          case measure => simp [intOf]; omega
      · have hsI : ¬ (0 : Int) < (x.size : Int) := by omega
        have HN : Hid (afterF (L.take (k + 1)) c = afterF (L.take k) c) := by
          show _ = _
          rw [HSU.out, if_neg (by simp [headB, hs]), List.append_nil]
        go_wp2
        go_roundw
        case rel => exact ⟨k + 1, by omega, by go_num, by rw [HN.out]; exact HO.out, HB.out⟩
        case measure => simp [intOf]; omega
    · have HA : Hid (afterF (L.take k) c = afterF L c) := by show _ = _; rw [List.take_of_length_le (by omega)]
      go_wp2
      go_ret
      exact ⟨_, rfl, by rw [← HA.out]; exact HO.out, HB.out⟩

/-- without s -/
def withoutF (L : List ByteArray) (s : ByteArray) : List ByteArray := L.filter fun x => !decide (x = s)
theorem withoutF_succ {L : List ByteArray} {s : ByteArray} {k : Nat} (hk : k < L.length) : withoutF (L.take (k + 1)) s = withoutF (L.take k) s ++ if L[k] = s then [] else [L[k]] := by
  rw [withoutF, List.take_succ_eq_append_getElem hk, List.filter_append, withoutF]
  congr 1
  by_cases h : L[k] = s <;> simp [h]
theorem withoutF_len (L : List ByteArray) (s : ByteArray) : (withoutF L s).length ≤ L.length := List.length_filter_le _ _
end Go.Proofs.YtocdljmdmiphnaaDoor
