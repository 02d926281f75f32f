
/- Reference 09: Word. -/
import Derived.Test.YtocdljmdmiphnaaDoorDAfter
import Derived.Deep.QuietTactic
import Derived.BigQuiet
namespace Go.Proofs.YtocdljmdmiphnaaDoor
open Go.RowKit Go.WideShapes
set_option linter.unusedVariables false
set_option linter.unusedSimpArgs false

/-- what a walk is told of a slice of bytes that came in -/
def IsBytes (w : World) (a : Option Addr) (len : Nat) (Z : Nat → Int) : Prop :=
  len = 0 ∨ ∃ b o, a = some ⟨b, o, none⟩ ∧ len ≤ 9223372036854775807 ∧ b < w.heap.size ∧ ∀ i, i < len → w.cell? ⟨b, o + i, none⟩ = some (.int .u8 (Z i)) ∧ 0 ≤ Z i ∧ Z i ≤ 255
theorem IsBytes.later {w w1 : World} {a : Option Addr} {len : Nat} {Z : Nat → Int} {B : Nat} (h : IsBytes w a len Z) (hb : Below B w w1) (hB : w.heap.size ≤ B) : IsBytes w1 a len Z := by
  rcases h with h | ⟨b, o, ha, hl, hlt, hr⟩
  · exact .inl h
  · exact .inr ⟨b, o, ha, hl, Nat.lt_of_lt_of_le hlt hb.size, fun i hi => ⟨(hb.cell (p := ⟨b, _, none⟩) (Nat.lt_of_lt_of_le hlt hB)).trans (hr i hi).1, (hr i hi).2⟩⟩
theorem IsBytes.at {w : World} {a : Option Addr} {len : Nat} {Z : Nat → Int} (h : IsBytes w a len Z) {k : Nat} (hk : k < len) : ∃ b o, a = some ⟨b, o, none⟩ ∧ b < w.heap.size ∧ w.cell? ⟨b, o + k, none⟩ = some (.int .u8 (Z k)) ∧ 0 ≤ Z k ∧ Z k ≤ 255 := by
  rcases h with h | ⟨b, o, ha, hl, hlt, hr⟩
  · omega
  · exact ⟨b, o, ha, hlt, hr k hk⟩
theorem idx_bytes (a : Option Addr) (b o len cap k : Nat) (ha : a = some ⟨b, o, none⟩) (hk : k < len) (w : World) :
    (Instr.indexAt 24 (.slice a len cap) (.int .i64 (k : Int))).run Tryd.prog w = .ok (.pointer (some ⟨b, o + k, none⟩)) w := by
  subst ha
  have h0 : (0 : Int) ≤ (k : Int) := by omega
  have h1 : (k : Int) < (len : Int) := by omega
  simp [go_sem, h0, h1]
theorem ret_str {a b : ByteArray} (h : a = b) : Ending.returned (.string a) = .returned (.string b) := by rw [h]
/-- the letter of a number -/
def letL (z : Int) : UInt8 := if z % 4 = 0 then 65 else if z % 4 = 1 then 66 else if z % 4 = 2 then 67 else 49
def lettersF (Z : Nat → Int) (n : Nat) : List UInt8 := (List.range n).map fun i => letL (Z i)
theorem lettersF_succ (Z : Nat → Int) (n : Nat) : lettersF Z (n + 1) = lettersF Z n ++ [letL (Z n)] := by simp [lettersF, List.range_succ]
/-- the word of numbers -/
def wordF (Z : Nat → Int) (len : Nat) : ByteArray := if len = 0 then ⟨#[65]⟩ else ⟨(lettersF Z (min len 4)).toArray⟩
set_option maxHeartbeats 1600000 in
set_option maxRecDepth 100000 in
theorem mkWord_any (Z : Nat → Int) (a : Option Addr) (len cap : Nat) (w : World) (hZ : IsBytes w a len Z) (hl : len ≤ 9223372036854775807) :
    Calls Tryd.prog 29 #[.slice a len cap] w fun e w' => e = .returned (.string (wordF Z len)) ∧ Below w.heap.size w w' := by
  have HZ := Lib.hid hZ; clear hZ
  go_enter Tryd.func29, Tryd.ntmps29
  go_wp2
  go_loopw [4, 3] (fun i v wr => ∃ (k : Nat) (x : ByteArray), k ≤ 4 ∧ k ≤ len ∧ i = .int .i64 (k : Int) ∧ v = .string x ∧ x.data.toList = lettersF Z k ∧ Below w.heap.size w wr) (fun i _ _ => 4 - (intOf i).toNat)
  case atStart => exact ⟨0, ⟨#[]⟩, by omega, Nat.zero_le _, rfl, rfl, rfl, Below.refl _ _⟩
  case round =>
    obtain ⟨k, x, hk4, hk, rfl, rfl, hx, hB⟩ := hrel
    have HB := Lib.hid hB; have HX := Lib.hid hx
    have hzB := hB.size
    have hxs : x.size = k := by
      have := congrArg List.length hx
      simpa [lettersF] using this
    clear hB hx
    by_cases hlt : k < len
    · by_cases h4 : k < 4
      · have h4I : (k : Int) < 4 := by omega
        obtain ⟨b, o, ha, hb, h0, z0, z1⟩ := (HZ.out.later HB.out (Nat.le_refl _)).at hlt
        have hidx := idx_bytes a b o len cap k ha hlt
        have HS := Lib.hid (lettersF_succ Z k)
        obtain ⟨z, hz⟩ : ∃ z, Z k = z := ⟨_, rfl⟩
        rw [hz] at h0 z0 z1 HS
        clear hz ha
        have hcase : z % 4 = 0 ∨ z % 4 = 1 ∨ z % 4 = 2 ∨ z % 4 = 3 := by omega
        rcases hcase with hm | hm | hm | hm
        · have hm2 : z.tmod 4 = 0 := (Int.tmod_eq_emod_of_nonneg z0).trans hm
          have HL : Hid ((ByteArray.extract ⟨#[65, 66, 67, 49]⟩ 0 1).data.toList = [letL z]) := by
            show _ = _
            have e : letL z = [65, 66, 67, 49].getD 0 0 := by unfold letL; rw [hm]; rfl
            rw [e]; decide
          go_wp2
          go_quiet (fail)
          go_wp2
          go_roundw
          case rel => exact ⟨k + 1, _, by omega, by omega, by go_num, rfl, by rw [HS.out, ByteArray.data_append, Array.toList_append, HX.out, HL.out], below_drewN HB.out _⟩
          case measure => simp [intOf]; omega
        · have hm2 : z.tmod 4 = 1 := (Int.tmod_eq_emod_of_nonneg z0).trans hm
          have HL : Hid ((ByteArray.extract ⟨#[65, 66, 67, 49]⟩ 1 2).data.toList = [letL z]) := by
            show _ = _
            have e : letL z = [65, 66, 67, 49].getD 1 0 := by unfold letL; rw [hm]; rfl
            rw [e]; decide
          go_wp2
          go_quiet (fail)
          go_wp2
          go_roundw
          case rel => exact ⟨k + 1, _, by omega, by omega, by go_num, rfl, by rw [HS.out, ByteArray.data_append, Array.toList_append, HX.out, HL.out], below_drewN HB.out _⟩
          case measure => simp [intOf]; omega
        · have hm2 : z.tmod 4 = 2 := (Int.tmod_eq_emod_of_nonneg z0).trans hm
          have HL : Hid ((ByteArray.extract ⟨#[65, 66, 67, 49]⟩ 2 3).data.toList = [letL z]) := by
            show _ = _
            have e : letL z = [65, 66, 67, 49].getD 2 0 := by unfold letL; rw [hm]; rfl
            rw [e]; decide
          go_wp2
          go_quiet (fail)
          go_wp2
          go_roundw
          case rel => exact ⟨k + 1, _, by omega, by omega, by go_num, rfl, by rw [HS.out, ByteArray.data_append, Array.toList_append, HX.out, HL.out], below_drewN HB.out _⟩
          case measure => simp [intOf]; omega
        · have hm2 : z.tmod 4 = 3 := (Int.tmod_eq_emod_of_nonneg z0).trans hm
          have HL : Hid ((ByteArray.extract ⟨#[65, 66, 67, 49]⟩ 3 4).data.toList = [letL z]) := by
            show _ = _
            have e : letL z = [65, 66, 67, 49].getD 3 0 := by unfold letL; rw [hm]; rfl
            rw [e]; decide
          go_wp2
          go_quiet (fail)
          go_wp2
          go_roundw
          case rel => exact ⟨k + 1, _, by omega, by omega, by go_num, rfl, by rw [HS.out, ByteArray.data_append, Array.toList_append, HX.out, HL.out], below_drewN HB.out _⟩
          case measure => simp [intOf]; omega
      · have h4I : ¬ (k : Int) < 4 := by omega
        have HR : Hid (wordF Z len = x) := by
          show _ = _
          have : min len 4 = k := by omega
          rw [wordF, if_neg (by omega), this, ← HX.out]
        have hne : (x.toList == []) = false := by rw [beq_eq_false_iff_ne, ByteArray.toList_eq, HX.out]; intro h; have := congrArg List.length h; simp [lettersF] at this; omega
        have hne2 : x.toList ≠ [] := by simpa using hne
        go_wp2
        go_ret
        exact ⟨ret_str HR.out.symm, HB.out⟩
    · by_cases h0 : k = 0
      · have hx0 : x = ⟨#[]⟩ := bytes_inj (by rw [HX.out, h0]; rfl)
        have HR : Hid (wordF Z len = ⟨#[65]⟩) := by show _ = _; rw [wordF, if_pos (by omega)]
        subst hx0
        clear h0
        go_wp2
        go_ret
        exact ⟨ret_str HR.out.symm, HB.out⟩
      · have HR : Hid (wordF Z len = x) := by
          show _ = _
          have : min len 4 = k := by omega
          rw [wordF, if_neg (by omega), this, ← HX.out]
        have hne : (x.toList == []) = false := by rw [beq_eq_false_iff_ne, ByteArray.toList_eq, HX.out]; intro h; have := congrArg List.length h; simp [lettersF] at this; omega
        have hne2 : x.toList ≠ [] := by simpa using hne
        clear h0
        go_wp2
        go_ret
        exact ⟨ret_str HR.out.symm, HB.out⟩
end Go.Proofs.YtocdljmdmiphnaaDoor
/- Reference 09: Insert, Made. -/
namespace Go.Proofs.YtocdljmdmiphnaaDoor
open Go.RowKit Go.WideShapes
set_option linter.unusedVariables false
set_option linter.unusedSimpArgs false

theorem addr_add' (b o n : Nat) : (⟨b, o, none⟩ : Addr).add n = ⟨b, o + n, none⟩ := by
  unfold Addr.add; split <;> simp_all
/-- one word more -/
def insF (L : List ByteArray) (s : ByteArray) : List ByteArray := if 0 ≤ idxF L s then L else L.takeWhile (fun x => ltS x s) ++ s :: L.dropWhile (fun x => ltS x s)
theorem tw_take {α : Type} {p : α → Bool} : ∀ {L : List α} {k : Nat}, k ≤ L.length → (∀ j (hj : j < L.length), j < k → p L[j] = true) → (∀ h : k < L.length, p L[k] = false) → L.takeWhile p = L.take k ∧ L.dropWhile p = L.drop k
  | [], k, hk, _, _ => by simp
  | x :: r, 0, _, _, h => by
    have := h (by simp)
    simp only [List.getElem_cons_zero] at this
    simp [List.takeWhile_cons, List.dropWhile_cons, this]
  | x :: r, k + 1, hk, h1, h2 => by
    have hx := h1 0 (by simp) (by omega)
    simp only [List.getElem_cons_zero] at hx
    have ih := tw_take (p := p) (L := r) (k := k) (by simpa using hk) (fun j hj hjk => by
      have := h1 (j + 1) (by simpa using hj) (by omega)
      simpa using this) (fun h => by
      have := h2 (by simpa using h)
      simpa using this)
    simp [List.takeWhile_cons, List.dropWhile_cons, hx, ih.1, ih.2]
theorem slice_strs_low (a : Addr) (n cap k : Nat) (hk : k ≤ n) (hn : n ≤ cap) (w : World) :
    (Instr.slice 26 (.slice (some a) n cap) none (some (.int .i64 (k : Int))) none).run Tryd.prog w = .ok (.slice (some a) k cap) w := by
  have h0 : (0 : Int) ≤ (k : Int) := by omega
  have h1 : (k : Int) ≤ (cap : Int) := by omega
  simp [go_sem, Instr.slice, Instr.sliceBounds, Instr.sliceBound, asIntOf, h0, h1]; intro h; omega
theorem slice_strs_high (b o n cap k : Nat) (hk : k ≤ n) (hn : n ≤ cap) : ∃ o', (k < n → o' = o + k) ∧ ∀ w : World,
    (Instr.slice 26 (.slice (some ⟨b, o, none⟩) n cap) (some (.int .i64 (k : Int))) none none).run Tryd.prog w = .ok (.slice (some ⟨b, o', none⟩) (n - k) (cap - k)) w := by
  have h0 : (0 : Int) ≤ (k : Int) := by omega
  have h1 : (k : Int) ≤ (n : Int) := by omega
  have h2 : (n : Int) ≤ (cap : Int) := by omega
  refine ⟨if cap = k then o else o + k, fun h => if_neg (by omega), fun w => ?_⟩
  simp [go_sem, Instr.slice, Instr.sliceBounds, Instr.sliceBound, asIntOf, h0, h1, h2, Addr.add, hk]
  by_cases e : cap = k
  · simp [e]
  · by_cases e0 : k = 0
    · simp [e0]
    · simp [e, e0]
/-- the cells of a part of a slice of strings -/
theorem cells_strs {w : World} {b o : Nat} {L M : List ByteArray} {k : Nat} (h : StrS w (some ⟨b, o, none⟩) L) (hM : ∀ j (hj : j < M.length), ∃ h2 : k + j < L.length, M[j] = L[k + j]) :
    ∀ j u, (M.flatMap rowStr.enc)[j]? = some u → w.cell? ((⟨b, o + k, none⟩ : Addr).add j) = some u := by
  intro j u hu
  have e : M.flatMap rowStr.enc = M.map Value.string := by
    clear hM hu
    induction M with
    | nil => rfl
    | cons x r ih => rw [List.flatMap_cons, ih]; rfl
  rw [e, List.getElem?_map] at hu
  have hj : j < M.length := by
    by_cases h : j < M.length
    · exact h
    · rw [List.getElem?_eq_none (by omega)] at hu; cases hu
  rw [List.getElem?_eq_getElem hj] at hu
  obtain ⟨h2, h3⟩ := hM j hj
  obtain ⟨b', o', e1, _, hc⟩ := h (k + j) h2
  injection e1 with e1
  injection e1 with e1 e2
  subst e1 e2
  rw [addr_add', Nat.add_assoc, hc, ← h3]
  simpa using hu
def StrPost (M : List ByteArray) (w : World) (e : Ending) (w' : World) : Prop :=
  ∃ (b o c : Nat), e = .returned (.slice (some ⟨b, o, none⟩) M.length c) ∧ StrS w' (some ⟨b, o, none⟩) M ∧ M.length ≤ c ∧ Below w.heap.size w w'
theorem insF_mid {L : List ByteArray} {s : ByteArray} {k : Nat} (h0 : ¬ 0 ≤ idxF L s) (hk : k ≤ L.length) (h1 : ∀ j (hj : j < L.length), j < k → ltS L[j] s = true) (h2 : ∀ h : k < L.length, ltS L[k] s = false) : insF L s = L.take k ++ [s] ++ L.drop k := by
  obtain ⟨e1, e2⟩ := tw_take (p := fun x => ltS x s) hk h1 h2
  rw [insF, if_neg h0, e1, e2]; simp
theorem insF_len (L : List ByteArray) (s : ByteArray) : (insF L s).length ≤ L.length + 1 := by
  unfold insF
  split
  · omega
  · have := congrArg List.length (List.takeWhile_append_dropWhile (p := fun x => ltS x s) (l := L))
    simp only [List.length_append, List.length_cons] at this ⊢; omega
set_option maxHeartbeats 3200000 in
set_option maxRecDepth 100000 in
theorem insert_any (L : List ByteArray) (n b o cap : Nat) (s : ByteArray) (w : World) (hR : StrS w (some ⟨b, o, none⟩) L) (hL : n = L.length) (hc : n ≤ cap) (hn : n ≤ 100000) :
    Calls Tryd.prog 28 #[.slice (some ⟨b, o, none⟩) n cap, .string s] w (StrPost (insF L s) w) := by
  subst hL
  have HR := Lib.hid hR; clear hR
  by_cases h0 : 0 ≤ idxF L s
  · have HI : Hid (insF L s = L) := by show _ = _; rw [insF, if_pos h0]
    obtain ⟨q, hq⟩ : ∃ q, idxF L s = q := ⟨_, rfl⟩
    have HQ := Lib.hid hq
    rw [hq] at h0
    clear hq
    go_enter Tryd.func28, Tryd.ntmps28
    go_wp2_with (go_at_call 50; refine (rindex_any L _ _ _ _ _ HR.out rfl (by omega)).mono ?_; rintro e w' ⟨he, rfl⟩; rw [HQ.out] at he; subst he)
    go_ret
    rw [HI.out]
    exact ⟨b, o, cap, rfl, HR.out, hc, Below.refl _ _⟩
  · have H0 := Lib.hid h0
    obtain ⟨q, hq⟩ : ∃ q, idxF L s = q := ⟨_, rfl⟩
    have HQ := Lib.hid hq
    have hqn : ¬ 0 ≤ q := by rw [← hq]; exact h0
    clear hq h0
    go_enter Tryd.func28, Tryd.ntmps28
    go_wp2_with (go_at_call 50; refine (rindex_any L _ _ _ _ _ HR.out rfl (by omega)).mono ?_; rintro e w' ⟨he, rfl⟩; rw [HQ.out] at he; subst he)
    go_loop [5] (fun i => ∃ k : Nat, k ≤ L.length ∧ i = .int .i64 (k : Int) ∧ ∀ j (hj : j < L.length), j < k → ltS L[j] s = true) (fun i => L.length - (intOf i).toNat)
    case atStart => exact ⟨0, Nat.zero_le _, rfl, fun j _ h => by omega⟩
    case round =>
      obtain ⟨k, hk, rfl, hg⟩ := hrel
      have HG := Lib.hid hg
      clear hg
      have hend : ∀ (h2 : ∀ h : k < L.length, ltS L[k] s = false), Hid (insF L s = L.take k ++ [s] ++ L.drop k) := fun h2 => insF_mid (by have := H0.out; omega) hk HG.out h2
      have HEND := Lib.hid hend
      have hlow := slice_strs_low ⟨b, o, none⟩ L.length cap k hk hc
      obtain ⟨o', ho', hhigh⟩ := slice_strs_high b o L.length cap k hk hc
      have HO' := Lib.hid ho'
      have hlk : (L.take k).length = k := by rw [List.length_take]; omega
      have hld : (L.drop k).length = L.length - k := by rw [List.length_drop]
      have HLK := Lib.hid hlk; have HLD := Lib.hid hld
      have HOE : Hid (OwnG rowStr (w.alloc (.cells #[] 9)) w.heap.size (.slice (some ⟨w.heap.size, 0, none⟩) 0 0) []) := OwnG.empty rowStr (heap_alloc_new _ _) (Nat.le_refl _)
      have HCE : Hid (∀ j u, ((L.take k).flatMap rowStr.enc)[j]? = some u → (w.alloc (.cells #[] 9)).cell? ((⟨b, o, none⟩ : Addr).add j) = some u) :=
        cells_strs (k := 0) (HR.out.later ((Below.refl _ w).alloc (Nat.le_refl _) _) (Nat.le_refl _)) (fun j hj => ⟨by rw [hlk] at hj; omega, by rw [List.getElem_take]; congr 1; omega⟩)
      clear hend ho' hlk hld
      by_cases hlt : k < L.length
      · obtain ⟨b1, o1, ha, hb, h1⟩ := HR.out.at hlt
        have hidx := idx_strs (some ⟨b, o, none⟩) b1 o1 L.length cap k ha hlt
        obtain ⟨x, hx⟩ : ∃ x, L[k] = x := ⟨_, rfl⟩
        have HX := Lib.hid hx
        rw [hx] at h1
        clear hx ha
        obtain ⟨r, hr⟩ : ∃ r, Op.bytesLess x.toList s.toList = r := ⟨_, rfl⟩
        have HRR : Hid (ltS x s = r) := hr
        cases r with
        | true =>
          have HN : Hid (∀ j (hj : j < L.length), j < k + 1 → ltS L[j] s = true) := fun j hj hjk => by
            by_cases e : j = k
            · subst e; rw [HX.out]; exact HRR.out
            · exact HG.out j hj (by omega)
          go_wp2
          go_round
          case rel => exact ⟨k + 1, by omega, by go_num, HN.out⟩
          case measure => simp [intOf]; omega
        | false =>
          have HN := HEND.out (fun _ => by rw [HX.out]; exact HRR.out)
          go_wp2_with (first | (at_builtin; go_loud (refine wpList_append_g rowStr_ok rfl _ _ rfl rfl HOE.out ⟨b, o, none⟩ cap (L.take k) (by rw [HLK.out]; rfl) HCE.out (by have := HLK.out; simp only [List.length_nil]; omega) (by simp) ?_; intro v5 w5 hown5 hgrow5 hat5; have HO5 := Lib.hid hown5; have HB5 : Hid (Below w.heap.size w w5) := (((Below.refl w.heap.size w).alloc (Nat.le_refl _) _).grown hgrow5 (by simp only [World.size_alloc]; omega) HOE.out.ge); have hz5 := HB5.out.size; clear hown5 hgrow5 hat5)) | (at_builtin; go_loud (refine wpList_append_g rowStr_ok rfl _ _ rfl rfl (HO5.out.later ((Below.refl _ w5).alloc (Nat.le_refl _) _) (Nat.le_refl _)) ⟨w5.heap.size, 0, none⟩ 1 [s] rfl (cells_built (heap_alloc_new _ _)) (by have := HLK.out; simp only [List.length_singleton, List.nil_append]; omega) (by simp only [World.size_alloc]; omega) ?_; intro v6 w6 hown6 hgrow6 hat6; have HO6 := Lib.hid hown6; have HB6 : Hid (Below w.heap.size w w6) := (HB5.out.trans (((Below.refl w.heap.size w5).alloc hz5 _).grown hgrow6 (by simp only [World.size_alloc]; omega) HO5.out.ge)); have hz6 := HB6.out.size; clear hown6 hgrow6 hat6)) | (at_builtin; go_loud (refine wpList_append_g rowStr_ok rfl _ _ rfl rfl HO6.out ⟨b, o', none⟩ (cap - k) (L.drop k) (by rw [HLD.out]; rfl) (fun j u hu => by have hkl : k < L.length := (by rcases Nat.lt_or_ge k L.length with h | h; exact h; exfalso; rw [List.drop_eq_nil_of_le h] at hu; simp at hu); have e := HO'.out hkl; subst e; exact cells_strs (HR.out.later HB6.out (Nat.le_refl _)) (fun j hj => ⟨by have := HLD.out; omega, by rw [List.getElem_drop]⟩) j u hu) (by have := HLD.out; have := HLK.out; simp only [List.length_append, List.length_singleton, List.nil_append]; omega) (by omega) ?_; intro v7 w7 hown7 hgrow7 hat7; have HO7 := Lib.hid hown7; have HB7 : Hid (Below w.heap.size w w7) := (HB6.out.trans ((Below.refl w.heap.size w6).grown hgrow7 (by omega) HO6.out.ge)); clear hown7 hgrow7 hat7)))
          go_ret; have hfin := HO7.out; rw [List.nil_append, ← HN.out] at hfin; rcases hfin.blk with ⟨_, h⟩ | ⟨g, c, hv, _, _, hcc⟩; · exfalso; have h2 := HN.out; rw [h] at h2; simp at h2
          · subst hv
            exact ⟨g, 0, c, rfl, hfin.strs.1, hcc, HB7.out⟩
      · have HN := HEND.out (fun h => absurd h hlt)
        go_wp2_with (first | (at_builtin; go_loud (refine wpList_append_g rowStr_ok rfl _ _ rfl rfl HOE.out ⟨b, o, none⟩ cap (L.take k) (by rw [HLK.out]; rfl) HCE.out (by have := HLK.out; simp only [List.length_nil]; omega) (by simp) ?_; intro v5 w5 hown5 hgrow5 hat5; have HO5 := Lib.hid hown5; have HB5 : Hid (Below w.heap.size w w5) := (((Below.refl w.heap.size w).alloc (Nat.le_refl _) _).grown hgrow5 (by simp only [World.size_alloc]; omega) HOE.out.ge); have hz5 := HB5.out.size; clear hown5 hgrow5 hat5)) | (at_builtin; go_loud (refine wpList_append_g rowStr_ok rfl _ _ rfl rfl (HO5.out.later ((Below.refl _ w5).alloc (Nat.le_refl _) _) (Nat.le_refl _)) ⟨w5.heap.size, 0, none⟩ 1 [s] rfl (cells_built (heap_alloc_new _ _)) (by have := HLK.out; simp only [List.length_singleton, List.nil_append]; omega) (by simp only [World.size_alloc]; omega) ?_; intro v6 w6 hown6 hgrow6 hat6; have HO6 := Lib.hid hown6; have HB6 : Hid (Below w.heap.size w w6) := (HB5.out.trans (((Below.refl w.heap.size w5).alloc hz5 _).grown hgrow6 (by simp only [World.size_alloc]; omega) HO5.out.ge)); have hz6 := HB6.out.size; clear hown6 hgrow6 hat6)) | (at_builtin; go_loud (refine wpList_append_g rowStr_ok rfl _ _ rfl rfl HO6.out ⟨b, o', none⟩ (cap - k) (L.drop k) (by rw [HLD.out]; rfl) (fun j u hu => by have hkl : k < L.length := (by rcases Nat.lt_or_ge k L.length with h | h; exact h; exfalso; rw [List.drop_eq_nil_of_le h] at hu; simp at hu); have e := HO'.out hkl; subst e; exact cells_strs (HR.out.later HB6.out (Nat.le_refl _)) (fun j hj => ⟨by have := HLD.out; omega, by rw [List.getElem_drop]⟩) j u hu) (by have := HLD.out; have := HLK.out; simp only [List.length_append, List.length_singleton, List.nil_append]; omega) (by omega) ?_; intro v7 w7 hown7 hgrow7 hat7; have HO7 := Lib.hid hown7; have HB7 : Hid (Below w.heap.size w w7) := (HB6.out.trans ((Below.refl w.heap.size w6).grown hgrow7 (by omega) HO6.out.ge)); clear hown7 hgrow7 hat7)))
        go_ret; have hfin := HO7.out; rw [List.nil_append, ← HN.out] at hfin; rcases hfin.blk with ⟨_, h⟩ | ⟨g, c, hv, _, _, hcc⟩; · exfalso; have h2 := HN.out; rw [h] at h2; simp at h2
        · subst hv
          exact ⟨g, 0, c, rfl, hfin.strs.1, hcc, HB7.out⟩
end Go.Proofs.YtocdljmdmiphnaaDoor
