/- DawgChanges: plain, and the walk. -/
import Derived.Test.YtemdlfbcnnoglaaDoorDLBegin
import Derived.Test.YtemdlfbcnnoglaaDoorDLWords
namespace Go.Proofs.YtemdlfbcnnoglaaDoor
open Go.RowKit Go.WideShapes
set_option linter.unusedVariables false
set_option linter.unusedSimpArgs false

/-! ### plain -/
theorem sorted_ext : ∀ {A B : List ByteArray}, A.Pairwise (fun x y => ltS x y = true) → B.Pairwise (fun x y => ltS x y = true) → (∀ x, x ∈ A ↔ x ∈ B) → A = B
  | [], [], _, _, _ => rfl
  | [], y :: s, _, _, h => by have := (h y).2 (by simp); cases this
  | x :: r, [], _, _, h => by have := (h x).1 (by simp); cases this
  | x :: r, y :: s, hA, hB, h => by
    obtain ⟨a1, a2⟩ := List.pairwise_cons.1 hA
    obtain ⟨b1, b2⟩ := List.pairwise_cons.1 hB
    have hxy : x = y := by
      rcases List.mem_cons.1 ((h x).1 (by simp)) with e | hx
      · exact e
      · rcases List.mem_cons.1 ((h y).2 (by simp)) with e | hy
        · exact e.symm
        · have h1 := b1 x hx
          have h2 := a1 y hy
          have := ltS_trans h1 h2
          rw [ltS_irr] at this; cases this
    subst hxy
    have hr : r = s := sorted_ext a2 b2 fun z => by
      constructor
      · intro hz
        rcases List.mem_cons.1 ((h z).1 (List.mem_cons_of_mem _ hz)) with e | hz2
        · have := a1 z hz
          rw [e, ltS_irr] at this; cases this
        · exact hz2
      · intro hz
        rcases List.mem_cons.1 ((h z).2 (List.mem_cons_of_mem _ hz)) with e | hz2
        · have := b1 z hz
          rw [e, ltS_irr] at this; cases this
        · exact hz2
    rw [hr]
theorem without_mem {L : List ByteArray} {s x : ByteArray} : x ∈ withoutF L s ↔ x ∈ L ∧ x ≠ s := by
  unfold withoutF
  rw [List.mem_filter]
  simp
theorem without_sorted {L : List ByteArray} {s : ByteArray} (h : L.Pairwise fun x y => ltS x y = true) : (withoutF L s).Pairwise fun x y => ltS x y = true := h.filter _
/-- one word more, and without it again -/
theorem back_no {L : List ByteArray} {s : ByteArray} (h : Dict L) (hn : ¬ 0 ≤ idxF L s) : withoutF (insF L s) s = L :=
  sorted_ext (without_sorted (ins_sorted h.sorted)) h.sorted fun x => by
    rw [without_mem, ins_mem]
    constructor
    · rintro ⟨h1, h2⟩; exact h1.resolve_left h2
    · exact fun hx => ⟨.inr hx, fun e => hn (idxF_mem.2 (e ▸ hx))⟩
theorem back_yes {L : List ByteArray} {s : ByteArray} (h : Dict L) (hn : 0 ≤ idxF L s) : insF (withoutF L s) s = L :=
  sorted_ext (ins_sorted (without_sorted h.sorted)) h.sorted fun x => by
    rw [ins_mem, without_mem]
    constructor
    · rintro (rfl | h1)
      · exact idxF_mem.1 hn
      · exact h1.1
    · intro hx
      by_cases e : x = s
      · exact .inl e
      · exact .inr ⟨hx, e⟩
theorem ins_len_no {L : List ByteArray} {s : ByteArray} (hn : ¬ 0 ≤ idxF L s) : (insF L s).length = L.length + 1 := by
  unfold insF
  rw [if_neg hn]
  have := congrArg List.length (List.takeWhile_append_dropWhile (p := fun x => ltS x s) (l := L))
  simp only [List.length_append, List.length_cons] at this ⊢; omega
theorem ins_yes {L : List ByteArray} {s : ByteArray} (hn : 0 ≤ idxF L s) : insF L s = L := if_pos hn

/-! ### Without answers a row that is not nil -/
set_option maxHeartbeats 1600000 in
set_option maxRecDepth 100000 in
theorem without_some (L : List ByteArray) (n : Nat) (a : Option Addr) (cap : Nat) (s : ByteArray) (w : World) (hR : StrS w a L) (hL : n = L.length) (hn : n ≤ 100000) :
    Calls Tryd.prog 30 #[.slice a n cap, .string s] w fun e w' => ∃ b o c, e = .returned (.slice (some ⟨b, o, none⟩) (withoutF L s).length c) ∧ StrS w' (some ⟨b, o, none⟩) (withoutF L s) ∧ (withoutF L s).length ≤ c ∧ Below w.heap.size w w' := by
  subst hL
  have HR := Lib.hid hR; clear hR
  go_enter Tryd.func30, Tryd.ntmps30
  go_wp2
  go_loopw [6, 5] (fun i v wr => ∃ k : Nat, k ≤ L.length ∧ i = .int .i64 (k : Int) ∧ (OwnG rowStr wr w.heap.size v (withoutF (L.take k) s) ∧ v.ownBlock ≠ none) ∧ Below w.heap.size w wr) (fun i _ _ => L.length - (intOf i).toNat)
  case atStart => exact ⟨0, Nat.zero_le _, rfl, ⟨OwnG.empty rowStr (heap_alloc_new _ _) (Nat.le_refl _), fun h => by cases h⟩, (Below.refl _ _).alloc (Nat.le_refl _) _⟩
  case round =>
    obtain ⟨k, hk, rfl, ⟨hown, hnn⟩, hB⟩ := hrel
    have HO := Lib.hid hown; have HB := Lib.hid hB; have HNN := Lib.hid hnn
    have hzB := hB.size
    clear hown hB hnn
    by_cases hlt : k < L.length
    · obtain ⟨b, o, ha, hb, h0⟩ := (HR.out.later HB.out (Nat.le_refl _)).at hlt
      have hidx := idx_strs a b o L.length cap k ha hlt
      have HSU := Lib.hid (withoutF_succ (s := s) hlt)
      obtain ⟨x, hx⟩ : ∃ x, L[k] = x := ⟨_, rfl⟩
      rw [hx] at h0 HSU
      clear hx ha
      by_cases hq : x = s
      · have hqb : (x.toList == s.toList) = true := by rw [beq_str]; simp [hq]
        have HN : Hid (withoutF (L.take (k + 1)) s = withoutF (L.take k) s) := by
          show _ = _
          rw [HSU.out, if_pos hq, List.append_nil]
        clear hq
        go_wp2
        go_roundw
        case rel => exact ⟨k + 1, by omega, by go_num, ⟨by rw [HN.out]; exact HO.out, HNN.out⟩, HB.out⟩
        case measure => simp [intOf]; omega
      · have hqb : (x.toList == s.toList) = false := by rw [beq_str]; exact decide_eq_false hq
        have HN : Hid (withoutF (L.take (k + 1)) s = withoutF (L.take k) s ++ [x]) := by
          show _ = _
          rw [HSU.out, if_neg hq]
        have hl : (withoutF (L.take k) s).length ≤ 100000 := by have := withoutF_len (L.take k) s; have := List.length_take_le' k L; omega
        have HL := Lib.hid hl
        clear hq hl
        go_wp2_with (first
          | (at_builtin; go_loud (refine wpList_append_g rowStr_ok rfl _ _ rfl rfl (HO.out.later ((Below.refl _ wr).alloc (Nat.le_refl _) _) (Nat.le_refl _)) ⟨wr.heap.size, 0, none⟩ 1 [x] rfl (cells_built (heap_alloc_new _ _)) (by have := HL.out; simp only [List.length_singleton]; omega) (by simp only [World.size_alloc]; omega) ?_); intro v5 w5 hown5 hgrow5 hob; have HO5 := Lib.hid hown5; have HN5 : Hid (v5.ownBlock ≠ none) := (fun h => by rcases hob with e | e <;> rw [h] at e; exact HNN.out e.symm; cases e); have HB5 := Lib.hid (HB.out.trans ((((Below.refl w.heap.size wr).alloc hzB _).grown hgrow5 (by simp only [World.size_alloc]; omega) HO.out.ge))); clear hown5 hgrow5 hob))
        go_roundw
        case rel => exact ⟨k + 1, by omega, by go_num, ⟨by rw [HN.out]; exact HO5.out, HN5.out⟩, HB5.out⟩
        case measure => simp [intOf]; omega
    · have HA : Hid (withoutF (L.take k) s = withoutF L s) := by show _ = _; rw [List.take_of_length_le (by omega)]
      go_wp2
      go_ret
      have ho := HO.out
      rw [HA.out] at ho
      rcases ho.blk with ⟨e, _⟩ | ⟨g, c, e, _, _, hc⟩
      · exfalso
        have := HNN.out
        rw [e] at this
        exact this rfl
      · subst e
        exact ⟨g, 0, c, rfl, ho.strs.1, hc, HB.out⟩
/-! ### the walk -/
set_option maxHeartbeats 1600000 in
set_option maxRecDepth 100000 in
theorem dawgChanges_view (xl : BytsA) (y : BytA) (w : World) (hx : BytsOk w xl) (hy : BytOk w y) (hT : Tab w) :
    Calls Tryd.prog 10 #[xl.val, y.val] w fun e w' => e = .returned (.bool true) ∧ Below w.heap.size w w' := by
  obtain ⟨a, len, cap, Q⟩ := xl
  obtain ⟨ax, lx, cx, Z⟩ := y
  obtain ⟨hQ, hl⟩ := hx
  obtain ⟨hZ, hlx⟩ := hy
  simp only at hQ hl hZ hlx
  have hs0 := Since.refl w
  have HQ := Lib.hid hQ; have HZ := Lib.hid hZ; have HT := Lib.hid hT; have HS := Lib.hid hs0
  clear hQ hZ hT hs0
  show Calls Tryd.prog 10 #[.slice a len cap, .slice ax lx cx] w _
  go_enter Tryd.func10, Tryd.ntmps10
  go_wp2_with fail
  refine (sanity_any w HT.out).mono ?_
  rintro e w1 ⟨rfl, hb⟩
  replace HQ := Lib.hid (HQ.out.go hb); replace HZ := Lib.hid (HZ.out.go hb); replace HT := Lib.hid (HT.out.go hb); replace HS := Lib.hid (HS.out.go hb)
  clear hb
  go_wp2_with fail
  refine (made_d 13 13 rfl (by decide) (by decide) HQ.out hl).mono ?_
  rintro e w2 ⟨L, b, o, c, -, rfl, hd, hm2, -, hc, hR, hb⟩
  replace HZ := Lib.hid (HZ.out.go hb); replace HT := Lib.hid (HT.out.go hb); replace HS := Lib.hid (HS.out.go hb)
  clear hb
  have HR := Lib.hid hR; have HD := Lib.hid hd; clear hR hd HQ
  go_wp2_with fail
  refine (mkWord_any Z ax lx cx w2 HZ.out hlx).mono ?_
  rintro e w3 ⟨rfl, hb⟩
  replace HT := Lib.hid (HT.out.go hb); replace HS := Lib.hid (HS.out.go hb); replace HR := Lib.hid (HR.out.go hb)
  clear hb
  clear HZ
  obtain ⟨s, hs⟩ : ∃ s, wordF Z lx = s := ⟨_, rfl⟩
  have HW : Hid (wordB s = true) := by show _; rw [← hs]; exact (wordF_ok Z lx).1
  rw [hs]; clear hs
  go_wp2_with fail
  refine (build_d HD.out HR.out rfl hc HT.out).mono ?_
  rintro e w4 ⟨a3, n3, c3, rfl, hA, hb⟩
  replace HT := Lib.hid (HT.out.go hb); replace HS := Lib.hid (HS.out.go hb); replace HR := Lib.hid (HR.out.go hb)
  clear hb
  have HA := Lib.hid hA; clear hA
  go_wp2_with fail
  refine (insert_any L _ b o c s w4 HR.out rfl hc (by omega)).mono ?_
  rintro e w5 ⟨b5, o5, c5, rfl, hR5, hc5, hb⟩
  replace HT := Lib.hid (HT.out.go hb); replace HS := Lib.hid (HS.out.go hb); replace HR := Lib.hid (HR.out.go hb); replace HA := Lib.hid (HA.out.go hb)
  clear hb
  have HR5 := Lib.hid hR5; clear hR5
  have HDM := Lib.hid (ins_dict HD.out (by omega) HW.out)
  have hml := insF_len L s
  have HHAS : Hid (decide (0 ≤ idxF (insF L s) s) = true) := decide_eq_true (idxF_mem.2 (ins_mem.2 (.inl rfl)))
  have HBN : Hid (0 ≤ idxF L s → insF L s = L) := ins_yes
  have HBL : Hid (¬ 0 ≤ idxF L s → (insF L s).length = L.length + 1 ∧ withoutF (insF L s) s = L) := fun h => ⟨ins_len_no h, back_no HD.out h⟩
  obtain ⟨M, hM⟩ : ∃ M, insF L s = M := ⟨_, rfl⟩
  rw [hM] at HR5 HDM hml HHAS HBN HBL hc5 ⊢
  clear hM
  go_wp2_with fail
  refine (build_d HDM.out HR5.out rfl hc5 HT.out).mono ?_
  rintro e w6 ⟨a6, n6, c6, rfl, hA, hb⟩
  replace HT := Lib.hid (HT.out.go hb); replace HS := Lib.hid (HS.out.go hb); replace HR := Lib.hid (HR.out.go hb); replace HA := Lib.hid (HA.out.go hb)
  clear hb
  have HE := Lib.hid hA; clear hA HR5
  go_wp2_with fail
  refine (has_d HE.out s (ascii_word HW.out)).mono ?_
  rintro e w7 ⟨he, hb⟩
  rw [HHAS.out] at he
  subst he
  replace HT := Lib.hid (HT.out.go hb); replace HS := Lib.hid (HS.out.go hb); replace HR := Lib.hid (HR.out.go hb); replace HA := Lib.hid (HA.out.go hb); replace HE := Lib.hid (HE.out.go hb)
  clear hb
  clear HHAS
  obtain ⟨i, hi⟩ : ∃ i, idxF L s = i := ⟨_, rfl⟩
  by_cases h0 : 0 ≤ i
  · have HI := Lib.hid hi
    obtain rfl : M = L := HBN.out (by rw [hi]; exact h0)
    have HBK : Hid (insF (withoutF M s) s = M) := back_yes HD.out (by rw [hi]; exact h0)
    clear hi HBN HBL
    go_wp2_with fail
    refine (rindex_any M _ _ c s w7 HR.out rfl (by omega)).mono ?_
    rintro e w8 ⟨he, hw⟩
    rw [HI.out] at he
    subst he hw
    go_wp2_with fail
    refine (words_d HE.out).mono ?_
    rintro e w9 ⟨a9, c9, rfl, hW, hcw, hb⟩
    replace HT := Lib.hid (HT.out.go hb); replace HS := Lib.hid (HS.out.go hb); replace HA := Lib.hid (HA.out.go hb); replace HE := Lib.hid (HE.out.go hb)
    clear hb
    have HWS := Lib.hid hW; clear hW
    go_wp2_with fail
    refine (without_some M _ a9 c9 s w9 HWS.out rfl (by omega)).mono ?_
    rintro e w10 ⟨b10, o10, c10, rfl, hR, hc10, hb⟩
    replace HT := Lib.hid (HT.out.go hb); replace HS := Lib.hid (HS.out.go hb); replace HA := Lib.hid (HA.out.go hb); replace HE := Lib.hid (HE.out.go hb)
    clear hb
    have HR10 := Lib.hid hR; clear hR HWS
    have hwl := withoutF_len M s
    obtain ⟨T, hT⟩ : ∃ T, withoutF M s = T := ⟨_, rfl⟩
    rw [hT] at HR10 hwl HBK hc10 ⊢
    clear hT
    go_wp2_with fail
    refine (insert_any T _ b10 o10 c10 s w10 HR10.out rfl hc10 (by omega)).mono ?_
    rintro e w11 ⟨b11, o11, c11, rfl, hR, hc11, hb⟩
    replace HT := Lib.hid (HT.out.go hb); replace HS := Lib.hid (HS.out.go hb); replace HA := Lib.hid (HA.out.go hb); replace HE := Lib.hid (HE.out.go hb)
    clear hb
    rw [HBK.out] at hR hc11 ⊢
    have HR11 := Lib.hid hR; clear hR HBK HR10
    go_wp2_with fail
    refine (build_d HD.out HR11.out rfl hc11 HT.out).mono ?_
    rintro e w12 ⟨a12, n12, c12, rfl, hA, hb⟩
    replace HS := Lib.hid (HS.out.go hb); replace HA := Lib.hid (HA.out.go hb); replace HE := Lib.hid (HE.out.go hb)
    clear hb
    have HF := Lib.hid hA; clear hA HT HR11
    have hw0 : IntKind.i64.wrap (M.length : Int) = (M.length : Int) := IntWalk.i64_in _ (by omega)
    go_wp2_with fail
    refine (count_d HE.out _).mono ?_
    rintro e w13 ⟨he, hb⟩
    rw [begN_empty] at he
    subst he
    replace HS := Lib.hid (HS.out.go hb); replace HA := Lib.hid (HA.out.go hb); replace HF := Lib.hid (HF.out.go hb)
    clear hb
    clear HE
    go_wp2_with fail
    refine (count_d HA.out _).mono ?_
    rintro e w14 ⟨he, hb⟩
    rw [begN_empty] at he
    subst he
    replace HS := Lib.hid (HS.out.go hb); replace HA := Lib.hid (HA.out.go hb); replace HF := Lib.hid (HF.out.go hb)
    clear hb
    go_wp2_with fail
    refine (same_d HA.out HF.out).mono ?_
    rintro e w15 ⟨he, hb⟩
    rw [decide_eq_true rfl] at he
    subst he
    replace HS := Lib.hid (HS.out.go hb)
    clear hb
    go_wp2
    go_ret
    exact ⟨rfl, HS.out.out⟩
  · have HI := Lib.hid hi
    obtain ⟨hml2, hbk⟩ := HBL.out (by rw [hi]; omega)
    have HBK := Lib.hid hbk; have HML := Lib.hid hml2
    clear hi HBN HBL hbk hml2
    go_wp2_with fail
    refine (rindex_any L _ _ c s w7 HR.out rfl (by omega)).mono ?_
    rintro e w8 ⟨he, hw⟩
    rw [HI.out] at he
    subst he hw
    go_wp2_with fail
    refine (words_d HE.out).mono ?_
    rintro e w9 ⟨a9, c9, rfl, hW, hcw, hb⟩
    replace HT := Lib.hid (HT.out.go hb); replace HS := Lib.hid (HS.out.go hb); replace HA := Lib.hid (HA.out.go hb); replace HE := Lib.hid (HE.out.go hb)
    clear hb
    have HWS := Lib.hid hW; clear hW
    go_wp2_with fail
    refine (without_some M _ a9 c9 s w9 HWS.out rfl (by omega)).mono ?_
    rintro e w10 ⟨b10, o10, c10, rfl, hR, hc10, hb⟩
    replace HT := Lib.hid (HT.out.go hb); replace HS := Lib.hid (HS.out.go hb); replace HA := Lib.hid (HA.out.go hb); replace HE := Lib.hid (HE.out.go hb)
    clear hb
    rw [HBK.out] at hR hc10 ⊢
    have HR10 := Lib.hid hR; clear hR HWS HBK
    go_wp2_with fail
    refine (build_d HD.out HR10.out rfl hc10 HT.out).mono ?_
    rintro e w12 ⟨a12, n12, c12, rfl, hA, hb⟩
    replace HS := Lib.hid (HS.out.go hb); replace HA := Lib.hid (HA.out.go hb); replace HE := Lib.hid (HE.out.go hb)
    clear hb
    have HF := Lib.hid hA; clear hA HT HR10
    have hw0 : IntKind.i64.wrap ((L.length : Int) + 1) = (M.length : Int) := by rw [IntWalk.i64_in _ (by omega), HML.out]; rfl
    go_wp2_with fail
    refine (count_d HE.out _).mono ?_
    rintro e w13 ⟨he, hb⟩
    rw [begN_empty] at he
    subst he
    replace HS := Lib.hid (HS.out.go hb); replace HA := Lib.hid (HA.out.go hb); replace HF := Lib.hid (HF.out.go hb)
    clear hb
    clear HE
    go_wp2_with fail
    refine (count_d HA.out _).mono ?_
    rintro e w14 ⟨he, hb⟩
    rw [begN_empty] at he
    subst he
    replace HS := Lib.hid (HS.out.go hb); replace HA := Lib.hid (HA.out.go hb); replace HF := Lib.hid (HF.out.go hb)
    clear hb
    go_wp2_with fail
    refine (same_d HA.out HF.out).mono ?_
    rintro e w15 ⟨he, hb⟩
    rw [decide_eq_true rfl] at he
    subst he
    replace HS := Lib.hid (HS.out.go hb)
    clear hb
    go_wp2
    go_ret
    exact ⟨rfl, HS.out.out⟩
end Go.Proofs.YtemdlfbcnnoglaaDoor
