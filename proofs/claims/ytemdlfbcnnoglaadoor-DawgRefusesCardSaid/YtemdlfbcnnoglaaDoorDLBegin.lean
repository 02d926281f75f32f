/- DawgBeginnings: plain, and the walk. -/
import Derived.Test.YtemdlfbcnnoglaaDoorDLPlaces
namespace Go.Proofs.YtemdlfbcnnoglaaDoor
open Go.RowKit Go.WideShapes
set_option linter.unusedVariables false
set_option linter.unusedSimpArgs false

/-! ### plain -/
def sumB (L : List ByteArray) (p : ByteArray) : Nat → Nat
  | 0 => 0
  | n + 1 => sumB L p n + begN L (p ++ ⟨#[UInt8.ofNat n]⟩)
theorem list_one (p : ByteArray) (c : UInt8) : (p ++ ⟨#[c]⟩ : ByteArray).data.toList = p.data.toList ++ [c] := by rw [ByteArray.data_append, Array.toList_append]
theorem begN_cons (x : ByteArray) (L : List ByteArray) (p : ByteArray) : begN (x :: L) p = begN L p + begN [x] p := by
  unfold begN
  rw [List.countP_cons, List.countP_singleton]
theorem begN_one (x p : ByteArray) : begN [x] p = if p.data.toList <+: x.data.toList then 1 else 0 := by
  unfold begN begB
  rw [List.countP_singleton]
  by_cases h : p.data.toList <+: x.data.toList
  · rw [if_pos h, if_pos (List.isPrefixOf_iff_prefix.2 h)]
  · rw [if_neg h, if_neg (fun e => h (List.isPrefixOf_iff_prefix.1 e))]
theorem sumB_cons (x : ByteArray) (L : List ByteArray) (p : ByteArray) : ∀ n, sumB (x :: L) p n = sumB L p n + sumB [x] p n
  | 0 => rfl
  | n + 1 => by rw [sumB, sumB, sumB, sumB_cons x L p n, begN_cons]; omega
theorem sumB_none {x p : ByteArray} (h : ∀ b t, x.data.toList ≠ p.data.toList ++ b :: t) : ∀ n, sumB [x] p n = 0
  | 0 => rfl
  | n + 1 => by
    rw [sumB, sumB_none h n, begN_one, if_neg]
    rintro ⟨t, ht⟩
    rw [list_one, List.append_assoc] at ht
    exact h _ _ ht.symm
theorem sumB_some {x p : ByteArray} {b : UInt8} {t : List UInt8} (h : x.data.toList = p.data.toList ++ b :: t) : ∀ n, n ≤ 256 → sumB [x] p n = if b.toNat < n then 1 else 0
  | 0, _ => rfl
  | n + 1, hn => by
    have hb : (UInt8.ofNat n).toNat = n := by rw [UInt8.toNat_ofNat']; omega
    rw [sumB, sumB_some h n (by omega), begN_one]
    by_cases e : b.toNat = n
    · have e2 : b = UInt8.ofNat n := UInt8.toNat_inj.1 (by rw [hb, e])
      rw [if_neg (by omega), if_pos ⟨t, by rw [list_one, h, e2]; simp⟩, if_pos (by omega)]
    · have h3 : ¬ (p ++ ⟨#[UInt8.ofNat n]⟩ : ByteArray).data.toList <+: x.data.toList := by
        rintro ⟨t2, ht⟩
        rw [list_one, List.append_assoc, h] at ht
        have := List.append_cancel_left ht
        simp only [List.singleton_append, List.cons.injEq] at this
        exact e (by rw [← this.1, hb])
      rw [if_neg h3]
      by_cases h4 : b.toNat < n
      · rw [if_pos h4, if_pos (by omega)]
      · rw [if_neg h4, if_neg (by omega)]
theorem begN_split_one (x p : ByteArray) : begN [x] p = (if x = p then 1 else 0) + sumB [x] p 256 := by
  rw [begN_one]
  by_cases h : p.data.toList <+: x.data.toList
  · rw [if_pos h]
    obtain ⟨t, ht⟩ := h
    cases t with
    | nil =>
      have e : x = p := by
        have : x.data.toList = p.data.toList := by rw [← ht, List.append_nil]
        exact ByteArray.ext (Array.toList_inj.1 this)
      rw [if_pos e, sumB_none fun b t h => ?_]
      have := congrArg List.length h
      rw [e] at this; simp at this
    | cons b t =>
      have hne : x ≠ p := fun e => by
        have := congrArg List.length ht
        rw [e] at this; simp at this
      rw [if_neg hne, sumB_some ht.symm 256 (Nat.le_refl _), if_pos (UInt8.toNat_lt b)]
  · have hne : x ≠ p := fun e => h (e ▸ List.prefix_refl _)
    rw [if_neg h, if_neg hne, sumB_none fun b t e => h ⟨b :: t, e.symm⟩]
theorem begN_split (p : ByteArray) : ∀ L : List ByteArray, begN L p = L.countP (fun x => decide (x = p)) + sumB L p 256
  | [] => by
    have : ∀ n, sumB [] p n = 0 := fun n => by induction n with
      | zero => rfl
      | succ n ih => rw [sumB, ih]; rfl
    rw [this]; rfl
  | x :: L => by
    rw [begN_cons, begN_split p L, begN_split_one, sumB_cons x L p 256, List.countP_cons]
    by_cases e : x = p
    · simp [e]; omega
    · simp [e]; omega
theorem cnt_no {p : ByteArray} {L : List ByteArray} (h : p ∉ L) : L.countP (fun x => decide (x = p)) = 0 :=
  List.countP_eq_zero.2 fun x hx e => h (by have := of_decide_eq_true e; exact this ▸ hx)
theorem cnt_yes {p : ByteArray} : ∀ {L : List ByteArray}, L.Nodup → p ∈ L → L.countP (fun x => decide (x = p)) = 1
  | x :: L, hn, hm => by
    obtain ⟨h1, h2⟩ := List.nodup_cons.1 hn
    rw [List.countP_cons]
    by_cases e : x = p
    · subst e
      rw [cnt_no h1]; simp
    · rw [cnt_yes h2 ((List.mem_cons.1 hm).resolve_left fun h => e h.symm)]; simp [e]
theorem count_dict {L : List ByteArray} (h : Dict L) (p : ByteArray) : L.countP (fun x => decide (x = p)) = if decide (0 ≤ idxF L p) = true then 1 else 0 := by
  have hnd : L.Nodup := h.sorted.imp fun {a b} hab e => by rw [e, ltS_irr] at hab; cases hab
  by_cases hm : p ∈ L
  · rw [if_pos (decide_eq_true (idxF_mem.2 hm)), cnt_yes hnd hm]
  · rw [if_neg (fun e => hm (idxF_mem.1 (of_decide_eq_true e))), cnt_no hm]
theorem sumB_le (L : List ByteArray) (p : ByteArray) : ∀ n, sumB L p n ≤ n * L.length
  | 0 => by simp [sumB]
  | n + 1 => by have := sumB_le L p n; have := begN_le L (p ++ ⟨#[UInt8.ofNat n]⟩); rw [sumB, Nat.add_mul]; omega
theorem begN_empty (L : List ByteArray) : begN L ⟨#[]⟩ = L.length := by
  unfold begN begB
  rw [List.countP_eq_length]
  intro x _; rfl

/-! ### the walk -/
theorem conv_one (c : Nat) (hc : c < 256) (w : World) : (convert 23 9 (.slice (some ⟨w.heap.size, 0, none⟩) 1 1)).run Tryd.prog (w.alloc (.cells #[.int .u8 (c : Int)] 5)) = .ok (.string ⟨#[UInt8.ofNat c]⟩) (w.alloc (.cells #[.int .u8 (c : Int)] 5)) := by
  have hn : (UInt8.ofNat c).toNat = c := by rw [UInt8.toNat_ofNat']; omega
  have hbr : ByteR (w.alloc (.cells #[.int .u8 (c : Int)] 5)) (some ⟨w.heap.size, 0, none⟩) [UInt8.ofNat c] := .inr ⟨_, _, rfl, heap_alloc_new w _, by simp [hn]⟩
  exact conv_bytes hbr 1
set_option maxHeartbeats 1600000 in
set_option maxRecDepth 100000 in
theorem dawgBeginnings_view (xl : BytsA) (y : BytA) (n : Int) (w : World) (hx : BytsOk w xl) (hy : BytOk w y) (hn0 : 0 ≤ n) (hn1 : n ≤ 255) (hT : Tab w) :
    Calls Tryd.prog 7 #[xl.val, y.val, .int .u8 n] w fun e w' => e = .returned (.bool true) ∧ Below w.heap.size w w' := by
  obtain ⟨a, len, cap, Q⟩ := xl
  obtain ⟨ax, lx, cx, Z⟩ := y
  obtain ⟨hQ, hl⟩ := hx
  obtain ⟨hZ, hlx⟩ := hy
  simp only at hQ hl hZ hlx
  have hs0 := Since.refl w
  have HQ := Lib.hid hQ; have HZ := Lib.hid hZ; have HT := Lib.hid hT; have HS := Lib.hid hs0
  clear hQ hZ hT hs0
  show Calls Tryd.prog 7 #[.slice a len cap, .slice ax lx cx, .int .u8 n] w _
  go_enter Tryd.func7, Tryd.ntmps7
  go_wp2_with fail
  refine (sanity_any w HT.out).mono ?_
  rintro e w1 ⟨rfl, hb⟩
  replace HQ := Lib.hid (HQ.out.go hb); replace HZ := Lib.hid (HZ.out.go hb); replace HS := Lib.hid (HS.out.go hb)
  clear hb
  clear HT
  go_wp2_with fail
  refine (made_d 14 14 rfl (by decide) (by decide) HQ.out hl).mono ?_
  rintro e w2 ⟨L, b, o, c, -, rfl, hd, hm2, -, hc, hR, hb⟩
  replace HZ := Lib.hid (HZ.out.go hb); replace HS := Lib.hid (HS.out.go hb)
  clear hb
  have HR := Lib.hid hR; have HD := Lib.hid hd; clear hR hd HQ
  go_wp2_with fail
  refine (of_d HD.out HR.out rfl hc).mono ?_
  rintro e w3 ⟨a3, n3, c3, rfl, hA, hb⟩
  replace HZ := Lib.hid (HZ.out.go hb); replace HS := Lib.hid (HS.out.go hb)
  clear hb
  have HA := Lib.hid hA; clear hA HR
  go_wp2_with fail
  refine (mkWord_any Z ax lx cx w3 HZ.out hlx).mono ?_
  rintro e w4 ⟨rfl, hb⟩
  replace HS := Lib.hid (HS.out.go hb); replace HA := Lib.hid (HA.out.go hb)
  clear hb
  clear HZ
  obtain ⟨s, hs⟩ : ∃ s, wordF Z lx = s := ⟨_, rfl⟩
  have HW : Hid (wordB s = true) := by show _; rw [← hs]; exact (wordF_ok Z lx).1
  have hsz : s.size ≤ 4 := by rw [← hs]; exact (wordF_ok Z lx).2.1
  rw [hs]; clear hs
  have hwn : IntKind.i64.wrap n = n := IntWalk.i64_in n (by omega)
  have hw1 : IntKind.i64.wrap ((s.size : Int) + 1) = (s.size : Int) + 1 := IntWalk.i64_in _ (by omega)
  obtain ⟨k, hk⟩ : ∃ k : Nat, n.tmod ((s.size : Int) + 1) = (k : Int) := ⟨(n.tmod ((s.size : Int) + 1)).toNat, by have := Int.tmod_nonneg ((s.size : Int) + 1) hn0; omega⟩
  have hks : k ≤ s.size := by have := Int.tmod_lt_of_pos n (show (0 : Int) < (s.size : Int) + 1 by omega); omega
  have hwk : IntKind.i64.wrap (k : Int) = (k : Int) := IntWalk.i64_in _ (by omega)
  have hne : ¬ (s.size : Int) + 1 = 0 := by omega
  have hsl := str_to s k hks
  obtain ⟨p, hp⟩ : ∃ p, s.extract 0 k = p := ⟨_, rfl⟩
  have HP : Hid (Ascii p ∧ p.size ≤ 4) := by
    show _ ∧ _
    rw [← hp]; exact ⟨ascii_extract HW.out k, by rw [ByteArray.size_extract]; omega⟩
  rw [hp] at hsl
  clear hp
  go_wp2_with fail
  refine (has_d HA.out p HP.out.1).mono ?_
  rintro e w5 ⟨rfl, hb⟩
  replace HS := Lib.hid (HS.out.go hb); replace HA := Lib.hid (HA.out.go hb)
  clear hb hsl hwn hw1 hk hwk hne
  have HC := Lib.hid (count_dict HD.out p)
  have HSP := Lib.hid (begN_split p L)
  have HPS := Lib.hid HP.out.2
  obtain ⟨q, hq⟩ : ∃ q, decide (0 ≤ idxF L p) = q := ⟨_, rfl⟩
  obtain ⟨u, hu⟩ : ∃ u : Nat, L.countP (fun x => decide (x = p)) = u := ⟨_, rfl⟩
  rw [hq]
  rw [hq, hu] at HC
  rw [hu] at HSP
  clear hq hu
  cases q with
  | true =>
    have hu : u = 1 := HC.out
    subst hu
    go_wp2
    go_loopw [13, 12] (fun i v wr => ∃ k : Nat, k ≤ 256 ∧ i = .int .i64 (k : Int) ∧ v = .int .i64 ((1 + sumB L p k : Nat) : Int) ∧ Since w5 wr) (fun i _ _ => 256 - (intOf i).toNat)
    case atStart => exact ⟨0, Nat.zero_le _, rfl, rfl, Since.refl _⟩
    case round =>
      obtain ⟨k, hk, rfl, rfl, hB⟩ := hrel
      have HSr := Lib.hid (HS.out.go hB.out); have HAr := Lib.hid (HA.out.go hB.out)
      have HBr := Lib.hid hB
      clear hB
      have hsb := sumB_le L p k
      have hsb2 : k * L.length ≤ 256 * 14 := Nat.mul_le_mul hk hm2
      by_cases hlt : k < 256
      · have hcv := conv_one k hlt wr
        have hwc : IntKind.u8.wrap (k : Int) = (k : Int) := IntWalk.u8_in _ (by omega)
        obtain ⟨G, hG⟩ : ∃ G, begN L (p ++ ⟨#[UInt8.ofNat k]⟩) = G := ⟨_, rfl⟩
        have hGl : G ≤ 14 := by rw [← hG]; exact Nat.le_trans (begN_le _ _) hm2
        have HSU : Hid (1 + sumB L p (k + 1) = 1 + sumB L p k + G) := by show _ = _; rw [sumB, hG]; omega
        obtain ⟨S, hS⟩ : ∃ S, 1 + sumB L p k = S := ⟨_, rfl⟩
        have hSl : S ≤ 4000 := by omega
        rw [hS] at HSU ⊢
        have HG := Lib.hid hG
        clear hG hS hsb hsb2
        have hws : IntKind.i64.wrap ((S : Int) + (G : Int)) = ((S + G : Nat) : Int) := by rw [IntWalk.i64_in _ (by omega)]; omega
        have hps := HPS.out
        have hal : Below wr.heap.size wr (wr.alloc (.cells #[.int .u8 (k : Int)] 5)) := (Below.refl _ _).alloc (Nat.le_refl _) _
        replace HAr := Lib.hid (HAr.out.go hal); replace HBr := Lib.hid (HBr.out.go hal)
        clear hal
        go_wp2_with fail
        refine (count_d HAr.out _).mono ?_
        rintro e v1 ⟨he, hb⟩
        rw [HG.out] at he
        subst he
        replace HBr := Lib.hid (HBr.out.go hb)
        clear hb hcv
        go_wp2
        go_roundw
        case rel => exact ⟨k + 1, by omega, by go_num, by rw [HSU.out]; exact congrArg (Value.int .i64) (Int.natCast_add S G).symm, HBr.out⟩
        case measure => simp [intOf]; omega
      · obtain rfl : k = 256 := by omega
        clear hsb hsb2
        go_wp2_with fail
        refine (count_d HAr.out p).mono ?_
        rintro e v1 ⟨he, hb⟩
        rw [HSP.out] at he
        subst he
        replace HAr := Lib.hid (HAr.out.go hb); replace HSr := Lib.hid (HSr.out.go hb)
        clear hb
        obtain ⟨N, hN⟩ : ∃ N, 1 + sumB L p 256 = N := ⟨_, rfl⟩
        rw [hN]
        clear hN
        go_wp2_with fail
        refine (count_d HAr.out _).mono ?_
        rintro e v2 ⟨he, hb⟩
        rw [begN_empty] at he
        subst he
        replace HSr := Lib.hid (HSr.out.go hb)
        clear hb
        go_wp2
        go_ret
        exact ⟨rfl, HSr.out.out⟩
  | false =>
    have hu : u = 0 := HC.out
    subst hu
    go_wp2
    go_loopw [13, 12] (fun i v wr => ∃ k : Nat, k ≤ 256 ∧ i = .int .i64 (k : Int) ∧ v = .int .i64 ((0 + sumB L p k : Nat) : Int) ∧ Since w5 wr) (fun i _ _ => 256 - (intOf i).toNat)
    case atStart => exact ⟨0, Nat.zero_le _, rfl, rfl, Since.refl _⟩
    case round =>
      obtain ⟨k, hk, rfl, rfl, hB⟩ := hrel
      have HSr := Lib.hid (HS.out.go hB.out); have HAr := Lib.hid (HA.out.go hB.out)
      have HBr := Lib.hid hB
      clear hB
      have hsb := sumB_le L p k
      have hsb2 : k * L.length ≤ 256 * 14 := Nat.mul_le_mul hk hm2
      by_cases hlt : k < 256
      · have hcv := conv_one k hlt wr
        have hwc : IntKind.u8.wrap (k : Int) = (k : Int) := IntWalk.u8_in _ (by omega)
        obtain ⟨G, hG⟩ : ∃ G, begN L (p ++ ⟨#[UInt8.ofNat k]⟩) = G := ⟨_, rfl⟩
        have hGl : G ≤ 14 := by rw [← hG]; exact Nat.le_trans (begN_le _ _) hm2
        have HSU : Hid (0 + sumB L p (k + 1) = 0 + sumB L p k + G) := by show _ = _; rw [sumB, hG]; omega
        obtain ⟨S, hS⟩ : ∃ S, 0 + sumB L p k = S := ⟨_, rfl⟩
        have hSl : S ≤ 4000 := by omega
        rw [hS] at HSU ⊢
        have HG := Lib.hid hG
        clear hG hS hsb hsb2
        have hws : IntKind.i64.wrap ((S : Int) + (G : Int)) = ((S + G : Nat) : Int) := by rw [IntWalk.i64_in _ (by omega)]; omega
        have hps := HPS.out
        have hal : Below wr.heap.size wr (wr.alloc (.cells #[.int .u8 (k : Int)] 5)) := (Below.refl _ _).alloc (Nat.le_refl _) _
        replace HAr := Lib.hid (HAr.out.go hal); replace HBr := Lib.hid (HBr.out.go hal)
        clear hal
        go_wp2_with fail
        refine (count_d HAr.out _).mono ?_
        rintro e v1 ⟨he, hb⟩
        rw [HG.out] at he
        subst he
        replace HBr := Lib.hid (HBr.out.go hb)
        clear hb hcv
        go_wp2
        go_roundw
        case rel => exact ⟨k + 1, by omega, by go_num, by rw [HSU.out]; exact congrArg (Value.int .i64) (Int.natCast_add S G).symm, HBr.out⟩
        case measure => simp [intOf]; omega
      · obtain rfl : k = 256 := by omega
        clear hsb hsb2
        go_wp2_with fail
        refine (count_d HAr.out p).mono ?_
        rintro e v1 ⟨he, hb⟩
        rw [HSP.out] at he
        subst he
        replace HAr := Lib.hid (HAr.out.go hb); replace HSr := Lib.hid (HSr.out.go hb)
        clear hb
        obtain ⟨N, hN⟩ : ∃ N, 0 + sumB L p 256 = N := ⟨_, rfl⟩
        rw [hN]
        clear hN
        go_wp2_with fail
        refine (count_d HAr.out _).mono ?_
        rintro e v2 ⟨he, hb⟩
        rw [begN_empty] at he
        subst he
        replace HSr := Lib.hid (HSr.out.go hb)
        clear hb
        go_wp2
        go_ret
        exact ⟨rfl, HSr.out.out⟩
end Go.Proofs.YtemdlfbcnnoglaaDoor
