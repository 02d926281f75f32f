/- The fixed examples: plain values. -/
import Derived.Test.YtemdlfbcnnoglaaDoorDVis
namespace Go.Proofs.YtemdlfbcnnoglaaDoor
open Go.RowKit Go.WideShapes
set_option linter.unusedVariables false
set_option linter.unusedSimpArgs false

def sA : ByteArray := ⟨#[97]⟩
def sAB : ByteArray := ⟨#[97, 98]⟩
def sB : ByteArray := ⟨#[98]⟩
def L1 : List ByteArray := [sA]
def L2 : List ByteArray := [sAB, sB]
def L3 : List ByteArray := [sA, sAB, sB]
def D1 : List Nd := [⟨false, [⟨97, 1⟩]⟩, ⟨true, []⟩]
def D2 : List Nd := [⟨false, [⟨97, 1⟩, ⟨98, 2⟩]⟩, ⟨false, [⟨98, 2⟩]⟩, ⟨true, []⟩]
def D3 : List Nd := [⟨false, [⟨97, 1⟩, ⟨98, 2⟩]⟩, ⟨true, [⟨98, 2⟩]⟩, ⟨true, []⟩]
theorem dict_mk {L : List ByteArray} (h1 : 1 ≤ L.length) (h2 : L.length ≤ 200) (h3 : (List.range L.length).all (fun i => wordB (L.getD i ⟨#[]⟩) && (i == 0 || Op.bytesLess (L.getD (i - 1) ⟨#[]⟩).data.toList (L.getD i ⟨#[]⟩).data.toList)) = true) : Dict L := by
  refine ⟨h1, h2, fun i hi _ => ?_⟩
  have h := List.all_eq_true.1 h3 i (List.mem_range.2 hi)
  rw [List.getD_eq_getElem?_getD, List.getElem?_eq_getElem hi] at h
  simp only [Option.getD_some, Bool.and_eq_true, Bool.or_eq_true, beq_iff_eq] at h
  refine ⟨h.1, fun h0 => ?_⟩
  rcases h.2 with h' | h'
  · omega
  · rw [List.getD_eq_getElem?_getD, List.getElem?_eq_getElem (by omega)] at h'
    rw [ltS, ByteArray.toList_eq, ByteArray.toList_eq]
    exact h'
theorem dict1 : Dict L1 := dict_mk (by decide) (by decide) (by kernel_rfl)
theorem dict2 : Dict L2 := dict_mk (by decide) (by decide) (by kernel_rfl)
theorem dict3 : Dict L3 := dict_mk (by decide) (by decide) (by kernel_rfl)
theorem of1 : ofF (restAt 0 L1) = D1 := by kernel_rfl
theorem of2 : ofF (restAt 0 L2) = D2 := by kernel_rfl
theorem of3 : ofF (restAt 0 L3) = D3 := by kernel_rfl
theorem not_dict4 : ¬ Dict [sB, sA] := fun h => by
  have := (h.2.2 1 (by decide) (by decide)).2 (by decide)
  rw [ltS, ByteArray.toList_eq, ByteArray.toList_eq] at this
  revert this
  decide
theorem not_dict5 : ¬ Dict [] := fun h => by have := h.1; simp at this
theorem words3 : wordsF D3 = L3 := by rw [← of3]; exact words_of dict3
theorem valid3 : validF D3 = true := by rw [← of3]; exact valid_of dict3
theorem valid0 : validF [] = false := validF_no fun h => by
  have h2 := h.1.1
  have e : (visitL [] 22 0 []).1 = [(⟨#[]⟩, false)] := by kernel_rfl
  rw [e] at h2
  have := h2 _ (List.mem_singleton.2 rfl)
  cases this
theorem valid_t : validF [⟨true, []⟩] = false := validF_no fun h => by
  have e : (visitL [⟨true, []⟩] 22 0 []).1 = [(⟨#[]⟩, true)] := by kernel_rfl
  rw [e] at h
  have h2 := (h.2.1.2.2 0 (by decide) (by decide)).1
  revert h2
  decide
theorem cs3 : CsOk D3 := by
  intro i hi x hx
  have : i = 0 ∨ i = 1 ∨ i = 2 := by simp [D3] at hi; omega
  rcases this with rfl | rfl | rfl
  · simp [D3] at hx; rcases hx with rfl | rfl <;> decide
  · simp [D3] at hx; subst hx; decide
  · simp [D3] at hx
theorem cs0 : CsOk [] := fun i hi => by simp at hi
theorem cs_t : CsOk [⟨true, []⟩] := by
  intro i hi x hx
  obtain rfl : i = 0 := by simp at hi; omega
  simp at hx
theorem strS_row {w : World} {g : Nat} {cs : Array Value} {t : TypeId} {fz : Nat × Nat} {L : List ByteArray} (h : w.heap[g]? = some (.cells cs t fz)) (hcs : cs.toList = L.map Value.string) : StrS w (some ⟨g, 0, none⟩) L := fun k hk => by
  refine ⟨g, 0, rfl, (Array.getElem?_eq_some_iff.1 h).1, ?_⟩
  rw [cell_of_row _ _ _ _ _ _ h, ← Array.getElem?_toList, hcs]
  simp [hk]
theorem arcS_row {w : World} {g : Nat} {cs : Array Value} {t : TypeId} {fz : Nat × Nat} {X : List Ar} (h : w.heap[g]? = some (.cells cs t fz)) (hcs : cs.toList = X.flatMap fun x => [Value.int .u8 x.c, Value.int .i64 x.t]) : ArcS w (some ⟨g, 0, none⟩) X := fun k hk => by
  refine ⟨g, 0, rfl, (Array.getElem?_eq_some_iff.1 h).1, ?_, ?_⟩
  · have h1 := flat_get rowArc_ok (L := X) (i := k) (j := 0) hk (by decide)
    rw [cell_of_row _ _ _ _ _ _ h, ← Array.getElem?_toList, hcs, Nat.zero_add]
    exact h1
  · have h1 := flat_get rowArc_ok (L := X) (i := k) (j := 1) hk (by decide)
    rw [Nat.zero_add, cell_of_row _ _ _ _ _ _ h, ← Array.getElem?_toList, hcs]
    exact h1
theorem dawgS_row {w : World} {g : Nat} {cs : Array Value} {t : TypeId} {fz : Nat × Nat} {D : List Nd} {N : List NV} (h : w.heap[g]? = some (.cells cs t fz)) (hcs : cs.toList = N.flatMap rowNode.enc) (hl : N.length = D.length)
    (hN : ∀ k (hk : k < D.length), N[k].fin = D[k].fin ∧ N[k].n = D[k].arcs.length ∧ D[k].arcs.length ≤ 1000 ∧ ArcS w N[k].a D[k].arcs) : DawgS w (some ⟨g, 0, none⟩) D := fun k hk => by
  have hkN : k < N.length := by rw [hl]; exact hk
  obtain ⟨a1, a2, a3, a4⟩ := hN k hk
  refine ⟨g, 0, rfl, (Array.getElem?_eq_some_iff.1 h).1, ?_, N[k].a, N[k].c, ?_, by omega, a4⟩
  · have h1 := flat_get rowNode_ok (L := N) (i := k) (j := 0) hkN (by decide)
    rw [cell_of_row _ _ _ _ _ _ h, ← Array.getElem?_toList, hcs, Nat.zero_add, ← a1]
    exact h1
  · have h1 := flat_get rowNode_ok (L := N) (i := k) (j := 1) hkN (by decide)
    rw [Nat.zero_add, cell_of_row _ _ _ _ _ _ h, ← Array.getElem?_toList, hcs, ← a2]
    exact h1
/-- several new blocks -/
def pushAll : World → List Obj → World
  | w, [] => w
  | w, o :: os => pushAll (w.alloc o) os
theorem pushAll_below : ∀ (os : List Obj) (w : World), Below w.heap.size w (pushAll w os)
  | [], w => Below.refl _ _
  | o :: os, w => by
    have h : Below w.heap.size w (w.alloc o) := (Below.refl _ _).alloc (Nat.le_refl _) _
    exact h.trans ((pushAll_below os (w.alloc o)).mono h.size)
theorem pushAll_at : ∀ (os : List Obj) (w : World) (k : Nat), k < os.length → (pushAll w os).heap[w.heap.size + k]? = os[k]?
  | [], _, _, h => by simp at h
  | o :: os, w, 0, _ => by
    have h := (pushAll_below os (w.alloc o)).block w.heap.size (by simp)
    show (pushAll (w.alloc o) os).heap[w.heap.size]? = some o
    rw [h]; exact heap_alloc_new _ _
  | o :: os, w, k + 1, h => by
    have := pushAll_at os (w.alloc o) k (by simpa using h)
    rw [World.size_alloc] at this
    show (pushAll (w.alloc o) os).heap[w.heap.size + (k + 1)]? = os[k]?
    rw [← this]
    congr 1; omega
def exO (n : Nat) : List Obj := [.cells #[.int .u8 97, .int .i64 1] 51, .cells #[.bool false, .slice (some ⟨n, 0, none⟩) 1 1, .bool true, .slice none 0 0] 47,
  .cells #[.int .u8 97, .int .i64 1, .int .u8 98, .int .i64 2] 51, .cells #[.int .u8 98, .int .i64 2] 51,
  .cells #[.bool false, .slice (some ⟨n + 1 + 1, 0, none⟩) 2 2, .bool false, .slice (some ⟨n + 1 + 1 + 1, 0, none⟩) 1 1, .bool true, .slice none 0 0] 47,
  .cells #[.int .u8 98, .int .i64 2] 51,
  .cells #[.bool false, .slice (some ⟨n + 1 + 1, 0, none⟩) 2 2, .bool true, .slice (some ⟨n + 1 + 1 + 1 + 1 + 1, 0, none⟩) 1 1, .bool true, .slice none 0 0] 47]
theorem ex_dawgs (w : World) : DawgS (pushAll w (exO w.heap.size)) (some ⟨w.heap.size + 1, 0, none⟩) D1 ∧ DawgS (pushAll w (exO w.heap.size)) (some ⟨w.heap.size + 1 + 1 + 1 + 1, 0, none⟩) D2 ∧ DawgS (pushAll w (exO w.heap.size)) (some ⟨w.heap.size + 1 + 1 + 1 + 1 + 1 + 1, 0, none⟩) D3 := by
  have h := pushAll_at (exO w.heap.size) w
  have h0 := h 0 (Nat.lt_of_sub_pos (by decide : 0 < 7 - 0)); have h1 := h 1 (Nat.lt_of_sub_pos (by decide : 0 < 7 - 1)); have h2 := h 2 (Nat.lt_of_sub_pos (by decide : 0 < 7 - 2)); have h3 := h 3 (Nat.lt_of_sub_pos (by decide : 0 < 7 - 3)); have h4 := h 4 (Nat.lt_of_sub_pos (by decide : 0 < 7 - 4)); have h5 := h 5 (Nat.lt_of_sub_pos (by decide : 0 < 7 - 5)); have h6 := h 6 (Nat.lt_of_sub_pos (by decide : 0 < 7 - 6))
  obtain ⟨W, hW⟩ : ∃ W, pushAll w (exO w.heap.size) = W := ⟨_, rfl⟩
  rw [hW] at h0 h1 h2 h3 h4 h5 h6 ⊢
  clear h hW
  obtain ⟨n, hn⟩ : ∃ n, w.heap.size = n := ⟨_, rfl⟩
  rw [hn] at h0 h1 h2 h3 h4 h5 h6 ⊢
  have a0 : ArcS W (some ⟨n, 0, none⟩) [⟨97, 1⟩] := arcS_row h0 rfl
  have a2 : ArcS W (some ⟨n + 1 + 1, 0, none⟩) [⟨97, 1⟩, ⟨98, 2⟩] := arcS_row h2 rfl
  have a3 : ArcS W (some ⟨n + 1 + 1 + 1, 0, none⟩) [⟨98, 2⟩] := arcS_row h3 rfl
  have a5 : ArcS W (some ⟨n + 1 + 1 + 1 + 1 + 1, 0, none⟩) [⟨98, 2⟩] := arcS_row h5 rfl
  refine ⟨dawgS_row (N := [⟨false, some ⟨n, 0, none⟩, 1, 1⟩, ⟨true, none, 0, 0⟩]) h1 rfl rfl fun k hk => ?_, dawgS_row (N := [⟨false, some ⟨n + 1 + 1, 0, none⟩, 2, 2⟩, ⟨false, some ⟨n + 1 + 1 + 1, 0, none⟩, 1, 1⟩, ⟨true, none, 0, 0⟩]) h4 rfl rfl fun k hk => ?_,
    dawgS_row (N := [⟨false, some ⟨n + 1 + 1, 0, none⟩, 2, 2⟩, ⟨true, some ⟨n + 1 + 1 + 1 + 1 + 1, 0, none⟩, 1, 1⟩, ⟨true, none, 0, 0⟩]) h6 rfl rfl fun k hk => ?_⟩
  · have : k = 0 ∨ k = 1 := by simp [D1] at hk; omega
    rcases this with rfl | rfl
    · exact ⟨rfl, rfl, Nat.le_of_ble_eq_true rfl, a0⟩
    · exact ⟨rfl, rfl, Nat.le_of_ble_eq_true rfl, ArcS.nil _ _⟩
  · have : k = 0 ∨ k = 1 ∨ k = 2 := by simp [D2] at hk; omega
    rcases this with rfl | rfl | rfl
    · exact ⟨rfl, rfl, Nat.le_of_ble_eq_true rfl, a2⟩
    · exact ⟨rfl, rfl, Nat.le_of_ble_eq_true rfl, a3⟩
    · exact ⟨rfl, rfl, Nat.le_of_ble_eq_true rfl, ArcS.nil _ _⟩
  · have : k = 0 ∨ k = 1 ∨ k = 2 := by simp [D3] at hk; omega
    rcases this with rfl | rfl | rfl
    · exact ⟨rfl, rfl, Nat.le_of_ble_eq_true rfl, a2⟩
    · exact ⟨rfl, rfl, Nat.le_of_ble_eq_true rfl, a5⟩
    · exact ⟨rfl, rfl, Nat.le_of_ble_eq_true rfl, ArcS.nil _ _⟩
theorem at3_1 : atV (wordsF D3) 1 = .tuple #[.string ⟨#[97, 98]⟩, .int .i64 0] := by rw [words3]; kernel_rfl
theorem at3_3 : atV (wordsF D3) 3 = .tuple #[.string ⟨#[]⟩, .int .i64 90] := by rw [words3]; kernel_rfl
theorem ix3_1 : idxF (wordsF D3) ⟨#[97, 98]⟩ = 1 := by rw [words3]; decide
theorem ix3_n : idxF (wordsF D3) ⟨#[98, 98]⟩ = -1 := by rw [words3]; decide
theorem ct3_2 : ((begN (wordsF D3) ⟨#[97]⟩ : Nat) : Int) = 2 := by rw [words3]; decide
theorem ct3_3 : ((begN (wordsF D3) ⟨#[]⟩ : Nat) : Int) = 3 := by rw [words3]; decide
theorem ct3_0 : ((begN (wordsF D3) ⟨#[99]⟩ : Nat) : Int) = 0 := by rw [words3]; decide
theorem hs3_b : hasB D3 ⟨#[98]⟩ = true := by decide
theorem hs3_e : hasB D3 ⟨#[]⟩ = false := by decide
theorem asc_lit {s : ByteArray} (h : s.data.toList.all (fun c => decide (c.toNat < 128)) = true) : Ascii s := fun c hc => by simpa using List.all_eq_true.1 h c hc
end Go.Proofs.YtemdlfbcnnoglaaDoor
/- The fixed examples: the walk. -/
namespace Go.Proofs.YtemdlfbcnnoglaaDoor
open Go.RowKit Go.WideShapes
set_option linter.unusedVariables false
set_option linter.unusedSimpArgs false

theorem build_lit {L : List ByteArray} {D : List Nd} {w : World} {n : Nat} (hd : Dict L) (ho : ofF (restAt 0 L) = D) (hn : n = L.length) (cs : Array Value) (hcs : cs.toList = L.map Value.string) (hT : Tab w) :
    Calls Tryd.prog 13 #[.slice (some ⟨w.heap.size, 0, none⟩) n n] (w.alloc (.cells cs 9)) fun e w' => ∃ a c, e = .returned (.tuple #[.slice a D.length c, .int .i64 0]) ∧ DawgS w' a D ∧ Below w.heap.size w w' := by
  have hx : Below w.heap.size w (w.alloc (.cells cs 9)) := (Below.refl _ _).alloc (Nat.le_refl _) _
  refine (build_yes L n (some ⟨w.heap.size, 0, none⟩) n (w.alloc (.cells cs 9)) (strS_row (heap_alloc_new _ _) hcs) hn (by have := hd.2.1; omega) (Nat.le_refl _) (hT.later hx) hd).mono ?_
  rintro e w1 ⟨a, c, rfl, _, _, h2, h3⟩
  rw [ho] at h2 ⊢
  exact ⟨a, c, rfl, h2, hx.trans (h3.mono hx.size)⟩
theorem build_litn {L : List ByteArray} {w : World} {n : Nat} (hd : ¬ Dict L) (hn : n = L.length) (hl : n ≤ 1000) (cs : Array Value) (hcs : cs.toList = L.map Value.string) (hT : Tab w) :
    Calls Tryd.prog 13 #[.slice (some ⟨w.heap.size, 0, none⟩) n n] (w.alloc (.cells cs 9)) fun e w' => e = .returned (.tuple #[.slice none 0 0, .int .i64 90]) ∧ Below w.heap.size w w' := by
  have hx : Below w.heap.size w (w.alloc (.cells cs 9)) := (Below.refl _ _).alloc (Nat.le_refl _) _
  refine (build_no L n (some ⟨w.heap.size, 0, none⟩) n (w.alloc (.cells cs 9)) (strS_row (heap_alloc_new _ _) hcs) hn (by omega) (Nat.le_refl _) (hT.later hx) hd).mono ?_
  rintro e w1 ⟨rfl, h3⟩
  exact ⟨rfl, hx.trans (h3.mono hx.size)⟩
theorem build_nil {w : World} (hT : Tab w) : Calls Tryd.prog 13 #[.slice none 0 0] w fun e w' => e = .returned (.tuple #[.slice none 0 0, .int .i64 90]) ∧ Below w.heap.size w w' := build_no [] 0 none 0 w (StrS.nil _ _) rfl (by omega) (Nat.le_refl _) hT not_dict5
set_option maxHeartbeats 1600000 in
set_option maxRecDepth 100000 in
theorem sanity_any (w : World) (hT : Tab w) : Calls Tryd.prog 11 #[] w fun e w' => e = .returned (.bool true) ∧ Below w.heap.size w w' := by
  have HT := Lib.hid hT; clear hT
  go_enter Tryd.func11, Tryd.ntmps11
  go_wp2_with fail
  refine (build_lit dict1 of1 rfl _ rfl HT.out).mono ?_
  rintro e w1 ⟨a1, c1, rfl, h, hb⟩
  have HD1 := Lib.hid h; have HB1 := Lib.hid hb; have HT1 := Lib.hid (HT.out.later hb); clear h hb
  go_wp2_with fail
  refine (build_lit dict2 of2 rfl _ rfl HT1.out).mono ?_
  rintro e w2 ⟨a2, c2, rfl, h, hb⟩
  have HD2 := Lib.hid h; have HB2 := Lib.hid hb; have HT2 := Lib.hid (HT1.out.later hb); clear h hb
  go_wp2_with fail
  refine (build_lit dict3 of3 rfl _ rfl HT2.out).mono ?_
  rintro e w3 ⟨a3, c3, rfl, h, hb⟩
  have HD3 := Lib.hid h; have HB3 := Lib.hid hb; have HT3 := Lib.hid (HT2.out.later hb); clear h hb
  go_wp2_with fail
  refine (build_litn not_dict4 rfl (by decide) _ rfl HT3.out).mono ?_
  rintro e w4 ⟨rfl, hb⟩
  have HB4 := Lib.hid hb; have HT4 := Lib.hid (HT3.out.later hb); clear hb
  go_wp2_with fail
  refine (build_nil HT4.out).mono ?_
  rintro e w5 ⟨rfl, hb⟩
  have HB5 := Lib.hid hb; have HT5 := Lib.hid (HT4.out.later hb); clear hb
  go_upto_region 9 with fail
  change Code.wp _ _ _ _ (pushAll w5 (exO w5.heap.size))
  have hE := ex_dawgs w5
  have hx6 := pushAll_below (exO w5.heap.size) w5
  obtain ⟨w6, hw6⟩ : ∃ w6, pushAll w5 (exO w5.heap.size) = w6 := ⟨_, rfl⟩
  rw [hw6] at hE hx6 ⊢
  clear hw6
  obtain ⟨hE1, hE2, hE3⟩ := hE
  have HE1 := Lib.hid hE1; have HE2 := Lib.hid hE2; have HE3 := Lib.hid hE3; have HB6 := Lib.hid hx6
  have HT6 := Lib.hid (HT5.out.later hx6)
  clear hE1 hE2 hE3 hx6
  have B56 : Hid (Below w1.heap.size w1 w6) := by
    have z1 := HB2.out.size; have z2 := HB3.out.size; have z3 := HB4.out.size; have z4 := HB5.out.size
    exact HB2.out.trans ((HB3.out.mono (by omega)).trans ((HB4.out.mono (by omega)).trans ((HB5.out.mono (by omega)).trans (HB6.out.mono (by omega)))))
  have B36 : Hid (Below w3.heap.size w3 w6) := by
    have z3 := HB4.out.size; have z4 := HB5.out.size
    exact HB4.out.trans ((HB5.out.mono (by omega)).trans (HB6.out.mono (by omega)))
  have B26 : Hid (Below w2.heap.size w2 w6) := by
    have z2 := HB3.out.size
    exact HB3.out.trans (B36.out.mono (by omega))
  have q1 := Lib.hid (HD1.out.later B56.out (Nat.le_refl _)); have q2 := Lib.hid (HD2.out.later B26.out (Nat.le_refl _)); have q3 := Lib.hid (HD3.out.later B36.out (Nat.le_refl _))
  have BW6 : Hid (Below w.heap.size w w6) := HB1.out.trans (B56.out.mono HB1.out.size)
  clear HB1 HB2 HB3 HB4 HB5 HB6 HD1 HD2 HD3 HT HT1 HT2 HT3 HT4 HT5 B56 B26 B36
  go_wp2_with fail
  refine (rsame_any D1 D1 a1 _ _ 2 c1 2 w6 q1.out HE1.out rfl rfl (by decide) (by decide)).mono ?_
  rintro e w7 ⟨rfl, hb⟩
  rw [decide_eq_true rfl]
  have HB7 := Lib.hid hb; clear hb
  go_wp2_with fail
  refine (rsame_any D2 D2 a2 _ _ 3 c2 3 w7 (q2.out.later HB7.out (Nat.le_refl _)) (HE2.out.later HB7.out (Nat.le_refl _)) rfl rfl (by decide) (by decide)).mono ?_
  rintro e w8 ⟨rfl, hb⟩
  rw [decide_eq_true rfl]
  have HB8 := Lib.hid (HB7.out.trans (hb.mono HB7.out.size)); clear hb HB7
  go_wp2_with fail
  refine (rsame_any D3 D3 a3 _ _ 3 c3 3 w8 (q3.out.later HB8.out (Nat.le_refl _)) (HE3.out.later HB8.out (Nat.le_refl _)) rfl rfl (by decide) (by decide)).mono ?_
  rintro e w9 ⟨rfl, hb⟩
  rw [decide_eq_true rfl]
  have HB9 := Lib.hid (HB8.out.trans (hb.mono HB8.out.size)); clear hb HB8
  have q9 := Lib.hid (q3.out.later HB9.out (Nat.le_refl _))
  have HT9 := Lib.hid (HT6.out.later HB9.out)
  have BW9 : Hid (Below w.heap.size w w9) := BW6.out.trans (HB9.out.mono BW6.out.size)
  clear HE1 HE2 HE3 q1 q2 q3 BW6 HB9 HT6
  go_wp2_with fail
  refine (at_any D3 a3 c3 1 w9 q9.out (by decide) cs3).mono ?_
  rintro e w10 ⟨he, hb⟩
  rw [at3_1] at he
  subst he
  have q10 := Lib.hid (q9.out.later hb (Nat.le_refl _)); have HT10 := Lib.hid (HT9.out.later hb); have BW10 : Hid (Below w.heap.size w w10) := BW9.out.trans (hb.mono BW9.out.size)
  clear hb q9 HT9 BW9
  go_wp2_with fail
  refine (at_any D3 a3 c3 3 w10 q10.out (by decide) cs3).mono ?_
  rintro e w11 ⟨he, hb⟩
  rw [at3_3] at he
  subst he
  have q11 := Lib.hid (q10.out.later hb (Nat.le_refl _)); have HT11 := Lib.hid (HT10.out.later hb); have BW11 : Hid (Below w.heap.size w w11) := BW10.out.trans (hb.mono BW10.out.size)
  clear hb q10 HT10 BW10
  go_wp2_with fail
  refine (dindex_any D3 a3 c3 _ w11 q11.out (by decide) cs3).mono ?_
  rintro e w12 ⟨he, hb⟩
  rw [ix3_1] at he
  subst he
  have q12 := Lib.hid (q11.out.later hb (Nat.le_refl _)); have HT12 := Lib.hid (HT11.out.later hb); have BW12 : Hid (Below w.heap.size w w12) := BW11.out.trans (hb.mono BW11.out.size)
  clear hb q11 HT11 BW11
  go_wp2_with fail
  refine (dindex_any D3 a3 c3 _ w12 q12.out (by decide) cs3).mono ?_
  rintro e w13 ⟨he, hb⟩
  rw [ix3_n] at he
  subst he
  have q13 := Lib.hid (q12.out.later hb (Nat.le_refl _)); have HT13 := Lib.hid (HT12.out.later hb); have BW13 : Hid (Below w.heap.size w w13) := BW12.out.trans (hb.mono BW12.out.size)
  clear hb q12 HT12 BW12
  go_wp2_with fail
  refine (count_any D3 a3 c3 _ w13 q13.out (by decide) cs3).mono ?_
  rintro e w14 ⟨he, hb⟩
  rw [ct3_2] at he
  subst he
  have q14 := Lib.hid (q13.out.later hb (Nat.le_refl _)); have HT14 := Lib.hid (HT13.out.later hb); have BW14 : Hid (Below w.heap.size w w14) := BW13.out.trans (hb.mono BW13.out.size)
  clear hb q13 HT13 BW13
  go_wp2_with fail
  refine (count_any D3 a3 c3 _ w14 q14.out (by decide) cs3).mono ?_
  rintro e w15 ⟨he, hb⟩
  rw [ct3_3] at he
  subst he
  have q15 := Lib.hid (q14.out.later hb (Nat.le_refl _)); have HT15 := Lib.hid (HT14.out.later hb); have BW15 : Hid (Below w.heap.size w w15) := BW14.out.trans (hb.mono BW14.out.size)
  clear hb q14 HT14 BW14
  go_wp2_with fail
  refine (count_any D3 a3 c3 _ w15 q15.out (by decide) cs3).mono ?_
  rintro e w16 ⟨he, hb⟩
  rw [ct3_0] at he
  subst he
  have q16 := Lib.hid (q15.out.later hb (Nat.le_refl _)); have HT16 := Lib.hid (HT15.out.later hb); have BW16 : Hid (Below w.heap.size w w16) := BW15.out.trans (hb.mono BW15.out.size)
  clear hb q15 HT15 BW15
  go_wp2_with fail
  refine (has_any D3 a3 c3 _ w16 q16.out (by decide) (asc_lit (by decide))).mono ?_
  rintro e w17 ⟨he, hb⟩
  rw [hs3_b] at he
  subst he
  have q17 := Lib.hid (q16.out.later hb (Nat.le_refl _)); have HT17 := Lib.hid (HT16.out.later hb); have BW17 : Hid (Below w.heap.size w w17) := BW16.out.trans (hb.mono BW16.out.size)
  clear hb q16 HT16 BW16
  go_wp2_with fail
  refine (has_any D3 a3 c3 _ w17 q17.out (by decide) (asc_lit (by decide))).mono ?_
  rintro e w18 ⟨he, hb⟩
  rw [hs3_e] at he
  subst he
  have q18 := Lib.hid (q17.out.later hb (Nat.le_refl _)); have HT18 := Lib.hid (HT17.out.later hb); have BW18 : Hid (Below w.heap.size w w18) := BW17.out.trans (hb.mono BW17.out.size)
  clear hb q17 HT17 BW17
  go_wp2_with fail
  refine (valid_any D3 a3 c3 w18 q18.out (by decide) cs3 HT18.out).mono ?_
  rintro e w19 ⟨he, hb⟩
  rw [valid3] at he
  subst he
  have q19 := Lib.hid (q18.out.later hb (Nat.le_refl _)); have HT19 := Lib.hid (HT18.out.later hb); have BW19 : Hid (Below w.heap.size w w19) := BW18.out.trans (hb.mono BW18.out.size)
  clear hb q18 HT18 BW18
  go_wp2_with fail
  refine (valid_any [] none 0 w19 (DawgS.nil _ _) (by decide) cs0 HT19.out).mono ?_
  rintro e w20 ⟨he, hb⟩
  rw [valid0] at he
  subst he
  have q20 := Lib.hid (q19.out.later hb (Nat.le_refl _)); have HT20 := Lib.hid (HT19.out.later hb); have BW20 : Hid (Below w.heap.size w w20) := BW19.out.trans (hb.mono BW19.out.size)
  clear hb q19 HT19 BW19
  go_wp2_with fail
  have hx : Below w20.heap.size w20 (w20.alloc (.cells #[.bool true, .slice none 0 0] 47)) := (Below.refl _ _).alloc (Nat.le_refl _) _
  refine (valid_any [⟨true, []⟩] (some ⟨w20.heap.size, 0, none⟩) 1 _ (dawgS_row (N := [⟨true, none, 0, 0⟩]) (heap_alloc_new _ _) rfl rfl fun k hk => by
    obtain rfl : k = 0 := by simp at hk; omega
    exact ⟨rfl, rfl, Nat.le_of_ble_eq_true rfl, ArcS.nil _ _⟩) (by decide) cs_t (HT20.out.later hx)).mono ?_
  rintro e w21 ⟨he, hb⟩
  rw [valid_t] at he
  subst he
  have BWZ : Hid (Below w.heap.size w w21) := BW20.out.trans ((hx.trans (hb.mono hx.size)).mono BW20.out.size)
  clear hb hx
  go_wp2
  go_ret
  exact ⟨rfl, BWZ.out⟩
end Go.Proofs.YtemdlfbcnnoglaaDoor
