/- What builder.node makes: each node stands for a list of rests, no two for the same. Plain. -/
import Derived.Test.YtocdljmdmiphnaaDoorDTrie
namespace Go.Proofs.YtocdljmdmiphnaaDoor
set_option linter.unusedVariables false
set_option linter.unusedSimpArgs false

/-! ### the contents of a node tell the node -/
def valD (l : List UInt8) : Nat := l.foldl (fun a c => a * 10 + (c.toNat - 48)) 0
theorem decD (u : Nat) : valD (Lib.decDigits u) = u ∧ ∀ c ∈ Lib.decDigits u, 48 ≤ c.toNat := by
  induction u using Nat.strongRecOn with
  | _ u ih =>
    rw [Lib.decDigits]
    have h1 : ∀ k, k < 10 → (UInt8.ofNat (48 + k)).toNat = 48 + k := fun k hk => by
      rw [UInt8.toNat_ofNat']; omega
    split
    · rename_i h
      refine ⟨?_, fun c hc => ?_⟩
      · simp only [valD, List.foldl_cons, List.foldl_nil, h1 u h]; omega
      · obtain rfl := List.mem_singleton.1 hc; rw [h1 u h]; omega
    · rename_i h
      obtain ⟨i1, i2⟩ := ih (u / 10) (by omega)
      have h2 := h1 (u % 10) (by omega)
      refine ⟨?_, fun c hc => ?_⟩
      · unfold valD at i1 ⊢
        rw [List.foldl_append, i1]
        simp only [List.foldl_cons, List.foldl_nil, h2]; omega
      · rcases List.mem_append.1 hc with hc | hc
        · exact i2 c hc
        · obtain rfl := List.mem_singleton.1 hc; rw [h2]; omega
theorem tw_digits {l r : List UInt8} (h : ∀ c ∈ l, 48 ≤ c.toNat) (hr : r = [] ∨ ∃ q, r = 32 :: q) : (l ++ r).takeWhile (fun c => decide (48 ≤ UInt8.toNat c)) = l ∧ (l ++ r).dropWhile (fun c => decide (48 ≤ UInt8.toNat c)) = r := by
  induction l with
  | nil =>
    rcases hr with rfl | ⟨q, rfl⟩
    · exact ⟨rfl, rfl⟩
    · have : (decide (48 ≤ UInt8.toNat (32 : UInt8))) = false := rfl
      simp [List.takeWhile_cons, List.dropWhile_cons]
  | cons c l ih =>
    have hc := h c (by simp)
    obtain ⟨i1, i2⟩ := ih fun d hd => h d (List.mem_cons_of_mem _ hd)
    simp only [List.cons_append, List.takeWhile_cons, List.dropWhile_cons, hc, decide_true, if_true]
    exact ⟨by rw [i1], i2⟩
theorem flat_head (X : List Ar) : X.flatMap arcL = [] ∨ ∃ q, X.flatMap arcL = 32 :: q := by
  cases X with
  | nil => exact .inl rfl
  | cons x r => exact .inr ⟨_, rfl⟩
def ArPos (x : Ar) : Prop := 0 ≤ x.c ∧ x.c < 256 ∧ 0 ≤ x.t
theorem flat_inj : ∀ {X Y : List Ar}, (∀ x ∈ X, ArPos x) → (∀ x ∈ Y, ArPos x) → X.flatMap arcL = Y.flatMap arcL → X = Y
  | [], [], _, _, _ => rfl
  | [], y :: s, _, _, h => by rw [List.flatMap_nil, List.flatMap_cons, arcL] at h; cases h
  | x :: r, [], _, _, h => by rw [List.flatMap_nil, List.flatMap_cons, arcL] at h; cases h
  | x :: r, y :: s, hX, hY, h => by
    rw [List.flatMap_cons, List.flatMap_cons, arcL, arcL] at h
    simp only [List.cons_append, List.cons.injEq, true_and] at h
    obtain ⟨h1, h2⟩ := h
    obtain ⟨x0, x1, x2⟩ := hX x (by simp)
    obtain ⟨y0, y1, y2⟩ := hY y (by simp)
    have e1 : Lib.itoa x.t = Lib.decDigits x.t.toNat := by rw [Lib.itoa, if_neg (by omega)]
    have e2 : Lib.itoa y.t = Lib.decDigits y.t.toNat := by rw [Lib.itoa, if_neg (by omega)]
    rw [e1, e2] at h2
    obtain ⟨a1, a2⟩ := tw_digits (decD x.t.toNat).2 (flat_head r)
    obtain ⟨b1, b2⟩ := tw_digits (decD y.t.toNat).2 (flat_head s)
    rw [h2] at a1 a2
    have h3 : Lib.decDigits x.t.toNat = Lib.decDigits y.t.toNat := a1.symm.trans b1
    have h4 : r.flatMap arcL = s.flatMap arcL := a2.symm.trans b2
    have h5 := flat_inj (fun z hz => hX z (List.mem_cons_of_mem _ hz)) (fun z hz => hY z (List.mem_cons_of_mem _ hz)) h4
    have h6 : x.t = y.t := by
      have := congrArg valD h3
      rw [(decD _).1, (decD _).1] at this; omega
    have h7 : x.c = y.c := by
      have := congrArg UInt8.toNat h1
      rw [UInt8.toNat_ofNat', UInt8.toNat_ofNat'] at this
      omega
    obtain ⟨xc, xt⟩ := x
    obtain ⟨yc, yt⟩ := y
    simp only at h6 h7
    rw [h5, h6, h7]
theorem keyL_inj {f g : Bool} {X Y : List Ar} (hX : ∀ x ∈ X, ArPos x) (hY : ∀ x ∈ Y, ArPos x) (h : keyL f X = keyL g Y) : f = g ∧ X = Y := by
  unfold keyL at h
  have hT : Lib.formatBool true = [116, 114, 117, 101] := by decide
  have hF : Lib.formatBool false = [102, 97, 108, 115, 101] := by decide
  cases f <;> cases g <;> simp only [hT, hF, List.cons_append, List.nil_append, List.cons.injEq] at h
  · exact ⟨rfl, flat_inj hX hY h.2.2.2.2.2⟩
  · exact absurd h.1 (by decide)
  · exact absurd h.1 (by decide)
  · exact ⟨rfl, flat_inj hX hY h.2.2.2.2⟩

/-! ### the table -/
/-- the arcs lead to the groups' nodes, all before n -/
inductive Arcs (R : List Rst) (n : Nat) : List (Nat × Rst) → List Ar → Prop
  | nil : Arcs R n [] []
  | cons {c t : Nat} {g : Rst} {G : List (Nat × Rst)} {X : List Ar} : c < 256 → t < n → R[t]? = some g → Arcs R n G X → Arcs R n ((c, g) :: G) (⟨(c : Int), (t : Int)⟩ :: X)
theorem Arcs.mono {R R' : List Rst} {n n' : Nat} {G : List (Nat × Rst)} {X : List Ar} (h : Arcs R n G X) (hR : R <+: R') (hn : n ≤ n') : Arcs R' n' G X := by
  induction h with
  | nil => exact .nil
  | cons h1 h2 h3 _ ih =>
    refine .cons h1 (by omega) ?_ ih
    obtain ⟨E, rfl⟩ := hR
    obtain ⟨hl, he⟩ := List.getElem?_eq_some_iff.1 h3
    rw [List.getElem?_append_left hl]; exact h3
theorem Arcs.snoc {R : List Rst} {n : Nat} {G : List (Nat × Rst)} {X : List Ar} {c t : Nat} {g : Rst} (h : Arcs R n G X) (hc : c < 256) (ht : t < n) (hg : R[t]? = some g) : Arcs R n (G ++ [(c, g)]) (X ++ [⟨(c : Int), (t : Int)⟩]) := by
  induction h with
  | nil => exact .cons hc ht hg .nil
  | cons h1 h2 h3 _ ih => exact .cons h1 h2 h3 ih
theorem Arcs.len {R : List Rst} {n : Nat} {G : List (Nat × Rst)} {X : List Ar} (h : Arcs R n G X) : X.length = G.length := by
  induction h with
  | nil => rfl
  | cons _ _ _ _ ih => simp [ih]
theorem Arcs.mem {R : List Rst} {n : Nat} {G : List (Nat × Rst)} {X : List Ar} (h : Arcs R n G X) : ∀ x ∈ X, ArPos x ∧ x.t < (n : Int) := by
  induction h with
  | nil => intro x hx; cases hx
  | cons h1 h2 h3 _ ih =>
    intro x hx
    rcases List.mem_cons.1 hx with rfl | hx
    · exact ⟨⟨by simp, by simp; omega, by simp⟩, by simp; omega⟩
    · exact ih x hx
theorem nodup_idx {R : List Rst} (h : R.Nodup) {i j : Nat} {g : Rst} (hi : R[i]? = some g) (hj : R[j]? = some g) : i = j := by
  obtain ⟨h1, e1⟩ := List.getElem?_eq_some_iff.1 hi
  obtain ⟨h2, e2⟩ := List.getElem?_eq_some_iff.1 hj
  exact (List.getElem_inj h).1 (e1.trans e2.symm)
theorem Arcs.inj {R : List Rst} (hR : R.Nodup) {n n' : Nat} {G : List (Nat × Rst)} {X Y : List Ar} (h : Arcs R n G X) (h2 : Arcs R n' G Y) : X = Y := by
  induction h generalizing Y with
  | nil => cases h2; rfl
  | cons h1 h3 h4 _ ih =>
    cases h2 with
    | cons k1 k2 k3 k4 => rw [nodup_idx hR h4 k3, ih k4]
theorem Arcs.groups {R : List Rst} {n n' : Nat} {G G' : List (Nat × Rst)} {X : List Ar} (h : Arcs R n G X) (h2 : Arcs R n' G' X) : G = G' := by
  induction h generalizing G' with
  | nil => cases h2; rfl
  | @cons c t g G X h1 h3 h4 _ ih =>
    generalize hY : (⟨(c : Int), (t : Int)⟩ :: X : List Ar) = Y at h2
    cases h2 with
    | nil => cases hY
    | @cons c' t' g' G' X' k1 k2 k3 k4 =>
      injection hY with e1 e2
      injection e1 with e3 e4
      obtain rfl : c = c' := by omega
      obtain rfl : t = t' := by omega
      subst e2
      rw [h4] at k3; injection k3 with k3
      rw [k3, ih k4]
structure NTab (D : List Nd) (R : List Rst) : Prop where
  len : R.length = D.length
  nodup : R.Nodup
  ok : ∀ r ∈ R, SortR r ∧ BytesR r ∧ r ≠ []
  nd : ∀ k (h : k < D.length) (h2 : k < R.length), D[k].fin = finR R[k] ∧ Arcs R k (grp R[k]) D[k].arcs
theorem NTab.nil : NTab [] [] := ⟨rfl, List.nodup_nil, fun r h => (by cases h), fun k h => (by simp at h)⟩
theorem NTab.down {D : List Nd} {R : List Rst} (h : NTab D R) : ∀ i (h : i < D.length), (∀ x ∈ D[i].arcs, 0 ≤ x.t ∧ x.t < (i : Int)) ∧ D[i].arcs.length ≤ 1000 := fun i hi => by
  obtain ⟨h1, h2⟩ := h.nd i hi (by rw [h.len]; exact hi)
  refine ⟨fun x hx => ⟨(h2.mem x hx).1.2.2, (h2.mem x hx).2⟩, ?_⟩
  rw [h2.len]; have := grp_len (R[i]'(by rw [h.len]; exact hi)); omega
theorem addN_tab {D : List Nd} {R : List Rst} (h : NTab D R) {r : Rst} (hs : SortR r) (hb : BytesR r) (hne : r ≠ []) {fin : Bool} {A : List Ar} (hf : fin = finR r) (hA : Arcs R D.length (grp r) A) :
    ∃ R', NTab (addN fin A D).2 R' ∧ R <+: R' ∧ R'[(addN fin A D).1]? = some r := by
  unfold addN
  by_cases hk : D.findIdx (fun x => decide (keyL x.fin x.arcs = keyL fin A)) < D.length
  · rw [if_pos hk]
    refine ⟨R, h, List.prefix_refl _, ?_⟩
    have hkR : D.findIdx (fun x => decide (keyL x.fin x.arcs = keyL fin A)) < R.length := by rw [h.len]; exact hk
    have h1 := List.findIdx_getElem (w := hk)
    obtain ⟨h2, h3⟩ := h.nd _ hk hkR
    obtain ⟨h4, h5⟩ := keyL_inj (fun x hx => (h3.mem x hx).1) (fun x hx => (hA.mem x hx).1) (of_decide_eq_true h1)
    rw [h5] at h3
    have h6 := h3.groups hA
    obtain ⟨o1, o2, _⟩ := h.ok _ (List.getElem_mem hkR)
    rw [List.getElem?_eq_getElem hkR]
    exact congrArg some (recon_inj o1 o2 hs hb (by rw [← h2, h4, hf]) h6)
  · rw [if_neg hk]
    have hno : r ∉ R := fun hr => by
      obtain ⟨k, hkR, he⟩ := List.getElem_of_mem hr
      have hkD : k < D.length := by rw [← h.len]; exact hkR
      obtain ⟨h2, h3⟩ := h.nd k hkD hkR
      rw [he] at h2 h3
      have h4 := h3.inj h.nodup hA
      apply hk
      refine List.findIdx_lt_length_of_exists ⟨D[k], List.getElem_mem hkD, ?_⟩
      simp [h2, h4, hf]
    have hpre : R <+: R ++ [r] := List.prefix_append _ _
    refine ⟨R ++ [r], ⟨by simp [h.len], ?_, fun x hx => ?_, fun k hk1 hk2 => ?_⟩, hpre, ?_⟩
    · rw [List.nodup_append]
      exact ⟨h.nodup, by simp, fun a ha b hb e => by
        obtain rfl := List.mem_singleton.1 hb
        subst e; exact hno ha⟩
    · rcases List.mem_append.1 hx with hx | hx
      · exact h.ok x hx
      · obtain rfl := List.mem_singleton.1 hx; exact ⟨hs, hb, hne⟩
    · by_cases hkD : k < D.length
      · have hkR : k < R.length := by rw [h.len]; exact hkD
        simp only [List.getElem_append_left hkD, List.getElem_append_left hkR]
        obtain ⟨h2, h3⟩ := h.nd k hkD hkR
        exact ⟨h2, h3.mono hpre (Nat.le_refl _)⟩
      · obtain rfl : k = D.length := by simp at hk1; omega
        have e1 : (D ++ [(⟨fin, A⟩ : Nd)])[D.length] = ⟨fin, A⟩ := by simp
        have e2 : (R ++ [r])[D.length] = r := by simp [← h.len]
        rw [e1, e2]
        exact ⟨hf, hA.mono hpre (Nat.le_refl _)⟩
    · rw [← h.len]; simp
/-! ### nodeW -/
def restAt (d : Nat) (L : List ByteArray) : Rst := L.map fun s => s.data.toList.drop d
def BytesB (L : List ByteArray) : Prop := ∀ s ∈ L, ∀ b ∈ s.data.toList, 33 ≤ UInt8.toNat b ∧ UInt8.toNat b < 127
theorem restAt_sort {d : Nat} {L : List ByteArray} (hsame : ∀ x ∈ L, ∀ y ∈ L, x.data.toList.take d = y.data.toList.take d) (hinc : L.Pairwise fun x y => ltS x y = true) : SortR (restAt d L) := by
  unfold SortR restAt
  rw [List.pairwise_map]
  refine List.Pairwise.imp_of_mem ?_ hinc
  intro a b ha hb hab
  rw [ltS, ByteArray.toList_eq, ByteArray.toList_eq, ← List.take_append_drop d a.data.toList, ← List.take_append_drop d b.data.toList, hsame a ha b hb, less_pre] at hab
  exact hab
theorem restAt_bytes {d : Nat} {L : List ByteArray} (h : BytesB L) : BytesR (restAt d L) := fun s hs b hb => by
  obtain ⟨x, hx, rfl⟩ := List.mem_map.1 hs
  exact h x hx b (List.mem_of_mem_drop hb)
theorem drop_head {s : ByteArray} {d : Nat} (h : d < s.size) : ∃ b : UInt8, s.data.toList.drop d = b :: s.data.toList.drop (d + 1) ∧ byteAt s d = (b.toNat : Int) := by
  have h2 : d < s.data.toList.length := by simpa using h
  refine ⟨s.data.toList[d], List.drop_eq_getElem_cons h2, ?_⟩
  unfold byteAt; rw [List.getD_eq_getElem?_getD, List.getElem?_eq_getElem h2]; rfl
/-- the first group -/
theorem tw_rest {d : Nat} {b : UInt8} : ∀ {L : List ByteArray}, (∀ x ∈ L, d < x.size) → ((restAt d L).takeWhile fun s => s.head? == some b) = restAt d (L.take (grpN d L (b.toNat : Int))) ∧ ((restAt d L).dropWhile fun s => s.head? == some b) = restAt d (L.drop (grpN d L (b.toNat : Int)))
  | [], _ => ⟨rfl, rfl⟩
  | x :: r, h => by
    obtain ⟨y, e1, e2⟩ := drop_head (h x (by simp))
    obtain ⟨i1, i2⟩ := tw_rest (d := d) (b := b) (L := r) fun z hz => h z (List.mem_cons_of_mem _ hz)
    unfold restAt grpN at *
    rw [List.map_cons, List.takeWhile_cons, List.dropWhile_cons, List.takeWhile_cons, e1]
    by_cases e : y = b
    · subst e
      have : byteAt x d = (y.toNat : Int) := e2
      simp only [List.head?_cons, beq_self_eq_true, if_true, this, decide_true, List.length_cons, List.take_succ_cons, List.drop_succ_cons, List.map_cons, e1]
      exact ⟨by rw [i1], i2⟩
    · have hne : ((y :: List.drop (d + 1) x.data.toList).head? == some b) = false := by simpa using e
      have hne2 : decide (byteAt x d = (b.toNat : Int)) = false := by
        rw [e2]
        refine decide_eq_false fun h => e (UInt8.toNat_inj.1 (by omega))
      rw [hne, hne2]
      simp [e1]
theorem tail_rest {d : Nat} {L : List ByteArray} : (restAt d L).map List.tail = restAt (d + 1) L := by
  unfold restAt
  rw [List.map_map]
  refine List.map_congr_left fun s _ => ?_
  simp
theorem armsW_tab {rec : List ByteArray → List Nd → Nat × List Nd} {d m : Nat} (hr : ∀ L D R, Pre (d + 1) m L → BytesB L → NTab D R → ∃ R', NTab (rec L D).2 R' ∧ R <+: R' ∧ R'[(rec L D).1]? = some (restAt (d + 1) L)) :
    ∀ n lo k L A D R G0, L.length ≤ n → Rest d (m + 1) L → BytesB L → Heads lo k (restAt d L) → NTab D R → Arcs R D.length G0 A → lo + k ≤ 256 →
    ∃ R', NTab (armsW rec d n L A D).2 R' ∧ R <+: R' ∧ Arcs R' (armsW rec d n L A D).2.length (G0 ++ grpR lo k (restAt d L)) (armsW rec d n L A D).1
  | 0, lo, k, L, A, D, R, G0, hl, _, _, _, hT, hA, _ => by
    obtain rfl : L = [] := List.eq_nil_of_length_eq_zero (by omega)
    rw [armsW]
    exact ⟨R, hT, List.prefix_refl _, by show Arcs R D.length (G0 ++ grpR lo k []) A; rw [grpR_nil, List.append_nil]; exact hA⟩
  | n + 1, lo, k, [], A, D, R, G0, hl, _, _, _, hT, hA, _ => by
    rw [armsW]
    exact ⟨R, hT, List.prefix_refl _, by show Arcs R D.length (G0 ++ grpR lo k []) A; rw [grpR_nil, List.append_nil]; exact hA⟩
  | n + 1, lo, k, x :: r, A, D, R, G0, hl, hR, hB, hH, hT, hA, hk => by
    rw [armsW]
    obtain ⟨b, e1, e2⟩ := drop_head (hR.gt x (by simp))
    have hs := restAt_sort hR.same hR.inc
    obtain ⟨t1, t2⟩ := tw_rest (b := b) hR.gt
    rw [← e2] at t1 t2
    obtain ⟨g, hg⟩ : ∃ g, grpN d (x :: r) (byteAt x d) = g := ⟨_, rfl⟩
    have hg1 := grpN_pos (d := d) (x := x) (r := r)
    have hpre := hR.group
    rw [hg] at t1 t2 hg1 hpre ⊢
    have hBt : BytesB ((x :: r).take g) := fun s hs => hB s (List.mem_of_mem_take hs)
    have hBd : BytesB ((x :: r).drop g) := fun s hs => hB s (List.mem_of_mem_drop hs)
    obtain ⟨R1, hT1, hp1, hi1⟩ := hr _ D R hpre hBt hT
    have hL : restAt d (x :: r) = (b :: x.data.toList.drop (d + 1)) :: restAt d r := by unfold restAt; rw [List.map_cons, e1]
    have hgr := grpR_cons (lo := lo) (n := k) (b := b) (t := x.data.toList.drop (d + 1)) (r := restAt d r) (by rw [← hL]; exact hs) (by rw [← hL]; exact hH)
    have hHd := heads_drop (lo := lo) (n := k) (b := b) (t := x.data.toList.drop (d + 1)) (r := restAt d r) (by rw [← hL]; exact hs) (by rw [← hL]; exact hH)
    rw [← hL, t2] at hHd
    rw [← hL, t1, t2, tail_rest] at hgr
    have hlt : (rec ((x :: r).take g) D).1 < (rec ((x :: r).take g) D).2.length := by
      rw [← hT1.len]
      exact (List.getElem?_eq_some_iff.1 hi1).1
    have hblt : b.toNat < 256 := b.toNat_lt
    have hge : D.length ≤ (rec ((x :: r).take g) D).2.length := by
      rw [← hT1.len, ← hT.len]; exact hp1.length_le
    have hA1 := (hA.mono hp1 hge).snoc hblt hlt hi1
    rw [← e2] at hA1
    have hlo : b.toNat + 1 ≤ lo + k := by
      obtain ⟨b', t', e, h3, h4⟩ := hH (b :: x.data.toList.drop (d + 1)) (by rw [hL]; simp)
      injection e with e _
      subst e; omega
    obtain ⟨R2, hT2, hp2, hA2⟩ := armsW_tab hr n (b.toNat + 1) (lo + k - (b.toNat + 1)) ((x :: r).drop g) _ _ R1 _ (by rw [List.length_drop]; simp at hl ⊢; omega) (hR.drop g) hBd hHd hT1 hA1 (by omega)
    refine ⟨R2, hT2, hp1.trans hp2, ?_⟩
    rw [hgr, List.append_cons G0]
    exact hA2
theorem nodeW_tab : ∀ m d L D R, Pre d m L → BytesB L → NTab D R → ∃ R', NTab (nodeW m d L D).2 R' ∧ R <+: R' ∧ R'[(nodeW m d L D).1]? = some (restAt d L)
  | 0, d, L, D, R, hP, _, _ => by
    exfalso
    obtain ⟨x, hx⟩ := List.exists_mem_of_ne_nil _ hP.ne
    have := hP.ge x hx; have := hP.lt x hx; omega
  | m + 1, d, L, D, R, hP, hB, hT => by
    rw [nodeW]
    have hRest := hP.rest
    have hsub : ∀ s ∈ restL d L, s ∈ L := fun s hs => by
      unfold restL at hs
      split at hs
      · exact List.mem_of_mem_tail hs
      · exact hs
    have hBr : BytesB (restL d L) := fun s hs => hB s (hsub s hs)
    have hH : Heads 33 94 (restAt d (restL d L)) := fun s hs => by
      obtain ⟨x, hx, rfl⟩ := List.mem_map.1 hs
      obtain ⟨b, e1, _⟩ := drop_head (hRest.gt x hx)
      have := restAt_bytes (d := d) hBr _ hs b (by rw [e1]; simp)
      exact ⟨b, _, e1, this.1, this.2⟩
    obtain ⟨R1, hT1, hp1, hA1⟩ := armsW_tab (rec := nodeW m (d + 1)) (d := d) (m := m) (fun L D R h1 h2 h3 => nodeW_tab m (d + 1) L D R h1 h2 h3) (restL d L).length 33 94 (restL d L) [] D R [] (Nat.le_refl _) hRest hBr hH hT .nil (by omega)
    have hs := restAt_sort hP.same hP.inc
    have hbb := restAt_bytes (d := d) hB
    have hcase : finB d L = finR (restAt d L) ∧ grp (restAt d L) = grpR 33 94 (restAt d (restL d L)) := by
      cases hL : L with
      | nil => exact absurd hL hP.ne
      | cons x r =>
        have hxge := hP.ge x (by rw [hL]; simp)
        unfold restL finB
        by_cases e : x.size = d
        · have e0 : x.data.toList.drop d = [] := List.drop_of_length_le (by simp; omega)
          have e1 : restAt d (x :: r) = [] :: restAt d r := by unfold restAt; rw [List.map_cons, e0]
          rw [if_pos (by simpa using e), e1]
          exact ⟨by simpa [finR] using e, rfl⟩
        · obtain ⟨b, e1, _⟩ := drop_head (s := x) (d := d) (by omega)
          have e2 : restAt d (x :: r) = (b :: x.data.toList.drop (d + 1)) :: restAt d r := by unfold restAt; rw [List.map_cons, e1]
          rw [if_neg (by simpa using e)]
          exact ⟨by rw [e2]; simpa [finR] using e, rfl⟩
    rw [List.nil_append, ← hcase.2] at hA1
    obtain ⟨R2, hT2, hp2, hi2⟩ := addN_tab hT1 hs hbb (fun h => hP.ne (List.map_eq_nil_iff.1 h)) hcase.1 hA1
    exact ⟨R2, hT2, hp1.trans hp2, hi2⟩
end Go.Proofs.YtocdljmdmiphnaaDoor
