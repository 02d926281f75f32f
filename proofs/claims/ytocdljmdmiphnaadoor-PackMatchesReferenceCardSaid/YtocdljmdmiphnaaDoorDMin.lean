/- DawgMinimal: plain. Every node of the canonical automaton is met by words; no arc leads to the first; what is listed from a node; the sizes. -/
import Derived.Test.YtocdljmdmiphnaaDoorDLawK
namespace Go.Proofs.YtocdljmdmiphnaaDoor
open Go.RowKit Go.WideShapes
set_option linter.unusedVariables false
set_option linter.unusedSimpArgs false

/-- what follows a text in a list -/
def afterP (r : Rst) (p : List Nat) : Rst := p.foldl afterL r
theorem afterP_snoc (r : Rst) (p : List Nat) (c : Nat) : afterP r (p ++ [c]) = afterL (afterP r p) c := by unfold afterP; rw [List.foldl_append]; rfl
theorem afterP_cons (r : Rst) (p : List Nat) (c : Nat) : afterP r (c :: p) = afterP (afterL r c) p := rfl
theorem afterP_mem : ∀ (p : List Nat) {r : Rst} {t : Wd}, t ∈ afterP r p ↔ ∃ q : Wd, q.map UInt8.toNat = p ∧ q ++ t ∈ r
  | [], r, t => ⟨fun h => ⟨[], rfl, h⟩, fun ⟨q, hq, h⟩ => by obtain rfl := List.map_eq_nil_iff.1 hq; exact h⟩
  | c :: p, r, t => by
    rw [afterP_cons, afterP_mem p]
    constructor
    · rintro ⟨q, hq, h⟩
      obtain ⟨b, hb, h2⟩ := afterL_mem.1 h
      exact ⟨b :: q, by simp [hb, hq], h2⟩
    · rintro ⟨q, hq, h⟩
      cases q with
      | nil => cases hq
      | cons b q =>
        rw [List.map_cons] at hq
        injection hq with h1 h2
        exact ⟨q, h2, afterL_mem.2 ⟨b, h1, h⟩⟩
theorem armsG_reach {rec : Rst → List Rst → List Nd → Nat × List Rst × List Nd} {r : Rst}
    (hr : ∀ x Mt E, ∃ S, (rec x Mt E).2.1 = Mt ++ S ∧ ∀ y ∈ S, ∃ p, y = afterP x p) : ∀ G A Mt E, (∀ g ∈ G, ∃ c, g.2 = afterL r c) → ∃ S, (armsG rec G A Mt E).2.1 = Mt ++ S ∧ ∀ y ∈ S, ∃ p, y = afterP r p
  | [], A, Mt, E, _ => by rw [armsG]; exact ⟨[], by simp, fun y hy => by cases hy⟩
  | (c, g) :: G, A, Mt, E, hG => by
    rw [armsG]
    obtain ⟨S, h1, h2⟩ := hr g Mt E
    obtain ⟨S2, h3, h4⟩ := armsG_reach hr G (A ++ [⟨(c : Int), ((rec g Mt E).1 : Nat)⟩]) (rec g Mt E).2.1 (rec g Mt E).2.2 fun x hx => hG x (List.mem_cons_of_mem _ hx)
    refine ⟨S ++ S2, ?_, fun y hy => ?_⟩
    · simp only
      rw [h3, h1, List.append_assoc]
    · rcases List.mem_append.1 hy with hy | hy
      · obtain ⟨p, rfl⟩ := h2 y hy
        obtain ⟨d, hd⟩ := hG (c, g) (by simp)
        simp only at hd
        exact ⟨d :: p, by rw [afterP_cons, hd]⟩
      · exact h4 y hy
theorem refV_reach : ∀ m r Mt E, ∃ S, (refV m r Mt E).2.1 = Mt ++ S ∧ ∀ y ∈ S, ∃ p, y = afterP r p
  | 0, r, Mt, E => ⟨[], by simp [refV], fun y hy => by cases hy⟩
  | m + 1, r, Mt, E => by
    rw [refV, armsC_G]
    have hgr : (List.range' 33 94).filterMap (fun c => if afterL r c = [] then none else some (c, afterL r c)) = grp r := rfl
    rw [hgr]
    split
    · exact ⟨[], by simp, fun y hy => by cases hy⟩
    · obtain ⟨S, h1, h2⟩ := armsG_reach (rec := refV m) (r := r) (refV_reach m) (grp r) [] (Mt ++ [r]) (E ++ [⟨false, []⟩]) fun g hg => ⟨g.1, (grp_mem hg).2.2.1⟩
      refine ⟨r :: S, ?_, fun y hy => ?_⟩
      · simp only
        rw [h1, List.append_assoc]; rfl
      · rcases List.mem_cons.1 hy with rfl | hy
        · exact ⟨[], rfl⟩
        · exact h2 y hy
/-- the table of a dictionary's automaton, with how its nodes are met -/
structure MTab (r0 : Rst) (Mt : List Rst) (E : List Nd) : Prop where
  tab : GTab Mt E
  first : Mt[0]? = some r0
  met : ∀ y ∈ Mt, ∃ p, y = afterP r0 p
  fin : ∃ n, ∀ s ∈ r0, s.length ≤ n
theorem of_mtab {r : Rst} (hr : OkR r) (hs : ∀ s ∈ r, s.length < 21) : ∃ Mt, MTab r Mt (ofF r) := by
  obtain ⟨h1, h2⟩ := refV_tab 21 r [] [] rfl List.nodup_nil (fun x hx => by cases hx) hr hs
  obtain ⟨S, h3, h4⟩ := refV_reach 21 r [] []
  refine ⟨(refV 21 r [] []).2.1, ⟨⟨h1.len, h1.nodup, h1.ok, fun k hk => ?_⟩, ?_, fun y hy => ?_, ⟨20, fun s h => by have := hs s h; omega⟩⟩⟩
  · obtain ⟨q, X, e1, e2, e3⟩ := h1.new k (Nat.zero_le _) hk
    have : (ofF r)[k] = ⟨finR q, X⟩ := by
      have h3 := List.getElem?_eq_getElem hk
      rw [show (ofF r)[k]? = some ⟨finR q, X⟩ from e2] at h3
      injection h3 with h3; exact h3.symm
    rw [this]
    exact ⟨q, e1, rfl, e3⟩
  · have h0 : (refV 21 r [] []).1 = 0 := by rw [refV, if_neg (by simp [idxR])]; rfl
    rw [h0] at h2; exact h2
  · rw [h3] at hy
    exact h4 y (by simpa using hy)
theorem Arcs.to {Mt : List Rst} {n : Nat} {G : List (Nat × Rst)} {X : List Ar} (h : Arcs Mt n G X) : ∀ x ∈ X, ∃ (c t : Nat) (g : Rst), x = ⟨(c : Int), (t : Int)⟩ ∧ t < n ∧ Mt[t]? = some g ∧ (c, g) ∈ G := by
  induction h with
  | nil => intro x hx; cases hx
  | @cons c t g G X h1 h2 h3 _ ih =>
    intro x hx
    rcases List.mem_cons.1 hx with rfl | hx
    · exact ⟨c, t, g, rfl, h2, h3, by simp⟩
    · obtain ⟨c, t, g, a, b, d, f⟩ := ih x hx
      exact ⟨c, t, g, a, b, d, List.mem_cons_of_mem _ f⟩
theorem grow_no {r : Rst} {p : List Nat} {c : Nat} {s0 : Wd} (h0 : s0 ∈ r) (h : afterP r (p ++ [c]) = r) : ∀ n, ∃ s ∈ r, n ≤ s.length
  | 0 => ⟨s0, h0, Nat.zero_le _⟩
  | n + 1 => by
    obtain ⟨s, hs, hn⟩ := grow_no h0 h n
    rw [← h] at hs
    obtain ⟨q, hq, h2⟩ := (afterP_mem _).1 hs
    refine ⟨_, h2, ?_⟩
    have := congrArg List.length hq
    simp at this
    rw [List.length_append]; omega
theorem MTab.okr {r0 : Rst} {Mt : List Rst} {E : List Nd} (h : MTab r0 Mt E) : OkR r0 := h.tab.ok _ (List.mem_of_getElem? h.first)
/-- no arc leads to the first node -/
theorem MTab.no0 {r0 : Rst} {Mt : List Rst} {E : List Nd} (h : MTab r0 Mt E) : ∀ k (hk : k < E.length), ∀ x ∈ E[k].arcs, x.t ≠ 0 := fun k hk x hx e => by
  obtain ⟨r, h1, h2, h3⟩ := h.tab.nd k hk
  obtain ⟨c, t, g, rfl, ht, hg, hG⟩ := h3.to x hx
  have h0 : t = 0 := by simpa using e
  subst h0
  rw [h.first] at hg
  injection hg with hg
  obtain ⟨_, _, g3, _⟩ := grp_mem hG
  simp only at g3
  obtain ⟨p, hp⟩ := h.met r (List.mem_of_getElem? h1)
  rw [hp, ← afterP_snoc, ← hg] at g3
  obtain ⟨n, hn⟩ := h.fin
  obtain ⟨s0, hs0⟩ := h.okr.fst
  obtain ⟨s, hs, hl⟩ := grow_no hs0 g3.symm (n + 1)
  have := hn s hs; omega
/-! ### what is listed from a node -/
theorem armsX_congr {rec rec' : Int → Wd → Nat × List Wd → Nat × List Wd} (ws : Wd) : ∀ (X : List Ar) s, (∀ x ∈ X, ∀ u s, rec x.t u s = rec' x.t u s) → armsX rec ws X s = armsX rec' ws X s
  | [], s, _ => rfl
  | x :: X, s, h => by
    rw [armsX, armsX, h x (by simp), armsX_congr ws X _ fun y hy => h y (List.mem_cons_of_mem _ hy)]
theorem getD_mem {E : List Nd} {n : Nat} {x : Ar} (h : x ∈ (E.getD n default).arcs) : ∃ hn : n < E.length, x ∈ E[n].arcs := by
  rw [List.getD_eq_getElem?_getD] at h
  by_cases hn : n < E.length
  · rw [List.getElem?_eq_getElem hn] at h; exact ⟨hn, h⟩
  · rw [List.getElem?_eq_none (by omega)] at h; cases h
theorem listF_set {E : List Nd} (hz : ∀ k (hk : k < E.length), ∀ x ∈ E[k].arcs, x.t ≠ 0) (y : Nd) : ∀ m n ws s, n ≠ 0 → listF (E.set 0 y) m n ws s = listF E m n ws s
  | 0, n, ws, s, _ => rfl
  | m + 1, n, ws, s, hn => by
    rw [listF, listF, List.length_set]
    split
    · rfl
    · rename_i hc
      have h0 : 0 ≤ n := Int.not_lt.1 fun h => hc (.inr (.inl h))
      have hg : (E.set 0 y).getD n.toNat default = E.getD n.toNat default := by
        rw [List.getD_eq_getElem?_getD, List.getD_eq_getElem?_getD, List.getElem?_set_ne (by omega)]
      rw [hg]
      refine armsX_congr ws _ _ fun x hx u s => ?_
      obtain ⟨hk, hx2⟩ := getD_mem hx
      exact listF_set hz y m x.t u s (hz _ hk x hx2)
theorem listF_root {E : List Nd} (hz : ∀ k (hk : k < E.length), ∀ x ∈ E[k].arcs, x.t ≠ 0) {n : Nat} (hn : n < E.length) (m : Nat) (ws : Wd) (s : Nat × List Wd) :
    listF (E.set 0 E[n]) (m + 1) 0 ws s = listF E (m + 1) (n : Int) ws s := by
  rw [listF, listF, List.length_set]
  have e1 : (E.set 0 E[n]).getD (0 : Int).toNat default = E[n] := by
    rw [List.getD_eq_getElem?_getD, show (0 : Int).toNat = 0 from rfl, List.getElem?_set_self (by omega)]; rfl
  have e2 : E.getD (n : Int).toNat default = E[n] := by
    rw [List.getD_eq_getElem?_getD, Int.toNat_natCast, List.getElem?_eq_getElem hn]; rfl
  rw [e1, e2]
  by_cases hc : s.1 = 0 ∨ 20 < ws.length
  · rw [if_pos (by rcases hc with h | h; exact .inl h; exact .inr (.inr (.inr h))), if_pos (by rcases hc with h | h; exact .inl h; exact .inr (.inr (.inr h)))]
  · have c1 : ¬ (s.1 = 0 ∨ (0 : Int) < 0 ∨ (E.length : Int) ≤ 0 ∨ 20 < ws.length) := by omega
    have c2 : ¬ (s.1 = 0 ∨ (n : Int) < 0 ∨ (E.length : Int) ≤ (n : Int) ∨ 20 < ws.length) := by omega
    rw [if_neg c1, if_neg c2]
    exact armsX_congr ws _ _ fun x hx u s => listF_set hz _ m x.t u s (hz n hn x hx)
theorem afterP_len (p : List Nat) : ∀ r : Rst, (afterP r p).length ≤ r.length := by
  induction p with
  | nil => intro r; exact Nat.le_refl _
  | cons c p ih => intro r; exact Nat.le_trans (ih _) (afterL_len r c)
/-- the texts that are listed from a node -/
theorem listed_node {L : List ByteArray} {Mt : List Rst} (hd : Dict L) (h : MTab (restAt 0 L) Mt (ofF (restAt 0 L))) {n : Nat} (hn : n < (ofF (restAt 0 L)).length) :
    ∃ r, Mt[n]? = some r ∧ r ≠ [] ∧ (listedF ((ofF (restAt 0 L)).set 0 (ofF (restAt 0 L))[n])).2 = r ∧ fewB ((ofF (restAt 0 L)).set 0 (ofF (restAt 0 L))[n]) = true := by
  obtain ⟨r, h1, h2, h3⟩ := h.tab.nd n hn
  have hok := h.tab.ok r (List.mem_of_getElem? h1)
  obtain ⟨p, hp⟩ := h.met r (List.mem_of_getElem? h1)
  have hrl : r.length ≤ 200 := by
    have := afterP_len p (restAt 0 L)
    rw [← hp] at this
    have h4 : (restAt 0 L).length = L.length := by simp [restAt]
    have := hd.2.1
    omega
  have hsz : ∀ s ∈ r, s.length ≤ 20 := fun s hs => by
    rw [hp] at hs
    obtain ⟨q, _, h5⟩ := (afterP_mem p).1 hs
    have := hd.okR.2 _ h5
    rw [List.length_append] at this; omega
  have hsum := sumW_le (r := r) (k := 20) hsz
  obtain ⟨l2, e1, e2⟩ := list_tab h.tab 22 n r [] 5000 [] h1 (fun s hs => by have := hsz s hs; omega) (fun s hs => by have := hsz s hs; simp; omega) (by omega)
  have e3 := listF_root h.no0 hn 21 [] (5000, [])
  refine ⟨r, h1, hok.2.2, ?_, ?_⟩
  · unfold listedF; rw [e3, e2]; simp
  · unfold fewB listedF; rw [e3, e2]; exact decide_eq_true (by simp only; omega)
/-! ### sizes -/
theorem refV_le2 : ∀ m k r Mt E, OkR r → (∀ s ∈ r, s.length < k) → (refV m r Mt E).2.2.length ≤ E.length + r.length * k
  | 0, _, _, _, _, _, _ => Nat.le_add_right _ _
  | m + 1, 0, r, _, _, hr, hs => by
    obtain ⟨s, h⟩ := hr.fst
    have := hs s h; omega
  | m + 1, k + 1, r, Mt, E, hr, hs => by
    rw [refV, armsC_G]
    have hgr : (List.range' 33 94).filterMap (fun c => if afterL r c = [] then none else some (c, afterL r c)) = grp r := rfl
    rw [hgr]
    split
    · exact Nat.le_add_right _ _
    · have key : ∀ G A Mt E, (∀ g ∈ G, OkR g.2 ∧ ∀ s ∈ g.2, s.length < k) → (armsG (refV m) G A Mt E).2.2.length ≤ E.length + sumG G * k := by
        intro G
        induction G with
        | nil => intro A Mt E _; exact Nat.le_add_right _ _
        | cons g G ih =>
          intro A Mt E h
          rw [armsG]
          have h1 := ih (A ++ [⟨(g.1 : Int), ((refV m g.2 Mt E).1 : Nat)⟩]) (refV m g.2 Mt E).2.1 (refV m g.2 Mt E).2.2 fun x hx => h x (List.mem_cons_of_mem _ hx)
          have h2 := refV_le2 m k g.2 Mt E (h g (by simp)).1 (h g (by simp)).2
          have h3 : sumG (g :: G) * k = g.2.length * k + sumG G * k := by rw [← Nat.add_mul]; rfl
          omega
      have h1 := key (grp r) [] (Mt ++ [r]) (E ++ [⟨false, []⟩]) fun g hg => by
        obtain ⟨g1, g2, g3, g4⟩ := grp_mem hg
        rw [g3]
        refine ⟨hr.after (by rw [← g3]; exact g4), fun s hsg => ?_⟩
        obtain ⟨b, _, h5⟩ := afterL_mem.1 hsg
        have := hs _ h5
        simp at this; omega
      have h2 : sumG (grp r) * k ≤ r.length * k := Nat.mul_le_mul_right _ (grp_sum hr)
      have h3 : 1 ≤ r.length := by
        cases r with
        | nil => exact absurd rfl hr.2.2
        | cons => simp
      have h4 : r.length * (k + 1) = r.length * k + r.length := Nat.mul_succ _ _
      simp only [List.length_set]
      simp at h1; omega
theorem ofF_le60 {L : List ByteArray} (hd : Dict L) (hl : L.length ≤ 10) (hs : ∀ x ∈ L, x.size ≤ 4) : (ofF (restAt 0 L)).length ≤ 60 := by
  have h4 : (restAt 0 L).length = L.length := by simp [restAt]
  have := refV_le2 21 5 (restAt 0 L) [] [] hd.okR.1 fun s h => by
    obtain ⟨x, hx, rfl⟩ := List.mem_map.1 h
    have := hs x hx
    have e : x.data.toList.length = x.size := by simp
    rw [List.drop_zero, e]; omega
  have h5 : (ofF (restAt 0 L)).length = (refV 21 (restAt 0 L) [] []).2.2.length := rfl
  simp only [List.length_nil] at this
  omega
/-! ### the last arc with a byte -/
def nextL (c : Int) (X : List Ar) : Int := X.foldl (fun a x => if x.c = c then x.t else a) (-1)
theorem nextL_succ {c : Int} {X : List Ar} {k : Nat} (hk : k < X.length) : nextL c (X.take (k + 1)) = if X[k].c = c then X[k].t else nextL c (X.take k) := by
  unfold nextL
  rw [List.take_succ_eq_append_getElem hk, List.foldl_append]; rfl
theorem next_cat {Mt : List Rst} {n c : Nat} : ∀ {G : List (Nat × Rst)} {X : List Ar}, Arcs Mt n G X → ∀ a : Int,
    (X.foldl (fun a x => if x.c = (c : Int) then x.t else a) a = a ∧ ∀ g, (c, g) ∉ G) ∨ ∃ (t : Nat) (g : Rst), X.foldl (fun a x => if x.c = (c : Int) then x.t else a) a = (t : Int) ∧ t < n ∧ Mt[t]? = some g ∧ (c, g) ∈ G := by
  intro G X hA
  induction hA with
  | nil => exact fun a => .inl ⟨rfl, fun g h => by cases h⟩
  | @cons c' t g G X h1 h2 h3 _ ih =>
    intro a
    rw [List.foldl_cons]
    by_cases e : c' = c
    · subst e
      rw [if_pos rfl]
      rcases ih (t : Int) with ⟨h, _⟩ | ⟨t', g', q1, q2, q3, q4⟩
      · exact .inr ⟨t, g, h, h2, h3, by simp⟩
      · exact .inr ⟨t', g', q1, q2, q3, List.mem_cons_of_mem _ q4⟩
    · rw [if_neg (by simp only; omega)]
      rcases ih a with ⟨h, h'⟩ | ⟨t', g', q1, q2, q3, q4⟩
      · refine .inl ⟨h, fun g hg => ?_⟩
        rcases List.mem_cons.1 hg with hg | hg
        · injection hg with hg _; exact e hg.symm
        · exact h' g hg
      · exact .inr ⟨t', g', q1, q2, q3, List.mem_cons_of_mem _ q4⟩
theorem MTab.next {r0 : Rst} {Mt : List Rst} {E : List Nd} (h : MTab r0 Mt E) {k : Nat} (hk : k < E.length) {r : Rst} (hr : Mt[k]? = some r) {c : UInt8} {s : Wd} (hs : c :: s ∈ r) :
    ∃ t : Nat, nextL (c.toNat : Int) E[k].arcs = (t : Int) ∧ t < E.length ∧ Mt[t]? = some (afterL r c.toNat) := by
  obtain ⟨r', h1, h2, h3⟩ := h.tab.nd k hk
  obtain rfl : r = r' := by rw [hr] at h1; injection h1
  have hok := h.tab.ok r (List.mem_of_getElem? hr)
  have hm : s ∈ afterL r c.toNat := afterL_mem.2 ⟨c, rfl, hs⟩
  have hne : afterL r c.toNat ≠ [] := List.ne_nil_of_mem hm
  have hb := hok.2.1 _ hs c (by simp)
  rcases next_cat (c := c.toNat) h3 (-1) with ⟨_, b⟩ | ⟨t, g, a, b, d, f⟩
  · exact absurd (grp_has hb.1 hb.2 hne) (b _)
  · obtain ⟨_, _, g3, _⟩ := grp_mem f
    simp only at g3
    exact ⟨t, a, b, by rw [d, g3]⟩
/-! ### the walk of a word -/
/-- what follows the first q bytes of a word -/
def aftW (r0 : Rst) (s : ByteArray) (q : Nat) : Rst := afterP r0 ((s.data.toList.take q).map UInt8.toNat)
theorem aftW_zero (r0 : Rst) (s : ByteArray) : aftW r0 s 0 = r0 := by unfold aftW; simp [afterP]
theorem aftW_mem {r0 : Rst} {s : ByteArray} (hs : s.data.toList ∈ r0) (q : Nat) : s.data.toList.drop q ∈ aftW r0 s q :=
  (afterP_mem _).2 ⟨s.data.toList.take q, rfl, by rw [List.take_append_drop]; exact hs⟩
theorem aftW_succ (r0 : Rst) (s : ByteArray) {q : Nat} (hq : q < s.size) : aftW r0 s (q + 1) = afterL (aftW r0 s q) s[q].toNat := by
  unfold aftW
  rw [take_snoc s q hq, List.map_append, List.map_cons, List.map_nil, afterP_snoc]
/-- all nodes that the first i words lead to are marked, and those of the first q bytes (at most) of a further one -/
def MetTo (r0 : Rst) (Mt : List Rst) (L : List ByteArray) (f : Nat → Bool) (i : Nat) : Prop := ∀ j (hj : j < L.length), j < i → ∀ q, q ≤ L[j].size → ∀ t : Nat, Mt[t]? = some (aftW r0 L[j] q) → f t = true
theorem MetTo.mono {r0 : Rst} {Mt : List Rst} {L : List ByteArray} {f g : Nat → Bool} {i : Nat} (h : MetTo r0 Mt L f i) (hfg : ∀ t, f t = true → g t = true) : MetTo r0 Mt L g i := fun j hj hi q hq t ht => hfg t (h j hj hi q hq t ht)
theorem MetTo.all {L : List ByteArray} {Mt : List Rst} {E : List Nd} {f : Nat → Bool} (hT : MTab (restAt 0 L) Mt E) (h : MetTo (restAt 0 L) Mt L f L.length) {t : Nat} (ht : t < E.length) : f t = true := by
  obtain ⟨r, h1, -, -⟩ := hT.tab.nd t ht
  obtain ⟨p, hp⟩ := hT.met r (List.mem_of_getElem? h1)
  obtain ⟨s, hs⟩ := (hT.tab.ok r (List.mem_of_getElem? h1)).fst
  rw [hp] at hs
  obtain ⟨q, hq, hm⟩ := (afterP_mem p).1 hs
  obtain ⟨x, hx, he⟩ := List.mem_map.1 hm
  rw [List.drop_zero] at he
  obtain ⟨j, hj, rfl⟩ := List.getElem_of_mem hx
  refine h j hj hj q.length ?_ t ?_
  · have := congrArg List.length he
    have e : L[j].data.toList.length = L[j].size := by simp
    rw [List.length_append, e] at this; omega
  · rw [h1, hp]
    unfold aftW
    rw [he, List.take_left, hq]
end Go.Proofs.YtocdljmdmiphnaaDoor
