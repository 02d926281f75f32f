/- The canonical numbering, and that numbered has it. Plain. -/
import Derived.Test.YtocdljmdmiphnaaDoorDTab
import Derived.Test.YtocdljmdmiphnaaDoorDNum
namespace Go.Proofs.YtocdljmdmiphnaaDoor
set_option linter.unusedVariables false
set_option linter.unusedSimpArgs false

def idxR (Mt : List Rst) (r : Rst) : Nat := Mt.findIdx fun q => decide (q = r)
def armsC (rec : Rst → List Rst → List Nd → Nat × List Rst × List Nd) (r : Rst) : List Nat → List Ar → List Rst → List Nd → List Ar × List Rst × List Nd
  | [], A, Mt, E => (A, Mt, E)
  | c :: C, A, Mt, E => if afterL r c = [] then armsC rec r C A Mt E else armsC rec r C (A ++ [⟨(c : Int), ((rec (afterL r c) Mt E).1 : Nat)⟩]) (rec (afterL r c) Mt E).2.1 (rec (afterL r c) Mt E).2.2
def armsG (rec : Rst → List Rst → List Nd → Nat × List Rst × List Nd) : List (Nat × Rst) → List Ar → List Rst → List Nd → List Ar × List Rst × List Nd
  | [], A, Mt, E => (A, Mt, E)
  | g :: G, A, Mt, E => armsG rec G (A ++ [⟨(g.1 : Int), ((rec g.2 Mt E).1 : Nat)⟩]) (rec g.2 Mt E).2.1 (rec g.2 Mt E).2.2
def refV : Nat → Rst → List Rst → List Nd → Nat × List Rst × List Nd
  | 0, _, Mt, E => (0, Mt, E)
  | m + 1, r, Mt, E => if idxR Mt r < Mt.length then (idxR Mt r, Mt, E) else
    (E.length, (armsC (refV m) r (List.range' 33 94) [] (Mt ++ [r]) (E ++ [⟨false, []⟩])).2.1, (armsC (refV m) r (List.range' 33 94) [] (Mt ++ [r]) (E ++ [⟨false, []⟩])).2.2.set E.length ⟨finR r, (armsC (refV m) r (List.range' 33 94) [] (Mt ++ [r]) (E ++ [⟨false, []⟩])).1⟩)
theorem armsC_G (rec : Rst → List Rst → List Nd → Nat × List Rst × List Nd) (r : Rst) : ∀ C A Mt E, armsC rec r C A Mt E = armsG rec (C.filterMap fun c => if afterL r c = [] then none else some (c, afterL r c)) A Mt E
  | [], _, _, _ => rfl
  | c :: C, A, Mt, E => by
    rw [armsC, List.filterMap_cons]
    by_cases h : afterL r c = []
    · rw [if_pos h, if_pos h]; exact armsC_G rec r C _ _ _
    · rw [if_neg h, if_neg h]
      simp only
      rw [armsG]; exact armsC_G rec r C _ _ _
/-- the automaton of a list of texts -/
def ofF (r : Rst) : List Nd := (refV 21 r [] []).2.2

/-! ### numbered numbers so -/
def SimE (P : List Nat) (E1 E2 : List Nd) : Prop := E1.length = E2.length ∧ ∀ k, k ∉ P → E1[k]? = E2[k]?
theorem findIdx_congr {α : Type} {p q : α → Bool} : ∀ {l : List α}, (∀ x ∈ l, p x = q x) → l.findIdx p = l.findIdx q
  | [], _ => rfl
  | x :: r, h => by rw [List.findIdx_cons, List.findIdx_cons, h x (by simp), findIdx_congr fun y hy => h y (List.mem_cons_of_mem _ hy)]
theorem findIdx_map' {α β : Type} {f : α → β} {p : β → Bool} : ∀ {l : List α}, (l.map f).findIdx p = l.findIdx fun x => p (f x)
  | [] => rfl
  | x :: r => by rw [List.map_cons, List.findIdx_cons, List.findIdx_cons, findIdx_map']
def Rf (R : List Rst) (i : Nat) : Rst := R.getD i []
theorem Rf_at {R : List Rst} {i : Nat} {g : Rst} (h : R[i]? = some g) : Rf R i = g := by rw [Rf, List.getD_eq_getElem?_getD, h]; rfl
theorem idx_pos {R : List Rst} (hR : R.Nodup) {Mt : List Nat} (hM : ∀ j ∈ Mt, j < R.length) {i : Nat} (hi : i < R.length) : idxR (Mt.map (Rf R)) (Rf R i) = posI Mt i := by
  unfold idxR posI
  rw [findIdx_map']
  refine findIdx_congr fun j hj => ?_
  have h1 : R[j]? = some (Rf R j) := by rw [Rf, List.getD_eq_getElem?_getD, List.getElem?_eq_getElem (hM j hj)]; rfl
  have h2 : R[i]? = some (Rf R i) := by rw [Rf, List.getD_eq_getElem?_getD, List.getElem?_eq_getElem hi]; rfl
  by_cases e : j = i
  · subst e; simp
  · have : Rf R j ≠ Rf R i := fun h => e (nodup_idx hR h1 (by rw [h2, h]))
    simp [e, this]
def SimQ (R : List Rst) (n : Nat) (P : List Nat) (q : Nat × List Nat × List Nd) (q2 : Nat × List Rst × List Nd) : Prop := q.1 = q2.1 ∧ q.2.1.map (Rf R) = q2.2.1 ∧ SimE P q.2.2 q2.2.2 ∧ ∀ j ∈ q.2.1, j < n
theorem arms_sim {R : List Rst} {n : Nat} {P : List Nat} {rec : Nat → List Nat → List Nd → Nat × List Nat × List Nd} {rec2 : Rst → List Rst → List Nd → Nat × List Rst × List Nd} {b : Nat} {G : List (Nat × Rst)} {X : List Ar} (hA : Arcs R b G X)
    (hr : ∀ t g Mt E1 E2, t < b → (∃ c, (c, g) ∈ G) → R[t]? = some g → (∀ j ∈ Mt, j < n) → SimE P E1 E2 → SimQ R n P (rec t Mt E1) (rec2 g (Mt.map (Rf R)) E2)) :
    ∀ A Mt E1 E2, (∀ j ∈ Mt, j < n) → SimE P E1 E2 → (armsV rec X A Mt E1).1 = (armsG rec2 G A (Mt.map (Rf R)) E2).1 ∧ (armsV rec X A Mt E1).2.1.map (Rf R) = (armsG rec2 G A (Mt.map (Rf R)) E2).2.1 ∧ SimE P (armsV rec X A Mt E1).2.2 (armsG rec2 G A (Mt.map (Rf R)) E2).2.2 ∧ ∀ j ∈ (armsV rec X A Mt E1).2.1, j < n := by
  induction hA with
  | nil => intro A Mt E1 E2 hM hE; exact ⟨rfl, rfl, hE, hM⟩
  | @cons c t g G X h1 h2 h3 _ ih =>
    intro A Mt E1 E2 hM hE
    rw [armsV, armsG]
    simp only [Int.toNat_natCast]
    obtain ⟨k1, k2, k3, k4⟩ := hr t g Mt E1 E2 h2 ⟨c, by simp⟩ h3 hM hE
    have := ih (fun t g Mt E1 E2 a b => hr t g Mt E1 E2 a (by obtain ⟨c, b⟩ := b; exact ⟨c, List.mem_cons_of_mem _ b⟩)) (A ++ [⟨(c : Int), ((rec t Mt E1).1 : Nat)⟩]) _ _ _ k4 k3
    rw [k2, k1] at this
    rw [k1]
    exact this
theorem num_sim {D : List Nd} {R : List Rst} (hT : NTab D R) : ∀ m2 m i Mt E1 E2 P, i < D.length → i < m → (∀ s ∈ Rf R i, s.length < m2) → (∀ j ∈ Mt, j < D.length) → SimE P E1 E2 →
    SimQ R D.length P (numV D m i Mt E1) (refV m2 (Rf R i) (Mt.map (Rf R)) E2)
  | 0, m, i, Mt, E1, E2, P, hi, _, hs, _, _ => by
    exfalso
    have hiR : i < R.length := by rw [hT.len]; exact hi
    have h1 : Rf R i = R[i] := Rf_at (List.getElem?_eq_getElem hiR)
    obtain ⟨x, hx⟩ := List.exists_mem_of_ne_nil _ (hT.ok _ (List.getElem_mem hiR)).2.2
    have := hs x (by rw [h1]; exact hx); omega
  | m2 + 1, 0, i, _, _, _, _, _, h, _, _, _ => by omega
  | m2 + 1, m + 1, i, Mt, E1, E2, P, hi, him, hs, hM, hE => by
    have hiR : i < R.length := by rw [hT.len]; exact hi
    have h1 : Rf R i = R[i] := Rf_at (List.getElem?_eq_getElem hiR)
    rw [numV, refV, idx_pos hT.nodup (by rw [hT.len]; exact hM) hiR, List.length_map]
    by_cases h : posI Mt i < Mt.length
    · rw [if_pos h, if_pos h]; exact ⟨rfl, rfl, hE, hM⟩
    · rw [if_neg h, if_neg h]
      obtain ⟨n1, n2⟩ := hT.nd i hi hiR
      have hg : D.getD i default = D[i] := by rw [List.getD_eq_getElem?_getD, List.getElem?_eq_getElem hi]; rfl
      rw [hg, armsC_G]
      have hM2 : ∀ j ∈ Mt ++ [i], j < D.length := fun j hj => by
        rcases List.mem_append.1 hj with hj | hj
        · exact hM j hj
        · obtain rfl := List.mem_singleton.1 hj; exact hi
      have hE2 : SimE (E1.length :: P) (E1 ++ [⟨D[i].fin, []⟩]) (E2 ++ [⟨false, []⟩]) := by
        refine ⟨by simp [hE.1], fun k hk => ?_⟩
        simp only [List.mem_cons, not_or] at hk
        by_cases h3 : k < E1.length
        · rw [List.getElem?_append_left h3, List.getElem?_append_left (by rw [← hE.1]; exact h3)]; exact hE.2 k hk.2
        · rw [List.getElem?_eq_none (by simp; omega), List.getElem?_eq_none (by simp [← hE.1]; omega)]
      obtain ⟨a1, a2, a3, a4⟩ := arms_sim (n := D.length) (P := E1.length :: P) (rec := numV D m) (rec2 := refV m2) n2 (fun t g Mt E1 E2 ht hg hR hM hE => by
        have := num_sim hT m2 m t Mt E1 E2 _ (by omega) (by omega) (by
          rw [Rf_at hR]
          intro s hs2
          obtain ⟨c, hc⟩ := hg
          have h4 := (grp_mem hc).2.2.1
          simp only at h4
          rw [h4] at hs2
          obtain ⟨b, _, h5⟩ := afterL_mem.1 hs2
          have := hs (b :: s) (by rw [h1]; exact h5)
          simp at this; omega) hM hE
        rwa [Rf_at hR] at this) [] (Mt ++ [i]) (E1 ++ [⟨D[i].fin, []⟩]) (E2 ++ [⟨false, []⟩]) hM2 hE2
      have hmap : (Mt ++ [i]).map (Rf R) = Mt.map (Rf R) ++ [R[i]] := by rw [List.map_append, List.map_singleton, h1]
      rw [hmap] at a1 a2 a3
      rw [n1] at a1 a2 a3 a4
      rw [h1]
      have hgr : (List.range' 33 94).filterMap (fun c => if afterL R[i] c = [] then none else some (c, afterL R[i] c)) = grp R[i] := rfl
      rw [hgr, n1]
      refine ⟨hE.1, a2, ⟨by simp only [List.length_set]; exact a3.1, fun k hk => ?_⟩, a4⟩
      simp only
      rw [a1, ← hE.1]
      by_cases e : k = E1.length
      · subst e
        rw [List.getElem?_set, List.getElem?_set, if_pos rfl, if_pos rfl, a3.1]
      · rw [List.getElem?_set_ne (Ne.symm e), List.getElem?_set_ne (Ne.symm e)]
        exact a3.2 k (by simp only [List.mem_cons, not_or]; exact ⟨e, hk⟩)
/-- what Build makes is the canonical automaton -/
theorem build_of {L : List ByteArray} (hP : Pre 0 21 L) (hB : BytesB L) : (numV (nodeW 21 0 L []).2 ((nodeW 21 0 L []).1 + 1) (nodeW 21 0 L []).1 [] []).2.2 = ofF (restAt 0 L) ∧ (nodeW 21 0 L []).1 < (nodeW 21 0 L []).2.length ∧ Down (nodeW 21 0 L []).2 ∧ ∀ i (h : i < (nodeW 21 0 L []).2.length), (nodeW 21 0 L []).2[i].arcs.length ≤ 1000 := by
  obtain ⟨R, hT, _, hi⟩ := nodeW_tab 21 0 L [] [] hP hB NTab.nil
  have hiR : (nodeW 21 0 L []).1 < (nodeW 21 0 L []).2.length := by rw [← hT.len]; exact (List.getElem?_eq_some_iff.1 hi).1
  have h := num_sim hT 21 ((nodeW 21 0 L []).1 + 1) (nodeW 21 0 L []).1 [] [] [] [] hiR (Nat.lt_succ_self _) (by
    rw [Rf_at hi]
    intro s hs
    obtain ⟨x, hx, rfl⟩ := List.mem_map.1 hs
    have := hP.lt x hx
    simpa using this) (fun j hj => by cases hj) ⟨rfl, fun _ _ => rfl⟩
  refine ⟨?_, hiR, fun i hi => (hT.down i hi).1, fun i hi => (hT.down i hi).2⟩
  obtain ⟨_, _, h3, _⟩ := h
  rw [Rf_at hi] at h3
  exact List.ext_getElem? fun k => h3.2 k (by simp)
end Go.Proofs.YtocdljmdmiphnaaDoor
/- The canonical automaton: its table. Plain. -/
namespace Go.Proofs.YtocdljmdmiphnaaDoor
set_option linter.unusedVariables false
set_option linter.unusedSimpArgs false

def OkR (r : Rst) : Prop := SortR r ∧ BytesR r ∧ r ≠ []
def DoneAt (Mt : List Rst) (E : List Nd) (k : Nat) : Prop := ∃ r X, Mt[k]? = some r ∧ E[k]? = some ⟨finR r, X⟩ ∧ Arcs Mt E.length (grp r) X
theorem DoneAt.mono {Mt Mt' : List Rst} {E E' : List Nd} {k : Nat} (h : DoneAt Mt E k) (hM : Mt <+: Mt') (hl : E.length ≤ E'.length) (hE : E'[k]? = E[k]?) : DoneAt Mt' E' k := by
  obtain ⟨r, X, h1, h2, h3⟩ := h
  refine ⟨r, X, ?_, hE.trans h2, h3.mono hM hl⟩
  obtain ⟨S, rfl⟩ := hM
  rw [List.getElem?_append_left (List.getElem?_eq_some_iff.1 h1).1]; exact h1
/-- a step of the numbering: what stood stands, what is new is done -/
structure RStep (Mt : List Rst) (E : List Nd) (Mt' : List Rst) (E' : List Nd) : Prop where
  pre : Mt <+: Mt'
  len : Mt'.length = E'.length
  nodup : Mt'.Nodup
  ok : ∀ r ∈ Mt', OkR r
  old : ∀ k, k < E.length → E'[k]? = E[k]?
  new : ∀ k, E.length ≤ k → k < E'.length → DoneAt Mt' E' k
theorem RStep.le {Mt Mt' : List Rst} {E E' : List Nd} (h : RStep Mt E Mt' E') (hl : Mt.length = E.length) : E.length ≤ E'.length := by
  rw [← h.len, ← hl]; exact h.pre.length_le
theorem RStep.trans {Mt Mt' Mt2 : List Rst} {E E' E2 : List Nd} (h : RStep Mt E Mt' E') (hl : Mt.length = E.length) (h2 : RStep Mt' E' Mt2 E2) : RStep Mt E Mt2 E2 := by
  have h3 := h.le hl
  have h4 := h2.le h.len
  refine ⟨h.pre.trans h2.pre, h2.len, h2.nodup, h2.ok, fun k hk => (h2.old k (by omega)).trans (h.old k hk), fun k hk hk2 => ?_⟩
  by_cases h5 : k < E'.length
  · exact (h.new k hk h5).mono h2.pre h4 (h2.old k h5)
  · exact h2.new k (by omega) hk2
theorem OkR.after {r : Rst} (h : OkR r) {c : Nat} (hc : afterL r c ≠ []) : OkR (afterL r c) := ⟨afterL_sort h.1, afterL_bytes h.2.1, hc⟩
theorem armsG_tab {rec : Rst → List Rst → List Nd → Nat × List Rst × List Nd} {m : Nat}
    (hr : ∀ r Mt E, Mt.length = E.length → Mt.Nodup → (∀ x ∈ Mt, OkR x) → OkR r → (∀ s ∈ r, s.length < m) → RStep Mt E (rec r Mt E).2.1 (rec r Mt E).2.2 ∧ (rec r Mt E).2.1[(rec r Mt E).1]? = some r) :
    ∀ G A Mt E, Mt.length = E.length → Mt.Nodup → (∀ x ∈ Mt, OkR x) → (∀ g ∈ G, OkR g.2 ∧ g.1 < 256 ∧ ∀ s ∈ g.2, s.length < m) →
      RStep Mt E (armsG rec G A Mt E).2.1 (armsG rec G A Mt E).2.2 ∧ ∃ X, (armsG rec G A Mt E).1 = A ++ X ∧ Arcs (armsG rec G A Mt E).2.1 (armsG rec G A Mt E).2.2.length G X
  | [], A, Mt, E, hl, hn, ho, _ => by
    rw [armsG]
    exact ⟨⟨List.prefix_refl _, hl, hn, ho, fun _ _ => rfl, fun k h1 h2 => by simp only at h2; omega⟩, [], by simp, .nil⟩
  | (c, g) :: G, A, Mt, E, hl, hn, ho, hG => by
    rw [armsG]
    obtain ⟨o1, o2, o3⟩ := hG (c, g) (by simp)
    simp only at o1 o2 o3 ⊢
    obtain ⟨s1, s2⟩ := hr g Mt E hl hn ho o1 o3
    obtain ⟨t1, X, t2, t3⟩ := armsG_tab hr G (A ++ [⟨(c : Int), ((rec g Mt E).1 : Nat)⟩]) _ _ s1.len s1.nodup s1.ok fun g hg => hG g (List.mem_cons_of_mem _ hg)
    refine ⟨s1.trans hl t1, _ :: X, by rw [t2, List.append_assoc]; rfl, .cons o2 ?_ ?_ t3⟩
    · have := (List.getElem?_eq_some_iff.1 s2).1
      rw [s1.len] at this
      have := t1.le s1.len; omega
    · obtain ⟨S, hS⟩ := t1.pre
      rw [← hS, List.getElem?_append_left (List.getElem?_eq_some_iff.1 s2).1]; exact s2
theorem idxR_at {Mt : List Rst} {r : Rst} (h : idxR Mt r < Mt.length) : Mt[idxR Mt r]? = some r := by
  rw [List.getElem?_eq_getElem h]
  have := List.findIdx_getElem (w := h)
  exact congrArg some (of_decide_eq_true this)
theorem idxR_no {Mt : List Rst} {r : Rst} (h : ¬ idxR Mt r < Mt.length) : r ∉ Mt := fun hr => h (List.findIdx_lt_length_of_exists ⟨r, hr, by simp⟩)
theorem refV_tab : ∀ m r Mt E, Mt.length = E.length → Mt.Nodup → (∀ x ∈ Mt, OkR x) → OkR r → (∀ s ∈ r, s.length < m) → RStep Mt E (refV m r Mt E).2.1 (refV m r Mt E).2.2 ∧ (refV m r Mt E).2.1[(refV m r Mt E).1]? = some r
  | 0, r, Mt, E, hl, hn, ho, hr, hs => by
    exfalso
    obtain ⟨x, hx⟩ := List.exists_mem_of_ne_nil _ hr.2.2
    have := hs x hx; omega
  | m + 1, r, Mt, E, hl, hn, ho, hr, hs => by
    rw [refV, armsC_G]
    by_cases h : idxR Mt r < Mt.length
    · rw [if_pos h]
      exact ⟨⟨List.prefix_refl _, hl, hn, ho, fun _ _ => rfl, fun k h1 h2 => by simp only at h2; omega⟩, idxR_at h⟩
    · rw [if_neg h]
      have hno := idxR_no h
      have hgr : (List.range' 33 94).filterMap (fun c => if afterL r c = [] then none else some (c, afterL r c)) = grp r := rfl
      rw [hgr]
      obtain ⟨s1, X, s2, s3⟩ := armsG_tab (rec := refV m) (m := m) (refV_tab m) (grp r) [] (Mt ++ [r]) (E ++ [⟨false, []⟩]) (by simp [hl]) (by
        rw [List.nodup_append]
        exact ⟨hn, by simp, fun a ha b hb e => by
          obtain rfl := List.mem_singleton.1 hb
          subst e; exact hno ha⟩) (fun x hx => by
        rcases List.mem_append.1 hx with hx | hx
        · exact ho x hx
        · obtain rfl := List.mem_singleton.1 hx; exact hr) fun g hg => by
          obtain ⟨g1, g2, g3, g4⟩ := grp_mem hg
          refine ⟨by rw [g3]; exact hr.after (by rw [← g3]; exact g4), by omega, fun s hsg => ?_⟩
          rw [g3] at hsg
          obtain ⟨b, _, h5⟩ := afterL_mem.1 hsg
          have := hs _ h5
          simp at this; omega
      simp only [List.nil_append] at s2
      obtain ⟨q, hq⟩ : ∃ q, armsG (refV m) (grp r) [] (Mt ++ [r]) (E ++ [⟨false, []⟩]) = q := ⟨_, rfl⟩
      rw [hq] at s1 s2 s3 ⊢
      have hle := s1.le (by simp [hl])
      simp at hle
      have hEl : E.length < q.2.2.length := by omega
      have hat : q.2.1[E.length]? = some r := by
        obtain ⟨S, hS⟩ := s1.pre
        rw [← hS, List.getElem?_append_left (by simp [hl]), ← hl]; simp
      refine ⟨⟨(List.prefix_append _ _).trans s1.pre, by rw [List.length_set]; exact s1.len, s1.nodup, s1.ok, fun k hk => ?_, fun k hk hk2 => ?_⟩, hat⟩
      · rw [List.getElem?_set_ne (by omega), s1.old k (by simp; omega), List.getElem?_append_left hk]
      · by_cases e : k = E.length
        · subst e
          refine ⟨r, X, hat, ?_, by rw [List.length_set]; exact s3⟩
          rw [List.getElem?_set_self hEl, s2]
        · rw [List.length_set] at hk2
          exact (s1.new k (by simp; omega) hk2).mono (List.prefix_refl _) (by rw [List.length_set]; exact Nat.le_refl _) (by rw [List.getElem?_set_ne (Ne.symm e)])
/-- the automaton and what its nodes stand for -/
structure GTab (Mt : List Rst) (E : List Nd) : Prop where
  len : Mt.length = E.length
  nodup : Mt.Nodup
  ok : ∀ r ∈ Mt, OkR r
  nd : ∀ k (h : k < E.length), ∃ r, Mt[k]? = some r ∧ E[k].fin = finR r ∧ Arcs Mt E.length (grp r) E[k].arcs
theorem of_tab {r : Rst} (hr : OkR r) (hs : ∀ s ∈ r, s.length < 21) : ∃ Mt, GTab Mt (ofF r) ∧ Mt[0]? = some r := by
  obtain ⟨h1, h2⟩ := refV_tab 21 r [] [] rfl List.nodup_nil (fun x hx => by cases hx) hr hs
  refine ⟨_, ⟨h1.len, h1.nodup, h1.ok, fun k hk => ?_⟩, ?_⟩
  · obtain ⟨q, X, e1, e2, e3⟩ := h1.new k (Nat.zero_le _) hk
    have : (ofF r)[k] = ⟨finR q, X⟩ := by
      have h3 := List.getElem?_eq_getElem hk
      rw [show (ofF r)[k]? = some ⟨finR q, X⟩ from e2] at h3
      injection h3 with h3; exact h3.symm
    rw [this]
    exact ⟨q, e1, rfl, e3⟩
  · have h0 : (refV 21 r [] []).1 = 0 := by rw [refV, if_neg (by simp [idxR])]; rfl
    rw [h0] at h2; exact h2
/-! ### sizes -/
def sumG (G : List (Nat × Rst)) : Nat := (G.map fun g => g.2.length).sum
theorem catG_len : ∀ G : List (Nat × Rst), (catG G).length = sumG G
  | [] => rfl
  | g :: G => by
    have := catG_len G
    unfold catG sumG at this ⊢
    rw [List.flatMap_cons, List.length_append, this]; simp
theorem grp_sum {r : Rst} (h : OkR r) : sumG (grp r) ≤ r.length := by
  have := congrArg List.length (recon h.1 h.2.1)
  rw [List.length_append, catG_len] at this; omega
theorem armsG_le {rec : Rst → List Rst → List Nd → Nat × List Rst × List Nd} {k : Nat} (hr : ∀ r Mt E, OkR r → (rec r Mt E).2.2.length ≤ E.length + r.length * k) : ∀ G A Mt E, (∀ g ∈ G, OkR g.2) → (armsG rec G A Mt E).2.2.length ≤ E.length + sumG G * k
  | [], _, _, _, _ => Nat.le_add_right _ _
  | g :: G, A, Mt, E, h => by
    rw [armsG]
    have h1 := armsG_le hr G (A ++ [⟨(g.1 : Int), ((rec g.2 Mt E).1 : Nat)⟩]) (rec g.2 Mt E).2.1 (rec g.2 Mt E).2.2 fun x hx => h x (List.mem_cons_of_mem _ hx)
    have h2 := hr g.2 Mt E (h g (by simp))
    have h3 : sumG (g :: G) * k = g.2.length * k + sumG G * k := by rw [← Nat.add_mul]; rfl
    omega
theorem refV_le : ∀ m r Mt E, OkR r → (refV m r Mt E).2.2.length ≤ E.length + r.length * m
  | 0, _, _, _, _ => Nat.le_add_right _ _
  | m + 1, r, Mt, E, hr => by
    rw [refV, armsC_G]
    have hgr : (List.range' 33 94).filterMap (fun c => if afterL r c = [] then none else some (c, afterL r c)) = grp r := rfl
    rw [hgr]
    split
    · exact Nat.le_add_right _ _
    · have h1 := armsG_le (rec := refV m) (k := m) (refV_le m) (grp r) [] (Mt ++ [r]) (E ++ [⟨false, []⟩]) fun g hg => by
        obtain ⟨g1, g2, g3, g4⟩ := grp_mem hg
        rw [g3]; exact hr.after (by rw [← g3]; exact g4)
      have h2 : sumG (grp r) * m ≤ r.length * m := Nat.mul_le_mul_right _ (grp_sum hr)
      have h3 : 1 ≤ r.length := by
        cases r with
        | nil => exact absurd rfl hr.2.2
        | cons => simp
      have h4 : r.length * (m + 1) = r.length * m + r.length := Nat.mul_succ _ _
      simp only [List.length_set]
      simp at h1; omega
theorem ofF_le {r : Rst} (hr : OkR r) : (ofF r).length ≤ r.length * 21 := by
  have := refV_le 21 r [] [] hr
  simpa [ofF] using this
end Go.Proofs.YtocdljmdmiphnaaDoor
