/- Plain: listing the rules backwards; adding rules. -/
import Derived.Test.YtogjcfcfgnbmkaaPlainC
namespace Go.Proofs.Ytogjcfcfgnbmkaa
set_option linter.unusedVariables false
set_option linter.unusedSimpArgs false

/-! ### schemes with the same rules in another order -/
def revS (S : Sch) : Sch := ⟨S.modes, S.acc, S.rules.reverse⟩
theorem eqRl_comm (r q : Rl) : eqRl r q = eqRl q r := by
  unfold eqRl
  simp only [eq_comm]
theorem rev_fit {S : Sch} (hS : Fit S) : Fit (revS S) :=
  ⟨hS.m0, hS.m1, hS.a0, hS.a1, by show S.rules.reverse.length ≤ _; rw [List.length_reverse]; exact hS.len, fun i hi => hS.rule (List.mem_reverse.1 (List.getElem_mem hi))⟩
theorem rev_valid {S : Sch} (hv : validB S = true) : validB (revS S) = true := by
  rw [validB_list] at hv ⊢
  obtain ⟨h1, h2, h3⟩ := hv
  rw [headB_iff] at h1
  refine ⟨headB_iff.2 ⟨h1.1, h1.2.1, by show S.rules.reverse.length ≤ _; rw [List.length_reverse]; exact h1.2.2.1, h1.2.2.2⟩, fun r hr => h2 r (List.mem_reverse.1 hr), ?_⟩
  show S.rules.reverse.Pairwise _
  rw [List.pairwise_reverse]
  exact h3.imp fun {a b} h => by rw [eqRl_comm]; exact h
theorem rev_path {S : Sch} {use : Rl → Bool} {n u t : Nat} : PathN use (revS S).rules n u t ↔ PathN use S.rules n u t :=
  ⟨fun h => h.mono fun r hr hu => ⟨List.mem_reverse.1 hr, hu⟩, fun h => h.mono fun r hr hu => ⟨List.mem_reverse.2 hr, hu⟩⟩
theorem rev_reach {S : Sch} (hS : Fit S) (t : Nat) : (reachS (revS S)).testBit t = (reachS S).testBit t := by
  rw [Bool.eq_iff_iff, reach0 (rev_fit hS), reach0 hS]
  simp only [rev_path]
theorem rev_live {S : Sch} (hS : Fit S) {m : Nat} (hm : m < S.modes.toNat) : (liveS (revS S)).testBit m = (liveS S).testBit m := by
  rw [Bool.eq_iff_iff, live_path (rev_fit hS) hm, live_path hS hm]
  simp only [rev_path]
  exact Iff.rfl
theorem rev_deadB {S : Sch} (hS : Fit S) {r : Rl} (hr : r ∈ S.rules) : deadB (reachS (revS S)) (liveS (revS S)) r = deadB (reachS S) (liveS S) r := by
  have := hS.rule hr
  rw [deadB, deadB, rev_reach hS, rev_live hS (by omega)]
def mir (n i : Nat) : Nat := n - 1 - i
theorem range_mir (n : Nat) : (List.range n).reverse = (List.range n).map (mir n) := by
  apply List.ext_getElem
  · simp
  · intro i h1 h2
    simp only [List.length_reverse, List.length_range] at h1
    simp [mir]
theorem rev_dead {S : Sch} (hS : Fit S) : deadF (revS S) (revS S).rules.length = ((deadF S S.rules.length).map (mir S.rules.length)).reverse := by
  have hn : (revS S).rules.length = S.rules.length := List.length_reverse
  rw [hn]
  unfold deadF
  rw [← List.map_reverse, ← List.filter_reverse, range_mir, List.filter_map, List.map_map]
  have e : ∀ l : List Nat, (∀ i ∈ l, i < S.rules.length) → l.map (mir S.rules.length ∘ mir S.rules.length) = l := by
    intro l hl
    induction l with
    | nil => rfl
    | cons x l ih =>
      have hx := hl x (by simp)
      rw [List.map_cons, ih fun i hi => hl i (by simp [hi])]
      congr 1
      show mir _ (mir _ x) = x
      unfold mir; omega
  rw [e _ (fun i hi => by simpa using (List.mem_filter.1 hi).1)]
  apply List.filter_congr
  intro i hi
  have hi2 : i < S.rules.length := by simpa using hi
  have h1 : i < (revS S).rules.length := by rw [hn]; exact hi2
  have h2 : mir S.rules.length i < S.rules.length := by unfold mir; omega
  rw [dif_pos h1]
  show _ = (fun i => if h : i < S.rules.length then deadB (reachS S) (liveS S) S.rules[i] else false) (mir S.rules.length i)
  simp only [dif_pos h2]
  have e2 : (revS S).rules[i] = S.rules[mir S.rules.length i] := by
    have h3 : i < S.rules.reverse.length := h1
    show S.rules.reverse[i]'h3 = _
    rw [List.getElem_reverse]; rfl
  rw [e2, rev_deadB hS (List.getElem_mem h2)]
theorem rev_dead_len {S : Sch} (hS : Fit S) : (deadF (revS S) (revS S).rules.length).length = (deadF S S.rules.length).length := by
  rw [rev_dead hS]; simp
theorem rev_dead_at {S : Sch} (hS : Fit S) {i : Nat} (h : i < (deadF S S.rules.length).length) (h2 : (deadF S S.rules.length).length - 1 - i < (deadF (revS S) (revS S).rules.length).length) :
    (deadF (revS S) (revS S).rules.length)[(deadF S S.rules.length).length - 1 - i] = S.rules.length - 1 - (deadF S S.rules.length)[i] := by
  have : ∀ (l : List Nat) (hl : l = ((deadF S S.rules.length).map (mir S.rules.length)).reverse) (k : Nat) (hk : k < l.length), k = (deadF S S.rules.length).length - 1 - i → l[k] = S.rules.length - 1 - (deadF S S.rules.length)[i] := by
    rintro l rfl k hk rfl
    rw [List.getElem_reverse, List.getElem_map]
    unfold mir
    congr 2
    simp; omega
  exact this _ (rev_dead hS) _ h2 rfl
theorem least_len {P Q : List Nat → Prop} {a b : List Nat} (ha : Least P a) (hb : Least Q b) (h1 : ∀ d, P d → ∃ e, e.length = d.length ∧ Q e) (h2 : ∀ d, Q d → ∃ e, e.length = d.length ∧ P e) : a.length = b.length := by
  rcases ha with ⟨ha, hn⟩ | ⟨_, hp, hl⟩
  · rcases hb with ⟨hb, _⟩ | ⟨_, hq, _⟩
    · rw [ha, hb]
    · obtain ⟨e, _, he⟩ := h2 b hq; exact absurd he (hn e)
  · obtain ⟨e, he, hqe⟩ := h1 a hp
    rcases hb with ⟨_, hn⟩ | ⟨_, hq, hl2⟩
    · exact absurd hqe (hn e)
    · obtain ⟨e2, he2, hpe⟩ := h2 b hq
      have l1 := sle_len (hl2 e hqe)
      have l2 := sle_len (hl e2 hpe)
      omega
theorem rev_stuck {S : Sch} (hS : Fit S) : (stuckF S).length = (stuckF (revS S)).length := by
  refine least_len (stuckF_least hS) (stuckF_least (rev_fit hS)) ?_ ?_
  · rintro d ⟨h0, hd, t, ht, hl⟩
    obtain ⟨c, hc, h⟩ := leads_of_pathN (rev_path.2 (pathN_of_leads ht))
    have htl := leads_lt hS hS.pos ht
    refine ⟨c, hc, by rw [rev_live hS hS.pos]; exact h0, fun e => ?_, t, h, by rw [rev_live hS htl]; exact hl⟩
    rw [e] at hc; exact hd (List.eq_nil_of_length_eq_zero hc.symm)
  · rintro d ⟨h0, hd, t, ht, hl⟩
    have htl : t < S.modes.toNat := leads_lt (rev_fit hS) hS.pos ht
    obtain ⟨c, hc, h⟩ := leads_of_pathN (rev_path.1 (pathN_of_leads ht))
    refine ⟨c, hc, by rw [← rev_live hS hS.pos]; exact h0, fun e => ?_, t, h, by rw [← rev_live hS htl]; exact hl⟩
    rw [e] at hc; exact hd (List.eq_nil_of_length_eq_zero hc.symm)
theorem circ_path {S T : Sch} (hm : S.modes = T.modes) (hc : ∀ m, m < S.modes.toNat → cbit S m = cbit T m) (hp : ∀ n u t, PathN emptyR S.rules n u t → PathN emptyR T.rules n u t) {d : List Nat} (h : CircTo S S.modes.toNat d) : ∃ e, e.length = d.length ∧ CircTo T T.modes.toNat e := by
  obtain ⟨m, hml, hcb, hd, hl⟩ := h
  obtain ⟨c, hcl, h⟩ := leads_of_pathN (hp _ _ _ (pathN_of_leads hl))
  exact ⟨c, hcl, m, by rw [← hm]; exact hml, by rw [← hc m hml]; exact hcb, fun e => by rw [e] at hcl; exact hd (List.eq_nil_of_length_eq_zero hcl.symm), h⟩
theorem rev_endl {S : Sch} (hS : Fit S) : (endF S).length = (endF (revS S)).length := by
  have hcb : ∀ m, m < S.modes.toNat → cbit S m = cbit (revS S) m := fun m hm => by rw [cbit, cbit, rev_reach hS, rev_live hS hm]
  refine least_len (endF_least hS _ (Nat.le_refl _)) (endF_least (rev_fit hS) _ (Nat.le_refl _)) ?_ ?_
  · exact fun d h => circ_path (S := S) (T := revS S) rfl hcb (fun n u t h => rev_path.2 h) h
  · exact fun d h => circ_path (S := revS S) (T := S) rfl (fun m hm => (hcb m hm).symm) (fun n u t h => rev_path.1 h) h
theorem nil_len {α : Type} {l m : List α} (h : l.length = m.length) : l = [] ↔ m = [] := by
  rw [← List.length_eq_zero_iff, ← List.length_eq_zero_iff, h]
theorem rev_sound {S : Sch} (hv : validB S = true) (hS : Fit S) : soundF (revS S) = soundF S := by
  have hs : stuckF (revS S) = [] ↔ stuckF S = [] := nil_len (rev_stuck hS).symm
  have he : endF (revS S) = [] ↔ endF S = [] := nil_len (rev_endl hS).symm
  rw [soundF, soundF, if_pos hv, if_pos (rev_valid hv), rev_live hS hS.pos]
  by_cases h0 : (liveS S).testBit 0 = true
  · rw [if_pos h0, if_pos h0]
    have o1 := out_iff hS h0
    have o2 := out_iff (rev_fit hS) (by rw [rev_live hS hS.pos]; exact h0)
    by_cases h1 : stuckF S = []
    · rw [if_neg (fun h => o2.1 h (hs.2 h1)), if_neg (fun h => o1.1 h h1)]
      by_cases h2 : endF S = []
      · rw [if_pos h2, if_pos (he.2 h2)]
      · rw [if_neg h2, if_neg (fun h => h2 (he.1 h))]
    · rw [if_pos (o1.2 h1), if_pos (o2.2 (fun h => h1 (hs.1 h)))]
  · rw [if_neg h0, if_neg h0]

/-! ### more rules -/
theorem more_reach {S T : Sch} (hS : Fit S) (hT : Fit T) (hm : S.modes = T.modes) (hR : ∀ r ∈ S.rules, r ∈ T.rules) {t : Nat} (h : (reachS S).testBit t = true) : (reachS T).testBit t = true := by
  obtain ⟨n, hn⟩ := (reach0 hS).1 h
  exact (reach0 hT).2 ⟨n, hn.mono fun r hr hu => ⟨hR r hr, hu⟩⟩
theorem more_live {S T : Sch} (hS : Fit S) (hT : Fit T) (hm : S.modes = T.modes) (ha : S.acc = T.acc) (hR : ∀ r ∈ S.rules, r ∈ T.rules) {t : Nat} (ht : t < S.modes.toNat) (h : (liveS S).testBit t = true) : (liveS T).testBit t = true := by
  obtain ⟨n, v, hn, hv⟩ := (live_path hS ht).1 h
  exact (live_path hT (by rw [← hm]; exact ht)).2 ⟨n, v, hn.mono fun r hr hu => ⟨hR r hr, hu⟩, by rw [← ha]; exact hv⟩
def zzR (m : Int) : Rl := ⟨m, m, ⟨#[]⟩, ⟨#[122, 122]⟩, 0⟩
def addS (S : Sch) (Q : List Rl) : Sch := ⟨S.modes, S.acc, S.rules ++ Q⟩
theorem add_fit {S : Sch} (hS : Fit S) {Q : List Rl} (hl : (S.rules ++ Q).length ≤ 64) (hQ : ∀ r ∈ Q, 0 ≤ r.frm ∧ r.frm < S.modes ∧ 0 ≤ r.dst ∧ r.dst < S.modes) : Fit (addS S Q) := by
  refine ⟨hS.m0, hS.m1, hS.a0, hS.a1, hl, fun i hi => ?_⟩
  have : (S.rules ++ Q)[i] ∈ S.rules ++ Q := List.getElem_mem hi
  rcases List.mem_append.1 this with h | h
  · exact hS.rule h
  · exact hQ _ h
theorem add_valid {S : Sch} (hv : validB S = true) {Q : List Rl} (hl : (S.rules ++ Q).length ≤ 64) (hQ : ∀ r ∈ Q, rightB S.modes r = true) (hp : Q.Pairwise fun q r => eqRl r q = false) (hx : ∀ q ∈ S.rules, ∀ r ∈ Q, eqRl r q = false) : validB (addS S Q) = true := by
  rw [validB_list] at hv ⊢
  obtain ⟨h1, h2, h3⟩ := hv
  rw [headB_iff] at h1
  refine ⟨headB_iff.2 ⟨h1.1, h1.2.1, hl, h1.2.2.2⟩, fun r hr => ?_, ?_⟩
  · rcases List.mem_append.1 hr with h | h
    · exact h2 r h
    · exact hQ r h
  · exact List.pairwise_append.2 ⟨h3, hp, hx⟩
theorem add_endl {S : Sch} (hS : Fit S) {m : Nat} (hm : m < S.modes.toNat) (hr : (reachS S).testBit m = true) (hl : (liveS S).testBit m = true) (hT : Fit (addS S [zzR m])) : (endF (addS S [zzR m])).length = 1 := by
  have hsub : ∀ r ∈ S.rules, r ∈ (addS S [zzR m]).rules := fun r hr => List.mem_append.2 (.inl hr)
  have hlen : S.rules.length < (addS S [zzR m]).rules.length := by show _ < (S.rules ++ _).length; simp
  have hget : (addS S [zzR m]).rules[S.rules.length] = zzR m := by
    show (S.rules ++ [zzR m])[S.rules.length]'(by simp) = _
    rw [List.getElem_append_right (Nat.le_refl _)]; simp
  have hc : leads emptyR (addS S [zzR m]).rules m [S.rules.length] = some m :=
    leads_cons.2 ⟨m, ⟨hlen, by rw [hget]; exact Int.toNat_natCast m, by rw [hget]; rfl, by rw [hget]; exact Int.toNat_natCast m⟩, rfl⟩
  have hC : CircTo (addS S [zzR m]) (addS S [zzR m]).modes.toNat [S.rules.length] :=
    ⟨m, hm, by simp [cbit, more_reach hS hT rfl hsub hr, more_live hS hT rfl rfl hsub hm hl], by simp, hc⟩
  rcases endF_least hT _ (Nat.le_refl _) with ⟨_, h2⟩ | ⟨h1, _, h3⟩
  · exact absurd hC (h2 _)
  · have l1 := sle_len (h3 _ hC)
    have l2 : 0 < (endF (addS S [zzR m])).length := List.length_pos_iff.2 h1
    have l3 : (endF (addS S [zzR m])).length ≤ 1 := l1
    omega
/-- further rules that take letters -/
theorem add_sound {S : Sch} (hv : validB S = true) (hS : Fit S) (h0 : soundF S = 0) {Q : List Rl} (hT : Fit (addS S Q)) (hvT : validB (addS S Q) = true) (hQ : ∀ r ∈ Q, emptyR r = false) :
    soundF (addS S Q) = 0 ∨ soundF (addS S Q) = 40 ∨ (soundF (addS S Q) = 41 ∧ S.rules.any emptyR = true) := by
  have hz := (sound_zero hv hS).1 h0
  have hl : (liveS (addS S Q)).testBit 0 = true := more_live hS hT rfl rfl (fun r hr => List.mem_append.2 (.inl hr)) hS.pos hz.1
  rw [soundF, if_pos hvT, if_pos hl]
  by_cases h1 : outB (reachS (addS S Q)) (liveS (addS S Q)) = true
  · rw [if_pos h1]; exact .inr (.inl rfl)
  · rw [if_neg h1]
    by_cases h2 : endF (addS S Q) = []
    · rw [if_pos h2]; exact .inl rfl
    · rw [if_neg h2]
      refine .inr (.inr ⟨rfl, ?_⟩)
      obtain ⟨m, n, _, _, _, hp⟩ := (endF_iff hT).1 h2
      cases hp with
      | cons r hr hu _ =>
        rcases List.mem_append.1 hr with h | h
        · exact List.any_eq_true.2 ⟨r, h, hu⟩
        · rw [hQ r h] at hu; cases hu
theorem zz_other {S : Sch} {m : Int} {q : Rl} (h : q.out.size ≤ 1) : eqRl (zzR m) q = false := by
  rw [eqRl_eq, eqRl']
  have : ¬ (zzR m).out.data.toList = q.out.data.toList := fun e => by
    have := congrArg List.length e
    have h2 : q.out.data.toList.length = q.out.size := by simp
    rw [h2] at this
    have h3 : (zzR m).out.data.toList.length = 2 := rfl
    omega
  rw [decide_eq_false this]; simp
theorem zz_right {M m : Int} (h0 : 0 ≤ m) (h1 : m < M) : rightB M (zzR m) = true := by
  unfold rightB zzR
  simp [h0, h1]
  decide
/-- the letters of the further rules -/
def zIn (i : Nat) : ByteArray := ⟨#[122, UInt8.ofNat (97 + i)]⟩
def zR (i : Nat) (f t c : Int) : Rl := ⟨f, t, zIn i, ⟨#[]⟩, c⟩
theorem z_other {i : Nat} {f t c : Int} {q : Rl} (h : q.inp.data.toList.head? ≠ some 122) : eqRl (zR i f t c) q = false := by
  rw [eqRl_eq, eqRl']
  have : ¬ (zR i f t c).inp.data.toList = q.inp.data.toList := fun e => h (by rw [← e]; rfl)
  rw [decide_eq_false this]; simp
theorem z_z {i j : Nat} (hi : i < 6) (hj : j < 6) (hne : i ≠ j) {f t c f' t' c' : Int} : eqRl (zR i f t c) (zR j f' t' c') = false := by
  rw [eqRl_eq, eqRl']
  have : ¬ (zR i f t c).inp.data.toList = (zR j f' t' c').inp.data.toList := by
    show ¬ [122, UInt8.ofNat (97 + i)] = [122, UInt8.ofNat (97 + j)]
    rcases (show i = 0 ∨ i = 1 ∨ i = 2 ∨ i = 3 ∨ i = 4 ∨ i = 5 by omega) with rfl | rfl | rfl | rfl | rfl | rfl <;> rcases (show j = 0 ∨ j = 1 ∨ j = 2 ∨ j = 3 ∨ j = 4 ∨ j = 5 by omega) with rfl | rfl | rfl | rfl | rfl | rfl <;> first | (exact absurd rfl hne) | decide
  rw [decide_eq_false this]; simp
theorem z_right {M : Int} {i : Nat} (hi : i < 6) {f t c : Int} (f0 : 0 ≤ f) (f1 : f < M) (t0 : 0 ≤ t) (t1 : t < M) (c0 : 0 ≤ c) (c1 : c ≤ 255) : rightB M (zR i f t c) = true := by
  unfold rightB zR
  have hs : smallB (zIn i) = true := by
    rcases (show i = 0 ∨ i = 1 ∨ i = 2 ∨ i = 3 ∨ i = 4 ∨ i = 5 by omega) with rfl | rfl | rfl | rfl | rfl | rfl <;> decide
  have hz : ((zIn i).size : Int) ≤ 4 := by show ((2 : Nat) : Int) ≤ 4; decide
  have hk : knownB ⟨#[]⟩ = true := by decide
  have hc : c ≤ 1000 := by omega
  simp [f0, f1, t0, t1, c0, hc, hs, hk]
  exact ⟨hz, by decide⟩
theorem z_empty {i : Nat} {f t c : Int} : emptyR (zR i f t c) = false := by
  unfold emptyR zR zIn; rfl
end Go.Proofs.Ytogjcfcfgnbmkaa
