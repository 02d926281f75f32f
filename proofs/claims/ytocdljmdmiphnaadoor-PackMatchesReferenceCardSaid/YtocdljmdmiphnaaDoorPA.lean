/- Pack: plain. Numbers, check sums, forms written and read. -/
import Derived.Test.YtocdljmdmiphnaaDoorDRefQ
import Derived.Test.YtocdljmdmiphnaaDoorDFacts
import Derived.Test.YtocdljmdmiphnaaDoorDVis
namespace Go.Proofs.YtocdljmdmiphnaaDoor
set_option linter.unusedVariables false
set_option linter.unusedSimpArgs false

/-! ### numbers -/
def numB (n : Nat) : Wd := if h : n < 128 then [UInt8.ofNat n] else UInt8.ofNat (128 + n % 128) :: numB (n / 128)
termination_by n
decreasing_by omega
theorem numB_lt {n : Nat} (h : n < 128) : numB n = [UInt8.ofNat n] := by rw [numB, dif_pos h]
theorem numB_ge {n : Nat} (h : ¬ n < 128) : numB n = UInt8.ofNat (128 + n % 128) :: numB (n / 128) := by rw [numB, dif_neg h]
theorem numB_pos (n : Nat) : 1 ≤ (numB n).length := by
  by_cases h : n < 128
  · rw [numB_lt h]; simp
  · rw [numB_ge h]; simp
theorem numB_len : ∀ (k n : Nat), n < 128 ^ (k + 1) → (numB n).length ≤ k + 1
  | 0, n, h => by rw [numB_lt (by simpa using h)]; simp
  | k + 1, n, h => by
    by_cases h1 : n < 128
    · rw [numB_lt h1]; simp
    · rw [numB_ge h1, List.length_cons]
      have h2 : n / 128 < 128 ^ (k + 1) := by
        rw [Nat.div_lt_iff_lt_mul (by omega)]
        rw [Nat.pow_succ] at h
        exact h
      have := numB_len k (n / 128) h2
      omega
theorem numB_len5 {n : Nat} (h : n < 34359738368) : (numB n).length ≤ 5 := numB_len 4 n (by simpa using h)
theorem numB_mono : ∀ (n m : Nat), m ≤ n → (numB m).length ≤ (numB n).length := by
  intro n
  induction n using Nat.strongRecOn with
  | _ n ih =>
    intro m hm
    by_cases h : m < 128
    · rw [numB_lt h]; exact numB_pos n
    · have h2 : ¬ n < 128 := by omega
      rw [numB_ge h, numB_ge h2, List.length_cons, List.length_cons]
      have := ih (n / 128) (by omega) (m / 128) (Nat.div_le_div_right hm)
      omega
/-- a number of at most k bytes is read -/
def rdNumA : Nat → Nat → Nat → Wd → Option (Nat × Wd)
  | 0, _, _, _ => none
  | _ + 1, _, _, [] => none
  | k + 1, p, a, c :: bs => if c.toNat < 128 then some (a + c.toNat % 128 * p, bs) else rdNumA k (p * 128) (a + c.toNat % 128 * p) bs
theorem rdNumA_num : ∀ (k p a n : Nat) (bs : Wd), n < 128 ^ k → rdNumA k p a (numB n ++ bs) = if k = 0 then none else some (a + n * p, bs)
  | 0, _, _, _, _, _ => by rw [rdNumA]; simp
  | k + 1, p, a, n, bs, h => by
    rw [if_neg (by omega)]
    by_cases h1 : n < 128
    · rw [numB_lt h1, List.singleton_append, rdNumA]
      have e : (UInt8.ofNat n).toNat = n := by rw [UInt8.toNat_ofNat']; omega
      rw [e, if_pos h1, Nat.mod_eq_of_lt h1]
    · rw [numB_ge h1, List.cons_append, rdNumA]
      have e : (UInt8.ofNat (128 + n % 128)).toNat = 128 + n % 128 := by rw [UInt8.toNat_ofNat']; omega
      rw [e, if_neg (by omega)]
      have h2 : n / 128 < 128 ^ k := by
        rw [Nat.div_lt_iff_lt_mul (by omega)]
        rw [Nat.pow_succ] at h
        exact h
      have h3 : k ≠ 0 := by
        rintro rfl
        simp at h2
        omega
      rw [rdNumA_num k (p * 128) _ (n / 128) bs h2, if_neg h3]
      congr 2
      have h4 : n / 128 * (p * 128) = n / 128 * 128 * p := by rw [Nat.mul_comm p 128, ← Nat.mul_assoc]
      have h5 : (128 + n % 128) % 128 = n % 128 := by omega
      rw [h4, h5, Nat.add_assoc, ← Nat.add_mul]
      congr 2
      omega
def rdNum (ok : Nat → Bool) (bs : Wd) : Option (Nat × Wd) := match rdNumA 5 1 0 bs with
  | some (n, r) => if ok n = true then some (n, r) else none
  | none => none
theorem rdNum_num {ok : Nat → Bool} {n : Nat} (h : n < 34359738368) (ho : ok n = true) (bs : Wd) : rdNum ok (numB n ++ bs) = some (n, bs) := by
  unfold rdNum
  rw [rdNumA_num 5 1 0 n bs (by simpa using h), if_neg (by omega)]
  simp [ho]
theorem rdNumA_len : ∀ (k p a : Nat) (bs : Wd) (n : Nat) (r : Wd), rdNumA k p a bs = some (n, r) → r.length < bs.length ∧ ∃ q, bs = q ++ r
  | 0, _, _, _, _, _, h => by rw [rdNumA] at h; cases h
  | _ + 1, _, _, [], _, _, h => by rw [rdNumA] at h; cases h
  | k + 1, p, a, c :: bs, n, r, h => by
    rw [rdNumA] at h
    split at h
    · cases h
      exact ⟨by simp, [c], rfl⟩
    · obtain ⟨h1, q, h2⟩ := rdNumA_len k _ _ bs n r h
      exact ⟨by rw [List.length_cons]; omega, c :: q, by rw [h2]; rfl⟩
theorem rdNumA_bound : ∀ (k p a : Nat) (bs : Wd) (n : Nat) (r : Wd), rdNumA k p a bs = some (n, r) → n + p ≤ a + p * 128 ^ k
  | 0, _, _, _, _, _, h => by rw [rdNumA] at h; cases h
  | _ + 1, _, _, [], _, _, h => by rw [rdNumA] at h; cases h
  | k + 1, p, a, c :: bs, n, r, h => by
    rw [rdNumA] at h
    have hc : c.toNat % 128 * p ≤ 127 * p := Nat.mul_le_mul_right p (by omega)
    have hp : p * 128 ^ (k + 1) = p * 128 * 128 ^ k := by rw [Nat.pow_succ, Nat.mul_assoc, Nat.mul_comm (128 ^ k)]
    have hq : p * 128 ≤ p * 128 * 128 ^ k := Nat.le_mul_of_pos_right _ (Nat.pow_pos (by omega))
    split at h
    · cases h
      omega
    · have := rdNumA_bound k _ _ bs n r h
      omega
/-! ### the check sum -/
def sumSt (l : Wd) : Nat × Nat := l.foldl (fun q x => ((q.1 + x.toNat) % 65521, (q.2 + (q.1 + x.toNat) % 65521) % 65521)) (1, 0)
theorem sumSt_succ {l : Wd} {k : Nat} (hk : k < l.length) : sumSt (l.take (k + 1)) = (((sumSt (l.take k)).1 + l[k].toNat) % 65521, ((sumSt (l.take k)).2 + ((sumSt (l.take k)).1 + l[k].toNat) % 65521) % 65521) := by
  unfold sumSt
  rw [List.take_succ_eq_append_getElem hk, List.foldl_append]; rfl
theorem sumSt_snoc (l : Wd) (x : UInt8) : sumSt (l ++ [x]) = (((sumSt l).1 + x.toNat) % 65521, ((sumSt l).2 + ((sumSt l).1 + x.toNat) % 65521) % 65521) := by
  unfold sumSt
  rw [List.foldl_append]; rfl
theorem sumSt_lt (l : Wd) : (sumSt l).1 < 65521 ∧ (sumSt l).2 < 65521 := by
  rcases List.eq_nil_or_concat l with rfl | ⟨m, x, rfl⟩
  · decide
  · rw [List.concat_eq_append, sumSt_snoc]
    exact ⟨Nat.mod_lt _ (by omega), Nat.mod_lt _ (by omega)⟩
def sumB (l : Wd) : Wd := [UInt8.ofNat ((sumSt l).2 / 256), UInt8.ofNat ((sumSt l).2 % 256), UInt8.ofNat ((sumSt l).1 / 256), UInt8.ofNat ((sumSt l).1 % 256)]
theorem sumB_len (l : Wd) : (sumB l).length = 4 := rfl
theorem sumB_fst {l m : Wd} (h : sumB l = sumB m) : (sumSt l).1 = (sumSt m).1 := by
  have h1 := sumSt_lt l
  have h2 := sumSt_lt m
  unfold sumB at h
  injection h with _ h
  injection h with _ h
  injection h with a h
  injection h with b _
  have a' := congrArg UInt8.toNat a
  have b' := congrArg UInt8.toNat b
  rw [UInt8.toNat_ofNat', UInt8.toNat_ofNat'] at a' b'
  omega
/-- the first number of a sum, without the remainders on the way -/
theorem sumSt_fold : ∀ (l : Wd) (a b : Nat), a < 65521 → (l.foldl (fun q x => ((q.1 + x.toNat) % 65521, (q.2 + (q.1 + x.toNat) % 65521) % 65521)) (a, b)).1 = (a + (l.map UInt8.toNat).sum) % 65521
  | [], a, b, h => by simp; omega
  | x :: l, a, b, h => by
    rw [List.foldl_cons, sumSt_fold l _ _ (Nat.mod_lt _ (by omega)), List.map_cons, List.sum_cons]
    omega
theorem sumSt_sum (l : Wd) : (sumSt l).1 = (1 + (l.map UInt8.toNat).sum) % 65521 := sumSt_fold l 1 0 (by omega)
/-- a sum in which one byte is another one is another one -/
theorem sumB_change {p q : Wd} {x y : UInt8} (h : sumB (p ++ x :: q) = sumB (p ++ y :: q)) : x = y := by
  have h1 := sumB_fst h
  rw [sumSt_sum, sumSt_sum] at h1
  simp only [List.map_append, List.map_cons, List.sum_append, List.sum_cons] at h1
  have hx := UInt8.toNat_lt x
  have hy := UInt8.toNat_lt y
  refine UInt8.toNat_inj.1 ?_
  omega
/-! ### forms written -/
def bit (b : Bool) : Nat := if b then 1 else 0
def headN (x : Nd) : Nat := 2 * x.arcs.length + bit x.fin
def byteC (c : Int) : UInt8 := UInt8.ofNat c.toNat
def pkArms (rec : Nat → Nat × Wd → Nat × Wd) : List Ar → Nat × Wd → Nat × Wd
  | [], s => s
  | x :: r, s => pkArms rec r (if x.t < (s.1 : Int) then (s.1, s.2 ++ byteC x.c :: numB (x.t.toNat + 1)) else rec x.t.toNat (s.1, s.2 ++ byteC x.c :: numB 0))
def pkWrite (E : List Nd) : Nat → Nat → Nat × Wd → Nat × Wd
  | 0, _, s => s
  | m + 1, i, s => pkArms (pkWrite E m) (E.getD i default).arcs (s.1 + 1, s.2 ++ numB (headN (E.getD i default)))
/-- the reference's -/
def pkWriteR (E : List Nd) : Nat → Nat → Nat × Wd → Nat × Wd
  | 0, _, s => s
  | m + 1, i, s => pkArms (pkWriteR E m) (E.getD i default).arcs (max s.1 (i + 1), s.2 ++ numB (headN (E.getD i default)))
def formB (E : List Nd) : Wd := (pkWrite E 21 0 (0, [])).2
/-! ### forms read -/
def rdArcs (okN : Nat → Bool) (rec : Wd → Nat → Option (Wd × List Nd)) : Nat → Wd → Nat → Option (Wd × List Ar × List Nd)
  | 0, bs, _ => some (bs, [], [])
  | _ + 1, [], _ => none
  | k + 1, c :: bs, n => match rdNum okN bs with
    | none => none
    | some (t, b1) => if t = 0 then match rec b1 n with
        | none => none
        | some (b2, nw) => match rdArcs okN rec k b2 (n + nw.length) with
          | none => none
          | some (b3, X, nw2) => some (b3, ⟨(c.toNat : Int), (n : Int)⟩ :: X, nw ++ nw2)
      else match rdArcs okN rec k b1 n with
        | none => none
        | some (b3, X, nw2) => some (b3, ⟨(c.toNat : Int), (t : Int) - 1⟩ :: X, nw2)
def rdNode (okN okK : Nat → Bool) : Nat → Wd → Nat → Option (Wd × List Nd)
  | 0, _, _ => none
  | m + 1, bs, n => match rdNum okN bs with
    | none => none
    | some (k, b1) => if okK k = true then match rdArcs okN (rdNode okN okK m) (k / 2) b1 (n + 1) with
        | none => none
        | some (b2, X, nw) => some (b2, ⟨decide (k % 2 = 1), X⟩ :: nw)
      else none
theorem arms_one (rec : Nat → Nat × Wd → Nat × Wd) (x : Ar) (X : List Ar) (s : Nat × Wd) : pkArms rec (X ++ [x]) s = (if x.t < ((pkArms rec X s).1 : Int) then ((pkArms rec X s).1, (pkArms rec X s).2 ++ byteC x.c :: numB (x.t.toNat + 1)) else rec x.t.toNat ((pkArms rec X s).1, (pkArms rec X s).2 ++ byteC x.c :: numB 0)) := by
  induction X generalizing s with
  | nil => rfl
  | cons y Y ih => rw [List.cons_append, pkArms, pkArms, ih]
end Go.Proofs.YtocdljmdmiphnaaDoor
/- Pack: plain. The form of a canonical automaton is written alike by both, and read back. -/
namespace Go.Proofs.YtocdljmdmiphnaaDoor
set_option linter.unusedVariables false
set_option linter.unusedSimpArgs false

/-- only letters and digits -/
def PlainR (r : Rst) : Prop := ∀ s ∈ r, ∀ b ∈ s, classF (UInt8.toNat b : Int) ≠ 0
theorem PlainR.after {r : Rst} (h : PlainR r) (c : Nat) : PlainR (afterL r c) := fun s hs b hb => by
  obtain ⟨x, hx, h2⟩ := afterL_mem.1 hs
  exact h _ h2 b (List.mem_cons_of_mem _ hb)
theorem fm_len {α β : Type} {f : α → Option β} {p : α → Bool} : ∀ {l : List α}, (∀ x ∈ l, f x ≠ none → p x = true) → (l.filterMap f).length ≤ (l.filter p).length
  | [], _ => Nat.le_refl _
  | x :: l, h => by
    have ih := fm_len (f := f) (p := p) (l := l) fun y hy => h y (List.mem_cons_of_mem _ hy)
    rw [List.filterMap_cons, List.filter_cons]
    cases hf : f x with
    | none =>
      simp only
      split
      · rw [List.length_cons]; omega
      · exact ih
    | some b =>
      simp only
      rw [if_pos (h x (by simp) (by rw [hf]; exact Option.some_ne_none _)), List.length_cons, List.length_cons]
      omega
theorem grp_len62 {r : Rst} (h : PlainR r) : (grp r).length ≤ 62 := by
  have h1 : (grp r).length ≤ ((List.range' 33 94).filter fun (c : Nat) => !(classF (c : Int) == 0)).length := by
    unfold grp grpR
    refine fm_len fun c hc hne => ?_
    have h2 : afterL r c ≠ [] := fun e => by rw [if_pos e] at hne; exact hne rfl
    obtain ⟨s, hs⟩ := List.exists_mem_of_ne_nil _ h2
    obtain ⟨b, hb, hm⟩ := afterL_mem.1 hs
    have := h _ hm b (by simp)
    rw [hb] at this
    simpa using this
  have h2 : ((List.range' 33 94).filter fun (c : Nat) => !(classF (c : Int) == 0)).length = 62 := by decide
  omega
theorem Dict.plain {L : List ByteArray} (h : Dict L) : PlainR (restAt 0 L) := fun s hs b hb => by
  obtain ⟨x, hx, rfl⟩ := List.mem_map.1 hs
  rw [List.drop_zero] at hb
  have hw := h.word x hx
  unfold wordB knownB knownL at hw
  simp only [Bool.and_eq_true] at hw
  have := List.all_eq_true.1 hw.2.2 b hb
  simpa using this
/-- the bytes of nodes, if numbers are small -/
def sizeN (D : List Nd) : Nat := (D.map fun x => 1 + 2 * x.arcs.length).sum
def sizeM (D : List Nd) : Nat := (D.map fun x => 1 + 3 * x.arcs.length).sum
theorem sizeM_app (a b : List Nd) : sizeM (a ++ b) = sizeM a + sizeM b := by unfold sizeM; rw [List.map_append, List.sum_append]
theorem sizeN_M (D : List Nd) : sizeM D ≤ 2 * sizeN D ∧ D.length ≤ sizeN D := by
  induction D with
  | nil => exact ⟨Nat.le_refl _, Nat.le_refl _⟩
  | cons x D ih =>
    have h1 : sizeM (x :: D) = 1 + 3 * x.arcs.length + sizeM D := rfl
    have h2 : sizeN (x :: D) = 1 + 2 * x.arcs.length + sizeN D := rfl
    rw [List.length_cons, h1, h2]
    omega
theorem numB_two {n : Nat} (h : n ≤ 16000) : 1 ≤ (numB n).length ∧ (numB n).length ≤ 2 := ⟨numB_pos n, numB_len 1 n (by simp; omega)⟩
theorem sizeN_app (a b : List Nd) : sizeN (a ++ b) = sizeN a + sizeN b := by unfold sizeN; rw [List.map_append, List.sum_append]
structure PkN (okN okK : Nat → Bool) (E : List Nd) (m k k' : Nat) (bs : Wd) : Prop where
  lt : k < k'
  le : k' ≤ E.length
  w : ∀ out, pkWrite E m k (k, out) = (k', out ++ bs)
  wr : ∀ out, pkWriteR E m k (k, out) = (k', out ++ bs)
  rd : ∀ rest, rdNode okN okK m (bs ++ rest) k = some (rest, (E.drop k).take (k' - k))
  sz : E.length < 16000 → sizeN ((E.drop k).take (k' - k)) ≤ bs.length ∧ bs.length ≤ sizeM ((E.drop k).take (k' - k))
structure PkA (okN okK : Nat → Bool) (E : List Nd) (m n n' : Nat) (X : List Ar) (bs : Wd) : Prop where
  lt : n ≤ n'
  le : n' ≤ E.length
  w : ∀ out, pkArms (pkWrite E m) X (n, out) = (n', out ++ bs)
  wr : ∀ out, pkArms (pkWriteR E m) X (n, out) = (n', out ++ bs)
  rd : ∀ rest, rdArcs okN (rdNode okN okK m) X.length (bs ++ rest) n = some (rest, X, (E.drop n).take (n' - n))
  sz : E.length < 16000 → 2 * X.length + sizeN ((E.drop n).take (n' - n)) ≤ bs.length ∧ bs.length ≤ 3 * X.length + sizeM ((E.drop n).take (n' - n))
theorem take_join {α : Type} {E : List α} {a b c : Nat} (h1 : a ≤ b) (h2 : b ≤ c) : (E.drop a).take (b - a) ++ (E.drop b).take (c - b) = (E.drop a).take (c - a) := by
  have h : E.drop b = (E.drop a).drop (b - a) := by rw [List.drop_drop]; congr 1; omega
  rw [h]
  have h3 : c - a = (b - a) + (c - b) := by omega
  rw [h3, List.take_add]
theorem take_len {α : Type} {E : List α} {a b : Nat} (h1 : a ≤ b) (h2 : b ≤ E.length) : ((E.drop a).take (b - a)).length = b - a := by
  rw [List.length_take, List.length_drop]; omega
theorem byteC_nat {c : Nat} (h : c < 256) : ((byteC (c : Int)).toNat : Int) = (c : Int) := by
  unfold byteC
  rw [Int.toNat_natCast, UInt8.toNat_ofNat']
  omega
theorem numB_zero : numB 0 = [0] := by rw [numB_lt (by omega)]; rfl
section
variable {okN okK : Nat → Bool} {E : List Nd}
theorem pkA_nil {m n : Nat} (h : n ≤ E.length) : PkA okN okK E m n n [] [] := ⟨Nat.le_refl _, h, fun out => by simp [pkArms], fun out => by simp [pkArms], fun rest => by simp [rdArcs], fun _ => by simp [sizeN, sizeM]⟩
/-- an arc to an older node -/
theorem pkA_old {m n n' c t : Nat} {X : List Ar} {bs : Wd} (hN : ∀ k, k ≤ 1000001 → okN k = true) (hc : c < 256) (ht : t < n) (hE : E.length ≤ 1000000) (h : PkA okN okK E m n n' X bs) :
    PkA okN okK E m n n' (⟨(c : Int), (t : Int)⟩ :: X) (byteC (c : Int) :: numB (t + 1) ++ bs) := by
  have hn : n ≤ 1000000 := by have := h.lt; have := h.le; omega
  refine ⟨h.lt, h.le, fun out => ?_, fun out => ?_, fun rest => ?_, fun h9 => ?_⟩
  · rw [pkArms, if_pos (by simp only; omega), Int.toNat_natCast, h.w]
    simp
  · rw [pkArms, if_pos (by simp only; omega), Int.toNat_natCast, h.wr]
    simp
  · rw [List.length_cons, List.cons_append, List.cons_append, rdArcs, List.append_assoc, rdNum_num (by omega) (hN _ (by omega))]
    simp only
    rw [if_neg (by omega), h.rd]
    simp only
    rw [byteC_nat hc]
    simp
  · obtain ⟨s1, s2⟩ := h.sz h9
    obtain ⟨s3, s4⟩ := numB_two (n := t + 1) (by have := h.lt; have := h.le; omega)
    rw [List.length_append, List.length_cons, List.length_cons]
    exact ⟨by omega, by omega⟩
/-- an arc to a new node -/
theorem pkA_new {m n k n' c : Nat} {X : List Ar} {bs b2 : Wd} (hN : ∀ k, k ≤ 1000001 → okN k = true) (hc : c < 256) (hE : E.length ≤ 1000000) (h1 : PkN okN okK E m n k b2) (h : PkA okN okK E m k n' X bs) :
    PkA okN okK E m n n' (⟨(c : Int), (n : Int)⟩ :: X) (byteC (c : Int) :: numB 0 ++ b2 ++ bs) := by
  refine ⟨by have := h1.lt; have := h.lt; omega, h.le, fun out => ?_, fun out => ?_, fun rest => ?_, fun h9 => ?_⟩
  · rw [pkArms, if_neg (by simp only; omega), Int.toNat_natCast, h1.w, h.w]
    simp
  · rw [pkArms, if_neg (by simp only; omega), Int.toNat_natCast, h1.wr, h.wr]
    simp
  · rw [List.length_cons, List.cons_append, List.cons_append, List.cons_append, rdArcs, List.append_assoc, List.append_assoc, rdNum_num (by omega) (hN _ (by omega))]
    simp only
    rw [if_pos trivial, h1.rd]
    simp only
    rw [take_len (by have := h1.lt; omega) h1.le, show n + (k - n) = k by have := h1.lt; omega, h.rd]
    simp only
    rw [byteC_nat hc, take_join (by have := h1.lt; omega) h.lt]
  · obtain ⟨s1, s2⟩ := h.sz h9
    obtain ⟨s3, s4⟩ := h1.sz h9
    rw [List.length_append, List.length_append, List.length_cons, numB_zero, ← take_join (E := E) (show n ≤ k by have := h1.lt; omega) h.lt, sizeN_app, sizeM_app, List.length_cons]
    simp only [List.length_nil, List.length_cons]
    exact ⟨by omega, by omega⟩
theorem pkN_node {m n n' : Nat} {X : List Ar} {f : Bool} {bs : Wd} (hN : ∀ k, k ≤ 1000001 → okN k = true) (hK : ∀ k, k ≤ 125 → okK k = true) (hX : X.length ≤ 62) (he : E[n]? = some ⟨f, X⟩) (h : PkA okN okK E m (n + 1) n' X bs) :
    PkN okN okK E (m + 1) n n' (numB (headN ⟨f, X⟩) ++ bs) := by
  have hg : E.getD n default = ⟨f, X⟩ := by rw [List.getD_eq_getElem?_getD, he]; rfl
  obtain ⟨hnl, heq⟩ := List.getElem?_eq_some_iff.1 he
  have hb : bit f ≤ 1 := by unfold bit; split <;> omega
  have hh : headN ⟨f, X⟩ = 2 * X.length + bit f := rfl
  have hd : (E.drop n).take (n' - n) = ⟨f, X⟩ :: (E.drop (n + 1)).take (n' - (n + 1)) := by
    rw [List.drop_eq_getElem_cons hnl, heq, show n' - n = (n' - (n + 1)) + 1 by have := h.lt; omega, List.take_succ_cons]
  refine ⟨by have := h.lt; omega, h.le, fun out => ?_, fun out => ?_, fun rest => ?_, fun h9 => ?_⟩
  · rw [pkWrite, hg]
    simp only
    rw [h.w, List.append_assoc]
  · rw [pkWriteR, hg]
    simp only
    rw [show max n (n + 1) = n + 1 by omega, h.wr, List.append_assoc]
  · rw [rdNode, List.append_assoc, rdNum_num (by omega) (hN _ (by omega))]
    simp only
    rw [if_pos (hK _ (by omega)), show headN ⟨f, X⟩ / 2 = X.length by omega, h.rd]
    simp only
    rw [hd]
    congr 3
    have : decide (headN ⟨f, X⟩ % 2 = 1) = f := by
      rw [hh]
      cases f
      · exact decide_eq_false (by unfold bit; simp)
      · exact decide_eq_true (by unfold bit; simp)
    rw [this]
  · obtain ⟨s1, s2⟩ := h.sz h9
    rw [List.length_append, numB_lt (by omega), hd]
    have e1 : ∀ l : List Nd, sizeN (⟨f, X⟩ :: l) = 1 + 2 * X.length + sizeN l := fun _ => rfl
    have e2 : ∀ l : List Nd, sizeM (⟨f, X⟩ :: l) = 1 + 3 * X.length + sizeM l := fun _ => rfl
    rw [e1, e2, List.length_singleton]
    exact ⟨by omega, by omega⟩
theorem armsG_pk {m : Nat} (hN : ∀ k, k ≤ 1000001 → okN k = true) (hE : E.length ≤ 1000000)
    (hr : ∀ r Mt E0, Mt.length = E0.length → Mt.Nodup → (∀ x ∈ Mt, OkR x) → OkR r → PlainR r → (∀ s ∈ r, s.length < m) → ¬ idxR Mt r < Mt.length → (∀ k, E0.length ≤ k → k < (refV m r Mt E0).2.2.length → E[k]? = (refV m r Mt E0).2.2[k]?) → (refV m r Mt E0).2.2.length ≤ E.length →
      ∃ bs, PkN okN okK E m E0.length (refV m r Mt E0).2.2.length bs) :
    ∀ G A Mt E0, Mt.length = E0.length → Mt.Nodup → (∀ x ∈ Mt, OkR x) → (∀ g ∈ G, OkR g.2 ∧ PlainR g.2 ∧ g.1 < 256 ∧ ∀ s ∈ g.2, s.length < m) → (∀ k, E0.length ≤ k → k < (armsG (refV m) G A Mt E0).2.2.length → E[k]? = (armsG (refV m) G A Mt E0).2.2[k]?) → (armsG (refV m) G A Mt E0).2.2.length ≤ E.length →
      ∃ X bs, (armsG (refV m) G A Mt E0).1 = A ++ X ∧ X.length = G.length ∧ PkA okN okK E m E0.length (armsG (refV m) G A Mt E0).2.2.length X bs
  | [], A, Mt, E0, hl, hn, ho, _, hag, hle => by
    rw [armsG] at hle ⊢
    exact ⟨[], [], by simp, rfl, pkA_nil hle⟩
  | (c, g) :: G, A, Mt, E0, hl, hn, ho, hG, hag, hle => by
    obtain ⟨o1, o2, o3, o4⟩ := hG (c, g) (by simp)
    simp only at o1 o2 o3 o4
    obtain ⟨s1, s2⟩ := refV_tab m g Mt E0 hl hn ho o1 o4
    obtain ⟨t1, _⟩ := armsG_tab (rec := refV m) (m := m) (refV_tab m) G (A ++ [⟨(c : Int), ((refV m g Mt E0).1 : Nat)⟩]) _ _ s1.len s1.nodup s1.ok fun g' hg' => ⟨(hG g' (List.mem_cons_of_mem _ hg')).1, (hG g' (List.mem_cons_of_mem _ hg')).2.2⟩
    rw [armsG] at hag hle ⊢
    simp only at hag hle ⊢
    have hle1 := s1.le hl
    have hle2 := t1.le s1.len
    obtain ⟨X, bs, e1, e2, e3⟩ := armsG_pk hN hE hr G (A ++ [⟨(c : Int), ((refV m g Mt E0).1 : Nat)⟩]) (refV m g Mt E0).2.1 (refV m g Mt E0).2.2 s1.len s1.nodup s1.ok (fun g' hg' => hG g' (List.mem_cons_of_mem _ hg')) (fun k h1 h2 => hag k (by omega) h2) hle
    rw [e1, List.append_assoc]
    by_cases hf : idxR Mt g < Mt.length
    · obtain ⟨m', rfl⟩ : ∃ m', m = m' + 1 := by
        cases m with
        | zero =>
          obtain ⟨s, hs⟩ := o1.fst
          have := o4 s hs; omega
        | succ m' => exact ⟨m', rfl⟩
      have hv := refV_yes (m := m') (E := E0) hf
      rw [hv] at e3 ⊢
      simp only at e3 ⊢
      exact ⟨_, _, rfl, by simp [e2], pkA_old hN o3 (by omega) hE e3⟩
    · obtain ⟨b2, hb⟩ := hr g Mt E0 hl hn ho o1 o2 o4 hf (fun k h1 h2 => by rw [hag k h1 (by omega), t1.old k h2]) (by omega)
      have ht : (refV m g Mt E0).1 = E0.length := by
        cases m with
        | zero =>
          obtain ⟨s, hs⟩ := o1.fst
          have := o4 s hs; omega
        | succ m' => rw [refV_no hf]
      have e4 := pkA_new hN o3 hE hb e3
      rw [ht] at e4 ⊢
      exact ⟨_, _, rfl, by simp [e2], e4⟩
theorem refV_pk (hN : ∀ k, k ≤ 1000001 → okN k = true) (hK : ∀ k, k ≤ 125 → okK k = true) (hE : E.length ≤ 1000000) : ∀ m r Mt E0, Mt.length = E0.length → Mt.Nodup → (∀ x ∈ Mt, OkR x) → OkR r → PlainR r → (∀ s ∈ r, s.length < m) → ¬ idxR Mt r < Mt.length →
    (∀ k, E0.length ≤ k → k < (refV m r Mt E0).2.2.length → E[k]? = (refV m r Mt E0).2.2[k]?) → (refV m r Mt E0).2.2.length ≤ E.length → ∃ bs, PkN okN okK E m E0.length (refV m r Mt E0).2.2.length bs
  | 0, r, Mt, E0, hl, hn, ho, hr, hp, hs, hf, hag, hle => by
    obtain ⟨s, h⟩ := hr.fst
    have := hs s h; omega
  | m + 1, r, Mt, E0, hl, hn, ho, hr, hp, hs, hf, hag, hle => by
    rw [refV_no hf, armsC_G] at hag hle ⊢
    have hgr : (List.range' 33 94).filterMap (fun c => if afterL r c = [] then none else some (c, afterL r c)) = grp r := rfl
    rw [hgr] at hag hle ⊢
    have hno := idxR_no hf
    have hG : ∀ g ∈ grp r, OkR g.2 ∧ PlainR g.2 ∧ g.1 < 256 ∧ ∀ s ∈ g.2, s.length < m := fun g hg => by
      obtain ⟨g1, g2, g3, g4⟩ := grp_mem hg
      refine ⟨by rw [g3]; exact hr.after (by rw [← g3]; exact g4), by rw [g3]; exact hp.after _, by omega, fun s hsg => ?_⟩
      rw [g3] at hsg
      obtain ⟨b, _, h5⟩ := afterL_mem.1 hsg
      have := hs _ h5
      simp at this; omega
    have hn' : (Mt ++ [r]).Nodup := by
      rw [List.nodup_append]
      exact ⟨hn, by simp, fun a ha b hb e => by
        obtain rfl := List.mem_singleton.1 hb
        subst e; exact hno ha⟩
    have ho' : ∀ x ∈ Mt ++ [r], OkR x := fun x hx => by
      rcases List.mem_append.1 hx with hx | hx
      · exact ho x hx
      · obtain rfl := List.mem_singleton.1 hx; exact hr
    obtain ⟨t1, _⟩ := armsG_tab (rec := refV m) (m := m) (refV_tab m) (grp r) [] (Mt ++ [r]) (E0 ++ [⟨false, []⟩]) (by simp [hl]) hn' ho' fun g hg => ⟨(hG g hg).1, (hG g hg).2.2⟩
    simp only [List.length_set] at hag hle ⊢
    have hle2 := t1.le (by simp [hl])
    simp at hle2
    obtain ⟨X, bs, e1, e2, e3⟩ := armsG_pk (okN := okN) (okK := okK) hN hE (refV_pk hN hK hE m) (grp r) [] (Mt ++ [r]) (E0 ++ [⟨false, []⟩]) (by simp [hl]) hn' ho' hG (fun k h1 h2 => by
      simp at h1
      rw [hag k (by omega) h2, List.getElem?_set_ne (by omega)]) hle
    rw [List.nil_append] at e1
    have hat := hag E0.length (Nat.le_refl _) (by omega)
    rw [List.getElem?_set_self (by omega), e1] at hat
    rw [List.length_append, List.length_singleton] at e3
    exact ⟨_, pkN_node hN hK (by rw [e2]; exact grp_len62 hp) hat e3⟩
end
/-- the form of a dictionary's automaton -/
theorem form_of {okN okK : Nat → Bool} (hN : ∀ k, k ≤ 1000001 → okN k = true) (hK : ∀ k, k ≤ 125 → okK k = true) {L : List ByteArray} (hd : Dict L) :
    PkN okN okK (ofF (restAt 0 L)) 21 0 (ofF (restAt 0 L)).length (formB (ofF (restAt 0 L))) := by
  have hln : (restAt 0 L).length = L.length := by simp [restAt]
  have hle := ofF_le hd.okR.1
  have h2 := hd.2.1
  have hlv : (refV 21 (restAt 0 L) [] []).2.2 = ofF (restAt 0 L) := rfl
  obtain ⟨bs, h⟩ := refV_pk (okN := okN) (okK := okK) (E := ofF (restAt 0 L)) hN hK (by omega) 21 (restAt 0 L) [] [] rfl List.nodup_nil (fun x hx => by cases hx) hd.okR.1 hd.plain hd.okR.2 (by simp [idxR]) (fun k _ _ => rfl) (Nat.le_refl _)
  rw [hlv] at h
  have : formB (ofF (restAt 0 L)) = bs := by
    unfold formB
    have := h.w []
    simp only [List.length_nil] at this
    rw [this]; simp
  rw [this]
  exact h
end Go.Proofs.YtocdljmdmiphnaaDoor
/- Pack: plain. Packs, what is read of them, and that they are read back. -/
namespace Go.Proofs.YtocdljmdmiphnaaDoor
set_option linter.unusedVariables false
set_option linter.unusedSimpArgs false

/-- counts -/
def cntOk (n : Nat) (c : List Int) : Prop := c.length = n ∧ ∀ x ∈ c, 0 ≤ x ∧ x ≤ 1073741824
def numZ (z : Int) : Wd := numB z.toNat
def cntB (c : List Int) : Wd := c.flatMap numZ
theorem cntB_snoc (c : List Int) (x : Int) : cntB (c ++ [x]) = cntB c ++ numZ x := by unfold cntB; rw [List.flatMap_append]; simp
theorem cntB_succ {c : List Int} {k : Nat} (hk : k < c.length) : cntB (c.take (k + 1)) = cntB (c.take k) ++ numZ c[k] := by
  rw [List.take_succ_eq_append_getElem hk, cntB_snoc]
def bodyB (E : List Nd) (c : List Int) : Wd := formB E ++ cntB c
def padB (l : Wd) : Wd := if l.length % 2 = 0 then l else l ++ [0]
def dataB (E : List Nd) (c : List Int) : Wd := padB (bodyB E c)
def packB (E : List Nd) (c : List Int) : Wd := dataB E c ++ sumB (dataB E c)
theorem padB_even (l : Wd) : (padB l).length % 2 = 0 := by
  unfold padB
  split
  · assumption
  · rw [List.length_append, List.length_singleton]; omega
theorem packB_len (E : List Nd) (c : List Int) : (packB E c).length = (dataB E c).length + 4 := by unfold packB; rw [List.length_append, sumB_len]
theorem packB_even (E : List Nd) (c : List Int) : (packB E c).length % 2 = 0 := by
  have := padB_even (bodyB E c)
  rw [packB_len]; unfold dataB; omega
theorem packB_take (E : List Nd) (c : List Int) : (packB E c).take ((packB E c).length - 4) = dataB E c := by
  rw [packB_len, Nat.add_sub_cancel]; unfold packB; rw [List.take_left]
theorem packB_drop (E : List Nd) (c : List Int) : (packB E c).drop ((packB E c).length - 4) = sumB (dataB E c) := by
  rw [packB_len, Nat.add_sub_cancel]; unfold packB; rw [List.drop_left]
/-! ### reading -/
def rdNums (ok : Nat → Bool) : Nat → Wd → Option (List Int × Wd)
  | 0, bs => some ([], bs)
  | k + 1, bs => match rdNum ok bs with
    | none => none
    | some (n, b1) => match rdNums ok k b1 with
      | none => none
      | some (c, b2) => some ((n : Int) :: c, b2)
theorem rdNums_cnt {ok : Nat → Bool} (ho : ∀ n, n ≤ 1073741824 → ok n = true) : ∀ (c : List Int) (rest : Wd), (∀ x ∈ c, 0 ≤ x ∧ x ≤ 1073741824) → rdNums ok c.length (cntB c ++ rest) = some (c, rest)
  | [], rest, _ => rfl
  | x :: c, rest, h => by
    obtain ⟨h0, h1⟩ := h x (by simp)
    have hc : cntB (x :: c) = numZ x ++ cntB c := rfl
    rw [List.length_cons, rdNums, hc, List.append_assoc]
    unfold numZ
    rw [rdNum_num (by omega) (ho _ (by omega))]
    simp only
    rw [rdNums_cnt ho c rest fun y hy => h y (List.mem_cons_of_mem _ hy)]
    simp only
    rw [Int.toNat_of_nonneg h0]
/-- a further number read -/
theorem rdNums_snoc {ok : Nat → Bool} : ∀ (k : Nat) (bs : Wd), rdNums ok (k + 1) bs = match rdNums ok k bs with
    | none => none
    | some (c, b1) => match rdNum ok b1 with
      | none => none
      | some (n, b2) => some (c ++ [(n : Int)], b2)
  | 0, bs => by
    rw [rdNums, rdNums]
    simp only
    cases rdNum ok bs with
    | none => rfl
    | some q => rfl
  | k + 1, bs => by
    rw [rdNums]
    cases h : rdNum ok bs with
    | none =>
      simp only
      rw [rdNums, h]
    | some q =>
      obtain ⟨n, b1⟩ := q
      simp only
      rw [rdNums_snoc k b1, rdNums, h]
      simp only
      cases rdNums ok k b1 with
      | none => rfl
      | some q2 =>
        obtain ⟨c, b2⟩ := q2
        simp only
        cases rdNum ok b2 with
        | none => rfl
        | some q3 => rfl
/-- an automaton and its counts read -/
noncomputable def readF (okN okK : Nat → Bool) (bs : Wd) : Option (List Nd × List Int) := match rdNode okN okK 21 bs 0 with
  | none => none
  | some (b1, D) => if validF D = true then match rdNums okN (wordsF D).length b1 with
      | none => none
      | some (c, _) => some (D, c)
    else none
/-- b is the pack of D and c -/
def IsPack (b : Wd) (D : List Nd) (c : List Int) : Prop := ∃ L, Dict L ∧ D = ofF (restAt 0 L) ∧ cntOk L.length c ∧ b = packB D c
theorem read_pack {okN okK : Nat → Bool} (hN : ∀ k, k ≤ 1073741824 → okN k = true) (hK : ∀ k, k ≤ 125 → okK k = true) {b : Wd} {D : List Nd} {c : List Int} (h : IsPack b D c) : readF okN okK (b.take (b.length - 4)) = some (D, c) := by
  obtain ⟨L, hd, rfl, ⟨hc, hx⟩, rfl⟩ := h
  rw [packB_take]
  have hf := form_of (okN := okN) (okK := okK) (fun k hk => hN k (by omega)) hK hd
  have hp : ∃ t, dataB (ofF (restAt 0 L)) c = formB (ofF (restAt 0 L)) ++ (cntB c ++ t) := by
    unfold dataB padB bodyB
    split
    · exact ⟨[], by simp⟩
    · exact ⟨[0], by simp⟩
  obtain ⟨t, ht⟩ := hp
  unfold readF
  rw [ht, hf.rd]
  simp only
  rw [List.drop_zero, Nat.sub_zero, List.take_length, if_pos (valid_of hd), words_of hd, ← hc, rdNums_cnt hN c t hx]
theorem pack_inj {b : Wd} {D D' : List Nd} {c c' : List Int} (h : IsPack b D c) (h2 : IsPack b D' c') : D = D' ∧ c = c' := by
  have h3 := read_pack (okN := fun _ => true) (okK := fun _ => true) (fun _ _ => rfl) (fun _ _ => rfl) h
  have h4 := read_pack (okN := fun _ => true) (okK := fun _ => true) (fun _ _ => rfl) (fun _ _ => rfl) h2
  rw [h3] at h4
  injection h4 with h4
  injection h4 with a b
  exact ⟨a, b⟩
/-- what Unpack answers -/
noncomputable def unpF (b : Wd) : Option (List Nd × List Int) := @dite _ (∃ p : List Nd × List Int, IsPack b p.1 p.2) (Classical.propDecidable _) (fun h => some (Classical.choose h)) fun _ => none
theorem unpF_yes {b : Wd} {D : List Nd} {c : List Int} (h : IsPack b D c) : unpF b = some (D, c) := by
  have he : ∃ p : List Nd × List Int, IsPack b p.1 p.2 := ⟨(D, c), h⟩
  unfold unpF
  rw [dif_pos he]
  obtain ⟨e1, e2⟩ := pack_inj (Classical.choose_spec he) h
  exact congrArg some (Prod.ext e1 e2)
theorem unpF_no {b : Wd} (h : ∀ D c, ¬ IsPack b D c) : unpF b = none := dif_neg fun ⟨p, hp⟩ => h p.1 p.2 hp
theorem unpF_some {b : Wd} {D : List Nd} {c : List Int} (h : unpF b = some (D, c)) : IsPack b D c := by
  by_cases he : ∃ p : List Nd × List Int, IsPack b p.1 p.2
  · obtain ⟨⟨D', c'⟩, hp⟩ := he
    rw [unpF_yes hp] at h
    cases h
    exact hp
  · rw [unpF_no fun D c hp => he ⟨(D, c), hp⟩] at h
    cases h
theorem unpF_none {b : Wd} (h : unpF b = none) : ∀ D c, ¬ IsPack b D c := fun D c hp => by rw [unpF_yes hp] at h; cases h
/-- what is not read is no pack -/
theorem no_read {okN okK : Nat → Bool} (hN : ∀ k, k ≤ 1073741824 → okN k = true) (hK : ∀ k, k ≤ 125 → okK k = true) {b : Wd} (h : readF okN okK (b.take (b.length - 4)) = none) : unpF b = none := unpF_no fun D c hp => by
  rw [read_pack hN hK hp] at h
  cases h
/-- what is read, but is not packed alike, is no pack -/
theorem no_again {okN okK : Nat → Bool} (hN : ∀ k, k ≤ 1073741824 → okN k = true) (hK : ∀ k, k ≤ 125 → okK k = true) {b : Wd} {D : List Nd} {c : List Int} (h : readF okN okK (b.take (b.length - 4)) = some (D, c)) (hne : ¬ IsPack b D c) : unpF b = none := unpF_no fun D' c' hp => by
  rw [read_pack hN hK hp] at h
  injection h with h
  injection h with e1 e2
  subst e1 e2
  exact hne hp
theorem no_sum {b : Wd} (h : ¬ (4 ≤ b.length ∧ sumB (b.take (b.length - 4)) = b.drop (b.length - 4))) : unpF b = none := unpF_no fun D c ⟨L, hd, e, hc, hb⟩ => by
  subst hb
  refine h ⟨by rw [packB_len]; omega, ?_⟩
  rw [packB_take, packB_drop]
theorem no_odd {b : Wd} (h : b.length % 2 = 1) : unpF b = none := unpF_no fun D c ⟨L, hd, e, hc, hb⟩ => by
  have := packB_even D c
  rw [← hb] at this
  omega
theorem valid_dict {D : List Nd} (h : validF D = true) : ∃ L, Dict L ∧ D = ofF (restAt 0 L) ∧ wordsF D = L := by
  by_cases h2 : colOk (visitL D 22 0 []).1 ∧ Dict (fstS (visitL D 22 0 []).1) ∧ D = ofF (restAt 0 (fstS (visitL D 22 0 []).1))
  · exact ⟨_, h2.2.1, h2.2.2, wordsF_yes h2.1⟩
  · rw [validF_no h2] at h; cases h
/-! ### sizes -/
theorem cntB_len5 {c : List Int} (h : ∀ x ∈ c, 0 ≤ x ∧ x ≤ 1073741824) : (cntB c).length ≤ 5 * c.length := by
  induction c with
  | nil => exact Nat.le_refl _
  | cons x c ih =>
    have h0 := h x (by simp)
    have h1 := ih fun y hy => h y (List.mem_cons_of_mem _ hy)
    have h2 := numB_len5 (n := x.toNat) (by omega)
    have hc : cntB (x :: c) = numZ x ++ cntB c := rfl
    rw [hc, List.length_append, List.length_cons]
    unfold numZ; omega
theorem cntB_ge (c : List Int) : c.length ≤ (cntB c).length := by
  induction c with
  | nil => exact Nat.le_refl _
  | cons x c ih =>
    have h2 := numB_pos x.toNat
    have hc : cntB (x :: c) = numZ x ++ cntB c := rfl
    rw [hc, List.length_append, List.length_cons]
    unfold numZ; omega
theorem cntB_half {c : List Int} (h : ∀ x ∈ c, 0 ≤ x) : (cntB (c.map (·.tdiv 2))).length ≤ (cntB c).length := by
  induction c with
  | nil => exact Nat.le_refl _
  | cons x c ih =>
    have h0 := h x (by simp)
    have h1 := ih fun y hy => h y (List.mem_cons_of_mem _ hy)
    have h2 := numB_mono x.toNat (x.tdiv 2).toNat (by rw [Int.tdiv_eq_ediv_of_nonneg h0]; omega)
    have hc : cntB (x :: c) = numZ x ++ cntB c := rfl
    have hc2 : cntB ((x :: c).map (·.tdiv 2)) = numZ (x.tdiv 2) ++ cntB (c.map (·.tdiv 2)) := rfl
    rw [hc, hc2, List.length_append, List.length_append]
    unfold numZ; omega
theorem pad_len (l : Wd) : (padB l).length = l.length + l.length % 2 := by
  unfold padB
  split
  · omega
  · rw [List.length_append, List.length_singleton]; omega
theorem form_len {L : List ByteArray} (hd : Dict L) : sizeN (ofF (restAt 0 L)) ≤ (formB (ofF (restAt 0 L))).length ∧ (formB (ofF (restAt 0 L))).length ≤ sizeM (ofF (restAt 0 L)) := by
  have hf := form_of (okN := fun _ => true) (okK := fun _ => true) (fun _ _ => rfl) (fun _ _ => rfl) hd
  have hle := ofF_le hd.okR.1
  have hln : (restAt 0 L).length = L.length := by simp [restAt]
  have := hd.2.1
  have h2 := hf.sz (by omega)
  rw [List.drop_zero, Nat.sub_zero, List.take_length] at h2
  exact h2
end Go.Proofs.YtocdljmdmiphnaaDoor
