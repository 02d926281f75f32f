/- dawg.builder.node: the plain function, and what is told of the builder in memory. -/
import Derived.Test.YtocdljmdmiphnaaDoorDCont
import Derived.Test.YtocdljmdmiphnaaDoorDIns
import Derived.Maps.Views
import Derived.Maps.OwnSet
import Derived.Maps.Own
namespace Go.Proofs.YtocdljmdmiphnaaDoor
open Go.RowKit Go.WideShapes
set_option linter.unusedVariables false
set_option linter.unusedSimpArgs false

/-! ### plain -/
def byteAt (s : ByteArray) (d : Nat) : Int := ((s.data.toList.getD d 0).toNat : Int)
theorem byteAt_get {s : ByteArray} {d : Nat} (h : d < s.size) : byteAt s d = (s[d].toNat : Int) := by
  have h2 : d < s.data.toList.length := by simpa using h
  unfold byteAt
  rw [List.getD_eq_getElem?_getD, List.getElem?_eq_getElem h2]; rfl
/-- a node is found again, or added -/
def addN (fin : Bool) (A : List Ar) (D : List Nd) : Nat × List Nd :=
  if D.findIdx (fun x => decide (keyL x.fin x.arcs = keyL fin A)) < D.length then (D.findIdx (fun x => decide (keyL x.fin x.arcs = keyL fin A)), D) else (D.length, D ++ [⟨fin, A⟩])
def grpN (d : Nat) (L : List ByteArray) (c : Int) : Nat := (L.takeWhile fun s => decide (byteAt s d = c)).length
def armsW (rec : List ByteArray → List Nd → Nat × List Nd) (d : Nat) : Nat → List ByteArray → List Ar → List Nd → List Ar × List Nd
  | 0, _, A, D => (A, D)
  | _ + 1, [], A, D => (A, D)
  | n + 1, x :: r, A, D => armsW rec d n ((x :: r).drop (grpN d (x :: r) (byteAt x d))) (A ++ [⟨byteAt x d, ((rec ((x :: r).take (grpN d (x :: r) (byteAt x d))) D).1 : Nat)⟩]) (rec ((x :: r).take (grpN d (x :: r) (byteAt x d))) D).2
def finB (d : Nat) (L : List ByteArray) : Bool := match L with | [] => false | x :: _ => decide (x.size = d)
def restL (d : Nat) (L : List ByteArray) : List ByteArray := if finB d L = true then L.tail else L
/-- the node of words, of which the first d bytes are gone; m: more than their longest rest -/
def nodeW : Nat → Nat → List ByteArray → List Nd → Nat × List Nd
  | 0, _, _, D => (0, D)
  | m + 1, d, L, D =>
    addN (finB d L) (armsW (nodeW m (d + 1)) d (restL d L).length (restL d L) [] D).1 (armsW (nodeW m (d + 1)) d (restL d L).length (restL d L) [] D).2
theorem grpN_pos {d : Nat} {x : ByteArray} {r : List ByteArray} : 1 ≤ grpN d (x :: r) (byteAt x d) := by
  unfold grpN
  rw [List.takeWhile_cons, if_pos (by simp)]
  simp
theorem grpN_le {d : Nat} {L : List ByteArray} {c : Int} : grpN d L c ≤ L.length := (List.takeWhile_prefix _).length_le
theorem armsW_ge {rec : List ByteArray → List Nd → Nat × List Nd} {d : Nat} (hr : ∀ L D, D.length ≤ (rec L D).2.length) : ∀ n L A D, D.length ≤ (armsW rec d n L A D).2.length
  | 0, _, _, _ => Nat.le_refl _
  | _ + 1, [], _, _ => Nat.le_refl _
  | n + 1, x :: r, A, D => by rw [armsW]; exact Nat.le_trans (hr _ _) (armsW_ge hr n _ _ _)
theorem addN_ge (fin : Bool) (A : List Ar) (D : List Nd) : D.length ≤ (addN fin A D).2.length := by
  unfold addN; split <;> simp
theorem addN_le (fin : Bool) (A : List Ar) (D : List Nd) : (addN fin A D).2.length ≤ D.length + 1 := by
  unfold addN; split <;> simp
theorem addN_lt (fin : Bool) (A : List Ar) (D : List Nd) : (addN fin A D).1 < (addN fin A D).2.length := by
  unfold addN; split
  · assumption
  · simp
theorem nodeW_ge : ∀ m d L D, D.length ≤ (nodeW m d L D).2.length
  | 0, _, _, _ => Nat.le_refl _
  | m + 1, d, L, D => by rw [nodeW]; exact Nat.le_trans (armsW_ge (nodeW_ge m (d + 1)) _ _ _ _) (addN_ge _ _ _)
theorem armsW_le {rec : List ByteArray → List Nd → Nat × List Nd} {d k : Nat} (hr : ∀ L D, L ≠ [] → (rec L D).2.length ≤ D.length + L.length * k) : ∀ n L A D, (armsW rec d n L A D).2.length ≤ D.length + L.length * k
  | 0, _, _, _ => Nat.le_add_right _ _
  | _ + 1, [], _, _ => Nat.le_add_right _ _
  | n + 1, x :: r, A, D => by
    rw [armsW]
    have h1 := grpN_pos (d := d) (x := x) (r := r)
    have h2 := grpN_le (d := d) (L := x :: r) (c := byteAt x d)
    have h3 := armsW_le (d := d) hr n ((x :: r).drop (grpN d (x :: r) (byteAt x d))) (A ++ [⟨byteAt x d, ((rec ((x :: r).take (grpN d (x :: r) (byteAt x d))) D).1 : Nat)⟩]) (rec ((x :: r).take (grpN d (x :: r) (byteAt x d))) D).2
    have h4 := hr ((x :: r).take (grpN d (x :: r) (byteAt x d))) D (by intro h; have := congrArg List.length h; rw [List.length_take] at this; simp at this; omega)
    rw [List.length_drop] at h3
    rw [List.length_take, Nat.min_eq_left h2] at h4
    have h5 : ((x :: r).length - grpN d (x :: r) (byteAt x d)) * k + grpN d (x :: r) (byteAt x d) * k = (x :: r).length * k := by rw [← Nat.add_mul]; congr 1; omega
    omega
theorem restL_len (d : Nat) (L : List ByteArray) : (restL d L).length ≤ L.length := by
  unfold restL; split <;> simp
theorem nodeW_le : ∀ m d L D, L ≠ [] → (nodeW m d L D).2.length ≤ D.length + L.length * m
  | 0, _, _, _, _ => Nat.le_add_right _ _
  | m + 1, d, L, D, hL => by
    rw [nodeW]
    have h1 := armsW_le (rec := nodeW m (d + 1)) (d := d) (k := m) (nodeW_le m (d + 1)) (restL d L).length (restL d L) [] D
    have h2 := addN_le (finB d L) (armsW (nodeW m (d + 1)) d (restL d L).length (restL d L) [] D).1 (armsW (nodeW m (d + 1)) d (restL d L).length (restL d L) [] D).2
    have h3 : (restL d L).length * m ≤ L.length * m := Nat.mul_le_mul_right _ (restL_len d L)
    have h4 : 1 ≤ L.length := by cases L with | nil => exact absurd rfl hL | cons => simp
    have h5 : L.length * (m + 1) = L.length * m + L.length := Nat.mul_succ _ _
    omega
theorem nodeW_lt (m d : Nat) (L : List ByteArray) (D : List Nd) : (nodeW (m + 1) d L D).1 < (nodeW (m + 1) d L D).2.length := by
  rw [nodeW]; exact addN_lt _ _ _
theorem nodeW_idx : ∀ (m d : Nat) (L : List ByteArray) (D : List Nd), (nodeW m d L D).1 ≤ (nodeW m d L D).2.length
  | 0, _, _, _ => Nat.zero_le _
  | m + 1, d, L, D => Nat.le_of_lt (nodeW_lt m d L D)
/-! ### words that share their beginnings -/
structure Pre (d m : Nat) (L : List ByteArray) : Prop where
  ne : L ≠ []
  ge : ∀ x ∈ L, d ≤ x.size
  lt : ∀ x ∈ L, x.size < d + m
  asc : ∀ x ∈ L, ∀ c ∈ x.data.toList, c.toNat < 128
  same : ∀ x ∈ L, ∀ y ∈ L, x.data.toList.take d = y.data.toList.take d
  inc : L.Pairwise fun x y => ltS x y = true
theorem less_len : ∀ {a b : List UInt8} {d : Nat}, a.take d = b.take d → d ≤ a.length → Op.bytesLess a b = true → d < b.length
  | _, [], d, _, _, h => by unfold Op.bytesLess at h; cases h
  | [], y :: ys, d, he, hd, h => by simp at hd; subst hd; simp
  | x :: xs, y :: ys, 0, he, hd, h => by simp
  | x :: xs, y :: ys, d + 1, he, hd, h => by
    simp only [List.take_succ_cons, List.cons.injEq] at he
    obtain ⟨rfl, he⟩ := he
    have hx : ¬ x < x := by rw [UInt8.lt_iff_toNat_lt]; omega
    simp [Op.bytesLess, hx] at h
    have := less_len (d := d) he (by simpa using hd) h
    simpa using this
theorem size_list (x : ByteArray) : x.size = x.data.toList.length := by simp
/-- all but the first are longer than d -/
theorem Pre.longer {d m : Nat} {x : ByteArray} {r : List ByteArray} (h : Pre d m (x :: r)) : ∀ y ∈ r, d < y.size := by
  intro y hy
  have h1 := (List.pairwise_cons.1 h.inc).1 y hy
  rw [ltS, ByteArray.toList_eq, ByteArray.toList_eq] at h1
  have h2 := h.ge x (by simp)
  rw [size_list] at h2 ⊢
  exact less_len (h.same x (by simp) y (by simp [hy])) h2 h1
/-- the words behind the end of one -/
structure Rest (d m : Nat) (L : List ByteArray) : Prop where
  gt : ∀ x ∈ L, d < x.size
  lt : ∀ x ∈ L, x.size < d + m
  asc : ∀ x ∈ L, ∀ c ∈ x.data.toList, c.toNat < 128
  same : ∀ x ∈ L, ∀ y ∈ L, x.data.toList.take d = y.data.toList.take d
  inc : L.Pairwise fun x y => ltS x y = true
theorem Pre.rest {d m : Nat} {L : List ByteArray} (h : Pre d m L) : Rest d m (restL d L) := by
  cases L with
  | nil => exact absurd rfl h.ne
  | cons x r =>
    unfold restL finB
    by_cases e : x.size = d
    · rw [if_pos (by simpa using e)]
      exact ⟨h.longer, fun y hy => h.lt y (List.mem_cons_of_mem _ hy), fun y hy => h.asc y (List.mem_cons_of_mem _ hy), fun y hy z hz => h.same y (List.mem_cons_of_mem _ hy) z (List.mem_cons_of_mem _ hz), (List.pairwise_cons.1 h.inc).2⟩
    · rw [if_neg (by simpa using e)]
      refine ⟨fun y hy => ?_, h.lt, h.asc, h.same, h.inc⟩
      rcases List.mem_cons.1 hy with rfl | hy
      · have := h.ge y (by simp); omega
      · exact h.longer y hy
theorem Rest.drop {d m : Nat} {L : List ByteArray} (h : Rest d m L) (k : Nat) : Rest d m (L.drop k) :=
  ⟨fun x hx => h.gt x (List.mem_of_mem_drop hx), fun x hx => h.lt x (List.mem_of_mem_drop hx), fun x hx => h.asc x (List.mem_of_mem_drop hx), fun x hx y hy => h.same x (List.mem_of_mem_drop hx) y (List.mem_of_mem_drop hy), h.inc.drop⟩
theorem takeWhile_all {α : Type} {p : α → Bool} {L : List α} {x : α} (h : x ∈ L.take (L.takeWhile p).length) : p x = true := by
  have h2 : L.take (L.takeWhile p).length = L.takeWhile p := (List.prefix_iff_eq_take.1 (List.takeWhile_prefix p)).symm
  rw [h2] at h
  have h3 := List.all_takeWhile (p := p) (l := L)
  exact List.all_eq_true.1 h3 x h
theorem take_succ_byte {x y : ByteArray} {d : Nat} (hx : d < x.size) (hy : d < y.size) (h : x.data.toList.take d = y.data.toList.take d) (hb : byteAt x d = byteAt y d) : x.data.toList.take (d + 1) = y.data.toList.take (d + 1) := by
  have h1 : d < x.data.toList.length := by rw [← size_list]; exact hx
  have h2 : d < y.data.toList.length := by rw [← size_list]; exact hy
  rw [List.take_succ_eq_append_getElem h1, List.take_succ_eq_append_getElem h2, h]
  congr 2
  have e : byteAt x d = (x.data.toList[d].toNat : Int) := by unfold byteAt; rw [List.getD_eq_getElem?_getD, List.getElem?_eq_getElem h1]; rfl
  have e2 : byteAt y d = (y.data.toList[d].toNat : Int) := by unfold byteAt; rw [List.getD_eq_getElem?_getD, List.getElem?_eq_getElem h2]; rfl
  rw [e, e2] at hb
  exact UInt8.toNat_inj.1 (by omega)
theorem Rest.group {d m : Nat} {x : ByteArray} {r : List ByteArray} (h : Rest d (m + 1) (x :: r)) : Pre (d + 1) m ((x :: r).take (grpN d (x :: r) (byteAt x d))) := by
  have hb : ∀ y ∈ (x :: r).take (grpN d (x :: r) (byteAt x d)), byteAt y d = byteAt x d := fun y hy => by
    have := takeWhile_all hy
    simpa using this
  have hm : ∀ y ∈ (x :: r).take (grpN d (x :: r) (byteAt x d)), y ∈ x :: r := fun y hy => List.mem_of_mem_take hy
  refine ⟨fun e => ?_, fun y hy => h.gt y (hm y hy), fun y hy => by have := h.lt y (hm y hy); omega, fun y hy => h.asc y (hm y hy), fun y hy z hz => ?_, h.inc.take⟩
  · have := grpN_pos (d := d) (x := x) (r := r)
    have h2 := congrArg List.length e
    rw [List.length_take] at h2; simp at h2; omega
  · exact take_succ_byte (h.gt y (hm y hy)) (h.gt z (hm z hz)) (h.same y (hm y hy) z (hm z hz)) ((hb y hy).trans (hb z hz).symm)
end Go.Proofs.YtocdljmdmiphnaaDoor
/- The builder in memory: its nodes, its map of contents; what a call leaves of older memory. -/
namespace Go.Proofs.YtocdljmdmiphnaaDoor
open Go.RowKit Go.WideShapes Go.Maps Go.WideMaps
set_option linter.unusedVariables false
set_option linter.unusedSimpArgs false

/-! ### the map -/
def ndKey (D : List Nd) (l : List UInt8) : Nat := D.findIdx fun x => decide (keyL x.fin x.arcs = l)
def MapS (w : World) (g : Nat) (D : List Nd) : Prop := ∃ (n : Nat) (M : DataW Unit), w.ownsMap Tryd.prog 9 (plainElem Tryd.prog 3) g n M ∧ n ≤ D.length ∧
  ∀ s : ByteArray, s.size ≤ maxLen → Maps.has M (.string s.data.toList) = decide (ndKey D s.data.toList < D.length) ∧ M.atKey (.string s.data.toList) (.lit (.int .i64 0)) = .lit (.int .i64 (if ndKey D s.data.toList < D.length then (ndKey D s.data.toList : Int) else 0))
theorem keyedS : Keyed Tryd.prog 9 := string_keyed Tryd.underlying9
theorem MapS.new (w : World) : MapS (w.alloc (.map #[] 0)) w.heap.size [] :=
  ⟨0, .map [], World.ownsMap_made _ _ _ _, Nat.le_refl _, fun s _ => ⟨by simp [ndKey, Maps.has], by simp [ndKey, DataW.atKey]⟩⟩
theorem MapS.kept {w w1 : World} {g : Nat} {D : List Nd} (h : MapS w g D) (hk : w1.heap[g]? = w.heap[g]?) : MapS w1 g D := by
  obtain ⟨n, M, ⟨es, clock, hb, h1, h2, h3⟩, h4⟩ := h
  exact ⟨n, M, ⟨es, clock, hk.trans hb, h1, h2, h3⟩, h4⟩
theorem MapS.obj {w : World} {g : Nat} {D : List Nd} (h : MapS w g D) : ∃ es c, w.heap[g]? = some (.map es c) := by
  obtain ⟨n, M, ⟨es, clock, hb, _⟩, _⟩ := h
  exact ⟨es, clock, hb⟩
theorem MapS.look {w : World} {g : Nat} {D : List Nd} (h : MapS w g D) (s : ByteArray) (hs : s.size ≤ maxLen) :
    (Instr.lookup 91 (.map (some g)) (.string s) true).run Tryd.prog w = .ok (.tuple #[.int .i64 (if ndKey D s.data.toList < D.length then (ndKey D s.data.toList : Int) else 0), .bool (decide (ndKey D s.data.toList < D.length))]) w := by
  obtain ⟨n, M, h1, _, h3⟩ := h
  obtain ⟨v, ps, hrun, hv⟩ := h1.look_ok keyedS Tryd.underlying91 (Tryd.zeroValue3 w) (plainElem_int (H := Unit) Tryd.underlying3 (a := 0) (by decide)) (keyOf_string_mk Tryd.underlying9 hs)
  obtain ⟨e1, e2⟩ := h3 s hs
  rw [e2] at hv
  obtain ⟨a, rfl, hz, _⟩ := plainElem_int_inv Tryd.underlying3 hv
  rw [e1] at hrun
  have : a = if ndKey D s.data.toList < D.length then (ndKey D s.data.toList : Int) else 0 := by
    have := congrArg Prod.fst hz
    simp only [DataW.lit.injEq, Lit.int.injEq, true_and] at this
    exact this.symm
  rw [← this]
  exact hrun
theorem ndKey_snoc {D : List Nd} {nd : Nd} {l : List UInt8} : ndKey (D ++ [nd]) l = if ndKey D l < D.length then ndKey D l else if keyL nd.fin nd.arcs = l then D.length else D.length + 1 := by
  unfold ndKey
  rw [List.findIdx_append]
  split
  · rfl
  · rw [List.findIdx_cons]
    by_cases h : keyL nd.fin nd.arcs = l
    · simp [h]
    · simp [h]; omega
theorem wpList_mapUpdate_s {w : World} {g : Nat} {D : List Nd} {ops : Array Oper} {rest : List Oper} {o : Oper} {a : Act} {Q : Exit → Act → World → Prop} (h : MapS w g D) (nd : Nd) (s : ByteArray) (hk : keyL nd.fin nd.arcs = s.data.toList) (hs : s.size ≤ maxLen) (hno : ¬ ndKey D s.data.toList < D.length) (hD : D.length < 1000000)
    (hgd : o.guard = none) (m x v : Operand) (hop : o.op = Op.mapUpdate 91 m x v) (hm : a.eval m = .map (some g)) (hx : a.eval x = .string s) (hv : a.eval v = .int .i64 (D.length : Int))
    (hK : ∀ w', MapS w' g (D ++ [nd]) → w.grownBy w' (some g) → wpList Tryd.prog ops Q rest (a.put o.dst undef) w') : wpList Tryd.prog ops Q (o :: rest) a w := by
  obtain ⟨n, M, h1, h2, h3⟩ := h
  have hwf : (Lit.int .i64 (D.length : Int)).wf = true := by simp [Lit.wf, IntKind.min, IntKind.max, IntKind.bits, IntKind.signed]; omega
  refine wpList_mapUpdate_own w hgd m x v _ hop _ _ keyedS Tryd.underlying91 _ g n M hm h1 (by unfold maxLen; omega) _ _ _ hx hv (keyOf_string_mk Tryd.underlying9 hs) _ _ (plainElem_int (H := Unit) Tryd.underlying3 hwf) ?_
  intro w' hown hgr
  refine hK w' ⟨n + 1, _, hown, by rw [List.length_append]; simp; omega, fun t ht => ?_⟩ hgr
  have hM : IsMap M := h1.isMap
  rw [ndKey_snoc]
  by_cases e : t = s
  · subst e
    have hkl : WideAt.IsKeyLit (.string t.data.toList) := trivial
    rw [Maps.has_put_same hM hkl, Maps.atKey_put_same hM hkl, if_neg hno, if_pos hk]
    simp
  · have hne : Lit.string t.data.toList ≠ Lit.string s.data.toList := fun h => e (bytes_inj (by injection h))
    rw [Maps.has_put_other hne, Maps.atKey_put_other hne]
    obtain ⟨e1, e2⟩ := h3 t ht
    rw [e1, e2]
    have hk2 : ¬ keyL nd.fin nd.arcs = t.data.toList := fun h => e (bytes_inj (by rw [← h, hk]))
    rw [if_neg hk2]
    by_cases hf : ndKey D t.data.toList < D.length
    · simp [hf]; omega
    · simp [hf]
/-! ### the nodes -/
structure BSt (w : World) (B gB gM : Nat) (v : Value) (N : List NV) (D : List Nd) : Prop where
  rep : w.heap[gB]? = some (.cells #[v, .map (some gM)] 93 (0, 0))
  own : OwnG rowNode w B v N
  len : N.length = D.length
  arcs : ∀ k (h : k < N.length) (h2 : k < D.length), N[k].fin = D[k].fin ∧ OwnG rowArc w B (.slice N[k].a N[k].n N[k].c) D[k].arcs
  map : MapS w gM D
  gB : B ≤ gB
  gM : B ≤ gM
/-- all but the builder, its map and the row vb stands -/
structure Fr (gB gM : Nat) (vb : Option Nat) (w w' : World) : Prop where
  os : w'.os = w.os
  tape : w'.tape = w.tape
  output : w'.output = w.output
  size : w.heap.size ≤ w'.heap.size
  block : ∀ q, q < w.heap.size → q ≠ gB → q ≠ gM → vb ≠ some q → w'.heap[q]? = w.heap[q]?
theorem Fr.refl (gB gM : Nat) (vb : Option Nat) (w : World) : Fr gB gM vb w w := ⟨rfl, rfl, rfl, Nat.le_refl _, fun _ _ _ _ _ => rfl⟩
/-- the row vb1 is vb, or new -/
def NewRow (vb vb1 : Option Nat) (n : Nat) : Prop := vb1 = vb ∨ ∀ q, vb1 = some q → n ≤ q
theorem NewRow.trans {a b c : Option Nat} {n m : Nat} (h : NewRow a b n) (h2 : NewRow b c m) (hnm : n ≤ m) : NewRow a c n := by
  rcases h2 with rfl | h2
  · exact h
  · exact .inr fun q hq => Nat.le_trans hnm (h2 q hq)
theorem Fr.trans {gB gM : Nat} {vb vb1 : Option Nat} {a b c : World} (h : Fr gB gM vb a b) (h2 : Fr gB gM vb1 b c) (hn : NewRow vb vb1 a.heap.size) : Fr gB gM vb a c :=
  ⟨h2.os.trans h.os, h2.tape.trans h.tape, h2.output.trans h.output, Nat.le_trans h.size h2.size, fun q hq h3 h4 h5 => (h2.block q (Nat.lt_of_lt_of_le hq h.size) h3 h4 (by
    rcases hn with rfl | hn
    · exact h5
    · intro e; have := hn q e; omega)).trans (h.block q hq h3 h4 h5)⟩
theorem Fr.of_below {gB gM : Nat} {vb : Option Nat} {w w' : World} (h : Below w.heap.size w w') : Fr gB gM vb w w' := ⟨h.os, h.tape, h.output, h.size, fun q hq _ _ _ => h.block q hq⟩
theorem Fr.below {gB gM B : Nat} {vb : Option Nat} {w w' : World} (h : Fr gB gM vb w w') (h1 : B ≤ gB) (h2 : B ≤ gM) (h3 : ∀ q, vb = some q → B ≤ q) (h4 : B ≤ w.heap.size) : Below B w w' :=
  ⟨h.os, h.tape, h.output, h.size, fun q hq => h.block q (by omega) (by omega) (by omega) (fun e => by have := h3 q e; omega)⟩
/-- the builder behind steps that leave its blocks -/
theorem BSt.keep {w w' : World} {B gB gM : Nat} {v : Value} {N : List NV} {D : List Nd} (h : BSt w B gB gM v N D) (hk : ∀ q, q < w.heap.size → (q = gB ∨ q = gM ∨ v.ownBlock = some q ∨ ∃ x ∈ N, (Value.slice x.a x.n x.c).ownBlock = some q) → w'.heap[q]? = w.heap[q]?) : BSt w' B gB gM v N D := by
  obtain ⟨es, c, hm⟩ := h.map.obj
  refine ⟨(hk gB (Array.getElem?_eq_some_iff.1 h.rep).1 (.inl rfl)).trans h.rep, h.own.keep fun g hg => hk g (h.own.lt g hg) (.inr (.inr (.inl hg))), h.len, fun k h1 h2 => ⟨(h.arcs k h1 h2).1, (h.arcs k h1 h2).2.keep fun g hg => hk g ((h.arcs k h1 h2).2.lt g hg) (.inr (.inr (.inr ⟨N[k], List.getElem_mem h1, hg⟩)))⟩, h.map.kept (hk gM (Array.getElem?_eq_some_iff.1 hm).1 (.inr (.inl rfl))), h.gB, h.gM⟩
theorem BSt.ext {w w' : World} {B gB gM : Nat} {v : Value} {N : List NV} {D : List Nd} (h : BSt w B gB gM v N D) (hx : Ext w w') : BSt w' B gB gM v N D := h.keep fun q hq _ => Below.block hx q hq
end Go.Proofs.YtocdljmdmiphnaaDoor
