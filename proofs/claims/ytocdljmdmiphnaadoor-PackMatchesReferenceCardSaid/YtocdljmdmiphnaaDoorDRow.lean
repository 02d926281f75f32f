/- Rows of the call's own, of whatever element type: strings, arcs, nodes, lists of strings. -/
import Derived.Test.YtocdljmdmiphnaaDoorDNodes
import Derived.Test.YtocdljmdmiphnaaDoorRegionZ
import Derived.Maps.AppendAt
import Derived.Laws.AppendOwn
import Derived.Laws.OwnMore
namespace Go.Proofs.YtocdljmdmiphnaaDoor
open Go.RowKit Go.WideShapes
set_option linter.unusedVariables false
set_option linter.unusedSimpArgs false

structure RowT (α : Type) where
  sl : TypeId
  e : TypeId
  k : Nat
  bytes : Nat
  z : Value
  enc : α → List Value
structure RowT.Ok {α : Type} (T : RowT α) : Prop where
  und : Tryd.prog.underlying T.sl = some (.slice T.e)
  info : (Tryd.prog.info? T.e).map (fun i => (i.zero, i.size, i.bytes)) = some (some T.z, T.k, T.bytes)
  zs : T.z.cells.size = T.k
  k0 : 0 < T.k
  len : ∀ x, (T.enc x).length = T.k
  one : ∀ x, ∀ u ∈ T.enc x, u.oneCell' = true
  b : T.bytes ≤ 64
section
variable {α : Type} {T : RowT α} {w w1 : World} {B C : Nat} {v : Value} {L : List α}
def OwnG (T : RowT α) (w : World) (B : Nat) (v : Value) (L : List α) : Prop := w.ownsRow B T.e T.k v L.length (L.flatMap T.enc)
theorem flat_len (h : T.Ok) : ∀ L : List α, (L.flatMap T.enc).length = L.length * T.k
  | [] => by simp
  | x :: r => by rw [List.flatMap_cons, List.length_append, flat_len h r, h.len, List.length_cons, Nat.add_mul]; omega
theorem flat_get (h : T.Ok) : ∀ {L : List α} {i j : Nat} (hi : i < L.length) (hj : j < T.k), (L.flatMap T.enc)[i * T.k + j]? = (T.enc L[i])[j]?
  | x :: r, 0, j, _, hj => by
    rw [List.flatMap_cons, Nat.zero_mul, Nat.zero_add, List.getElem?_append_left (by rw [h.len]; omega)]; rfl
  | x :: r, i + 1, j, hi, hj => by
    rw [List.flatMap_cons, List.getElem?_append_right (by rw [h.len, Nat.add_mul]; omega)]
    have : (i + 1) * T.k + j - (T.enc x).length = i * T.k + j := by rw [h.len, Nat.add_mul]; omega
    rw [this]
    exact flat_get h (L := r) (by simpa using hi) hj
theorem OwnG.nil (T : RowT α) (w : World) (B : Nat) : OwnG T w B (.slice none 0 0) [] := ⟨by simp, .inl ⟨rfl, rfl⟩⟩
theorem OwnG.empty (T : RowT α) {g : Nat} (h : w.heap[g]? = some (.cells #[] T.e (0, 0))) (hB : B ≤ g) : OwnG T w B (.slice (some ⟨g, 0, none⟩) 0 0) [] :=
  ⟨by simp, .inr ⟨g, 0, #[], rfl, hB, h, Nat.le_refl _, Nat.zero_le _, by simp, by simp⟩⟩
theorem OwnG.one (h : T.Ok) {g : Nat} {x : α} (hg : w.heap[g]? = some (.cells (T.enc x).toArray T.e (0, 0))) (hB : B ≤ g) : OwnG T w B (.slice (some ⟨g, 0, none⟩) 1 1) [x] :=
  ⟨by simp [h.len], .inr ⟨g, 1, _, rfl, hB, hg, Nat.le_refl _, by unfold maxLen; omega, by simp [h.len], by simp [h.len]; rw [List.take_of_length_le (by rw [h.len]; exact Nat.le_refl _)]⟩⟩
theorem OwnG.form (h : OwnG T w B v L) : ∃ a c, v = .slice a L.length c ∧ L.length ≤ c ∧ c ≤ maxLen := by
  rcases h.2 with ⟨rfl, h0⟩ | ⟨g, cap, cur, rfl, h1, h2, h3, h4, _⟩
  · exact ⟨none, 0, by rw [h0], by omega, Nat.zero_le _⟩
  · exact ⟨_, cap, rfl, h3, h4⟩
/-- the row is nil, or has a block -/
theorem OwnG.blk (h : OwnG T w B v L) : (v = .slice none 0 0 ∧ L = []) ∨ ∃ g c, v = .slice (some ⟨g, 0, none⟩) L.length c ∧ B ≤ g ∧ g < w.heap.size ∧ L.length ≤ c := by
  rcases h.2 with ⟨rfl, h0⟩ | ⟨g, cap, cur, rfl, h1, h2, h3, h4, _⟩
  · exact .inl ⟨rfl, List.eq_nil_of_length_eq_zero h0⟩
  · exact .inr ⟨g, cap, rfl, h1, (Array.getElem?_eq_some_iff.1 h2).1, h3⟩
theorem OwnG.cell (hT : T.Ok) {g n c : Nat} (h : OwnG T w B (.slice (some ⟨g, 0, none⟩) n c) L) {i j : Nat} (hi : i < L.length) (hj : j < T.k) : w.cell? ⟨g, i * T.k + j, none⟩ = (T.enc L[i])[j]? := by
  have hg := flat_get hT hi hj
  have hj2 : j < (T.enc L[i]).length := by rw [hT.len]; exact hj
  rw [List.getElem?_eq_getElem hj2] at hg ⊢
  have := World.ownsRow.cells (g := g) h rfl (i * T.k + j) _ hg
  rw [Addr.add_lit] at this
  simpa using this
theorem OwnG.keep (h : OwnG T w B v L) (hk : ∀ g, v.ownBlock = some g → w1.heap[g]? = w.heap[g]?) : OwnG T w1 B v L := by
  refine ⟨h.1, h.2.imp id ?_⟩
  rintro ⟨g, cap, cur, rfl, h1, h2, h3⟩
  exact ⟨g, cap, cur, rfl, h1, (hk g rfl).trans h2, h3⟩
theorem OwnG.below (h : OwnG T w B v L) (hb : Below C w w1) (hv : ∀ g, v.ownBlock = some g → g < C) : OwnG T w1 B v L := h.keep fun g hg => hb.block g (hv g hg)
theorem OwnG.ge (h : OwnG T w B v L) : ∀ g, v.ownBlock = some g → B ≤ g := by
  intro g hg
  rcases h.2 with ⟨rfl, _⟩ | ⟨g', cap, cur, rfl, h1, h2, h3⟩
  · cases hg
  · cases hg; exact h1
theorem OwnG.lt (h : OwnG T w B v L) : ∀ g, v.ownBlock = some g → g < w.heap.size := by
  intro g hg
  rcases h.2 with ⟨rfl, _⟩ | ⟨g', cap, cur, rfl, h1, h2, h3⟩
  · cases hg
  · cases hg; exact (Array.getElem?_eq_some_iff.1 h2).1
theorem OwnG.later (h : OwnG T w B v L) (hb : Below C w w1) (hC : w.heap.size ≤ C) : OwnG T w1 B v L := h.below hb fun g hg => Nat.lt_of_lt_of_le (h.lt g hg) hC
theorem OwnG.mono (h : OwnG T w B v L) (hC : C ≤ B) : OwnG T w C v L := by
  refine ⟨h.1, h.2.imp id ?_⟩
  rintro ⟨g, cap, cur, rfl, h1, h2⟩
  exact ⟨g, cap, cur, rfl, Nat.le_trans hC h1, h2⟩
theorem OwnG.grown {row : Option Nat} (h : OwnG T w B v L) (hg : w.grownBy w1 row) (hr : ∀ q, v.ownBlock = some q → some q ≠ row) : OwnG T w1 B v L := h.keep fun g hb => hg.block g (h.lt g hb) (hr g hb)
/-- append -/
theorem OwnG.run_append (hT : T.Ok) (h : OwnG T w B v L) (ty : TypeId) (a : Addr) (c : Nat) (news : List α) (hn : ∀ j u, (news.flatMap T.enc)[j]? = some u → w.cell? (a.add j) = some u) (hl : L.length + news.length ≤ 1000000) (hB : B ≤ w.heap.size) :
    ∃ v' w', (Builtin.append_ #[T.sl, T.sl] ty #[v, .slice (some a) news.length c]).run Tryd.prog w = .ok v' w' ∧ OwnG T w' B v' (L ++ news) ∧ w.grownBy w' v.ownBlock ∧ (v'.ownBlock = v.ownBlock ∨ v'.ownBlock = some w.heap.size) := by
  obtain ⟨i0, hi, hz0, hz1, hz2⟩ := info_parts hT.info
  have hb : (L.length + news.length) * T.bytes ≤ 1000000 * 64 := Nat.mul_le_mul hl hT.b
  obtain ⟨v', w', hr, h1, h2, _, h3⟩ := run_append_own_at (P := Tryd.prog) w B T.sl ty T.e i0 T.z T.k T.bytes hT.und hi hz0 hz1 hz2 hT.zs hT.k0 v L.length (L.flatMap T.enc) h a news.length c (news.flatMap T.enc) (flat_len hT news) hn
    (fun u hu => by obtain ⟨x, _, h2⟩ := List.mem_flatMap.1 hu; exact hT.one x u h2) (by unfold maxLen; omega) (by omega) hB
  refine ⟨v', w', hr, ?_, h2, h3⟩
  unfold OwnG
  rw [List.length_append, List.flatMap_append]
  exact h1
theorem wpList_append_g (hT : T.Ok) {ops : Array Oper} {rest : List Oper} {o : Oper} {a : Act} {Q : Exit → Act → World → Prop} (hgd : o.guard = none) (s x : Operand)
    (ho : o.op = .call { callee := .builtin .append, args := #[s, x], argTypes := #[T.sl, T.sl] }) (hs : a.eval s = v) (hown : OwnG T w B v L) (ad : Addr) (c : Nat) (news : List α) (hx : a.eval x = .slice (some ad) news.length c)
    (hn : ∀ j u, (news.flatMap T.enc)[j]? = some u → w.cell? (ad.add j) = some u) (hl : L.length + news.length ≤ 1000000) (hB : B ≤ w.heap.size)
    (h : ∀ v' w', OwnG T w' B v' (L ++ news) → w.grownBy w' v.ownBlock → (v'.ownBlock = v.ownBlock ∨ v'.ownBlock = some w.heap.size) → wpList Tryd.prog ops Q rest (a.put o.dst v') w') : wpList Tryd.prog ops Q (o :: rest) a w := by
  refine wpList_plain hgd fun K' hK' => ?_
  obtain ⟨v', w', hr, h1, h2, h3⟩ := hown.run_append hT o.type ad c news hn hl hB
  unfold Oper.wp
  simp only [execOp, ho, resolve, invoke, builtin, Sem.run_bind, Sem.run_pure, Result.andThen_ok, List.map_toArray, List.map_cons, List.map_nil, hs, hx, hr]
  exact hK' _ _ (h v' w' h1 h2 h3)
theorem OpRes.mono {P : Program} {a : Act} {o : Oper} {w : World} {R S : Value → World → Prop} (h : OpRes P a o w R) (hs : ∀ v w', R v w' → S v w') : OpRes P a o w S := by
  rcases h with ⟨v, w', h1, h2⟩ | ⟨f, args, w', h1, h2⟩
  · exact .inl ⟨v, w', h1, hs _ _ h2⟩
  · exact .inr ⟨f, args, w', h1, h2.mono fun e w'' ⟨v, he, hv⟩ => ⟨v, he, hs _ _ hv⟩⟩
theorem opres_append_g (hT : T.Ok) {o : Oper} {a : Act} (s x : Operand) (ho : o.op = .call { callee := .builtin .append, args := #[s, x], argTypes := #[T.sl, T.sl] }) (hs : a.eval s = v) (hown : OwnG T w B v L) (ad : Addr) (c : Nat) (news : List α)
    (hx : a.eval x = .slice (some ad) news.length c) (hn : ∀ j u, (news.flatMap T.enc)[j]? = some u → w.cell? (ad.add j) = some u) (hl : L.length + news.length ≤ 1000000) (hB : B ≤ w.heap.size) :
    OpRes Tryd.prog a o w (fun v' w' => OwnG T w' B v' (L ++ news) ∧ w.grownBy w' v.ownBlock ∧ (v'.ownBlock = v.ownBlock ∨ v'.ownBlock = some w.heap.size)) := by
  obtain ⟨v', w', hr, h1, h2, h3⟩ := hown.run_append hT o.type ad c news hn hl hB
  refine .inl ⟨v', w', ?_, h1, h2, h3⟩
  unfold execOp
  simp only [ho, resolve, invoke, builtin, Sem.run_bind, Sem.run_pure, Result.andThen_ok, List.map_toArray, List.map_cons, List.map_nil, hs, hx, hr]
/-- the cells of a row that was just built -/
theorem cells_built {g : Nat} {t : TypeId} {cs : List Value} (h : w.heap[g]? = some (.cells cs.toArray t (0, 0))) : ∀ j u, cs[j]? = some u → w.cell? ((⟨g, 0, none⟩ : Addr).add j) = some u := by
  intro j u hj
  have hc := cell_of_row w g j _ _ (0, 0) h
  have e : (⟨g, 0, none⟩ : Addr).add j = ⟨g, j, none⟩ := by rw [Addr.add_lit, Nat.zero_add]
  rw [e, hc]
  simpa using hj
end
/-! ### the four kinds -/
def rowStr : RowT ByteArray := ⟨26, 9, 1, 16, .string ⟨#[]⟩, fun s => [.string s]⟩
theorem rowStr_ok : rowStr.Ok := ⟨Tryd.underlying26, by kernel_rfl, rfl, by decide, fun _ => rfl, fun x u hu => by obtain rfl : u = .string x := (List.mem_singleton.1 hu); rfl, by decide⟩
def rowArc : RowT Ar := ⟨51, 56, 2, 16, .agg #[.int .u8 0, .int .i64 0], fun x => [.int .u8 x.c, .int .i64 x.t]⟩
theorem rowArc_ok : rowArc.Ok := ⟨Tryd.underlying51, by kernel_rfl, rfl, by decide, fun _ => rfl, fun x u hu => by
  have h : u = .int .u8 x.c ∨ u = .int .i64 x.t := by simpa [rowArc] using hu
  rcases h with rfl | rfl <;> rfl, by decide⟩
/-- the value of a node: its arcs as a slice -/
structure NV where
  fin : Bool
  a : Option Addr
  n : Nat
  c : Nat
deriving DecidableEq
def rowNode : RowT NV := ⟨29, 53, 2, 32, .agg #[.bool false, .slice none 0 0], fun x => [.bool x.fin, .slice x.a x.n x.c]⟩
theorem rowNode_ok : rowNode.Ok := ⟨Tryd.underlying29, by kernel_rfl, rfl, by decide, fun _ => rfl, fun x u hu => by
  have h : u = .bool x.fin ∨ u = .slice x.a x.n x.c := by simpa [rowNode] using hu
  rcases h with rfl | rfl <;> rfl, by decide⟩
structure SV where
  a : Option Addr
  n : Nat
  c : Nat
def rowRest : RowT SV := ⟨70, 26, 1, 24, .slice none 0 0, fun x => [.slice x.a x.n x.c]⟩
theorem rowRest_ok : rowRest.Ok := ⟨Tryd.underlying70, by kernel_rfl, rfl, by decide, fun _ => rfl, fun x u hu => by obtain rfl : u = .slice x.a x.n x.c := (List.mem_singleton.1 hu); rfl, by decide⟩
/-! ### rows read -/
theorem OwnG.strs {w : World} {B : Nat} {a : Option Addr} {n c : Nat} {L : List ByteArray} (h : OwnG rowStr w B (.slice a n c) L) : StrS w a L ∧ n = L.length ∧ L.length ≤ c := by
  obtain ⟨a', c', he, hc, _⟩ := h.form
  injection he with e1 e2 e3
  refine ⟨fun k hk => ?_, e2, by omega⟩
  rcases h.blk with ⟨_, rfl⟩ | ⟨g, c2, he2, _, hg, _⟩
  · simp at hk
  · injection he2 with f1 f2 f3
    subst f1
    refine ⟨g, 0, rfl, hg, ?_⟩
    have := h.cell rowStr_ok hk (j := 0) (by decide)
    simpa [rowStr] using this
theorem OwnG.arcs {w : World} {B : Nat} {a : Option Addr} {n c : Nat} {L : List Ar} (h : OwnG rowArc w B (.slice a n c) L) : ArcS w a L ∧ n = L.length ∧ L.length ≤ c := by
  obtain ⟨a', c', he, hc, _⟩ := h.form
  injection he with e1 e2 e3
  refine ⟨fun k hk => ?_, e2, by omega⟩
  rcases h.blk with ⟨_, rfl⟩ | ⟨g, c2, he2, _, hg, _⟩
  · simp at hk
  · injection he2 with f1 f2 f3
    subst f1
    refine ⟨g, 0, rfl, hg, ?_, ?_⟩
    · have := h.cell rowArc_ok hk (j := 0) (by decide)
      simpa [rowArc] using this
    · have := h.cell rowArc_ok hk (j := 1) (by decide)
      simpa [rowArc] using this
end Go.Proofs.YtocdljmdmiphnaaDoor
