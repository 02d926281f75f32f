
/- dawg.all: what it gives, and what is told of memory. -/
import Derived.Test.YtocdljmdmiphnaaDoorDBuildF
import Derived.RangeFuncNested
import Derived.RangeFuncBound
import Derived.RangeFuncCalls
import Derived.RangeFuncLeaves
import Derived.Shelf.Abstract
import Derived.OwnWalkIn
import Derived.TacticsInMore
import Derived.LoopNIn
import Derived.LoopIn
namespace Go.Proofs.YtocdljmdmiphnaaDoor
open Go.RowKit Go.WideShapes
set_option linter.unusedVariables false
set_option linter.unusedSimpArgs false

/-! ### plain -/
def failV (D : List Nd) (i : Int) (ws : List UInt8) : Bool :=
  decide (i < 0) || decide ((D.length : Int) ≤ i) || decide (20 < ws.length) || (!(D.getD i.toNat default).fin && decide ((D.getD i.toNat default).arcs = []))
def armsL (rec : Int → List UInt8 → List (ByteArray × Bool) × Bool) (ws : List UInt8) : List Ar → List (ByteArray × Bool) × Bool
  | [] => ([], true)
  | x :: r => if (rec x.t (ws ++ [UInt8.ofNat x.c.toNat])).2 = true then ((rec x.t (ws ++ [UInt8.ofNat x.c.toNat])).1 ++ (armsL rec ws r).1, (armsL rec ws r).2) else ((rec x.t (ws ++ [UInt8.ofNat x.c.toNat])).1, false)
/-- what visit gives, and whether it goes to the end -/
def visitL (D : List Nd) : Nat → Int → List UInt8 → List (ByteArray × Bool) × Bool
  | 0, _, _ => ([], true)
  | m + 1, i, ws => if failV D i ws = true then ([(⟨#[]⟩, false)], false)
    else ((if (D.getD i.toNat default).fin = true then [(⟨ws.toArray⟩, true)] else []) ++ (armsL (visitL D m) ws (D.getD i.toNat default).arcs).1, (armsL (visitL D m) ws (D.getD i.toNat default).arcs).2)

/-! ### bytes in a row -/
def ByteR (W : World) (a : Option Addr) (l : List UInt8) : Prop := (a = none ∧ l = []) ∨ ∃ b cs, a = some ⟨b, 0, none⟩ ∧ W.heap[b]? = some (.cells cs 5 (0, 0)) ∧ cs.toList.take l.length = l.map fun c => Value.int .u8 (c.toNat : Int)
theorem ByteR.nil (W : World) : ByteR W none [] := .inl ⟨rfl, rfl⟩
theorem ByteR.keep {W W' : World} {a : Option Addr} {l : List UInt8} (h : ByteR W a l) (hk : ∀ (b : Nat) (cs : Array Value), W.heap[b]? = some (.cells cs 5 (0, 0)) → W'.heap[b]? = W.heap[b]?) : ByteR W' a l := by
  rcases h with h | ⟨b, cs, h1, h2, h3⟩
  · exact .inl h
  · exact .inr ⟨b, cs, h1, (hk b cs h2).trans h2, h3⟩
theorem ByteR.ext {W W' : World} {a : Option Addr} {l : List UInt8} (h : ByteR W a l) (hx : Ext W W') : ByteR W' a l := h.keep fun b cs hb => Below.block hx b (Array.getElem?_eq_some_iff.1 hb).1
theorem ByteR.cells {W : World} {b : Nat} {l : List UInt8} (h : ByteR W (some ⟨b, 0, none⟩) l) : ∀ j v, (l.map fun c => Value.int .u8 (c.toNat : Int))[j]? = some v → W.cell? ((⟨b, 0, none⟩ : Addr).add j) = some v := by
  rcases h with ⟨h, _⟩ | ⟨b', cs, h1, h2, h3⟩
  · cases h
  · injection h1 with h1; injection h1 with h1; subst h1
    intro j v hj
    rw [← h3] at hj
    have hlt := (List.getElem?_eq_some_iff.1 hj).1
    rw [List.getElem?_take] at hj
    split at hj
    · rw [addr_add', Nat.zero_add, cell_of_row _ _ _ _ _ _ h2]
      simpa using hj
    · cases hj
/-- string(w) -/
theorem conv_bytes {W : World} {a : Option Addr} {l : List UInt8} (h : ByteR W a l) (c : Nat) : (convert 24 9 (.slice a l.length c)).run Tryd.prog W = .ok (.string ⟨l.toArray⟩) W := by
  rcases id h with ⟨rfl, rfl⟩ | ⟨b, cs, rfl, h2, h3⟩
  · exact run_convert_bytes_nil W 24 5 Tryd.underlying24 Tryd.underlying5 0 c 9 Tryd.underlying9
  · have := run_convert_bytes_arg W 24 5 Tryd.underlying24 Tryd.underlying5 b 0 l.length c (l.map fun c => (c.toNat : Int)) (by simp) (fun i hi => by
      have hc := h.cells i (.int .u8 (l[i].toNat : Int)) (by simp [hi])
      rw [addr_add'] at hc
      rw [hc]; simp [List.getD_eq_getElem?_getD, hi]) 9 Tryd.underlying9
    refine this.trans ?_
    have e0 : ((l.map fun c => (c.toNat : Int)).map fun n => UInt8.ofNat n.toNat) = l := by
      rw [List.map_map]
      have h1 : ((fun n : Int => UInt8.ofNat n.toNat) ∘ fun c : UInt8 => (c.toNat : Int)) = id := by
        funext c
        show UInt8.ofNat ((c.toNat : Int).toNat) = c
        rw [Int.toNat_natCast, UInt8.ofNat_toNat]
      rw [h1, List.map_id]
    have e : strOfNums (l.map fun c => (c.toNat : Int)) = ⟨l.toArray⟩ := by
      unfold strOfNums
      rw [e0]
    rw [e]
theorem slice_full (a : Option Addr) (n c : Nat) (hn : n ≤ c) (ha : a = none → n = 0) (w : World) :
    (Instr.slice 24 (.slice a n c) none (some (.int .i64 (n : Int))) (some (.int .i64 (n : Int)))).run Tryd.prog w = .ok (.slice a n n) w := by
  have h0 : (0 : Int) ≤ (n : Int) := by omega
  have h1 : (n : Int) ≤ (c : Int) := by omega
  cases a with
  | none =>
    obtain rfl := ha rfl
    simp [go_sem, Instr.slice, Instr.sliceBounds, Instr.sliceBound, asIntOf]
  | some p => simp [go_sem, Instr.slice, Instr.sliceBounds, Instr.sliceBound, asIntOf, h0, h1]; intro h; omega
theorem info_u8 : (Tryd.prog.info? 5).map (fun i => (i.zero, i.size, i.bytes)) = some (some (.int .u8 0), 1, 1) := by kernel_rfl
theorem runD {W : World} : Ext W W.drew := (Below.refl _ W).drew
/-- append to a full row: a new row -/
theorem app_byte {W : World} {a : Option Addr} {l : List UInt8} (h : ByteR W a l) (hl : l.length ≤ 1000) (x : UInt8) (g : Nat) (hg : W.heap[g]? = some (.cells #[.int .u8 (x.toNat : Int)] 5 (0, 0))) (ty : TypeId) :
    ∃ c W', (Builtin.append_ #[24, 24] ty #[.slice a l.length l.length, .slice (some ⟨g, 0, none⟩) 1 1]).run Tryd.prog W = .ok (.slice (some ⟨W.heap.size, 0, none⟩) (l ++ [x]).length c) W' ∧ ByteR W' (some ⟨W.heap.size, 0, none⟩) (l ++ [x]) ∧ (l ++ [x]).length ≤ c ∧ Ext W W' := by
  obtain ⟨i0, hi, hz0, hz1, hz2⟩ := info_parts info_u8
  have hn : ∀ j v, ([Value.int .u8 (x.toNat : Int)] : List Value)[j]? = some v → W.cell? ((⟨g, 0, none⟩ : Addr).add j) = some v := fun j v hj => by
    rw [addr_add', Nat.zero_add, cell_of_row _ _ _ _ _ _ hg]
    simpa using hj
  have hx : ∀ o, Ext W (W.drew.alloc o) := fun o => runD.alloc (by exact Nat.le_refl _) _
  rcases id h with ⟨rfl, rfl⟩ | ⟨b, cs, rfl, h2, h3⟩
  · have hr := run_append_nil (P := Tryd.prog) (w := W) 24 ty 5 i0 (.int .u8 0) Tryd.underlying24 hi hz0 ⟨g, 0, none⟩ 1 1 [.int .u8 (x.toNat : Int)] (by rw [hz1]; rfl) hn (by omega) (by omega) (by rw [hz2]; omega)
    have hge := grownCap_ge W 1 0 5
    refine ⟨_, _, hr, .inr ⟨_, _, rfl, heap_alloc_new W.drew _, ?_⟩, hge, hx _⟩
    simp
  · have hr := run_append_grow (P := Tryd.prog) (w := W) 24 ty 5 i0 (.int .u8 0) Tryd.underlying24 hi hz0 ⟨b, 0, none⟩ l.length l.length (l.map fun c => Value.int .u8 (c.toNat : Int)) (by rw [hz1]; simp) h.cells ⟨g, 0, none⟩ 1 1 [.int .u8 (x.toNat : Int)] (by rw [hz1]; rfl) hn (by omega) (by omega) (growslice_fits (by omega) (by rw [hz2]; omega))
    have hge := grownCap_ge W (l.length + 1) l.length 5
    rw [show (l ++ [x]).length = l.length + 1 by simp]
    refine ⟨grownCap W (l.length + 1) l.length 5, _, hr, .inr ⟨_, _, rfl, heap_alloc_new W.drew _, ?_⟩, hge, hx _⟩
    simp only [Builtin.zeroCells, List.append_toArray, Array.toList_append, List.length_append, List.map_append]
    simp [List.take_append, List.take_of_length_le]
/-! ### what a round keeps -/
def Kp (n₀ : Nat) (W W' : World) : Prop := Below n₀ W W' ∧ ∀ (q : Nat) (cs : Array Value) (t : TypeId) (fz : Nat × Nat), W.heap[q]? = some (.cells cs t fz) → t ≠ 9 → t ≠ 26 → t ≠ 4 → W'.heap[q]? = W.heap[q]?
theorem Kp.trans {n₀ : Nat} {A B C : World} (h : Kp n₀ A B) (h2 : Kp n₀ B C) : Kp n₀ A C :=
  ⟨h.1.trans h2.1, fun q cs t fz hq h3 h4 h5 => by
    have e := h.2 q cs t fz hq h3 h4 h5
    exact (h2.2 q cs t fz (e.trans hq) h3 h4 h5).trans e⟩
theorem Kp.of_ext {n₀ : Nat} {A B : World} (h : Ext A B) (hn : n₀ ≤ A.heap.size) : Kp n₀ A B := ⟨Below.mono h hn, fun q cs t fz hq _ _ _ => Below.block h q (Array.getElem?_eq_some_iff.1 hq).1⟩
theorem Kp.refl (n₀ : Nat) (A : World) : Kp n₀ A A := ⟨Below.refl _ _, fun _ _ _ _ _ _ _ _ => rfl⟩
theorem Kp.obj {n₀ : Nat} {W : World} (hn : n₀ ≤ W.heap.size) (X : World) (l : Nat) (o o' : Obj) (hl : W.heap.size ≤ l) (h : X.heap[l]? = some o) (ho : o.isCells = false) (hw : o.isWalk = false) : Kp n₀ X (X.putObj l o') :=
  ⟨belowK_b hn X l o o' hl h ho hw, fun q cs t fz hq _ _ _ => by
    have hne : q ≠ l := fun e => by subst e; rw [hq] at h; injection h with h; subst h; cases ho
    exact World.putObj_heap_other hne⟩
theorem ByteR.kp {n₀ : Nat} {W W' : World} {a : Option Addr} {l : List UInt8} (h : ByteR W a l) (hk : Kp n₀ W W') : ByteR W' a l := h.keep fun b cs hb => hk.2 b cs _ _ hb (by decide) (by decide) (by decide)
/-- the boxes of the iterator -/
structure VBy (l gD gY gV : Nat) (aD : Option Addr) (nD cD : Nat) (W : World) : Prop where
  dd : W.heap[gD]? = some (.cells #[.slice aD nD cD] 29 (0, 0))
  yy : W.heap[gY]? = some (.cells #[.func (.yield l) #[] #[]] 134 (0, 0))
  vv : W.heap[gV]? = some (.cells #[.func (.func 76) #[] #[.pointer (some ⟨gD, 0, none⟩), .pointer (some ⟨gY, 0, none⟩), .pointer (some ⟨gV, 0, none⟩)]] 135 (0, 0))
theorem VBy.kp {n₀ l gD gY gV : Nat} {aD : Option Addr} {nD cD : Nat} {W W' : World} (h : VBy l gD gY gV aD nD cD W) (hk : Kp n₀ W W') : VBy l gD gY gV aD nD cD W' :=
  ⟨(hk.2 _ _ _ _ h.dd (by decide) (by decide) (by decide)).trans h.dd, (hk.2 _ _ _ _ h.yy (by decide) (by decide) (by decide)).trans h.yy, (hk.2 _ _ _ _ h.vv (by decide) (by decide) (by decide)).trans h.vv⟩
theorem VBy.ext {l gD gY gV : Nat} {aD : Option Addr} {nD cD : Nat} {W W' : World} (h : VBy l gD gY gV aD nD cD W) (hx : Ext W W') : VBy l gD gY gV aD nD cD W' := h.kp (Kp.of_ext hx (Nat.le_refl _))
theorem VBy.cells {l gD gY gV : Nat} {aD : Option Addr} {nD cD : Nat} {W : World} (h : VBy l gD gY gV aD nD cD W) : W.cell? ⟨gD, 0, none⟩ = some (.slice aD nD cD) ∧ W.cell? ⟨gY, 0, none⟩ = some (.func (.yield l) #[] #[]) ∧ W.cell? ⟨gV, 0, none⟩ = some (.func (.func 76) #[] #[.pointer (some ⟨gD, 0, none⟩), .pointer (some ⟨gY, 0, none⟩), .pointer (some ⟨gV, 0, none⟩)]) :=
  ⟨cells1 h.dd, cells1 h.yy, cells1 h.vv⟩
theorem room_none (k : Nat) : Fence.wide.room k := room_wide k
theorem YieldAt.anyD {m : Nat} (m' : Nat) {P : Program} {l : Nat} {args : Array Value} {W : World} {R : Ending → World → Prop} (h : YieldAt Fence.wide m P l args W R) : YieldAt Fence.wide m' P l args W R := by
  obtain ⟨fn, tmps, assign, body, hy, hR⟩ := h
  exact ⟨fn, tmps, assign, body, hy, hR.1, fun c cs _ => hR.2 c cs (room_wide _)⟩
/-- J is left alone by what only adds -/
def JExt (J : List (ByteArray × Bool) → World → Prop) : Prop := ∀ s W W', J s W → Ext W W' → J s W'
theorem JExt.of {B : Nat} {J : List (ByteArray × Bool) → World → Prop} (h : AbidesFrom B J) : JExt J := fun s W W' hs hx =>
  h s W W' none hs ⟨hx.os, hx.tape, hx.output, hx.size, fun k hk _ => hx.block k hk⟩ (fun r e => by cases e)
end Go.Proofs.YtocdljmdmiphnaaDoor
/- dawg.all$1$1 (visit of all): the walk. -/
namespace Go.Proofs.YtocdljmdmiphnaaDoor
open Go.RowKit Go.WideShapes
set_option linter.unusedVariables false
set_option linter.unusedSimpArgs false
attribute [local go_sem] Oper.semAt_some

def CsOk (D : List Nd) : Prop := ∀ i (h : i < D.length), ∀ x ∈ D[i].arcs, 0 ≤ x.c ∧ x.c ≤ 255 ∧ -9223372036854775808 ≤ x.t ∧ x.t ≤ 9223372036854775807
def VisP (n₀ : Nat) (J Jx : List (ByteArray × Bool) → World → Prop) (q : List (ByteArray × Bool) × Bool) (pre : List (ByteArray × Bool)) (W : World) (e : Ending) (W' : World) : Prop :=
  (e = .returned (.bool true) ∧ q.2 = true ∧ J (pre ++ q.1) W' ∧ Kp n₀ W W') ∨ (e = .returned (.bool false) ∧ q.2 = false ∧ J (pre ++ q.1) W') ∨ (e = .returned (.bool false) ∧ ∃ p, p <+: q.1 ∧ Jx (pre ++ p) W')
/-- behind a call in the loop -/
def PV (b : Bool) (n₀ : Nat) (J Jx : List (ByteArray × Bool) → World → Prop) (wz : World) (pre S : List (ByteArray × Bool)) (q : List (ByteArray × Bool) × Bool) (v : Value) (W : World) : Prop :=
  (v = .bool b ∧ q.2 = true ∧ J (pre ++ (S ++ q.1)) W ∧ Kp n₀ wz W) ∨ (v = .bool (!b) ∧ ((q.2 = false ∧ J (pre ++ (S ++ q.1)) W) ∨ ∃ p, p <+: q.1 ∧ Jx (pre ++ (S ++ p)) W))
theorem pv_stays {b : Bool} {n₀ : Nat} {J Jx : List (ByteArray × Bool) → World → Prop} (hJ : JExt J) (hJx : JExt Jx) {wz : World} (hn : n₀ ≤ wz.heap.size) {pre S : List (ByteArray × Bool)} {q : List (ByteArray × Bool) × Bool} : Stays (PV b n₀ J Jx wz pre S q) := by
  rintro v w w' (⟨h1, h2, h3, h4⟩ | ⟨h1, ⟨h2, h3⟩ | ⟨p, h2, h3⟩⟩) hx
  · exact .inl ⟨h1, h2, hJ _ _ _ h3 hx, h4.trans (Kp.of_ext hx (Nat.le_trans hn h4.1.size))⟩
  · exact .inr ⟨h1, .inl ⟨h2, hJ _ _ _ h3 hx⟩⟩
  · exact .inr ⟨h1, .inr ⟨p, h2, hJx _ _ _ h3 hx⟩⟩
def RowC (g n : Nat) (v : Value) (_ : World) : Prop := ∃ c, v = .slice (some ⟨g, 0, none⟩) n c ∧ n ≤ c
theorem rowC_stays (g n : Nat) : Stays (RowC g n) := fun _ _ _ h _ => h
theorem opres_app_byte {W : World} {A : Act} {o : Oper} {s y : Operand} {a : Option Addr} {l : List UInt8} {x : UInt8} {g : Nat} (h : ByteR W a l) (hl : l.length ≤ 1000) (hg : W.heap[g]? = some (.cells #[.int .u8 (x.toNat : Int)] 5 (0, 0)))
    (ho : o.op = .call { callee := .builtin .append, args := #[s, y], argTypes := #[24, 24] }) (hs : A.eval s = .slice a l.length l.length) (hy : A.eval y = .slice (some ⟨g, 0, none⟩) 1 1) :
    OpRes Tryd.prog A o W (fun v w' => RowC W.heap.size (l ++ [x]).length v w' ∧ ByteR w' (some ⟨W.heap.size, 0, none⟩) (l ++ [x]) ∧ Ext W w') := by
  obtain ⟨c, W', hr, h1, h2, h3⟩ := app_byte h hl x g hg o.type
  refine .inl ⟨_, W', ?_, ⟨c, rfl, h2⟩, h1, h3⟩
  unfold execOp
  simp only [ho, resolve, invoke, builtin, Sem.run_bind, Sem.run_pure, Result.andThen_ok, List.map_toArray, List.map_cons, List.map_nil, hs, hy, hr]
/-- during the call's region: which of the two rows are made; whether the call is over -/
def TV (n₀ : Nat) (J : List (ByteArray × Bool) → World → Prop) (wz : World) (g s0 : Nat) (cs : Array Value) (y : UInt8) (l : List UInt8) (pre : List (ByteArray × Bool)) (b1 b2 b3 : Bool) (W : World) : Prop :=
  match b3 with
  | false => J pre W ∧ Kp n₀ wz W ∧ W.heap[g]? = some (.cells cs 56 (0, 0)) ∧ (b2 = false → W.heap.size = s0 + b1.toNat) ∧ (b1 = true → W.heap[s0]? = some (.cells #[.int .u8 (y.toNat : Int)] 5 (0, 0))) ∧ (b2 = true → ByteR W (some ⟨s0 + 1, 0, none⟩) l)
  | true => True
theorem TV.keep {n₀ : Nat} {J : List (ByteArray × Bool) → World → Prop} (hJ : JExt J) {wz : World} (hn : n₀ ≤ wz.heap.size) {g s0 : Nat} {cs : Array Value} {y : UInt8} {l : List UInt8} {pre : List (ByteArray × Bool)} {w w' : World} {b1 b2 : Bool} (h : TV n₀ J wz g s0 cs y l pre b1 b2 false w) (hx : Ext w w') :
    J pre w' ∧ Kp n₀ wz w' ∧ w'.heap[g]? = some (.cells cs 56 (0, 0)) :=
  ⟨hJ _ _ _ h.1 hx, h.2.1.trans (Kp.of_ext hx (Nat.le_trans hn h.2.1.1.size)), (Below.block hx g (Array.getElem?_eq_some_iff.1 h.2.2.1).1).trans h.2.2.1⟩
theorem guard_i64 {i : Int} (h : ¬ i < 0) : ∃ k : Nat, i = (k : Int) := ⟨i.toNat, by omega⟩
set_option maxHeartbeats 1600000 in
set_option maxRecDepth 100000 in
theorem vis_any (l gD gY gV n₀ N : Nat) (aD : Option Addr) (cD : Nat) (D : List Nd) (wW : World) (hWB : wW.heap.size ≤ n₀) (hD : DawgS wW aD D) (hDl : D.length ≤ 9223372036854775807) (hC : CsOk D)
    (J Jx : List (ByteArray × Bool) → World → Prop) (hJ : JExt J) (hJx : JExt Jx)
    (hY : ∀ pre (x : ByteArray × Bool) W, J pre W → pre.length < N → YieldAt Fence.wide 8 Tryd.prog l #[.string x.1, .bool x.2] W fun e W' =>
      (e = .returned (.bool true) ∧ J (pre ++ [x]) W' ∧ Kp n₀ W W') ∨ (e = .returned (.bool false) ∧ Jx (pre ++ [x]) W')) :
    ∀ (m : Nat) (i : Int) (ws : List UInt8) (aw : Option Addr) (cw : Nat) (pre : List (ByteArray × Bool)) (W : World), m + ws.length = 22 → 1 ≤ m → ByteR W aw ws → ws.length ≤ cw → VBy l gD gY gV aD D.length cD W → n₀ ≤ W.heap.size → Below n₀ wW W → J pre W →
      pre.length + (visitL D m i ws).1.length ≤ N → Calls Tryd.prog 76 #[.int .i64 i, .slice aw ws.length cw, .pointer (some ⟨gD, 0, none⟩), .pointer (some ⟨gY, 0, none⟩), .pointer (some ⟨gV, 0, none⟩)] W (VisP n₀ J Jx (visitL D m i ws) pre W) := by
  intro m
  induction m with
  | zero => intro i ws aw cw pre W _ h; omega
  | succ m ih =>
    intro i ws aw cw pre W hm _ hB hcw hV hn hW hJp hN
    obtain ⟨q, hq⟩ : ∃ q, visitL D (m + 1) i ws = q := ⟨_, rfl⟩
    rw [hq] at hN ⊢
    have HYY := Lib.hid hY; have HJ := Lib.hid hJ; have HJX := Lib.hid hJx; have HD := Lib.hid hD; have HC := Lib.hid hC; have IH := Lib.hid ih; have HB := Lib.hid hB; have HV := Lib.hid hV; have HW := Lib.hid hW; have HJP := Lib.hid hJp; have HN := Lib.hid hN; have HQ := Lib.hid hq
    clear hY hJ hJx hD hC ih hB hV hW hJp hN hq
    obtain ⟨hcd, hcy, hcv⟩ := HV.out.cells
    by_cases hi0 : i < 0
    · have HI0 := Lib.hid hi0
      have hq2 : q = ([(⟨#[]⟩, false)], false) := by rw [← HQ.out, visitL, if_pos (by simp [failV, HI0.out])]
      obtain ⟨fn, tmps, assign, body, hy, hR⟩ := YieldAt.anyD 8 (HYY.out pre (⟨#[]⟩, false) W HJP.out (by have := HN.out; rw [hq2] at this; simp at this; omega))
      dsimp only at hy
      have HQ2 := Lib.hid hq2
      have HR := Lib.hid hR
      clear hq2 hR
      go_enter Tryd.func76, Tryd.ntmps76
      go_upto_region 2 with fail
      refine (wpIn_wide (n := 9)).1 ?_
      gi_wp2
      refine HR.out.mono ?_
      rintro e W2 (⟨rfl, hj2, hk2⟩ | ⟨rfl, hj2⟩)
      · dsimp only
        apply_assumption -exfalso
        gi_wp2
        try apply_assumption -exfalso
        go_wp2_with fail
        go_ret
        rw [HQ2.out]
        exact .inr (.inl ⟨rfl, rfl, hj2⟩)
      · dsimp only
        apply_assumption -exfalso
        gi_wp2
        try apply_assumption -exfalso
        go_wp2_with fail
        go_ret
        rw [HQ2.out]
        exact .inr (.inr ⟨rfl, _, List.prefix_refl _, hj2⟩)
    by_cases hge : (D.length : Int) ≤ i
    · have HGE := Lib.hid hge
      have hq2 : q = ([(⟨#[]⟩, false)], false) := by rw [← HQ.out, visitL, if_pos (by simp [failV, HGE.out])]
      obtain ⟨fn, tmps, assign, body, hy, hR⟩ := YieldAt.anyD 8 (HYY.out pre (⟨#[]⟩, false) W HJP.out (by have := HN.out; rw [hq2] at this; simp at this; omega))
      dsimp only at hy
      have HQ2 := Lib.hid hq2
      have HR := Lib.hid hR
      clear hq2 hR
      go_enter Tryd.func76, Tryd.ntmps76
      go_upto_region 2 with fail
      refine (wpIn_wide (n := 9)).1 ?_
      gi_wp2
      refine HR.out.mono ?_
      rintro e W2 (⟨rfl, hj2, hk2⟩ | ⟨rfl, hj2⟩)
      · dsimp only
        apply_assumption -exfalso
        gi_wp2
        try apply_assumption -exfalso
        go_wp2_with fail
        go_ret
        rw [HQ2.out]
        exact .inr (.inl ⟨rfl, rfl, hj2⟩)
      · dsimp only
        apply_assumption -exfalso
        gi_wp2
        try apply_assumption -exfalso
        go_wp2_with fail
        go_ret
        rw [HQ2.out]
        exact .inr (.inr ⟨rfl, _, List.prefix_refl _, hj2⟩)
    obtain ⟨k, rfl⟩ := guard_i64 hi0
    have hkD : k < D.length := by omega
    have hkI : ¬ (D.length : Int) ≤ (k : Int) := hge
    by_cases h20 : 20 < ws.length
    · have h20I : (20 : Int) < (ws.length : Int) := by omega
      have H20 := Lib.hid h20
      clear h20
      have hq2 : q = ([(⟨#[]⟩, false)], false) := by rw [← HQ.out, visitL, if_pos (by simp [failV, H20.out])]
      obtain ⟨fn, tmps, assign, body, hy, hR⟩ := YieldAt.anyD 8 (HYY.out pre (⟨#[]⟩, false) W HJP.out (by have := HN.out; rw [hq2] at this; simp at this; omega))
      dsimp only at hy
      have HQ2 := Lib.hid hq2
      have HR := Lib.hid hR
      clear hq2 hR
      go_enter Tryd.func76, Tryd.ntmps76
      go_upto_region 2 with fail
      refine (wpIn_wide (n := 9)).1 ?_
      gi_wp2
      refine HR.out.mono ?_
      rintro e W2 (⟨rfl, hj2, hk2⟩ | ⟨rfl, hj2⟩)
      · dsimp only
        apply_assumption -exfalso
        gi_wp2
        try apply_assumption -exfalso
        go_wp2_with fail
        go_ret
        rw [HQ2.out]
        exact .inr (.inl ⟨rfl, rfl, hj2⟩)
      · dsimp only
        apply_assumption -exfalso
        gi_wp2
        try apply_assumption -exfalso
        go_wp2_with fail
        go_ret
        rw [HQ2.out]
        exact .inr (.inr ⟨rfl, _, List.prefix_refl _, hj2⟩)
    have h20I : ¬ (20 : Int) < (ws.length : Int) := by omega
    obtain ⟨bN, oN, haN, hbN, f0, aa, cc, f1, hXl, hXs⟩ := HD.out.at hkD
    have hidxN := idx_nodes aD bN oN D.length cD k haN hkD
    have hgi : D.getD k default = D[k] := by rw [List.getD_eq_getElem?_getD, List.getElem?_eq_getElem hkD]; rfl
    have hCk := HC.out k hkD
    obtain ⟨nd0, hnd0⟩ : ∃ nd0, D[k] = nd0 := ⟨_, rfl⟩
    rw [hnd0] at f0 f1 hXl hXs hgi hCk
    obtain ⟨f, X⟩ := nd0
    simp only at f0 f1 hXl hXs hCk
    have c0 := (HW.out.cell (p := ⟨bN, oN + k * 2, none⟩) (by show bN < n₀; omega)).trans f0
    have c1 := (HW.out.cell (p := ⟨bN, oN + k * 2 + 1, none⟩) (by show bN < n₀; omega)).trans f1
    have HF0 := Lib.hid f0; have HF1 := Lib.hid f1; have HXS := Lib.hid hXs; have HGI := Lib.hid hgi; have HCK := Lib.hid hCk
    clear f0 f1 hXs hgi hCk hnd0 haN
    by_cases hdead : f = false ∧ X = []
    · obtain ⟨rfl, rfl⟩ := hdead
      have hq2 : q = ([(⟨#[]⟩, false)], false) := by rw [← HQ.out, visitL, if_pos (by unfold failV; rw [Int.toNat_natCast, HGI.out]; simp)]
      obtain ⟨fn, tmps, assign, body, hy, hR⟩ := YieldAt.anyD 8 (HYY.out pre (⟨#[]⟩, false) W HJP.out (by have := HN.out; rw [hq2] at this; simp at this; omega))
      dsimp only at hy
      have HQ2 := Lib.hid hq2
      have HR := Lib.hid hR
      clear hq2 hR
      simp only [List.length_nil] at c1
      go_enter Tryd.func76, Tryd.ntmps76
      go_upto_region 2 with fail
      refine (wpIn_wide (n := 9)).1 ?_
      gi_wp2
      refine HR.out.mono ?_
      rintro e W2 (⟨rfl, hj2, hk2⟩ | ⟨rfl, hj2⟩)
      · dsimp only
        apply_assumption -exfalso
        gi_wp2
        try apply_assumption -exfalso
        go_wp2_with fail
        go_ret
        rw [HQ2.out]
        exact .inr (.inl ⟨rfl, rfl, hj2⟩)
      · dsimp only
        apply_assumption -exfalso
        gi_wp2
        try apply_assumption -exfalso
        go_wp2_with fail
        go_ret
        rw [HQ2.out]
        exact .inr (.inr ⟨rfl, _, List.prefix_refl _, hj2⟩)
    have HDEAD := Lib.hid hdead
    obtain ⟨L1, hL1⟩ : ∃ L1 : List (ByteArray × Bool), (if f = true then [(⟨ws.toArray⟩, true)] else []) = L1 := ⟨_, rfl⟩
    obtain ⟨FA, hFA⟩ : ∃ FA, armsL (visitL D m) ws X = FA := ⟨_, rfl⟩
    have hq3 : q = (L1 ++ FA.1, FA.2) := by
      rw [← HQ.out, visitL, if_neg (by unfold failV; rw [Int.toNat_natCast, HGI.out]; simp; simp at hdead; exact ⟨⟨by omega, by omega⟩, hdead⟩), Int.toNat_natCast, HGI.out, ← hL1, ← hFA]
    have HQ3 := Lib.hid hq3; have HL1 := Lib.hid hL1; have HFA := Lib.hid hFA
    have hws : ws.length ≤ 20 := by omega
    have HAN : Hid (aw = none → ws.length = 0) := fun e => by
      rcases HB.out with ⟨_, h⟩ | ⟨b, cs, h, _⟩
      · rw [h]; rfl
      · rw [e] at h; cases h
    clear hq3 hL1 hFA hdead h20 hge hi0
    go_enter Tryd.func76, Tryd.ntmps76
    go_upto_region 1 with fail
    go_cut [39] (fun s39 wx => ∃ wz, wz = wx ∧ wz = W ∧ s39 = .bool false)
    case first =>
      cases f with
      | true =>
        go_wp2
        go_meet
        exact ⟨_, rfl, rfl, rfl⟩
      | false =>
        have hx0 : ((X.length : Int) == 0) = false := by
          have := HDEAD.out
          cases X with
          | nil => simp at this
          | cons => simp; omega
        go_wp2
        go_meet
        exact ⟨_, rfl, rfl, rfl⟩
    case rest =>
      obtain ⟨wz, rfl, rfl, rfl⟩ := hcut
      apply_assumption -exfalso
      go_upto_region 4 with fail
      go_cut [53] (fun s53 wx => ∃ wz2, wz2 = wx ∧ ((s53 = .bool false ∧ J (pre ++ L1) wz2 ∧ Kp n₀ wz wz2) ∨ (s53 = .bool true ∧ Jx (pre ++ L1) wz2)))
      case first =>
        cases f with
        | true =>
          obtain ⟨fn, tmps, assign, body, hy, hR⟩ := YieldAt.anyD 8 (HYY.out pre (⟨ws.toArray⟩, true) wz HJP.out (by have := HN.out; rw [HQ3.out, ← HL1.out] at this; simp at this; omega))
          dsimp only at hy
          have HR := Lib.hid hR
          clear hR
          have hconv := conv_bytes HB.out cw
          refine (wpIn_wide (n := 9)).1 ?_
          gi_wp2
          refine HR.out.mono ?_
          rintro e W2 (⟨rfl, hj2, hk2⟩ | ⟨rfl, hj2⟩)
          · dsimp only
            apply_assumption -exfalso
            gi_wp2
            go_meet
            exact ⟨_, rfl, .inl ⟨rfl, by rw [← HL1.out]; exact hj2, hk2⟩⟩
          · dsimp only
            apply_assumption -exfalso
            gi_wp2
            go_meet
            exact ⟨_, rfl, .inr ⟨rfl, by rw [← HL1.out]; exact hj2⟩⟩
        | false =>
          go_wp2
          go_meet
          exact ⟨_, rfl, .inl ⟨rfl, by rw [← HL1.out]; simpa using HJP.out, Kp.refl _ _⟩⟩
      case rest =>
        obtain ⟨wz2, rfl, hor⟩ := hcut
        apply_assumption -exfalso
        rcases hor with ⟨rfl, hj2, hk2⟩ | ⟨rfl, hj2⟩
        · have HV2 := Lib.hid (HV.out.kp hk2)
          have HW2 := Lib.hid (HW.out.trans hk2.1)
          have HJ2 := Lib.hid hj2; have HK2 := Lib.hid hk2
          obtain ⟨hcd2, -, -⟩ := HV2.out.cells
          have c1b := (HW2.out.cell (p := ⟨bN, oN + k * 2 + 1, none⟩) (by show bN < n₀; omega)).trans HF1.out
          clear hcd hcy hcv c0 c1 hj2 hk2
          go_wp2_with fail
          go_loopw [60] (fun s60 wr => ∃ (j : Nat) (S : List (ByteArray × Bool)), j ≤ X.length ∧ s60 = .int .i64 (j : Int) ∧ J (pre ++ S) wr ∧ Kp n₀ wz wr ∧ S ++ (armsL (visitL D m) ws (X.drop j)).1 = L1 ++ FA.1 ∧ (armsL (visitL D m) ws (X.drop j)).2 = FA.2) (fun s60 _ => X.length - (intOf s60).toNat)
          case atStart => exact ⟨0, L1, Nat.zero_le _, rfl, HJ2.out, HK2.out, by rw [List.drop_zero, HFA.out], by rw [List.drop_zero, HFA.out]⟩
          case round =>
            obtain ⟨j, S, hj, rfl, hjs, hks, hS1, hS2⟩ := hrel
            have HJS := Lib.hid hjs; have HKS := Lib.hid hks; have HS1 := Lib.hid hS1; have HS2 := Lib.hid hS2
            have hnr : n₀ ≤ wr.heap.size := Nat.le_trans hn hks.1.size
            clear hjs hks hS1 hS2
            by_cases hjX : j < X.length
            · obtain ⟨b3, o3, ha3, hb3, q0, q1⟩ := HXS.out.at hjX
              have hidx3 := idx_arcs aa b3 o3 X.length cc j ha3 hjX
              have hck := HCK.out X[j] (List.getElem_mem hjX)
              have hdr := List.drop_eq_getElem_cons hjX
              obtain ⟨x, hx⟩ : ∃ x, X[j] = x := ⟨_, rfl⟩
              rw [hx] at q0 q1 hck hdr
              obtain ⟨xc, xt⟩ := x
              simp only at q0 q1 hck
              obtain ⟨y, hy, hy2⟩ : ∃ y : UInt8, xc = (y.toNat : Int) ∧ UInt8.ofNat xc.toNat = y := ⟨UInt8.ofNat xc.toNat, by rw [UInt8.toNat_ofNat']; omega, rfl⟩
              obtain ⟨q2, hq2⟩ : ∃ q2, visitL D m xt (ws ++ [y]) = q2 := ⟨_, rfl⟩
              have harm : armsL (visitL D m) ws (X.drop j) = if q2.2 = true then (q2.1 ++ (armsL (visitL D m) ws (X.drop (j + 1))).1, (armsL (visitL D m) ws (X.drop (j + 1))).2) else (q2.1, false) := by
                rw [hdr, armsL]; simp only [hy2, hq2]
              subst hy
              have HARM := Lib.hid harm; have HQ2 := Lib.hid hq2
              have c3 := ((HW.out.trans HKS.out.1).cell (p := ⟨b3, o3 + j * 2, none⟩) (by show b3 < n₀; omega)).trans q0
              have c4 := ((HW.out.trans HKS.out.1).cell (p := ⟨b3, o3 + j * 2 + 1, none⟩) (by show b3 < n₀; omega)).trans q1
              have hpf : (S ++ q2.1) <+: (L1 ++ FA.1) := by
                rw [← HS1.out, harm]
                split
                · exact List.prefix_append_right_inj _ |>.2 (List.prefix_append _ _)
                · exact List.prefix_refl _
              have HPF := Lib.hid hpf
              have hNN : (pre ++ S).length + q2.1.length ≤ N := by
                have h1 := HN.out
                have h2 := hpf.length_le
                rw [HQ3.out] at h1
                simp only [List.length_append] at h1 h2 ⊢
                omega
              clear ha3 hx hdr q0 q1 hck harm hq2 hy2 hpf
              go_upto_region 9 with fail
              obtain ⟨wy, hwy⟩ : ∃ wy, wy = wr.alloc (.cells #[.int .u8 (y.toNat : Int), .int .i64 xt] 56) := ⟨_, rfl⟩
              have HTY : Hid (TV n₀ J wz wr.heap.size wy.heap.size #[.int .u8 (y.toNat : Int), .int .i64 xt] y (ws ++ [y]) (pre ++ S) false false false wy) := by
                have hxx : Ext wr wy := by rw [hwy]; exact (Below.refl _ _).alloc (Nat.le_refl _) _
                exact ⟨HJ.out _ _ _ HJS.out hxx, HKS.out.trans (Kp.of_ext hxx hnr), by rw [hwy]; exact heap_alloc_new _ _, fun _ => rfl, fun h => (by cases h), fun h => (by cases h)⟩
              rw [← hwy]
              clear hwy
              refine wp_region_st (by kernel_rfl) (Vs [fun v _ => v = .func (.func 76) #[] #[.pointer (some ⟨gD, 0, none⟩), .pointer (some ⟨gY, 0, none⟩), .pointer (some ⟨gV, 0, none⟩)], fun v _ => v = .pointer (some ⟨wr.heap.size, 1, none⟩), fun v _ => v = .int .i64 xt, fun v _ => v = .slice aw ws.length cw, fun v _ => v = .slice aw ws.length cw, fun v _ => v = .int .i64 (ws.length : Int), fun v _ => v = .slice aw ws.length cw, fun v _ => v = .int .i64 (ws.length : Int), fun v _ => v = .slice aw ws.length ws.length, fun v _ => v = .pointer (some ⟨wr.heap.size, 0, none⟩), fun v _ => v = .int .u8 (y.toNat : Int), fun v _ => v = .slice (some ⟨wy.heap.size, 0, none⟩) 1 1, RowC (wy.heap.size + 1) (ws ++ [y]).length, PV true n₀ J Jx wz pre S q2, PV false n₀ J Jx wz pre S q2]) (Xs [Ext, Ext, Ext, Ext, Ext, Ext, Ext, Ext, Ext, Ext, Ext, (Ext), (Ext), (fun _ _ => True), Ext]) (fun fL => (fun b1 b2 b3 W => TV n₀ J wz wr.heap.size wy.heap.size #[.int .u8 (y.toNat : Int), .int .i64 xt] y (ws ++ [y]) (pre ++ S) b1 b2 b3 W) (fL 11) (fL 12) (fL 13)) [0, 0, 2, 0, 0, 16, 0, 64, 248, 0, 512, 1536, 4088, 8191, 16383] 80 15 (by kernel_rfl) rfl ?hV ?hS ?hop ?hfin ?hlast
              case hV =>
                refine xs_stays (vs_stays (by simp only [List.mem_cons, List.not_mem_nil, or_false, forall_eq_or_imp, forall_eq]; exact ⟨stays_const _, stays_const _, stays_const _, stays_const _, stays_const _, stays_const _, stays_const _, stays_const _, stays_const _, stays_const _, stays_const _, stays_const _, rowC_stays _ _, pv_stays HJ.out HJX.out hn, pv_stays HJ.out HJX.out hn⟩)) ?_
                exact ⟨.inl rfl, .inl rfl, .inl rfl, .inl rfl, .inl rfl, .inl rfl, .inl rfl, .inl rfl, .inl rfl, .inl rfl, .inl rfl, .inr (staysM_all ⟨fun _ _ => fun _ _ _ h _ => h, fun _ _ => fun _ _ _ h _ => h, fun _ _ => fun _ _ _ h _ => h, fun _ _ => fun _ _ _ h _ => h, fun _ _ => fun _ _ _ h _ => h, fun _ _ => fun _ _ _ h _ => h, fun _ _ => fun _ _ _ h _ => h, fun _ _ => fun _ _ _ h _ => h, fun _ _ => fun _ _ _ h _ => h, fun _ _ => fun _ _ _ h _ => h, fun _ _ => fun _ _ _ h _ => h, fun h => absurd rfl h, fun _ h => absurd h (by decide), fun _ h => absurd h (by decide), fun _ h => absurd h (by decide), trivial⟩), .inr (staysM_all ⟨fun _ _ => fun _ _ _ h _ => h, fun _ _ => fun _ _ _ h _ => h, fun _ _ => fun _ _ _ h _ => h, fun _ _ => fun _ _ _ h _ => h, fun _ _ => fun _ _ _ h _ => h, fun _ _ => fun _ _ _ h _ => h, fun _ _ => fun _ _ _ h _ => h, fun _ _ => fun _ _ _ h _ => h, fun _ _ => fun _ _ _ h _ => h, fun _ _ => fun _ _ _ h _ => h, fun _ _ => fun _ _ _ h _ => h, fun _ _ => fun _ _ _ h _ => h, fun h => absurd rfl h, fun _ h => absurd h (by decide), fun _ h => absurd h (by decide), trivial⟩), .inr (staysM_all ⟨fun _ _ => fun _ _ _ h _ => h, fun _ _ => fun _ _ _ h _ => h, fun _ _ => fun _ _ _ h _ => h, fun _ _ => fun _ _ _ h _ => h, fun _ _ => fun _ _ _ h _ => h, fun _ _ => fun _ _ _ h _ => h, fun _ _ => fun _ _ _ h _ => h, fun _ _ => fun _ _ _ h _ => h, fun _ _ => fun _ _ _ h _ => h, fun _ _ => fun _ _ _ h _ => h, fun _ _ => fun _ _ _ h _ => h, fun _ _ => fun _ _ _ h _ => h, fun _ _ => fun _ _ _ h _ => h, fun h => absurd rfl h, fun _ h => absurd h (by decide), trivial⟩), .inl rfl, trivial⟩
              case hS =>
                intro fL hf
                show (fun b1 b2 b3 W => TV n₀ J wz wr.heap.size wy.heap.size #[.int .u8 (y.toNat : Int), .int .i64 xt] y (ws ++ [y]) (pre ++ S) b1 b2 b3 W) (fL 11) (fL 12) (fL 13) _
                rw [hf 11 (by decide), hf 12 (by decide), hf 13 (by decide)]
                have hxd : Ext wy { heap := wy.heap, tape := wy.tape, drawn := wy.drawn + 1, os := wy.os, output := wy.output } := ⟨rfl, rfl, rfl, Nat.le_refl _, fun _ _ => rfl⟩
                obtain ⟨k1, k2, k3⟩ := TV.keep HJ.out hn HTY.out hxd
                exact ⟨k1, k2, k3, fun _ => rfl, fun h => (by cases h), fun h => (by cases h)⟩
              case hop =>
                refine ⟨?c0, ?_, ?c2, ?_, ?_, ?_, ?_, ?_, ?c8, ?_, ?c10, ?c11, ?c12, ?c13, ?c14, trivial⟩
                all_goals first | rw [if_neg (by decide)] | rw [if_pos (by decide)]
                all_goals try intro ac W fL hsz hfi hms hdn hS0 hdep hbase hund
                all_goals try have hS : (fun b1 b2 b3 W => TV n₀ J wz wr.heap.size wy.heap.size #[.int .u8 (y.toNat : Int), .int .i64 xt] y (ws ++ [y]) (pre ++ S) b1 b2 b3 W) (fL 11) (fL 12) (fL 13) W := hS0
                all_goals try (have hfl11 : fL 11 = true := hms 11 (by decide); rw [hfl11] at hS)
                all_goals try (have hfl11 : fL 11 = false := (by first | exact hfi | exact hdn 11 (by decide) (by decide)); rw [hfl11] at hS)
                all_goals try (have hfl12 : fL 12 = true := hms 12 (by decide); rw [hfl12] at hS)
                all_goals try (have hfl12 : fL 12 = false := (by first | exact hfi | exact hdn 12 (by decide) (by decide)); rw [hfl12] at hS)
                all_goals try (have hfl13 : fL 13 = true := hms 13 (by decide); rw [hfl13] at hS)
                all_goals try (have hfl13 : fL 13 = false := (by first | exact hfi | exact hdn 13 (by decide) (by decide)); rw [hfl13] at hS)
                all_goals try (have h4 : ac.tmps.getD 4 undef = .pointer (some ⟨gV, 0, none⟩) := hbase 4 (by kernel_rfl); have hh4 := h4; rw [Array.getD_eq_getD_getElem?] at hh4)
                all_goals try (have h9 : ac.tmps.getD 9 undef = .pointer (some ⟨wr.heap.size, 0, none⟩) := hbase 9 (by kernel_rfl); have hh9 := h9; rw [Array.getD_eq_getD_getElem?] at hh9)
                all_goals try (have h1 : ac.tmps.getD 1 undef = .slice aw ws.length cw := hbase 1 (by kernel_rfl); have hh1 := h1; rw [Array.getD_eq_getD_getElem?] at hh1)
                all_goals try (have d64 : ac.tmps.getD 64 undef = .func (.func 76) #[] #[.pointer (some ⟨gD, 0, none⟩), .pointer (some ⟨gY, 0, none⟩), .pointer (some ⟨gV, 0, none⟩)] := hdep 0 (by decide); have dd64 := d64; rw [Array.getD_eq_getD_getElem?] at dd64)
                all_goals try (have d65 : ac.tmps.getD 65 undef = .pointer (some ⟨wr.heap.size, 1, none⟩) := hdep 1 (by decide); have dd65 := d65; rw [Array.getD_eq_getD_getElem?] at dd65)
                all_goals try (have d66 : ac.tmps.getD 66 undef = .int .i64 xt := hdep 2 (by decide); have dd66 := d66; rw [Array.getD_eq_getD_getElem?] at dd66)
                all_goals try (have d67 : ac.tmps.getD 67 undef = .slice aw ws.length cw := hdep 3 (by decide); have dd67 := d67; rw [Array.getD_eq_getD_getElem?] at dd67)
                all_goals try (have d68 : ac.tmps.getD 68 undef = .slice aw ws.length cw := hdep 4 (by decide); have dd68 := d68; rw [Array.getD_eq_getD_getElem?] at dd68)
                all_goals try (have d69 : ac.tmps.getD 69 undef = .int .i64 (ws.length : Int) := hdep 5 (by decide); have dd69 := d69; rw [Array.getD_eq_getD_getElem?] at dd69)
                all_goals try (have d70 : ac.tmps.getD 70 undef = .slice aw ws.length cw := hdep 6 (by decide); have dd70 := d70; rw [Array.getD_eq_getD_getElem?] at dd70)
                all_goals try (have d71 : ac.tmps.getD 71 undef = .int .i64 (ws.length : Int) := hdep 7 (by decide); have dd71 := d71; rw [Array.getD_eq_getD_getElem?] at dd71)
                all_goals try (have d72 : ac.tmps.getD 72 undef = .slice aw ws.length ws.length := hdep 8 (by decide); have dd72 := d72; rw [Array.getD_eq_getD_getElem?] at dd72)
                all_goals try (have d73 : ac.tmps.getD 73 undef = .pointer (some ⟨wr.heap.size, 0, none⟩) := hdep 9 (by decide); have dd73 := d73; rw [Array.getD_eq_getD_getElem?] at dd73)
                all_goals try (have d74 : ac.tmps.getD 74 undef = .int .u8 (y.toNat : Int) := hdep 10 (by decide); have dd74 := d74; rw [Array.getD_eq_getD_getElem?] at dd74)
                all_goals try (have d75 : ac.tmps.getD 75 undef = .slice (some ⟨wy.heap.size, 0, none⟩) 1 1 := hdep 11 (by decide); have dd75 := d75; rw [Array.getD_eq_getD_getElem?] at dd75)
                all_goals try have d76 : (RowC (wy.heap.size + 1) (ws ++ [y]).length) (ac.tmps.getD 76 undef) W := hdep 12 (by decide)
                all_goals try have d77 : (PV true n₀ J Jx wz pre S q2) (ac.tmps.getD 77 undef) W := hdep 13 (by decide)
                all_goals try clear hbase hdep hms hdn hund
                case c0 =>
                  have hS1 : (fun b1 b2 b3 W => TV n₀ J wz wr.heap.size wy.heap.size #[.int .u8 (y.toNat : Int), .int .i64 xt] y (ws ++ [y]) (pre ++ S) b1 b2 b3 W) ((upd fL 0) 11) ((upd fL 0) 12) ((upd fL 0) 13) W := hS0
                  have hvv := (HV.out.kp hS.2.1).cells.2.2
                  refine opOk_run rfl (.inl ⟨_, W, ?_, rfl, Ext.refl _, hS1⟩)
                  clear hsz hS hS0 hS1 hfi; simp [go_sem, Act.eval, *]
                case c2 =>
                  have hS1 : (fun b1 b2 b3 W => TV n₀ J wz wr.heap.size wy.heap.size #[.int .u8 (y.toNat : Int), .int .i64 xt] y (ws ++ [y]) (pre ++ S) b1 b2 b3 W) ((upd fL 2) 11) ((upd fL 2) 12) ((upd fL 2) 13) W := hS0
                  obtain ⟨v0, v1⟩ := cells2 hS.2.2.1
                  refine opOk_run rfl (.inl ⟨_, W, ?_, rfl, Ext.refl _, hS1⟩)
                  clear hsz hS hS0 hS1 hfi; simp [go_sem, Act.eval, *]
                case c8 =>
                  have hS1 : (fun b1 b2 b3 W => TV n₀ J wz wr.heap.size wy.heap.size #[.int .u8 (y.toNat : Int), .int .i64 xt] y (ws ++ [y]) (pre ++ S) b1 b2 b3 W) ((upd fL 8) 11) ((upd fL 8) 12) ((upd fL 8) 13) W := hS0
                  have hsl := slice_full aw ws.length cw hcw HAN.out
                  refine opOk_run rfl (.inl ⟨_, W, ?_, rfl, Ext.refl _, hS1⟩)
                  clear hsz hS hS0 hS1 hfi; simp [go_sem, Act.eval, *]
                case c10 =>
                  have hS1 : (fun b1 b2 b3 W => TV n₀ J wz wr.heap.size wy.heap.size #[.int .u8 (y.toNat : Int), .int .i64 xt] y (ws ++ [y]) (pre ++ S) b1 b2 b3 W) ((upd fL 10) 11) ((upd fL 10) 12) ((upd fL 10) 13) W := hS0
                  obtain ⟨v0, v1⟩ := cells2 hS.2.2.1
                  refine opOk_run rfl (.inl ⟨_, W, ?_, rfl, Ext.refl _, hS1⟩)
                  clear hsz hS hS0 hS1 hfi; simp [go_sem, Act.eval, *]
                case c11 =>
                  have hs75 : W.heap.size = wy.heap.size := hS.2.2.2.1 rfl
                  have hx75 : Ext W (W.alloc (.cells #[.int .u8 (y.toNat : Int)] 5)) := (Below.refl _ _).alloc (Nat.le_refl _) _
                  obtain ⟨k1, k2, k3⟩ := TV.keep HJ.out hn hS hx75
                  refine opOk_run rfl (.inl ⟨.slice (some ⟨W.heap.size, 0, none⟩) 1 1, W.alloc (.cells #[.int .u8 (y.toNat : Int)] 5), ?_, (by show _ = _; rw [hs75]), hx75, ?_⟩)
                  · clear hsz hS hS0 hfi k1 k2 k3 hx75; simp [go_sem, Act.eval, *]
                  · show TV n₀ J wz wr.heap.size wy.heap.size #[.int .u8 (y.toNat : Int), .int .i64 xt] y (ws ++ [y]) (pre ++ S) (upd fL 11 11) (upd fL 11 12) (upd fL 11 13) _
                    rw [show upd fL 11 11 = true from if_pos rfl, show upd fL 11 12 = fL 12 from if_neg (by decide), show upd fL 11 13 = fL 13 from if_neg (by decide), hfl12, hfl13]
                    exact ⟨k1, k2, k3, fun _ => (by rw [World.size_alloc, hs75]; rfl), fun _ => (by rw [← hs75]; exact heap_alloc_new _ _), fun h => (by cases h)⟩
                case c12 =>
                  have hs76 : W.heap.size = wy.heap.size + 1 := hS.2.2.2.1 rfl
                  have hr76 := hS.2.2.2.2.1 rfl
                  have hlt76 := (Array.getElem?_eq_some_iff.1 hr76).1
                  refine opOk_run rfl ((opres_app_byte (HB.out.kp hS.2.1) (by omega) hr76 rfl (eval_tmp d72) (eval_tmp d75)).mono ?_)
                  rintro v w' ⟨hrc, hrb, hxx⟩
                  rw [hs76] at hrc hrb
                  obtain ⟨k1, k2, k3⟩ := TV.keep HJ.out hn hS hxx
                  refine ⟨hrc, hxx, ?_⟩
                  show TV n₀ J wz wr.heap.size wy.heap.size #[.int .u8 (y.toNat : Int), .int .i64 xt] y (ws ++ [y]) (pre ++ S) (upd fL 12 11) (upd fL 12 12) (upd fL 12 13) _
                  rw [show upd fL 12 12 = true from if_pos rfl, show upd fL 12 11 = fL 11 from if_neg (by decide), show upd fL 12 13 = fL 13 from if_neg (by decide), hfl11, hfl13]
                  exact ⟨k1, k2, k3, fun h => (by cases h), fun _ => (Below.block hxx _ hlt76).trans hr76, fun _ => hrb⟩
                case c13 =>
                  obtain ⟨c76, e76, hc76⟩ := d76
                  have ee76 := e76; rw [Array.getD_eq_getD_getElem?] at ee76
                  have hb76 := hS.2.2.2.2.2 rfl
                  have hcl := IH.out xt (ws ++ [y]) (some ⟨wy.heap.size + 1, 0, none⟩) c76 (pre ++ S) W (by simp; omega) (by omega) hb76 hc76 (HV.out.kp hS.2.1) (Nat.le_trans hn hS.2.1.1.size) (HW.out.trans hS.2.1.1) hS.1 (by rw [HQ2.out]; exact hNN)
                  rw [HQ2.out] at hcl
                  have hkk := hS.2.1
                  refine opOk_run rfl (.inr ⟨76, #[.int .i64 xt, .slice (some ⟨wy.heap.size + 1, 0, none⟩) (ws ++ [y]).length c76, .pointer (some ⟨gD, 0, none⟩), .pointer (some ⟨gY, 0, none⟩), .pointer (some ⟨gV, 0, none⟩)], W, by (clear hsz hS hS0 hfi hcl hkk hb76; simp [go_sem, Act.eval, *]), ?_⟩)
                  refine hcl.mono ?_
                  clear hcl
                  have hfin77 : ∀ w', TV n₀ J wz wr.heap.size wy.heap.size #[.int .u8 (y.toNat : Int), .int .i64 xt] y (ws ++ [y]) (pre ++ S) (upd fL 13 11) (upd fL 13 12) (upd fL 13 13) w' := fun w' => by
                    rw [show upd fL 13 13 = true from if_pos rfl]; trivial
                  rintro e w' (⟨rfl, h1, h2, h3⟩ | ⟨rfl, h1, h2⟩ | ⟨rfl, p, h1, h2⟩)
                  · exact ⟨_, rfl, .inl ⟨rfl, h1, by rw [← List.append_assoc]; exact h2, hkk.trans h3⟩, trivial, hfin77 _⟩
                  · exact ⟨_, rfl, .inr ⟨rfl, .inl ⟨h1, by rw [← List.append_assoc]; exact h2⟩⟩, trivial, hfin77 _⟩
                  · exact ⟨_, rfl, .inr ⟨rfl, .inr ⟨p, h1, by rw [← List.append_assoc]; exact h2⟩⟩, trivial, hfin77 _⟩
                case c14 =>
                  have hS1 : (fun b1 b2 b3 W => TV n₀ J wz wr.heap.size wy.heap.size #[.int .u8 (y.toNat : Int), .int .i64 xt] y (ws ++ [y]) (pre ++ S) b1 b2 b3 W) ((upd fL 14) 11) ((upd fL 14) 12) ((upd fL 14) 13) W := hS0
                  rcases d77 with ⟨e77, h77⟩ | ⟨e77, h77⟩
                  · rw [Array.getD_eq_getD_getElem?] at e77
                    refine opOk_run rfl (.inl ⟨.bool false, W, ?_, .inl ⟨rfl, h77⟩, Ext.refl _, hS1⟩)
                    clear hsz hS hS0 hS1 hfi h77; simp [go_sem, Act.eval, *]
                  · rw [Array.getD_eq_getD_getElem?] at e77
                    refine opOk_run rfl (.inl ⟨.bool true, W, ?_, .inr ⟨rfl, h77⟩, Ext.refl _, hS1⟩)
                    clear hsz hS hS0 hS1 hfi h77; simp [go_sem, Act.eval, *]
                all_goals (refine opOk_run rfl (.inl ⟨_, W, ?_, rfl, Ext.refl _, hS0⟩); clear hsz hS hS0 hfi; simp [go_sem, Act.eval, *]; done)
              case hlast =>
                intro h; exact absurd rfl h
              case hfin =>
                intro _ ac W hsz hdf fL hf hS0 hv hbase
                have hS : (fun b1 b2 b3 W => TV n₀ J wz wr.heap.size wy.heap.size #[.int .u8 (y.toNat : Int), .int .i64 xt] y (ws ++ [y]) (pre ++ S) b1 b2 b3 W) (fL 11) (fL 12) (fL 13) W := hS0
                clear hS0
                rw [hf 11 (by decide), hf 12 (by decide), hf 13 (by decide)] at hS
                obtain ⟨sx, hsx, hsA⟩ := act_puts [64, 65, 66, 67, 68, 69, 70, 71, 72, 73, 74, 75, 76, 77, 78] (by kernel_rfl) hsz hdf hbase
                have hr78 : PV false n₀ J Jx wz pre S q2 (sx 78) W := by rw [hsx 78]; exact hv 14 (by decide)
                rw [hsA]
                simp only [List.foldl]
                simp only [Act.put, List.setIfInBounds_toArray, List.set_cons_succ, List.set_cons_zero]
                clear hsA hsx hv hbase hsz hdf hf
                obtain ⟨v78, hv78⟩ : ∃ v78, sx 78 = v78 := ⟨_, rfl⟩
                rw [hv78] at hr78 ⊢
                clear hv78
                rcases hr78 with ⟨rfl, h1, h2, h3⟩ | ⟨rfl, hbad⟩
                · have HJ9 := Lib.hid h2; have HK9 := Lib.hid h3
                  have harm9 := HARM.out
                  rw [if_pos h1] at harm9
                  have hs9 : S ++ q2.1 ++ (armsL (visitL D m) ws (X.drop (j + 1))).1 = L1 ++ FA.1 := by have := HS1.out; rw [harm9] at this; rw [List.append_assoc]; exact this
                  have hs9b : (armsL (visitL D m) ws (X.drop (j + 1))).2 = FA.2 := by have := HS2.out; rw [harm9] at this; exact this
                  have HS9 := Lib.hid hs9; have HS9b := Lib.hid hs9b
                  clear hS h1 h2 h3 harm9 hs9 hs9b
                  go_wp2_with fail
                  go_roundw
                  case rel => exact ⟨j + 1, S ++ q2.1, by omega, by go_num, HJ9.out, HK9.out, HS9.out, HS9b.out⟩
                  case measure => simp [intOf]; omega
                · have HBAD := Lib.hid hbad
                  clear hS hbad
                  go_wp2_with fail
                  go_ret
                  rcases HBAD.out with ⟨h1, h2⟩ | ⟨p, h1, h2⟩
                  · refine .inr (.inl ⟨rfl, ?_, ?_⟩)
                    · rw [HQ3.out]; have := HS2.out; rw [HARM.out, if_neg (by rw [h1]; decide)] at this; exact this.symm
                    · rw [HQ3.out]; have := HS1.out; rw [HARM.out, if_neg (by rw [h1]; decide)] at this; rw [← this]; exact h2
                  · refine .inr (.inr ⟨rfl, S ++ p, ?_, h2⟩)
                    rw [HQ3.out]
                    exact ((List.prefix_append_right_inj _).2 h1).trans HPF.out
            · obtain rfl : j = X.length := by omega
              have h1 := HS1.out; have h2 := HS2.out
              rw [List.drop_length, armsL] at h1 h2
              have HA1 := Lib.hid h1; have HA2 := Lib.hid h2
              clear h1 h2
              go_wp2_with fail
              go_ret
              refine .inl ⟨rfl, ?_, ?_, HKS.out⟩
              · rw [HQ3.out]; exact HA2.out.symm
              · rw [HQ3.out]
                simp only
                rw [← HA1.out, List.append_nil]; exact HJS.out
        · go_wp2_with fail
          go_ret
          rw [HQ3.out]
          exact .inr (.inr ⟨rfl, L1, List.prefix_append _ _, hj2⟩)
end Go.Proofs.YtocdljmdmiphnaaDoor
/- dawg.all$1, dawg.all: what a range over them is given. -/
namespace Go.Proofs.YtocdljmdmiphnaaDoor
open Go.RowKit Go.WideShapes
set_option linter.unusedVariables false
set_option linter.unusedSimpArgs false

def w2b (W : World) (l gD : Nat) : World := (W.alloc (Obj.cells #[.func (.yield l) #[] #[]] 134)).alloc (Obj.cells #[.func (.func 76) #[] #[.pointer (some ⟨gD, 0, none⟩), .pointer (some ⟨W.heap.size, 0, none⟩), .pointer (some ⟨W.heap.size + 1, 0, none⟩)]] 135)
theorem w2b_ext (W : World) (l gD : Nat) : Ext W (w2b W l gD) := ((Below.refl _ W).alloc (Nat.le_refl _) _).alloc (by simp only [World.size_alloc]; omega) _
theorem w2b_by {W : World} {l gD : Nat} {aD : Option Addr} {nD cD : Nat} (h : W.heap[gD]? = some (.cells #[.slice aD nD cD] 29 (0, 0))) : VBy l gD W.heap.size (W.heap.size + 1) aD nD cD (w2b W l gD) := by
  refine ⟨(Below.block (w2b_ext W l gD) gD (Array.getElem?_eq_some_iff.1 h).1).trans h, ?_, ?_⟩
  · exact skip (by simp only [World.size_alloc]; omega) (heap_alloc_new _ _)
  · have h := heap_alloc_new (W.alloc (Obj.cells #[.func (.yield l) #[] #[]] 134)) (Obj.cells #[.func (.func 76) #[] #[.pointer (some ⟨gD, 0, none⟩), .pointer (some ⟨W.heap.size, 0, none⟩), .pointer (some ⟨W.heap.size + 1, 0, none⟩)]] 135)
    simp only [World.size_alloc] at h
    exact h
set_option maxHeartbeats 800000 in
theorem all1_stops (n gD n₀ : Nat) (aD : Option Addr) (cD : Nat) (D : List Nd) (wW w : World) (hWB : wW.heap.size ≤ n₀) (hn : n₀ ≤ w.heap.size) (hb : Below n₀ wW w) (hg : w.heap[gD]? = some (.cells #[.slice aD D.length cD] 29 (0, 0))) (hD : DawgS wW aD D) (hDl : D.length ≤ 9223372036854775807) (hC : CsOk D) :
    SeqStopsK Fence.wide n Tryd.prog 75 #[.pointer (some ⟨gD, 0, none⟩)] (fun x : ByteArray × Bool => #[Value.string x.1, Value.bool x.2]) (Kp n₀) (fun ys => ys = (visitL D 22 0 []).1) (fun pre => pre <+: (visitL D 22 0 []).1) (visitL D 22 0 []).1.length w := by
  intro l J Jx W hW hJ hJx hY h0
  refine callsIn_wide.2 ?_
  show Calls _ _ #[.func (.yield l) #[] #[], .pointer (some ⟨gD, 0, none⟩)] _ _
  have hgW : W.heap[gD]? = some (.cells #[.slice aD D.length cD] 29 (0, 0)) := (hW.block gD (Array.getElem?_eq_some_iff.1 hg).1).trans hg
  have hnW : n₀ ≤ W.heap.size := Nat.le_trans hn hW.size
  have hVI := vis_any l gD W.heap.size (W.heap.size + 1) n₀ (visitL D 22 0 []).1.length aD cD D wW hWB hD hDl hC J Jx (JExt.of hJ) (JExt.of hJx) (fun pre x W h1 h2 => YieldAt.anyD 8 (hY pre x W h1 h2)) 22 0 [] none 0 [] (w2b W l gD) rfl (by omega) (ByteR.nil _) (Nat.le_refl _) (w2b_by hgW) (Nat.le_trans hnW (w2b_ext W l gD).size) ((hb.trans (hW.mono hn)).trans ((w2b_ext W l gD).mono hnW)) ((JExt.of hJ) _ _ _ h0 (w2b_ext W l gD)) (by simp)
  have HVI := Lib.hid hVI
  clear hVI hJ hJx hY h0 hD hC
  have hsf : ∀ (fn : Fn) (x y : Array Value) (a : Addr) (m : Mode) (w : World), (store a (.func fn x y) m).run Tryd.prog w = stored Tryd.prog w a (.func fn x y) m := fun fn x y a m w => run_store Tryd.prog w a (.func fn x y) m rfl
  go_enter Tryd.func75, Tryd.ntmps75
  go_upto_region 3 with fail
  clear hsf
  have hvv := (w2b_by (l := l) hgW).cells.2.2
  change Code.wp _ _ _ _ (w2b W l gD)
  obtain ⟨wz, hwz⟩ : ∃ wz, w2b W l gD = wz := ⟨_, rfl⟩
  rw [hwz] at HVI hvv ⊢
  clear hwz
  go_wp2_with (first
    | (go_at_call 76; refine HVI.out.mono ?_; rintro e w6 (⟨rfl, h1, h2, h3⟩ | ⟨rfl, h1, h2⟩ | ⟨rfl, p, h1, h2⟩)))
  · go_end0
    exact ⟨⟨_, rfl⟩, .inl ⟨_, rfl, by simpa using h2⟩⟩
  · go_end0
    exact ⟨⟨_, rfl⟩, .inl ⟨_, rfl, by simpa using h2⟩⟩
  · go_end0
    exact ⟨⟨_, rfl⟩, .inr ⟨p, h1, by simpa using h2⟩⟩
theorem all_any (a : Option Addr) (n c : Nat) (w : World) : Calls Tryd.prog 63 #[.slice a n c] w fun e w' => e = .returned (.func (.func 75) #[] #[.pointer (some ⟨w.heap.size, 0, none⟩)]) ∧ w' = w.alloc (.cells #[.slice a n c] 29) := by
  have hmf : ∀ (fn : Fn) (first cap : Array Value) (w : World), (Instr.makeFunc fn first cap).run Tryd.prog w = .ok (.func fn first cap) w := fun _ _ _ _ => rfl
  go_enter Tryd.func63, Tryd.ntmps63
  go_wp2
  go_ret
  exact ⟨rfl, rfl⟩
end Go.Proofs.YtocdljmdmiphnaaDoor
