/- A walk through code that sends and receives in one goroutine: Code.wp, for frames that are not early. -/
import Derived.Test.YtogjcfcfgnbmkaaFlaw1
import Derived.Conc.LoneCalls
import Derived.Conc.SmallLaws
namespace Go.Proofs.Ytogjcfcfgnbmkaa
open Go.RowKit Go.Conc
set_option linter.unusedVariables false
set_option linter.unusedSimpArgs false

/-- what Code.wp says, of the frames that are not early -/
def wpK (P : Program) (c : Code) (Q : Exit → Act → World → Prop) (a : Act) (w : World) : Prop :=
  ∀ (b : Frame), b.kind ≠ .early → ∀ (k : List Item) (cs : List Frame), ∃ e a' w', Q e a' w' ∧ Arrives P (lone (b.at a (.code c :: k)) cs w) b k cs e a' w'
def wpS (P : Program) (ops : Array Oper) (l : List Nat) (Q : Exit → Act → World → Prop) (a : Act) (w : World) : Prop :=
  ∀ (b : Frame), b.kind ≠ .early → ∀ (k : List Item) (cs : List Frame), ∃ e a' w', Q e a' w' ∧ Arrives P (lone (b.at a (.inRegion ops l :: k)) cs w) b k cs e a' w'
section
variable {P : Program} {Q : Exit → Act → World → Prop} {a : Act} {w : World}
theorem wpK_of {c : Code} (h : c.wp P Q a w) : wpK P c Q a w := fun b _ k cs => h b k cs
theorem wpK_mono {c : Code} {Q' : Exit → Act → World → Prop} (h : wpK P c Q a w) (hq : ∀ e a w, Q e a w → Q' e a w) : wpK P c Q' a w :=
  fun b hb k cs => let ⟨e, a', w', q, r⟩ := h b hb k cs; ⟨e, a', w', hq _ _ _ q, r⟩
theorem wpK_seq {x y : Code} (h : wpK P x (Exit.then (wpK P y Q) Q) a w) : wpK P (Code.seq x y) Q a w := by
  intro b hb k cs
  obtain ⟨e, a₁, w₁, hq, harr⟩ := h b hb (.code y :: k) cs
  cases e with
  | normal =>
    obtain ⟨e₂, a₂, w₂, hq₂, harr₂⟩ := hq b hb k cs
    exact ⟨e₂, a₂, w₂, hq₂, .of_steps (.head step_seq harr) harr₂⟩
  | exit id => exact ⟨_, a₁, w₁, hq, .of_steps (.one step_seq) (.pass (x := .code y) rfl (fun _ _ => .inl (by simp)) harr)⟩
  | goto l => exact ⟨_, a₁, w₁, hq, .of_steps (.one step_seq) (.pass (x := .code y) rfl (fun _ _ => .inl (by simp)) harr)⟩
  | ret => exact ⟨_, a₁, w₁, hq, .of_steps (.one step_seq) (.pass (x := .code y) rfl (fun _ _ => .inl (by simp)) harr)⟩
  | panic ch => exact ⟨_, a₁, w₁, hq, .of_steps (.one step_seq) (.pass (x := .code y) rfl (fun _ _ => .inl (by simp)) harr)⟩
  | outgrown => exact ⟨_, a₁, w₁, hq, .of_steps (.one step_seq) (.pass (x := .code y) rfl (fun _ _ => .inl (by simp)) harr)⟩
/-- the first part holds no communication: its walk is the kit's -/
theorem wpK_first {x y : Code} (h : ∀ K : Act → World → Prop, (∀ a w, wpK P y Q a w → K a w) → x.wp P (Exit.then K Q) a w) : wpK P (Code.seq x y) Q a w :=
  wpK_seq (wpK_of (h _ fun _ _ h => h))
theorem wpK_cond {c : Operand} {x y : Code} {t : Bool} (hc : a.eval c = .bool t) (h : wpK P (if t then x else y) Q a w) : wpK P (Code.cond c x y) Q a w :=
  fun b hb k cs => let ⟨e, a', w', q, r⟩ := h b hb k cs; ⟨e, a', w', q, .of_steps (.one (step_cond hc)) r⟩
theorem wpK_block {id : Nat} {c : Code} (h : wpK P c (Exit.inBlock id Q) a w) : wpK P (Code.block id c) Q a w := by
  intro b hb k cs
  obtain ⟨e, a₁, w₁, hq, harr⟩ := h b hb (.inBlock id :: k) cs
  cases e with
  | normal => exact ⟨.normal, a₁, w₁, hq, .head step_block (Steps.trans harr (.one step_inBlock))⟩
  | exit id' =>
    by_cases hid : id' = id
    · simp only [Exit.inBlock, hid, if_true] at hq
      exact ⟨.normal, a₁, w₁, hq, .head step_block (harr k (by simp [exitTo, hid]))⟩
    · simp only [Exit.inBlock, hid, if_false] at hq
      refine ⟨.exit id', a₁, w₁, hq, fun k' hk => .head step_block (harr k' ?_)⟩
      have : (id == id') = false := by simp; exact fun h => hid h.symm
      simp [exitTo, this, hk]
  | goto l => exact ⟨_, a₁, w₁, hq, fun k' hk => .head step_block (harr k' (by simp [gotoIn, hk]))⟩
  | ret => exact ⟨_, a₁, w₁, hq, .of_steps (.one step_block) harr⟩
  | panic ch => exact ⟨_, a₁, w₁, hq, .of_steps (.one step_block) harr⟩
  | outgrown => exact ⟨_, a₁, w₁, hq, .of_steps (b := b) (k := k) (cs := cs) (e := .outgrown) (.one step_block) harr⟩
theorem wpK_loop {c : Code} (I : Act → World → Prop) (μ : Act → World → Nat) (h₀ : I a w)
    (round : ∀ a w, I a w → wpK P c (Exit.then (fun a' w' => I a' w' ∧ μ a' w' < μ a w) Q) a w) : wpK P (Code.loop c) Q a w := by
  intro b hb k cs
  have key : ∀ n a w, μ a w = n → I a w →
      ∃ e a' w', Q e a' w' ∧ Arrives P (lone (b.at a (.code c :: .inLoop c :: k)) cs w) b k cs e a' w' := by
    intro n
    induction n using Nat.strongRecOn with
    | _ n ih =>
      intro a w hn hI
      obtain ⟨e, a₁, w₁, hq, harr⟩ := round a w hI b hb (.inLoop c :: k) cs
      cases e with
      | normal =>
        obtain ⟨hI₁, hlt⟩ := hq
        obtain ⟨e₂, a₂, w₂, hq₂, harr₂⟩ := ih (μ a₁ w₁) (hn ▸ hlt) a₁ w₁ rfl hI₁
        exact ⟨e₂, a₂, w₂, hq₂, .of_steps (Steps.trans harr (.one step_inLoop)) harr₂⟩
      | exit id => exact ⟨_, a₁, w₁, hq, .pass (x := .inLoop c) rfl (fun _ _ => .inl (by simp)) harr⟩
      | goto l => exact ⟨_, a₁, w₁, hq, .pass (x := .inLoop c) rfl (fun _ _ => .inl (by simp)) harr⟩
      | ret => exact ⟨_, a₁, w₁, hq, .pass (x := .inLoop c) rfl (fun _ _ => .inl (by simp)) harr⟩
      | panic ch => exact ⟨_, a₁, w₁, hq, .pass (x := .inLoop c) rfl (fun _ _ => .inl (by simp)) harr⟩
      | outgrown => exact ⟨_, a₁, w₁, hq, .pass (x := .inLoop c) rfl (fun _ _ => .inl (by simp)) harr⟩
  obtain ⟨e, a', w', hq, harr⟩ := key _ a w rfl h₀
  exact ⟨e, a', w', hq, .of_steps (.one step_loop) harr⟩
/-- the loop with a ghost number that falls -/
theorem wpK_loopG {c : Code} (I : Nat → Act → World → Prop) (n : Nat) (h₀ : I n a w)
    (round : ∀ n a w, I n a w → wpK P c (Exit.then (fun a' w' => ∃ m, m < n ∧ I m a' w') Q) a w) : wpK P (Code.loop c) Q a w := by
  intro b hb k cs
  have key : ∀ n a w, I n a w →
      ∃ e a' w', Q e a' w' ∧ Arrives P (lone (b.at a (.code c :: .inLoop c :: k)) cs w) b k cs e a' w' := by
    intro n
    induction n using Nat.strongRecOn with
    | _ n ih =>
      intro a w hI
      obtain ⟨e, a₁, w₁, hq, harr⟩ := round n a w hI b hb (.inLoop c :: k) cs
      cases e with
      | normal =>
        obtain ⟨m, hlt, hI₁⟩ := hq
        obtain ⟨e₂, a₂, w₂, hq₂, harr₂⟩ := ih m hlt a₁ w₁ hI₁
        exact ⟨e₂, a₂, w₂, hq₂, .of_steps (Steps.trans harr (.one step_inLoop)) harr₂⟩
      | exit id => exact ⟨_, a₁, w₁, hq, .pass (x := .inLoop c) rfl (fun _ _ => .inl (by simp)) harr⟩
      | goto l => exact ⟨_, a₁, w₁, hq, .pass (x := .inLoop c) rfl (fun _ _ => .inl (by simp)) harr⟩
      | ret => exact ⟨_, a₁, w₁, hq, .pass (x := .inLoop c) rfl (fun _ _ => .inl (by simp)) harr⟩
      | panic ch => exact ⟨_, a₁, w₁, hq, .pass (x := .inLoop c) rfl (fun _ _ => .inl (by simp)) harr⟩
      | outgrown => exact ⟨_, a₁, w₁, hq, .pass (x := .inLoop c) rfl (fun _ _ => .inl (by simp)) harr⟩
  obtain ⟨e, a', w', hq, harr⟩ := key _ a w h₀
  exact ⟨e, a', w', hq, .of_steps (.one step_loop) harr⟩
theorem wpK_condT {c : Operand} {x y : Code} (hc : a.eval c = .bool true) (h : wpK P x Q a w) : wpK P (Code.cond c x y) Q a w := wpK_cond (t := true) hc h
theorem wpK_condF {c : Operand} {x y : Code} (hc : a.eval c = .bool false) (h : wpK P y Q a w) : wpK P (Code.cond c x y) Q a w := wpK_cond (t := false) hc h
theorem wpK_skip (h : Q .normal a w) : wpK P Code.skip Q a w := wpK_of (wp_skip h)
theorem wpK_exit {id : Nat} (h : Q (.exit id) a w) : wpK P (Code.exit id) Q a w := wpK_of (wp_exit h)
theorem wpK_ret (h : Q .ret a w) : wpK P Code.ret Q a w := wpK_of (wp_ret h)
theorem wpK_region {id : Nat} {ops : Array Oper} (h : wpS P ops (List.range ops.size) Q a w) : wpK P (Code.region id ops false) Q a w :=
  fun b hb k cs => let ⟨e, a', w', q, r⟩ := h b hb k cs; ⟨e, a', w', q, .of_steps (.one step_region) r⟩
theorem wpS_nil {ops : Array Oper} (h : Q .normal a w) : wpS P ops [] Q a w := fun b hb k cs => ⟨.normal, a, w, h, .one step_region_end⟩
theorem wpS_value {ops : Array Oper} {i : Nat} {rest : List Nat} {o : Oper} {v : Value} {w' : World} (ho : ops[i]? = some o) (hw : Region.wanted o (yielded ops a.tmps) = true)
    (hr : (execOp a.eval o).run P w = .ok (.value v) w') (h : wpS P ops rest Q (a.put o.dst v) w') : wpS P ops (i :: rest) Q a w := by
  intro b hb k cs
  obtain ⟨e, a', w'', hq, harr⟩ := h b hb k cs
  refine ⟨e, a', w'', hq, .of_steps (.one (step_lone_go ?_)) harr⟩
  rw [stepG_op ho hw]
  have : (b.at a (.inRegion ops (i :: rest) :: k)).finish v = b.at (a.put o.dst v) (.inRegion ops rest :: k) := by rw [Frame.finish_at, ho]; rfl
  rw [← this]; simp [stepG.apply, hr]
theorem wpS_send {ops : Array Oper} {i : Nat} {rest : List Nat} {o : Oper} {w₁ : World} {c cap s r : Nat} {buf : Array Value} {v z' : Value} {tm : Bool} (ho : ops[i]? = some o) (hw : Region.wanted o (yielded ops a.tmps) = true)
    (hr : (execOp a.eval o).run P w = .ok (.comm #[scase c v z'] true .send) w₁) (hc : w₁.heap[c]? = some (.chan cap buf false s r tm)) (hroom : buf.size < cap)
    (h : wpS P ops rest Q (a.put o.dst undef) (w₁.setChan c cap (buf.push v) false (s + 1) r tm)) : wpS P ops (i :: rest) Q a w := by
  intro b hb k cs
  obtain ⟨e, a', w'', hq, harr⟩ := h b hb k cs
  refine ⟨e, a', w'', hq, .of_steps (.one ?_) harr⟩
  have := step_lone_send_room (P := P) (stepG_comm (cs := cs) (k := k) (rest := rest) ho hw hb hr) hc hroom
  rw [Frame.finish_at, ho] at this
  exact this
theorem wpS_recv {ops : Array Oper} {i : Nat} {rest : List Nat} {o : Oper} {w₁ : World} {c cap s r : Nat} {buf : Array Value} {z : Value} {tm cl : Bool} (ho : ops[i]? = some o) (hw : Region.wanted o (yielded ops a.tmps) = true)
    (hr : (execOp a.eval o).run P w = .ok (.comm #[rcase c z] true (.recv false)) w₁) (hc : w₁.heap[c]? = some (.chan cap buf cl s r tm)) (hsome : 0 < buf.size)
    (h : wpS P ops rest Q (a.put o.dst (buf.getD 0 undef)) (w₁.setChan c cap (buf.extract 1 buf.size) cl s (r + 1) tm)) : wpS P ops (i :: rest) Q a w := by
  intro b hb k cs
  obtain ⟨e, a', w'', hq, harr⟩ := h b hb k cs
  refine ⟨e, a', w'', hq, .of_steps (.one ?_) harr⟩
  have := step_lone_recv_buf (P := P) false (stepG_comm (cs := cs) (k := k) (rest := rest) ho hw hb hr) hc hsome
  rw [Frame.finish_at, ho] at this
  exact this
end
theorem calls_of_wpK {P : Program} {f : FuncId} {fn : Func} {c : Code} {args : Array Value} {w : World} {R : Ending → World → Prop}
    (hf : P.funcs[f]? = some fn) (hb : fn.body = some c)
    (h : wpK P c (bodyPost P fn R) { tmps := args ++ Array.replicate (fn.ntmps - args.size) undef, defers := [] } w) :
    Calls P f args w R := by
  intro cs
  let b : Frame := { (default : Frame) with fn := f, kind := .normal }
  have henter : Frame.enter P f args .normal =
      b.at { tmps := args ++ Array.replicate (fn.ntmps - args.size) undef, defers := [] } [.code c] := by
    simp [Frame.enter, Frame.at, hf, hb, b]
  obtain ⟨e, a', w', hq, harr⟩ := h b (by simp [b]) [] cs
  rw [← henter] at harr
  cases e with
  | normal =>
    obtain ⟨hd, v, hr, hR⟩ := hq
    exact ⟨.returned v, w', _, hR, Steps.trans harr (.one step_end), rfl, rfl, hd, rfl, fn, hf, hr⟩
  | ret =>
    obtain ⟨hd, v, hr, hR⟩ := hq
    obtain ⟨todo, hs⟩ := harr
    exact ⟨.returned v, w', _, hR, hs, rfl, rfl, hd, rfl, fn, hf, hr⟩
  | panic chain =>
    obtain ⟨hd, hR⟩ := hq
    obtain ⟨todo, hs⟩ := harr
    exact ⟨.panicked chain, w', _, hR, hs, rfl, rfl, hd, fn, hf⟩
  | exit id => exact hq.elim
  | goto l => exact hq.elim
  | outgrown => exact ⟨.outgrown, w', b, hq, harr.resolve_left (by simp [b]), rfl, trivial⟩
end Go.Proofs.Ytogjcfcfgnbmkaa
