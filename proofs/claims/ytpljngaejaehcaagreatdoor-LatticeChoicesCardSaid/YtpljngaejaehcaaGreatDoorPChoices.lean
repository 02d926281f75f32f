/- LatticeChoices: for every input the law returns true, and each argument reads behind the call as it read before; its tied card. Conditions: the listed variables, which the card ties to the text. -/
import Derived.Test.YtpljngaejaehcaaGreatDoorCards
import Derived.Test.YtpljngaejaehcaaGreatDoorTie
import Derived.Test.YtpljngaejaehcaaGreatDoorMA2
import Derived.Test.YtpljngaejaehcaaGreatDoorMD4
import Derived.Test.YtpljngaejaehcaaGreatDoorMF4
import Derived.Test.YtpljngaejaehcaaGreatDoorMK10
import Derived.Test.YtpljngaejaehcaaGreatDoorMK11
import Derived.WalkKit
import Derived.ProofKit
import Derived.OpenShut
import Derived.Deep.DeepHandedRow
set_option maxRecDepth 100000
namespace Go.Proofs.YtpljngaejaehcaaGreatDoor.lawLatticeChoices
open Go.ChangeShapes Go.WideShapes Go.ChangeAt Go.RowKit
set_option linter.unusedVariables false
set_option linter.unusedSimpArgs false
theorem list2 {α : Type} {l : List α} (h : l.length = 2) : ∃ a b, l = [a, b] := by
  match l, h with
  | [a, b], _ => exact ⟨a, b, rfl⟩
theorem open_arr_ints {H : Type} {enc : TypeId × Value → H} {P : Program} {w : World} {base : Nat} {spare : Nat → Bool} {held : Bool} {p : List MemPlace} {d : DataW H} {r : Reach} {b0 : Nat} {t e : TypeId} {n : Nat} {k : IntKind} {v : Value} (ht : P.underlying t = some (.array n e)) (he : P.underlying e = some (.int k)) (hce : P.cellsOf e = 1) (hC : P.cellsOf t = n)
    (hv : Value.okWide P w r b0 t v) (h : DataW.Trod enc P w base spare held t v d p) : ∃ zs : List Int, zs.length = n ∧ v = .agg (zs.map (Value.int k)).toArray ∧ ∀ z ∈ zs, (Lit.int k z).wf = true := by
  obtain ⟨cs, rfl⟩ : ∃ cs, v = .agg cs := by
    unfold Value.okWide at hv
    rw [ht] at hv
    obtain ⟨cs, h, _⟩ := hv
    exact ⟨cs, h⟩
  obtain ⟨f, hf⟩ := h
  obtain ⟨zs, h1, h2, h3⟩ := J1 ht he hce hC hf
  refine ⟨zs, h1, ?_, h3⟩
  have : cs.toList = zs.map (Value.int k) := by simpa [Value.cells] using h2
  rw [← this]
theorem own : ownKnob Tryz.prog.godebug = none := by kernel_rfl
theorem laidOut : laidOutB Tryz.prog = true := by kernel_rfl
theorem readable : ∀ t ∈ ([24, 27, 77] : List TypeId), Tryz.prog.readableRec t = true ∧ t < Tryz.prog.types.size := by
  intro t ht;simp only [AS, List.not_mem_nil, or_false] at ht;rcases ht with rfl | rfl | rfl
  · exact ⟨by kernel_rfl, of_decide_eq_true (by kernel_rfl)⟩
  · exact ⟨by kernel_rfl, of_decide_eq_true (by kernel_rfl)⟩
  · exact ⟨by kernel_rfl, of_decide_eq_true (by kernel_rfl)⟩
theorem contract (H : Type) (enc : TypeId × Value → H) (W : World) (base : Nat) (args : Array Value) (ds gs : List (DataW H)) (before : List MemPlace)
    (jb : ∀ (j : Nat) t v, Tryz.f7.params[j]? = some t → args[j]? = some v → Value.okWide Tryz.prog W .any base t v)
    (hW : DataW.Whole enc Tryz.prog Tryz.f7.params.toList Rows.latticeChoicesSpec.vars false W args.toList ds gs before) (hL : laidMetH Tryz.prog Rows.latticeChoicesRow.laid W) :
    Calls Tryz.prog 7 args W fun e W' => ∃ v, e = .returned v ∧ Rows.latticeChoicesSpec.post enc Tryz.prog Tryz.f7 false true false false W args v W' := by
  have ja : ∀ (j : Nat) t v, Tryz.f7.params[j]? = some t → args[j]? = some v → Value.okWide Tryz.prog W .any base t v := jb;have jf := hW;obtain ⟨p, q, jc, hV, rfl, hfz, hnd⟩ := hW;have hA : DataW.TrodAll enc Tryz.prog W 0 (fun _ => true) true Tryz.f7.params.toList args.toList ds p := jc;rw [Tryz.params7] at hA ja;have jd := hA;have jg := IM _ _ _ _ jd;obtain ⟨v0, vs0, d0, ds0, p0, q0, hargs, rfl, rfl, h0, r0⟩ := trodAll_cons hA;obtain ⟨v1, vs1, d1, ds1, p1, q1, rfl, rfl, rfl, h1, r1⟩ := trodAll_cons r0;obtain ⟨v2, vs2, d2, ds2, p2, q2, rfl, rfl, rfl, h2, r2⟩ := trodAll_cons r1;obtain ⟨rfl, rfl, rfl⟩ := trodAll_nil r2;obtain rfl : args = #[v0, v1, v2] := by cases args; simp_all
  obtain ⟨rfl, rfl⟩ := trodVars_none hV;have k : ∀ W', Below W.heap.size W W' → DataW.TrodAll enc Tryz.prog W' 0 (fun b => decide (b < W.heap.size)) true [24, 27, 77] [v0, v1, v2] [d0, d1, d2] _ := fun W' bel => Ja laidOut bel _ _ _ _ readable jd jg;clear jc jb;obtain ⟨x0, rfl, vw0⟩ := Fl.open_raw02 (ja 0 24 v0 rfl rfl) h0;obtain ⟨x1, rfl, vw1⟩ := Oj (ja 1 27 v1 rfl rfl) h1;obtain ⟨zs2, jh, rfl, je⟩ := open_arr_ints Tryz.underlying77 Tryz.underlying5 (by kernel_rfl) (by kernel_rfl) (ja 2 77 v2 rfl rfl) h2;obtain ⟨a2_0, a2_1, rfl⟩ := list2 jh;have w2_0 := je a2_0 (by simp);have w2_1 := je a2_1 (by simp);refine (Go.Proofs.YtpljngaejaehcaaGreatDoor.latticeChoices_view x0 x1 a2_0 a2_1 W vw0 vw1 (bounds_u8 w2_0).1 (bounds_u8 w2_0).2 (bounds_u8 w2_1).1 (bounds_u8 w2_1).2 (Pc hL)).mono fun e W' ⟨he, bel⟩ => ?_;subst he;exact ⟨_, rfl, _, _, _, [], _, [], jf, trodAll_mk1 (shut_bool Tryz.underlying4 _), k W' bel, rfl, bel.frame _, fun h => by cases h⟩
theorem reads (os : Os) {H : Type} (enc : TypeId × Value → H) : ∃ places, DataW.whole enc Tryz.prog ((Gn os).forCall (fun _ _ => 0) ⟨#[], #[.agg #[.int .u8 0, .int .u8 0, .slice none 0 0], .slice none 0 0, .agg #[.int .u8 0, .int .u8 0]], []⟩).memory Tryz.f7.params.toList Rows.latticeChoicesSpec.vars false (#[.agg #[.int .u8 0, .int .u8 0, .slice none 0 0], .slice none 0 0, .agg #[.int .u8 0, .int .u8 0]] : Array Value).toList 8 = some ([.agg [.lit (.int .u8 0), .lit (.int .u8 0), .nil], .nil, .agg [.lit (.int .u8 0), .lit (.int .u8 0)]], [], places) :=
  ⟨[], by kernel_rfl⟩
theorem lifted (os : Os) (started : os.Started) (H : Type) (enc : TypeId × Value → H) (F : Stop.Interp) :
    ReturnsInHanded {} Tryz.checked os 7 .any ((OpenSpec.ofChange Rows.latticeChoicesSpec).preRow enc Tryz.prog Tryz.f7 Rows.latticeChoicesRow.domain false Rows.latticeChoicesRow.laid) (((OpenSpec.ofChange Rows.latticeChoicesSpec).at F).post enc Tryz.prog Tryz.f7 false true false false) := by
  obtain ⟨places, hx⟩ := reads os enc;refine returnsInHanded_of_row (C := Tryz.checked) (s := OpenSpec.ofChange Rows.latticeChoicesSpec) own started (by kernel_rfl) Tryz.func7
    (witness_row_at (enc := enc) (C := Tryz.checked) false (Gn os) #[.agg #[.int .u8 0, .int .u8 0, .slice none 0 0], .slice none 0 0, .agg #[.int .u8 0, .int .u8 0]] rfl (by kernel_rfl) (by kernel_rfl) (by kernel_rfl)
      (OpenSpec.preRow_of_cond 8 hx (by kernel_rfl) (fun k hk => by cases hk) (by kernel_rfl) (Pd os _))) ?_
  intro W base args ds gs before ja hW _ _ _ hL _ _;exact contract H enc W base args ds gs before ja hW hL
theorem said : Rows.LatticeChoicesSaid :=
  OpenClaim.holds_of_cond 7 Tryz.f7 rfl rfl rfl rfl rfl rfl rfl ⟨rfl, rfl, rfl, rfl, rfl⟩ rfl rfl rfl rfl rfl (by kernel_rfl) Tryz.func7 (by kernel_rfl)
    (of_decide_eq_true (by kernel_rfl)) (by unfold Func.isWrapper; first | (rw [if_pos (by decide +kernel)]; kernel_rfl) | (rw [if_neg (by decide +kernel)]; exact ⟨rfl, rfl⟩))
    (fun os started H enc _ F => by rw [OpenClaim.pre_eq_preRow]; exact lifted os started H enc F)
theorem plain (f : FuncId) (fn : Func) (hf : Tryz.pinned.checked.prog.funcNamed Rows.latticeChoicesRow.func = some f) (ja : Tryz.pinned.checked.prog.funcs[f]? = some fn) :
    false = Tryz.pinned.checked.prog.looks [] ∧ ∀ (j : Nat) t, fn.params[j]? = some t → Tryz.pinned.checked.prog.wantsStandIn t = false := by
  obtain rfl : f = 7 := Option.some.inj ((show Tryz.prog.funcNamed Rows.latticeChoicesRow.func = some 7 by kernel_rfl).symm.trans hf) |>.symm;obtain rfl : fn = Tryz.f7 := (Option.some.inj (Tryz.func7.symm.trans ja)).symm;refine ⟨by kernel_rfl, fun j t ht => ?_⟩;rw [Tryz.params7] at ht;have hm : t ∈ ([24, 27, 77] : List TypeId) := by simpa using Array.mem_of_getElem? ht
  simp only [AS, List.not_mem_nil, or_false] at hm;rcases hm with rfl | rfl | rfl
  · exact (show Tryz.prog.wantsStandIn 24 = false by kernel_rfl)
  · exact (show Tryz.prog.wantsStandIn 27 = false by kernel_rfl)
  · exact (show Tryz.prog.wantsStandIn 77 = false by kernel_rfl)
/-- the card -/
theorem proved : Rows.LatticeChoicesCardSaid :=
  Claim7.holds_tied_plain_at .later [] _ _ _ _ said (fun _ h => by cases h) (by kernel_rfl) (fun _ h => by cases h) latticeChoices_row_tie rfl ⟨rfl, rfl⟩ (by kernel_rfl) rfl plain (by kernel_rfl)
#print axioms proved
end Go.Proofs.YtpljngaejaehcaaGreatDoor.lawLatticeChoices
