/- LookupOutputs: for every input the law returns true, and each argument reads behind the call as it read before; its tied card. Conditions: the listed variables, which the card ties to the text. -/
import Derived.Test.YthjmdgejnakcmaaGreatDoorCards
import Derived.Test.YthjmdgejnakcmaaGreatDoorTie
import Derived.Test.YthjmdgejnakcmaaGreatDoorMA1
import Derived.Test.YthjmdgejnakcmaaGreatDoorMD6
import Derived.Test.YthjmdgejnakcmaaGreatDoorMK6
import Derived.Test.YthjmdgejnakcmaaGreatDoorKLOutputs
import Derived.WalkKit
import Derived.ProofKit
import Derived.OpenShut
import Derived.Deep.DeepHandedRow
set_option maxRecDepth 100000
namespace Go.Proofs.YthjmdgejnakcmaaGreatDoor.lawLookupOutputs
open Go.ChangeShapes Go.WideShapes Go.ChangeAt Go.RowKit
set_option linter.unusedVariables false
set_option linter.unusedSimpArgs false
theorem own : ownKnob Tryz.prog.godebug = none := by kernel_rfl
theorem laidOut : laidOutB Tryz.prog = true := by kernel_rfl
theorem readable : ∀ t ∈ ([28, 26] : List TypeId), Tryz.prog.readableRec t = true ∧ t < Tryz.prog.types.size := by
  intro t ht;simp only [Aj, List.not_mem_nil, or_false] at ht;rcases ht with rfl | rfl
  · exact ⟨by kernel_rfl, of_decide_eq_true (by kernel_rfl)⟩
  · exact ⟨by kernel_rfl, of_decide_eq_true (by kernel_rfl)⟩
theorem contract (H : Type) (enc : TypeId × Value → H) (W : World) (base : Nat) (args : Array Value) (ds gs : List (DataW H)) (before : List MemPlace)
    (ja : ∀ (j : Nat) t v, Tryz.f8.params[j]? = some t → args[j]? = some v → Value.okWide Tryz.prog W .any base t v)
    (hW : DataW.Whole enc Tryz.prog Tryz.f8.params.toList Rows.lookupOutputsSpec.vars false W args.toList ds gs before) (hL : laidMetH Tryz.prog Rows.lookupOutputsRow.laid W) :
    Calls Tryz.prog 8 args W fun e W' => ∃ v, e = .returned v ∧ Rows.lookupOutputsSpec.post enc Tryz.prog Tryz.f8 false true false false W args v W' := by
  have jb : ∀ (j : Nat) t v, Tryz.f8.params[j]? = some t → args[j]? = some v → Value.okWide Tryz.prog W .any base t v := ja;have je := hW;obtain ⟨p, q, jc, hV, rfl, hfz, hnd⟩ := hW;have hA : DataW.TrodAll enc Tryz.prog W 0 (fun _ => true) true Tryz.f8.params.toList args.toList ds p := jc;rw [Tryz.params8] at hA jb;have jd := hA;have jf := JM _ _ _ _ jd;obtain ⟨v0, vs0, d0, ds0, p0, q0, hargs, rfl, rfl, h0, r0⟩ := trodAll_cons hA;obtain ⟨v1, vs1, d1, ds1, p1, q1, rfl, rfl, rfl, h1, r1⟩ := trodAll_cons r0;obtain ⟨rfl, rfl, rfl⟩ := trodAll_nil r1;obtain rfl : args = #[v0, v1] := by cases args; simp_all
  obtain ⟨rfl, rfl⟩ := trodVars_none hV;have k : ∀ W', Below W.heap.size W W' → DataW.TrodAll enc Tryz.prog W' 0 (fun b => decide (b < W.heap.size)) true [28, 26] [v0, v1] [d0, d1] _ := fun W' bel => Kk laidOut bel _ _ _ _ readable jd jf;clear jc ja;obtain ⟨x0, rfl, vw0⟩ := Qd (jb 0 28 v0 rfl rfl) h0;obtain ⟨x1, rfl, vw1⟩ := OY (jb 1 26 v1 rfl rfl) h1;refine (Go.Proofs.YthjmdgejnakcmaaGreatDoor.lookupOutputs_view x0 x1 W vw0 vw1 (SC hL)).mono fun e W' ⟨he, bel⟩ => ?_;subst he;exact ⟨_, rfl, _, _, _, [], _, [], je, trodAll_mk1 (shut_bool Tryz.underlying4 _), k W' bel, rfl, bel.frame _, fun h => by cases h⟩
theorem reads (os : Os) {H : Type} (enc : TypeId × Value → H) : ∃ places, DataW.whole enc Tryz.prog ((Ia os).forCall (fun _ _ => 0) ⟨#[], #[.agg #[.int .u8 0, .int .u8 0, .slice none 0 0, .slice none 0 0, .slice none 0 0], .slice none 0 0], []⟩).memory Tryz.f8.params.toList Rows.lookupOutputsSpec.vars false (#[.agg #[.int .u8 0, .int .u8 0, .slice none 0 0, .slice none 0 0, .slice none 0 0], .slice none 0 0] : Array Value).toList 8 = some ([.agg [.agg [.lit (.int .u8 0), .lit (.int .u8 0), .nil], .nil, .nil], .nil], [], places) :=
  ⟨[], by kernel_rfl⟩
theorem lifted (os : Os) (started : os.Started) (H : Type) (enc : TypeId × Value → H) (F : Stop.Interp) :
    ReturnsInHanded {} Tryz.checked os 8 .any ((OpenSpec.ofChange Rows.lookupOutputsSpec).preRow enc Tryz.prog Tryz.f8 Rows.lookupOutputsRow.domain false Rows.lookupOutputsRow.laid) (((OpenSpec.ofChange Rows.lookupOutputsSpec).at F).post enc Tryz.prog Tryz.f8 false true false false) := by
  obtain ⟨places, hx⟩ := reads os enc;refine returnsInHanded_of_row (C := Tryz.checked) (s := OpenSpec.ofChange Rows.lookupOutputsSpec) own started (by kernel_rfl) Tryz.func8
    (witness_row_at (enc := enc) (C := Tryz.checked) false (Ia os) #[.agg #[.int .u8 0, .int .u8 0, .slice none 0 0, .slice none 0 0, .slice none 0 0], .slice none 0 0] rfl (by kernel_rfl) (by kernel_rfl) (by kernel_rfl)
      (OpenSpec.preRow_of_cond 8 hx (by kernel_rfl) (fun k hk => by cases hk) (by kernel_rfl) (SD os _))) ?_
  intro W base args ds gs before ja hW _ _ _ hL _ _;exact contract H enc W base args ds gs before ja hW hL
theorem said : Rows.LookupOutputsSaid :=
  OpenClaim.holds_of_cond 8 Tryz.f8 rfl rfl rfl rfl rfl rfl rfl ⟨rfl, rfl, rfl, rfl, rfl⟩ rfl rfl rfl rfl rfl (by kernel_rfl) Tryz.func8 (by kernel_rfl)
    (of_decide_eq_true (by kernel_rfl)) (by unfold Func.isWrapper; first | (rw [if_pos (by decide +kernel)]; kernel_rfl) | (rw [if_neg (by decide +kernel)]; exact ⟨rfl, rfl⟩))
    (fun os started H enc _ F => by rw [OpenClaim.pre_eq_preRow]; exact lifted os started H enc F)
theorem plain (f : FuncId) (fn : Func) (hf : Tryz.pinned.checked.prog.funcNamed Rows.lookupOutputsRow.func = some f) (ja : Tryz.pinned.checked.prog.funcs[f]? = some fn) :
    false = Tryz.pinned.checked.prog.looks [] ∧ ∀ (j : Nat) t, fn.params[j]? = some t → Tryz.pinned.checked.prog.wantsStandIn t = false := by
  obtain rfl : f = 8 := Option.some.inj ((show Tryz.prog.funcNamed Rows.lookupOutputsRow.func = some 8 by kernel_rfl).symm.trans hf) |>.symm;obtain rfl : fn = Tryz.f8 := (Option.some.inj (Tryz.func8.symm.trans ja)).symm;refine ⟨by kernel_rfl, fun j t ht => ?_⟩;rw [Tryz.params8] at ht;have hm : t ∈ ([28, 26] : List TypeId) := by simpa using Array.mem_of_getElem? ht
  simp only [Aj, List.not_mem_nil, or_false] at hm;rcases hm with rfl | rfl
  · exact (show Tryz.prog.wantsStandIn 28 = false by kernel_rfl)
  · exact (show Tryz.prog.wantsStandIn 26 = false by kernel_rfl)
/-- the card -/
theorem proved : Rows.LookupOutputsCardSaid :=
  Claim7.holds_tied_plain_at .later [] _ _ _ _ said (fun _ h => by cases h) (by kernel_rfl) (fun _ h => by cases h) lookupOutputs_row_tie rfl ⟨rfl, rfl⟩ (by kernel_rfl) rfl plain (by kernel_rfl)
#print axioms proved
end Go.Proofs.YthjmdgejnakcmaaGreatDoor.lawLookupOutputs
