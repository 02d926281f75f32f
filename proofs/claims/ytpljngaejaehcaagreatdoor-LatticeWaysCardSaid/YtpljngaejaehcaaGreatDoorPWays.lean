/- LatticeWays: for every input the law returns true, and each argument reads behind the call as it read before; its tied card. Conditions: the listed variables, which the card ties to the text. -/
import Derived.Test.YtpljngaejaehcaaGreatDoorCards
import Derived.Test.YtpljngaejaehcaaGreatDoorTie
import Derived.Test.YtpljngaejaehcaaGreatDoorMD1
import Derived.Test.YtpljngaejaehcaaGreatDoorMD4
import Derived.Test.YtpljngaejaehcaaGreatDoorMF5
import Derived.Test.YtpljngaejaehcaaGreatDoorMK13
import Derived.WalkKit
import Derived.ProofKit
import Derived.OpenShut
import Derived.Deep.DeepHandedRow
set_option maxRecDepth 100000
namespace Go.Proofs.YtpljngaejaehcaaGreatDoor.lawLatticeWays
open Go.ChangeShapes Go.WideShapes Go.ChangeAt Go.RowKit
set_option linter.unusedVariables false
set_option linter.unusedSimpArgs false
theorem own : ownKnob Tryz.prog.godebug = none := by kernel_rfl
theorem laidOut : laidOutB Tryz.prog = true := by kernel_rfl
theorem readable : ∀ t ∈ ([24, 27, 26] : List TypeId), Tryz.prog.readableRec t = true ∧ t < Tryz.prog.types.size := by
  intro t ht;simp only [AX, List.not_mem_nil, or_false] at ht;rcases ht with rfl | rfl | rfl
  · exact ⟨by kernel_rfl, of_decide_eq_true (by kernel_rfl)⟩
  · exact ⟨by kernel_rfl, of_decide_eq_true (by kernel_rfl)⟩
  · exact ⟨by kernel_rfl, of_decide_eq_true (by kernel_rfl)⟩
theorem contract (H : Type) (enc : TypeId × Value → H) (W : World) (base : Nat) (args : Array Value) (ds gs : List (DataW H)) (before : List MemPlace)
    (jb : ∀ (j : Nat) t v, Tryz.f9.params[j]? = some t → args[j]? = some v → Value.okWide Tryz.prog W .any base t v)
    (hW : DataW.Whole enc Tryz.prog Tryz.f9.params.toList Rows.latticeWaysSpec.vars false W args.toList ds gs before) (hL : laidMetH Tryz.prog Rows.latticeWaysRow.laid W) :
    Calls Tryz.prog 9 args W fun e W' => ∃ v, e = .returned v ∧ Rows.latticeWaysSpec.post enc Tryz.prog Tryz.f9 false true false false W args v W' := by
  have ja : ∀ (j : Nat) t v, Tryz.f9.params[j]? = some t → args[j]? = some v → Value.okWide Tryz.prog W .any base t v := jb;have je := hW;obtain ⟨p, q, jc, hV, rfl, hfz, hnd⟩ := hW;have hA : DataW.TrodAll enc Tryz.prog W 0 (fun _ => true) true Tryz.f9.params.toList args.toList ds p := jc;rw [Tryz.params9] at hA ja;have jd := hA;have jf := Jq _ _ _ _ jd;obtain ⟨v0, vs0, d0, ds0, p0, q0, hargs, rfl, rfl, h0, r0⟩ := trodAll_cons hA;obtain ⟨v1, vs1, d1, ds1, p1, q1, rfl, rfl, rfl, h1, r1⟩ := trodAll_cons r0;obtain ⟨v2, vs2, d2, ds2, p2, q2, rfl, rfl, rfl, h2, r2⟩ := trodAll_cons r1;obtain ⟨rfl, rfl, rfl⟩ := trodAll_nil r2;obtain rfl : args = #[v0, v1, v2] := by cases args; simp_all
  obtain ⟨rfl, rfl⟩ := trodVars_none hV;have k : ∀ W', Below W.heap.size W W' → DataW.TrodAll enc Tryz.prog W' 0 (fun b => decide (b < W.heap.size)) true [24, 27, 26] [v0, v1, v2] [d0, d1, d2] _ := fun W' bel => Lg laidOut bel _ _ _ _ readable jd jf;clear jc jb;obtain ⟨x0, rfl, vw0⟩ := Fl.open_raw02 (ja 0 24 v0 rfl rfl) h0;obtain ⟨x1, rfl, vw1⟩ := S6 (ja 1 27 v1 rfl rfl) h1;obtain ⟨x2, rfl, vw2⟩ := P6 (ja 2 26 v2 rfl rfl) h2;refine (Go.Proofs.YtpljngaejaehcaaGreatDoor.latticeWays_view x0 x1 x2 W vw0 vw1 vw2 (Su hL)).mono fun e W' ⟨he, bel⟩ => ?_;subst he;exact ⟨_, rfl, _, _, _, [], _, [], je, trodAll_mk1 (shut_bool Tryz.underlying4 _), k W' bel, rfl, bel.frame _, fun h => by cases h⟩
theorem reads (os : Os) {H : Type} (enc : TypeId × Value → H) : ∃ places, DataW.whole enc Tryz.prog ((Iq os).forCall (fun _ _ => 0) ⟨#[], #[.agg #[.int .u8 0, .int .u8 0, .slice none 0 0], .slice none 0 0, .slice none 0 0], []⟩).memory Tryz.f9.params.toList Rows.latticeWaysSpec.vars false (#[.agg #[.int .u8 0, .int .u8 0, .slice none 0 0], .slice none 0 0, .slice none 0 0] : Array Value).toList 8 = some ([.agg [.lit (.int .u8 0), .lit (.int .u8 0), .nil], .nil, .nil], [], places) :=
  ⟨[], by kernel_rfl⟩
theorem lifted (os : Os) (started : os.Started) (H : Type) (enc : TypeId × Value → H) (F : Stop.Interp) :
    ReturnsInHanded {} Tryz.checked os 9 .any ((OpenSpec.ofChange Rows.latticeWaysSpec).preRow enc Tryz.prog Tryz.f9 Rows.latticeWaysRow.domain false Rows.latticeWaysRow.laid) (((OpenSpec.ofChange Rows.latticeWaysSpec).at F).post enc Tryz.prog Tryz.f9 false true false false) := by
  obtain ⟨places, hx⟩ := reads os enc;refine returnsInHanded_of_row (C := Tryz.checked) (s := OpenSpec.ofChange Rows.latticeWaysSpec) own started (by kernel_rfl) Tryz.func9
    (witness_row_at (enc := enc) (C := Tryz.checked) false (Iq os) #[.agg #[.int .u8 0, .int .u8 0, .slice none 0 0], .slice none 0 0, .slice none 0 0] rfl (by kernel_rfl) (by kernel_rfl) (by kernel_rfl)
      (OpenSpec.preRow_of_cond 8 hx (by kernel_rfl) (fun k hk => by cases hk) (by kernel_rfl) (Sv os _))) ?_
  intro W base args ds gs before ja hW _ _ _ hL _ _;exact contract H enc W base args ds gs before ja hW hL
theorem said : Rows.LatticeWaysSaid :=
  OpenClaim.holds_of_cond 9 Tryz.f9 rfl rfl rfl rfl rfl rfl rfl ⟨rfl, rfl, rfl, rfl, rfl⟩ rfl rfl rfl rfl rfl (by kernel_rfl) Tryz.func9 (by kernel_rfl)
    (of_decide_eq_true (by kernel_rfl)) (by unfold Func.isWrapper; first | (rw [if_pos (by decide +kernel)]; kernel_rfl) | (rw [if_neg (by decide +kernel)]; exact ⟨rfl, rfl⟩))
    (fun os started H enc _ F => by rw [OpenClaim.pre_eq_preRow]; exact lifted os started H enc F)
theorem plain (f : FuncId) (fn : Func) (hf : Tryz.pinned.checked.prog.funcNamed Rows.latticeWaysRow.func = some f) (ja : Tryz.pinned.checked.prog.funcs[f]? = some fn) :
    false = Tryz.pinned.checked.prog.looks [] ∧ ∀ (j : Nat) t, fn.params[j]? = some t → Tryz.pinned.checked.prog.wantsStandIn t = false := by
  obtain rfl : f = 9 := Option.some.inj ((show Tryz.prog.funcNamed Rows.latticeWaysRow.func = some 9 by kernel_rfl).symm.trans hf) |>.symm;obtain rfl : fn = Tryz.f9 := (Option.some.inj (Tryz.func9.symm.trans ja)).symm;refine ⟨by kernel_rfl, fun j t ht => ?_⟩;rw [Tryz.params9] at ht;have hm : t ∈ ([24, 27, 26] : List TypeId) := by simpa using Array.mem_of_getElem? ht
  simp only [AX, List.not_mem_nil, or_false] at hm;rcases hm with rfl | rfl | rfl
  · exact (show Tryz.prog.wantsStandIn 24 = false by kernel_rfl)
  · exact (show Tryz.prog.wantsStandIn 27 = false by kernel_rfl)
  · exact (show Tryz.prog.wantsStandIn 26 = false by kernel_rfl)
/-- the card -/
theorem proved : Rows.LatticeWaysCardSaid :=
  Claim7.holds_tied_plain_at .later [] _ _ _ _ said (fun _ h => by cases h) (by kernel_rfl) (fun _ h => by cases h) latticeWays_row_tie rfl ⟨rfl, rfl⟩ (by kernel_rfl) rfl plain (by kernel_rfl)
#print axioms proved
end Go.Proofs.YtpljngaejaehcaaGreatDoor.lawLatticeWays
