/-
  NARROWER THAN 'FOR EVERY INPUT', by the rows' own cells (each row's printed sentence says how): LookupMatchesReference: laid · LookupChoices: laid · LookupShrinks: laid · LookupCosts: laid · LookupBeginnings: laid · LookupOutputs: laid.
  DERIVED. THE GIVEN ROWS OF THIS SEAT. 6 by the template 'for every input the law returns true; each argument reads behind the call as it read before'; 0 by the template 'total and deterministic' (their statements: YthjmdgejnakcmaaGreatDoorTotals.lean).
  GIVEN WITH THE SEED: the statements are not yours to turn. If you find one false, say at which input.
  Laid BY PROGRAM, IN A SANDBOX (cutbox-rows.mjs): the forced cells as the released guide's own fill.sh prints them over the translation 25ca8d81cde522f4… (all of the seat's roots in one cut). By AI agents, Wed Nov 11 2026. No macro, syntax, notation, axiom, sorry.
-/
import Derived.Test.YthjmdgejnakcmaaGreatDoorChecked
import GoSem.Claim
import GoSem.ClaimJoined
import GoSem.ClaimMapViews
import Derived.JoinedTies
import Derived.KernelRfl
namespace Go.Proofs.YthjmdgejnakcmaaGreatDoor
/- THE CELL 'sum', in the pinned program and in every row, IS THE sha256 OF THE DUMP (.gsa) THAT YthjmdgejnakcmaaGreatDoorProg.lean LOADS. Nothing in Lean hashes anything: it is a label: what it is worth is what the hold of that sum in a sandbox is worth. -/
noncomputable def Tryz.pinned : Pinned := { name := "ythjmdgejnakcmaagreatdoor", sum := "25ca8d81cde522f46e0554aa6283137a60c95fe7617c9880849ff947a5b819dc", checked := Tryz.checked }
namespace Rows
def none {H : Type} : Left H := { results := [], args := [] }

/- WHAT THE LISTED PACKAGE-LEVEL VARIABLES READ AS WHEN THE CALL BEGINS. Each datum BY PROGRAM (the guide's laid-datum.mjs) off the statement by which the dump's own 'gosem.cut.vars' lays the variable. In a bare row this is a premise. The card (YthjmdgejnakcmaaGreatDoorCards.lean) ties it to the program's text. -/
def laid_math_bits_deBruijn32tab {H : Type} : DataW H := .agg [.lit (.int .u8 0), .lit (.int .u8 1), .lit (.int .u8 28), .lit (.int .u8 2), .lit (.int .u8 29), .lit (.int .u8 14), .lit (.int .u8 24), .lit (.int .u8 3), .lit (.int .u8 30), .lit (.int .u8 22), .lit (.int .u8 20), .lit (.int .u8 15), .lit (.int .u8 25), .lit (.int .u8 17), .lit (.int .u8 4), .lit (.int .u8 8), .lit (.int .u8 31), .lit (.int .u8 27), .lit (.int .u8 13), .lit (.int .u8 23), .lit (.int .u8 21), .lit (.int .u8 19), .lit (.int .u8 16), .lit (.int .u8 7), .lit (.int .u8 26), .lit (.int .u8 12), .lit (.int .u8 18), .lit (.int .u8 6), .lit (.int .u8 11), .lit (.int .u8 5), .lit (.int .u8 10), .lit (.int .u8 9)]
def laid_math_bits_deBruijn64tab {H : Type} : DataW H := .agg [.lit (.int .u8 0), .lit (.int .u8 1), .lit (.int .u8 56), .lit (.int .u8 2), .lit (.int .u8 57), .lit (.int .u8 49), .lit (.int .u8 28), .lit (.int .u8 3), .lit (.int .u8 61), .lit (.int .u8 58), .lit (.int .u8 42), .lit (.int .u8 50), .lit (.int .u8 38), .lit (.int .u8 29), .lit (.int .u8 17), .lit (.int .u8 4), .lit (.int .u8 62), .lit (.int .u8 47), .lit (.int .u8 59), .lit (.int .u8 36), .lit (.int .u8 45), .lit (.int .u8 43), .lit (.int .u8 51), .lit (.int .u8 22), .lit (.int .u8 53), .lit (.int .u8 39), .lit (.int .u8 33), .lit (.int .u8 30), .lit (.int .u8 24), .lit (.int .u8 18), .lit (.int .u8 12), .lit (.int .u8 5), .lit (.int .u8 63), .lit (.int .u8 55), .lit (.int .u8 48), .lit (.int .u8 27), .lit (.int .u8 60), .lit (.int .u8 41), .lit (.int .u8 37), .lit (.int .u8 16), .lit (.int .u8 46), .lit (.int .u8 35), .lit (.int .u8 44), .lit (.int .u8 21), .lit (.int .u8 52), .lit (.int .u8 32), .lit (.int .u8 23), .lit (.int .u8 11), .lit (.int .u8 54), .lit (.int .u8 26), .lit (.int .u8 40), .lit (.int .u8 15), .lit (.int .u8 34), .lit (.int .u8 20), .lit (.int .u8 31), .lit (.int .u8 10), .lit (.int .u8 25), .lit (.int .u8 14), .lit (.int .u8 19), .lit (.int .u8 9), .lit (.int .u8 13), .lit (.int .u8 8), .lit (.int .u8 7), .lit (.int .u8 6)]
def laid_internal_strconv_uint64pow10 {H : Type} : DataW H := .agg [.lit (.int .u64 1), .lit (.int .u64 10), .lit (.int .u64 100), .lit (.int .u64 1000), .lit (.int .u64 10000), .lit (.int .u64 100000), .lit (.int .u64 1000000), .lit (.int .u64 10000000), .lit (.int .u64 100000000), .lit (.int .u64 1000000000), .lit (.int .u64 10000000000), .lit (.int .u64 100000000000), .lit (.int .u64 1000000000000), .lit (.int .u64 10000000000000), .lit (.int .u64 100000000000000), .lit (.int .u64 1000000000000000), .lit (.int .u64 10000000000000000), .lit (.int .u64 100000000000000000), .lit (.int .u64 1000000000000000000), .lit (.int .u64 10000000000000000000)]

/-- 'syllabarylaw13.LookupMatchesReference': WHATEVER THE INPUT: true; the input reads as it did. -/
def lookupMatchesReferenceSpec : ChangeSpec := { name := "lookupMatchesReference", fn := fun _ => fun
  | [d1, d2] => { results := [.lit (.bool true)], args := [d1, d2] }
  | _ => none }
def lookupMatchesReferenceRow : OpenClaim := { program := "ythjmdgejnakcmaagreatdoor", sum := "25ca8d81cde522f46e0554aa6283137a60c95fe7617c9880849ff947a5b819dc", func := "syllabary/syllabarylaw13.LookupMatchesReference", spec := "lookupMatchesReference", inPlace := ["internal/abi.NoEscape"], unfollowed := true, recurses := true, named := ["internal/strconv.uint64pow10", "math/bits.deBruijn32tab", "math/bits.deBruijn64tab"], plainKeys := false, apart := false, laid := [("math/bits.deBruijn32tab", laid_math_bits_deBruijn32tab), ("math/bits.deBruijn64tab", laid_math_bits_deBruijn64tab), ("internal/strconv.uint64pow10", laid_internal_strconv_uint64pow10)] }
def LookupMatchesReferenceSaid : Prop := lookupMatchesReferenceRow.holds Tryz.pinned (OpenSpec.ofChange lookupMatchesReferenceSpec)

/-- ITS FALSE NEIGHBOUR: 'it returns false'. Refute it at one input. -/
def lookupMatchesReferenceWrong : ChangeSpec := { name := "lookupMatchesReference", fn := fun _ => fun
  | [d1, d2] => { results := [.lit (.bool false)], args := [d1, d2] }
  | _ => none }
def LookupMatchesReferenceWrongFalsely : Prop := lookupMatchesReferenceRow.holds Tryz.pinned (OpenSpec.ofChange lookupMatchesReferenceWrong)

/-- 'syllabarylaw13.LookupChoices': WHATEVER THE INPUT: true; the input reads as it did. -/
def lookupChoicesSpec : ChangeSpec := { name := "lookupChoices", fn := fun _ => fun
  | [d1, d2, d3] => { results := [.lit (.bool true)], args := [d1, d2, d3] }
  | _ => none }
def lookupChoicesRow : OpenClaim := { program := "ythjmdgejnakcmaagreatdoor", sum := "25ca8d81cde522f46e0554aa6283137a60c95fe7617c9880849ff947a5b819dc", func := "syllabary/syllabarylaw13.LookupChoices", spec := "lookupChoices", inPlace := ["internal/abi.NoEscape"], unfollowed := true, recurses := true, named := ["internal/strconv.uint64pow10", "math/bits.deBruijn32tab", "math/bits.deBruijn64tab"], plainKeys := false, apart := false, laid := [("math/bits.deBruijn32tab", laid_math_bits_deBruijn32tab), ("math/bits.deBruijn64tab", laid_math_bits_deBruijn64tab), ("internal/strconv.uint64pow10", laid_internal_strconv_uint64pow10)] }
def LookupChoicesSaid : Prop := lookupChoicesRow.holds Tryz.pinned (OpenSpec.ofChange lookupChoicesSpec)

/-- ITS FALSE NEIGHBOUR: 'it returns false'. Refute it at one input. -/
def lookupChoicesWrong : ChangeSpec := { name := "lookupChoices", fn := fun _ => fun
  | [d1, d2, d3] => { results := [.lit (.bool false)], args := [d1, d2, d3] }
  | _ => none }
def LookupChoicesWrongFalsely : Prop := lookupChoicesRow.holds Tryz.pinned (OpenSpec.ofChange lookupChoicesWrong)

/-- 'syllabarylaw13.LookupShrinks': WHATEVER THE INPUT: true; the input reads as it did. -/
def lookupShrinksSpec : ChangeSpec := { name := "lookupShrinks", fn := fun _ => fun
  | [d1, d2] => { results := [.lit (.bool true)], args := [d1, d2] }
  | _ => none }
def lookupShrinksRow : OpenClaim := { program := "ythjmdgejnakcmaagreatdoor", sum := "25ca8d81cde522f46e0554aa6283137a60c95fe7617c9880849ff947a5b819dc", func := "syllabary/syllabarylaw13.LookupShrinks", spec := "lookupShrinks", inPlace := ["internal/abi.NoEscape"], unfollowed := true, recurses := true, named := ["internal/strconv.uint64pow10", "math/bits.deBruijn32tab", "math/bits.deBruijn64tab"], plainKeys := false, apart := false, laid := [("math/bits.deBruijn32tab", laid_math_bits_deBruijn32tab), ("math/bits.deBruijn64tab", laid_math_bits_deBruijn64tab), ("internal/strconv.uint64pow10", laid_internal_strconv_uint64pow10)] }
def LookupShrinksSaid : Prop := lookupShrinksRow.holds Tryz.pinned (OpenSpec.ofChange lookupShrinksSpec)

/-- ITS FALSE NEIGHBOUR: 'it returns false'. Refute it at one input. -/
def lookupShrinksWrong : ChangeSpec := { name := "lookupShrinks", fn := fun _ => fun
  | [d1, d2] => { results := [.lit (.bool false)], args := [d1, d2] }
  | _ => none }
def LookupShrinksWrongFalsely : Prop := lookupShrinksRow.holds Tryz.pinned (OpenSpec.ofChange lookupShrinksWrong)

/-- 'syllabarylaw13.LookupCosts': WHATEVER THE INPUT: true; the input reads as it did. -/
def lookupCostsSpec : ChangeSpec := { name := "lookupCosts", fn := fun _ => fun
  | [d1, d2, d3] => { results := [.lit (.bool true)], args := [d1, d2, d3] }
  | _ => none }
def lookupCostsRow : OpenClaim := { program := "ythjmdgejnakcmaagreatdoor", sum := "25ca8d81cde522f46e0554aa6283137a60c95fe7617c9880849ff947a5b819dc", func := "syllabary/syllabarylaw13.LookupCosts", spec := "lookupCosts", inPlace := ["internal/abi.NoEscape"], unfollowed := true, recurses := true, named := ["internal/strconv.uint64pow10", "math/bits.deBruijn32tab", "math/bits.deBruijn64tab"], plainKeys := false, apart := false, laid := [("math/bits.deBruijn32tab", laid_math_bits_deBruijn32tab), ("math/bits.deBruijn64tab", laid_math_bits_deBruijn64tab), ("internal/strconv.uint64pow10", laid_internal_strconv_uint64pow10)] }
def LookupCostsSaid : Prop := lookupCostsRow.holds Tryz.pinned (OpenSpec.ofChange lookupCostsSpec)

/-- ITS FALSE NEIGHBOUR: 'it returns false'. Refute it at one input. -/
def lookupCostsWrong : ChangeSpec := { name := "lookupCosts", fn := fun _ => fun
  | [d1, d2, d3] => { results := [.lit (.bool false)], args := [d1, d2, d3] }
  | _ => none }
def LookupCostsWrongFalsely : Prop := lookupCostsRow.holds Tryz.pinned (OpenSpec.ofChange lookupCostsWrong)

/-- 'syllabarylaw13.LookupBeginnings': WHATEVER THE INPUT: true; the input reads as it did. -/
def lookupBeginningsSpec : ChangeSpec := { name := "lookupBeginnings", fn := fun _ => fun
  | [d1, d2, d3] => { results := [.lit (.bool true)], args := [d1, d2, d3] }
  | _ => none }
def lookupBeginningsRow : OpenClaim := { program := "ythjmdgejnakcmaagreatdoor", sum := "25ca8d81cde522f46e0554aa6283137a60c95fe7617c9880849ff947a5b819dc", func := "syllabary/syllabarylaw13.LookupBeginnings", spec := "lookupBeginnings", inPlace := ["internal/abi.NoEscape"], unfollowed := true, recurses := true, named := ["internal/strconv.uint64pow10", "math/bits.deBruijn32tab", "math/bits.deBruijn64tab"], plainKeys := false, apart := false, laid := [("math/bits.deBruijn32tab", laid_math_bits_deBruijn32tab), ("math/bits.deBruijn64tab", laid_math_bits_deBruijn64tab), ("internal/strconv.uint64pow10", laid_internal_strconv_uint64pow10)] }
def LookupBeginningsSaid : Prop := lookupBeginningsRow.holds Tryz.pinned (OpenSpec.ofChange lookupBeginningsSpec)

/-- ITS FALSE NEIGHBOUR: 'it returns false'. Refute it at one input. -/
def lookupBeginningsWrong : ChangeSpec := { name := "lookupBeginnings", fn := fun _ => fun
  | [d1, d2, d3] => { results := [.lit (.bool false)], args := [d1, d2, d3] }
  | _ => none }
def LookupBeginningsWrongFalsely : Prop := lookupBeginningsRow.holds Tryz.pinned (OpenSpec.ofChange lookupBeginningsWrong)

/-- 'syllabarylaw13.LookupOutputs': WHATEVER THE INPUT: true; the input reads as it did. -/
def lookupOutputsSpec : ChangeSpec := { name := "lookupOutputs", fn := fun _ => fun
  | [d1, d2] => { results := [.lit (.bool true)], args := [d1, d2] }
  | _ => none }
def lookupOutputsRow : OpenClaim := { program := "ythjmdgejnakcmaagreatdoor", sum := "25ca8d81cde522f46e0554aa6283137a60c95fe7617c9880849ff947a5b819dc", func := "syllabary/syllabarylaw13.LookupOutputs", spec := "lookupOutputs", inPlace := ["internal/abi.NoEscape"], unfollowed := true, recurses := true, named := ["internal/strconv.uint64pow10", "math/bits.deBruijn32tab", "math/bits.deBruijn64tab"], plainKeys := false, apart := false, laid := [("math/bits.deBruijn32tab", laid_math_bits_deBruijn32tab), ("math/bits.deBruijn64tab", laid_math_bits_deBruijn64tab), ("internal/strconv.uint64pow10", laid_internal_strconv_uint64pow10)] }
def LookupOutputsSaid : Prop := lookupOutputsRow.holds Tryz.pinned (OpenSpec.ofChange lookupOutputsSpec)

/-- ITS FALSE NEIGHBOUR: 'it returns false'. Refute it at one input. -/
def lookupOutputsWrong : ChangeSpec := { name := "lookupOutputs", fn := fun _ => fun
  | [d1, d2] => { results := [.lit (.bool false)], args := [d1, d2] }
  | _ => none }
def LookupOutputsWrongFalsely : Prop := lookupOutputsRow.holds Tryz.pinned (OpenSpec.ofChange lookupOutputsWrong)

/- THE SECOND FORM. 'bulk': how many values and letters a reading holds, each counted each time it is reached (what is shared counts as often as it is met; a slice's spare places count too). A statement '..UptoSaid' is the law's where the arguments, and the package variables that the reading takes, are together of bulk at most 1048576: NARROWER than '..Said'. Prove '..Said' where nothing that the law and all that it calls make is longer than what came in: it says more and counts as full. Else prove '..UptoSaid'. A law counts once. -/
mutual
def uptoBulk {H : Type} : DataW H → Nat
  | .lit (.string bytes) => bytes.length + 1
  | .lit _ => 1
  | .nil => 1
  | .ptr d => uptoBulk d + 1
  | .slice elems spare => uptoBulkAll elems + uptoBulkAll spare + 1
  | .agg parts => uptoBulkAll parts + 1
  | .iface _ d => uptoBulk d + 1
  | .map entries => uptoBulkEntries entries + 1
  | .held _ => 1
def uptoBulkAll {H : Type} : List (DataW H) → Nat
  | [] => 0
  | d :: r => uptoBulk d + uptoBulkAll r
def uptoBulkEntries {H : Type} : List (Lit × DataW H) → Nat
  | [] => 0
  | x :: r => uptoBulkEntry x + uptoBulkEntries r
def uptoBulkEntry {H : Type} : Lit × DataW H → Nat
  | (.string bytes, d) => bytes.length + uptoBulk d + 1
  | (_, d) => uptoBulk d + 1
 end
def uptoSmall : (H : Type) → List (DataW H) → Bool := fun _ ds => decide (uptoBulkAll ds ≤ 1048576)
def OpenSpec.upto (s : _root_.Go.ChangeSpec) : _root_.Go.OpenSpec := { _root_.Go.OpenSpec.ofChange s with cond := some uptoSmall }

/-- 'syllabarylaw13.LookupMatchesReference', WHERE WHAT IT READS IS OF BULK AT MOST 1048576: true; the input reads as it did. -/
def lookupMatchesReferenceUptoRow : OpenClaim := { program := "ythjmdgejnakcmaagreatdoor", sum := "25ca8d81cde522f46e0554aa6283137a60c95fe7617c9880849ff947a5b819dc", func := "syllabary/syllabarylaw13.LookupMatchesReference", spec := "lookupMatchesReference", inPlace := ["internal/abi.NoEscape"], unfollowed := true, recurses := true, named := ["internal/strconv.uint64pow10", "math/bits.deBruijn32tab", "math/bits.deBruijn64tab"], plainKeys := false, apart := false, laid := [("math/bits.deBruijn32tab", laid_math_bits_deBruijn32tab), ("math/bits.deBruijn64tab", laid_math_bits_deBruijn64tab), ("internal/strconv.uint64pow10", laid_internal_strconv_uint64pow10)], narrowed := true }
def LookupMatchesReferenceUptoSaid : Prop := lookupMatchesReferenceUptoRow.holds Tryz.pinned (OpenSpec.upto lookupMatchesReferenceSpec)

/-- 'syllabarylaw13.LookupChoices', WHERE WHAT IT READS IS OF BULK AT MOST 1048576: true; the input reads as it did. -/
def lookupChoicesUptoRow : OpenClaim := { program := "ythjmdgejnakcmaagreatdoor", sum := "25ca8d81cde522f46e0554aa6283137a60c95fe7617c9880849ff947a5b819dc", func := "syllabary/syllabarylaw13.LookupChoices", spec := "lookupChoices", inPlace := ["internal/abi.NoEscape"], unfollowed := true, recurses := true, named := ["internal/strconv.uint64pow10", "math/bits.deBruijn32tab", "math/bits.deBruijn64tab"], plainKeys := false, apart := false, laid := [("math/bits.deBruijn32tab", laid_math_bits_deBruijn32tab), ("math/bits.deBruijn64tab", laid_math_bits_deBruijn64tab), ("internal/strconv.uint64pow10", laid_internal_strconv_uint64pow10)], narrowed := true }
def LookupChoicesUptoSaid : Prop := lookupChoicesUptoRow.holds Tryz.pinned (OpenSpec.upto lookupChoicesSpec)

/-- 'syllabarylaw13.LookupShrinks', WHERE WHAT IT READS IS OF BULK AT MOST 1048576: true; the input reads as it did. -/
def lookupShrinksUptoRow : OpenClaim := { program := "ythjmdgejnakcmaagreatdoor", sum := "25ca8d81cde522f46e0554aa6283137a60c95fe7617c9880849ff947a5b819dc", func := "syllabary/syllabarylaw13.LookupShrinks", spec := "lookupShrinks", inPlace := ["internal/abi.NoEscape"], unfollowed := true, recurses := true, named := ["internal/strconv.uint64pow10", "math/bits.deBruijn32tab", "math/bits.deBruijn64tab"], plainKeys := false, apart := false, laid := [("math/bits.deBruijn32tab", laid_math_bits_deBruijn32tab), ("math/bits.deBruijn64tab", laid_math_bits_deBruijn64tab), ("internal/strconv.uint64pow10", laid_internal_strconv_uint64pow10)], narrowed := true }
def LookupShrinksUptoSaid : Prop := lookupShrinksUptoRow.holds Tryz.pinned (OpenSpec.upto lookupShrinksSpec)

/-- 'syllabarylaw13.LookupCosts', WHERE WHAT IT READS IS OF BULK AT MOST 1048576: true; the input reads as it did. -/
def lookupCostsUptoRow : OpenClaim := { program := "ythjmdgejnakcmaagreatdoor", sum := "25ca8d81cde522f46e0554aa6283137a60c95fe7617c9880849ff947a5b819dc", func := "syllabary/syllabarylaw13.LookupCosts", spec := "lookupCosts", inPlace := ["internal/abi.NoEscape"], unfollowed := true, recurses := true, named := ["internal/strconv.uint64pow10", "math/bits.deBruijn32tab", "math/bits.deBruijn64tab"], plainKeys := false, apart := false, laid := [("math/bits.deBruijn32tab", laid_math_bits_deBruijn32tab), ("math/bits.deBruijn64tab", laid_math_bits_deBruijn64tab), ("internal/strconv.uint64pow10", laid_internal_strconv_uint64pow10)], narrowed := true }
def LookupCostsUptoSaid : Prop := lookupCostsUptoRow.holds Tryz.pinned (OpenSpec.upto lookupCostsSpec)

/-- 'syllabarylaw13.LookupBeginnings', WHERE WHAT IT READS IS OF BULK AT MOST 1048576: true; the input reads as it did. -/
def lookupBeginningsUptoRow : OpenClaim := { program := "ythjmdgejnakcmaagreatdoor", sum := "25ca8d81cde522f46e0554aa6283137a60c95fe7617c9880849ff947a5b819dc", func := "syllabary/syllabarylaw13.LookupBeginnings", spec := "lookupBeginnings", inPlace := ["internal/abi.NoEscape"], unfollowed := true, recurses := true, named := ["internal/strconv.uint64pow10", "math/bits.deBruijn32tab", "math/bits.deBruijn64tab"], plainKeys := false, apart := false, laid := [("math/bits.deBruijn32tab", laid_math_bits_deBruijn32tab), ("math/bits.deBruijn64tab", laid_math_bits_deBruijn64tab), ("internal/strconv.uint64pow10", laid_internal_strconv_uint64pow10)], narrowed := true }
def LookupBeginningsUptoSaid : Prop := lookupBeginningsUptoRow.holds Tryz.pinned (OpenSpec.upto lookupBeginningsSpec)

/-- 'syllabarylaw13.LookupOutputs', WHERE WHAT IT READS IS OF BULK AT MOST 1048576: true; the input reads as it did. -/
def lookupOutputsUptoRow : OpenClaim := { program := "ythjmdgejnakcmaagreatdoor", sum := "25ca8d81cde522f46e0554aa6283137a60c95fe7617c9880849ff947a5b819dc", func := "syllabary/syllabarylaw13.LookupOutputs", spec := "lookupOutputs", inPlace := ["internal/abi.NoEscape"], unfollowed := true, recurses := true, named := ["internal/strconv.uint64pow10", "math/bits.deBruijn32tab", "math/bits.deBruijn64tab"], plainKeys := false, apart := false, laid := [("math/bits.deBruijn32tab", laid_math_bits_deBruijn32tab), ("math/bits.deBruijn64tab", laid_math_bits_deBruijn64tab), ("internal/strconv.uint64pow10", laid_internal_strconv_uint64pow10)], narrowed := true }
def LookupOutputsUptoSaid : Prop := lookupOutputsUptoRow.holds Tryz.pinned (OpenSpec.upto lookupOutputsSpec)

end Rows
end Go.Proofs.YthjmdgejnakcmaaGreatDoor
