/-
  NARROWER THAN 'FOR EVERY INPUT', by the rows' own cells (each row's printed sentence says how): PackMatchesReference: laid · PackReads: laid · PackDamage: laid · PackDiffers: laid · PackSizes: laid · PackRejects: laid · PackWords: laid.
  DERIVED. THE GIVEN ROWS OF THIS SEAT. 7 by the template 'for every input the law returns true; each argument reads behind the call as it read before'; 0 by the template 'total and deterministic' (their statements: YtocdljmdmiphnaaDoorTotals.lean).
  GIVEN WITH THE SEED: the statements are not yours to turn. If you find one false, say at which input.
  Laid BY PROGRAM, IN A SANDBOX (cutbox-rows.mjs): the forced cells as the released guide's own fill.sh prints them over the translation 955909d8c27a8e2d… (all of the seat's roots in one cut). By AI agents, Wed Nov 11 2026. No macro, syntax, notation, axiom, sorry.
-/
import Derived.Test.YtocdljmdmiphnaaDoorChecked
import GoSem.Claim
import GoSem.ClaimJoined
import GoSem.ClaimMapViews
import Derived.JoinedTies
import Derived.KernelRfl
namespace Go.Proofs.YtocdljmdmiphnaaDoor
/- THE CELL 'sum', in the pinned program and in every row, IS THE sha256 OF THE DUMP (.gsa) THAT YtocdljmdmiphnaaDoorProg.lean LOADS. Nothing in Lean hashes anything: it is a label: what it is worth is what the hold of that sum in a sandbox is worth. -/
noncomputable def Tryd.pinned : Pinned := { name := "ytocdljmdmiphnaadoor", sum := "955909d8c27a8e2d1866ae04c25169e3eca0c95ee9a999384b0d5f1c5ce18f4e", checked := Tryd.checked }
namespace Rows
def none {H : Type} : Left H := { results := [], args := [] }

/- WHAT THE LISTED PACKAGE-LEVEL VARIABLES READ AS WHEN THE CALL BEGINS. Each datum BY PROGRAM (the guide's laid-datum.mjs) off the statement by which the dump's own 'gosem.cut.vars' lays the variable. In a bare row this is a premise. The card (YtocdljmdmiphnaaDoorCards.lean) ties it to the program's text. -/
def laid_math_bits_deBruijn32tab {H : Type} : DataW H := .agg [.lit (.int .u8 0), .lit (.int .u8 1), .lit (.int .u8 28), .lit (.int .u8 2), .lit (.int .u8 29), .lit (.int .u8 14), .lit (.int .u8 24), .lit (.int .u8 3), .lit (.int .u8 30), .lit (.int .u8 22), .lit (.int .u8 20), .lit (.int .u8 15), .lit (.int .u8 25), .lit (.int .u8 17), .lit (.int .u8 4), .lit (.int .u8 8), .lit (.int .u8 31), .lit (.int .u8 27), .lit (.int .u8 13), .lit (.int .u8 23), .lit (.int .u8 21), .lit (.int .u8 19), .lit (.int .u8 16), .lit (.int .u8 7), .lit (.int .u8 26), .lit (.int .u8 12), .lit (.int .u8 18), .lit (.int .u8 6), .lit (.int .u8 11), .lit (.int .u8 5), .lit (.int .u8 10), .lit (.int .u8 9)]
def laid_math_bits_deBruijn64tab {H : Type} : DataW H := .agg [.lit (.int .u8 0), .lit (.int .u8 1), .lit (.int .u8 56), .lit (.int .u8 2), .lit (.int .u8 57), .lit (.int .u8 49), .lit (.int .u8 28), .lit (.int .u8 3), .lit (.int .u8 61), .lit (.int .u8 58), .lit (.int .u8 42), .lit (.int .u8 50), .lit (.int .u8 38), .lit (.int .u8 29), .lit (.int .u8 17), .lit (.int .u8 4), .lit (.int .u8 62), .lit (.int .u8 47), .lit (.int .u8 59), .lit (.int .u8 36), .lit (.int .u8 45), .lit (.int .u8 43), .lit (.int .u8 51), .lit (.int .u8 22), .lit (.int .u8 53), .lit (.int .u8 39), .lit (.int .u8 33), .lit (.int .u8 30), .lit (.int .u8 24), .lit (.int .u8 18), .lit (.int .u8 12), .lit (.int .u8 5), .lit (.int .u8 63), .lit (.int .u8 55), .lit (.int .u8 48), .lit (.int .u8 27), .lit (.int .u8 60), .lit (.int .u8 41), .lit (.int .u8 37), .lit (.int .u8 16), .lit (.int .u8 46), .lit (.int .u8 35), .lit (.int .u8 44), .lit (.int .u8 21), .lit (.int .u8 52), .lit (.int .u8 32), .lit (.int .u8 23), .lit (.int .u8 11), .lit (.int .u8 54), .lit (.int .u8 26), .lit (.int .u8 40), .lit (.int .u8 15), .lit (.int .u8 34), .lit (.int .u8 20), .lit (.int .u8 31), .lit (.int .u8 10), .lit (.int .u8 25), .lit (.int .u8 14), .lit (.int .u8 19), .lit (.int .u8 9), .lit (.int .u8 13), .lit (.int .u8 8), .lit (.int .u8 7), .lit (.int .u8 6)]
def laid_internal_strconv_uint64pow10 {H : Type} : DataW H := .agg [.lit (.int .u64 1), .lit (.int .u64 10), .lit (.int .u64 100), .lit (.int .u64 1000), .lit (.int .u64 10000), .lit (.int .u64 100000), .lit (.int .u64 1000000), .lit (.int .u64 10000000), .lit (.int .u64 100000000), .lit (.int .u64 1000000000), .lit (.int .u64 10000000000), .lit (.int .u64 100000000000), .lit (.int .u64 1000000000000), .lit (.int .u64 10000000000000), .lit (.int .u64 100000000000000), .lit (.int .u64 1000000000000000), .lit (.int .u64 10000000000000000), .lit (.int .u64 100000000000000000), .lit (.int .u64 1000000000000000000), .lit (.int .u64 10000000000000000000)]

/-- 'syllabarylaw10.PackMatchesReference': WHATEVER THE INPUT: true; the input reads as it did. -/
def packMatchesReferenceSpec : ChangeSpec := { name := "packMatchesReference", fn := fun _ => fun
  | [d1, d2, d3] => { results := [.lit (.bool true)], args := [d1, d2, d3] }
  | _ => none }
def packMatchesReferenceRow : OpenClaim := { program := "ytocdljmdmiphnaadoor", sum := "955909d8c27a8e2d1866ae04c25169e3eca0c95ee9a999384b0d5f1c5ce18f4e", func := "syllabary/syllabarylaw10.PackMatchesReference", spec := "packMatchesReference", inPlace := ["internal/abi.NoEscape"], unfollowed := true, recurses := true, named := ["internal/strconv.uint64pow10", "math/bits.deBruijn32tab", "math/bits.deBruijn64tab"], apart := false, laid := [("math/bits.deBruijn32tab", laid_math_bits_deBruijn32tab), ("math/bits.deBruijn64tab", laid_math_bits_deBruijn64tab), ("internal/strconv.uint64pow10", laid_internal_strconv_uint64pow10)] }
def PackMatchesReferenceSaid : Prop := packMatchesReferenceRow.holds Tryd.pinned (OpenSpec.ofChange packMatchesReferenceSpec)

/-- ITS FALSE NEIGHBOUR: 'it returns false'. Refute it at one input. -/
def packMatchesReferenceWrong : ChangeSpec := { name := "packMatchesReference", fn := fun _ => fun
  | [d1, d2, d3] => { results := [.lit (.bool false)], args := [d1, d2, d3] }
  | _ => none }
def PackMatchesReferenceWrongFalsely : Prop := packMatchesReferenceRow.holds Tryd.pinned (OpenSpec.ofChange packMatchesReferenceWrong)

/-- 'syllabarylaw10.PackReads': WHATEVER THE INPUT: true; the input reads as it did. -/
def packReadsSpec : ChangeSpec := { name := "packReads", fn := fun _ => fun
  | [d1, d2] => { results := [.lit (.bool true)], args := [d1, d2] }
  | _ => none }
def packReadsRow : OpenClaim := { program := "ytocdljmdmiphnaadoor", sum := "955909d8c27a8e2d1866ae04c25169e3eca0c95ee9a999384b0d5f1c5ce18f4e", func := "syllabary/syllabarylaw10.PackReads", spec := "packReads", inPlace := ["internal/abi.NoEscape"], unfollowed := true, recurses := true, named := ["internal/strconv.uint64pow10", "math/bits.deBruijn32tab", "math/bits.deBruijn64tab"], apart := false, laid := [("math/bits.deBruijn32tab", laid_math_bits_deBruijn32tab), ("math/bits.deBruijn64tab", laid_math_bits_deBruijn64tab), ("internal/strconv.uint64pow10", laid_internal_strconv_uint64pow10)] }
def PackReadsSaid : Prop := packReadsRow.holds Tryd.pinned (OpenSpec.ofChange packReadsSpec)

/-- ITS FALSE NEIGHBOUR: 'it returns false'. Refute it at one input. -/
def packReadsWrong : ChangeSpec := { name := "packReads", fn := fun _ => fun
  | [d1, d2] => { results := [.lit (.bool false)], args := [d1, d2] }
  | _ => none }
def PackReadsWrongFalsely : Prop := packReadsRow.holds Tryd.pinned (OpenSpec.ofChange packReadsWrong)

/-- 'syllabarylaw10.PackDamage': WHATEVER THE INPUT: true; the input reads as it did. -/
def packDamageSpec : ChangeSpec := { name := "packDamage", fn := fun _ => fun
  | [d1, d2, d3] => { results := [.lit (.bool true)], args := [d1, d2, d3] }
  | _ => none }
def packDamageRow : OpenClaim := { program := "ytocdljmdmiphnaadoor", sum := "955909d8c27a8e2d1866ae04c25169e3eca0c95ee9a999384b0d5f1c5ce18f4e", func := "syllabary/syllabarylaw10.PackDamage", spec := "packDamage", inPlace := ["internal/abi.NoEscape"], unfollowed := true, recurses := true, named := ["internal/strconv.uint64pow10", "math/bits.deBruijn32tab", "math/bits.deBruijn64tab"], apart := false, laid := [("math/bits.deBruijn32tab", laid_math_bits_deBruijn32tab), ("math/bits.deBruijn64tab", laid_math_bits_deBruijn64tab), ("internal/strconv.uint64pow10", laid_internal_strconv_uint64pow10)] }
def PackDamageSaid : Prop := packDamageRow.holds Tryd.pinned (OpenSpec.ofChange packDamageSpec)

/-- ITS FALSE NEIGHBOUR: 'it returns false'. Refute it at one input. -/
def packDamageWrong : ChangeSpec := { name := "packDamage", fn := fun _ => fun
  | [d1, d2, d3] => { results := [.lit (.bool false)], args := [d1, d2, d3] }
  | _ => none }
def PackDamageWrongFalsely : Prop := packDamageRow.holds Tryd.pinned (OpenSpec.ofChange packDamageWrong)

/-- 'syllabarylaw10.PackDiffers': WHATEVER THE INPUT: true; the input reads as it did. -/
def packDiffersSpec : ChangeSpec := { name := "packDiffers", fn := fun _ => fun
  | [d1, d2] => { results := [.lit (.bool true)], args := [d1, d2] }
  | _ => none }
def packDiffersRow : OpenClaim := { program := "ytocdljmdmiphnaadoor", sum := "955909d8c27a8e2d1866ae04c25169e3eca0c95ee9a999384b0d5f1c5ce18f4e", func := "syllabary/syllabarylaw10.PackDiffers", spec := "packDiffers", inPlace := ["internal/abi.NoEscape"], unfollowed := true, recurses := true, named := ["internal/strconv.uint64pow10", "math/bits.deBruijn32tab", "math/bits.deBruijn64tab"], apart := false, laid := [("math/bits.deBruijn32tab", laid_math_bits_deBruijn32tab), ("math/bits.deBruijn64tab", laid_math_bits_deBruijn64tab), ("internal/strconv.uint64pow10", laid_internal_strconv_uint64pow10)] }
def PackDiffersSaid : Prop := packDiffersRow.holds Tryd.pinned (OpenSpec.ofChange packDiffersSpec)

/-- ITS FALSE NEIGHBOUR: 'it returns false'. Refute it at one input. -/
def packDiffersWrong : ChangeSpec := { name := "packDiffers", fn := fun _ => fun
  | [d1, d2] => { results := [.lit (.bool false)], args := [d1, d2] }
  | _ => none }
def PackDiffersWrongFalsely : Prop := packDiffersRow.holds Tryd.pinned (OpenSpec.ofChange packDiffersWrong)

/-- 'syllabarylaw10.PackSizes': WHATEVER THE INPUT: true; the input reads as it did. -/
def packSizesSpec : ChangeSpec := { name := "packSizes", fn := fun _ => fun
  | [d1, d2] => { results := [.lit (.bool true)], args := [d1, d2] }
  | _ => none }
def packSizesRow : OpenClaim := { program := "ytocdljmdmiphnaadoor", sum := "955909d8c27a8e2d1866ae04c25169e3eca0c95ee9a999384b0d5f1c5ce18f4e", func := "syllabary/syllabarylaw10.PackSizes", spec := "packSizes", inPlace := ["internal/abi.NoEscape"], unfollowed := true, recurses := true, named := ["internal/strconv.uint64pow10", "math/bits.deBruijn32tab", "math/bits.deBruijn64tab"], apart := false, laid := [("math/bits.deBruijn32tab", laid_math_bits_deBruijn32tab), ("math/bits.deBruijn64tab", laid_math_bits_deBruijn64tab), ("internal/strconv.uint64pow10", laid_internal_strconv_uint64pow10)] }
def PackSizesSaid : Prop := packSizesRow.holds Tryd.pinned (OpenSpec.ofChange packSizesSpec)

/-- ITS FALSE NEIGHBOUR: 'it returns false'. Refute it at one input. -/
def packSizesWrong : ChangeSpec := { name := "packSizes", fn := fun _ => fun
  | [d1, d2] => { results := [.lit (.bool false)], args := [d1, d2] }
  | _ => none }
def PackSizesWrongFalsely : Prop := packSizesRow.holds Tryd.pinned (OpenSpec.ofChange packSizesWrong)

/-- 'syllabarylaw10.PackRejects': WHATEVER THE INPUT: true; the input reads as it did. -/
def packRejectsSpec : ChangeSpec := { name := "packRejects", fn := fun _ => fun
  | [d1, d2, d3] => { results := [.lit (.bool true)], args := [d1, d2, d3] }
  | _ => none }
def packRejectsRow : OpenClaim := { program := "ytocdljmdmiphnaadoor", sum := "955909d8c27a8e2d1866ae04c25169e3eca0c95ee9a999384b0d5f1c5ce18f4e", func := "syllabary/syllabarylaw10.PackRejects", spec := "packRejects", inPlace := ["internal/abi.NoEscape"], unfollowed := true, recurses := true, named := ["internal/strconv.uint64pow10", "math/bits.deBruijn32tab", "math/bits.deBruijn64tab"], apart := false, laid := [("math/bits.deBruijn32tab", laid_math_bits_deBruijn32tab), ("math/bits.deBruijn64tab", laid_math_bits_deBruijn64tab), ("internal/strconv.uint64pow10", laid_internal_strconv_uint64pow10)] }
def PackRejectsSaid : Prop := packRejectsRow.holds Tryd.pinned (OpenSpec.ofChange packRejectsSpec)

/-- ITS FALSE NEIGHBOUR: 'it returns false'. Refute it at one input. -/
def packRejectsWrong : ChangeSpec := { name := "packRejects", fn := fun _ => fun
  | [d1, d2, d3] => { results := [.lit (.bool false)], args := [d1, d2, d3] }
  | _ => none }
def PackRejectsWrongFalsely : Prop := packRejectsRow.holds Tryd.pinned (OpenSpec.ofChange packRejectsWrong)

/-- 'syllabarylaw10.PackWords': WHATEVER THE INPUT: true; the input reads as it did. -/
def packWordsSpec : ChangeSpec := { name := "packWords", fn := fun _ => fun
  | [d1, d2, d3] => { results := [.lit (.bool true)], args := [d1, d2, d3] }
  | _ => none }
def packWordsRow : OpenClaim := { program := "ytocdljmdmiphnaadoor", sum := "955909d8c27a8e2d1866ae04c25169e3eca0c95ee9a999384b0d5f1c5ce18f4e", func := "syllabary/syllabarylaw10.PackWords", spec := "packWords", inPlace := ["internal/abi.NoEscape"], unfollowed := true, recurses := true, named := ["internal/strconv.uint64pow10", "math/bits.deBruijn32tab", "math/bits.deBruijn64tab"], apart := false, laid := [("math/bits.deBruijn32tab", laid_math_bits_deBruijn32tab), ("math/bits.deBruijn64tab", laid_math_bits_deBruijn64tab), ("internal/strconv.uint64pow10", laid_internal_strconv_uint64pow10)] }
def PackWordsSaid : Prop := packWordsRow.holds Tryd.pinned (OpenSpec.ofChange packWordsSpec)

/-- ITS FALSE NEIGHBOUR: 'it returns false'. Refute it at one input. -/
def packWordsWrong : ChangeSpec := { name := "packWords", fn := fun _ => fun
  | [d1, d2, d3] => { results := [.lit (.bool false)], args := [d1, d2, d3] }
  | _ => none }
def PackWordsWrongFalsely : Prop := packWordsRow.holds Tryd.pinned (OpenSpec.ofChange packWordsWrong)

/- THE SECOND FORM. 'bulk': how many values and letters a reading holds, each counted each time it is reached (what is shared counts as often as it is met; a slice's spare places count too). A statement '..UptoSaid' is the law's where the arguments, and the package variables that the reading takes, are together of bulk at most 1048576: NARROWER than '..Said'. Prove '..Said' where nothing that the law and all that it calls make is longer than what came in: it says more and counts as full. Else prove '..UptoSaid'. A law counts once. -/
mutual
def uptoBulk {H : Type} : DataW H → Nat
  | .lit (.string bytes) => bytes.length + 1
  | .lit _ => 1
  | .nil => 1
  | .ptr d => uptoBulk d + 1
  | .slice elems spare => uptoBulkAll elems + uptoBulkAll spare + 1
  | .agg parts => uptoBulkAll parts + 1
  | .iface _ d => uptoBulk d + 1
  | .map entries => uptoBulkEntries entries + 1
  | .held _ => 1
def uptoBulkAll {H : Type} : List (DataW H) → Nat
  | [] => 0
  | d :: r => uptoBulk d + uptoBulkAll r
def uptoBulkEntries {H : Type} : List (Lit × DataW H) → Nat
  | [] => 0
  | x :: r => uptoBulkEntry x + uptoBulkEntries r
def uptoBulkEntry {H : Type} : Lit × DataW H → Nat
  | (.string bytes, d) => bytes.length + uptoBulk d + 1
  | (_, d) => uptoBulk d + 1
 end
def uptoSmall : (H : Type) → List (DataW H) → Bool := fun _ ds => decide (uptoBulkAll ds ≤ 1048576)
def OpenSpec.upto (s : _root_.Go.ChangeSpec) : _root_.Go.OpenSpec := { _root_.Go.OpenSpec.ofChange s with cond := some uptoSmall }

/-- 'syllabarylaw10.PackMatchesReference', WHERE WHAT IT READS IS OF BULK AT MOST 1048576: true; the input reads as it did. -/
def packMatchesReferenceUptoRow : OpenClaim := { program := "ytocdljmdmiphnaadoor", sum := "955909d8c27a8e2d1866ae04c25169e3eca0c95ee9a999384b0d5f1c5ce18f4e", func := "syllabary/syllabarylaw10.PackMatchesReference", spec := "packMatchesReference", inPlace := ["internal/abi.NoEscape"], unfollowed := true, recurses := true, named := ["internal/strconv.uint64pow10", "math/bits.deBruijn32tab", "math/bits.deBruijn64tab"], apart := false, laid := [("math/bits.deBruijn32tab", laid_math_bits_deBruijn32tab), ("math/bits.deBruijn64tab", laid_math_bits_deBruijn64tab), ("internal/strconv.uint64pow10", laid_internal_strconv_uint64pow10)], narrowed := true }
def PackMatchesReferenceUptoSaid : Prop := packMatchesReferenceUptoRow.holds Tryd.pinned (OpenSpec.upto packMatchesReferenceSpec)

/-- 'syllabarylaw10.PackReads', WHERE WHAT IT READS IS OF BULK AT MOST 1048576: true; the input reads as it did. -/
def packReadsUptoRow : OpenClaim := { program := "ytocdljmdmiphnaadoor", sum := "955909d8c27a8e2d1866ae04c25169e3eca0c95ee9a999384b0d5f1c5ce18f4e", func := "syllabary/syllabarylaw10.PackReads", spec := "packReads", inPlace := ["internal/abi.NoEscape"], unfollowed := true, recurses := true, named := ["internal/strconv.uint64pow10", "math/bits.deBruijn32tab", "math/bits.deBruijn64tab"], apart := false, laid := [("math/bits.deBruijn32tab", laid_math_bits_deBruijn32tab), ("math/bits.deBruijn64tab", laid_math_bits_deBruijn64tab), ("internal/strconv.uint64pow10", laid_internal_strconv_uint64pow10)], narrowed := true }
def PackReadsUptoSaid : Prop := packReadsUptoRow.holds Tryd.pinned (OpenSpec.upto packReadsSpec)

/-- 'syllabarylaw10.PackDamage', WHERE WHAT IT READS IS OF BULK AT MOST 1048576: true; the input reads as it did. -/
def packDamageUptoRow : OpenClaim := { program := "ytocdljmdmiphnaadoor", sum := "955909d8c27a8e2d1866ae04c25169e3eca0c95ee9a999384b0d5f1c5ce18f4e", func := "syllabary/syllabarylaw10.PackDamage", spec := "packDamage", inPlace := ["internal/abi.NoEscape"], unfollowed := true, recurses := true, named := ["internal/strconv.uint64pow10", "math/bits.deBruijn32tab", "math/bits.deBruijn64tab"], apart := false, laid := [("math/bits.deBruijn32tab", laid_math_bits_deBruijn32tab), ("math/bits.deBruijn64tab", laid_math_bits_deBruijn64tab), ("internal/strconv.uint64pow10", laid_internal_strconv_uint64pow10)], narrowed := true }
def PackDamageUptoSaid : Prop := packDamageUptoRow.holds Tryd.pinned (OpenSpec.upto packDamageSpec)

/-- 'syllabarylaw10.PackDiffers', WHERE WHAT IT READS IS OF BULK AT MOST 1048576: true; the input reads as it did. -/
def packDiffersUptoRow : OpenClaim := { program := "ytocdljmdmiphnaadoor", sum := "955909d8c27a8e2d1866ae04c25169e3eca0c95ee9a999384b0d5f1c5ce18f4e", func := "syllabary/syllabarylaw10.PackDiffers", spec := "packDiffers", inPlace := ["internal/abi.NoEscape"], unfollowed := true, recurses := true, named := ["internal/strconv.uint64pow10", "math/bits.deBruijn32tab", "math/bits.deBruijn64tab"], apart := false, laid := [("math/bits.deBruijn32tab", laid_math_bits_deBruijn32tab), ("math/bits.deBruijn64tab", laid_math_bits_deBruijn64tab), ("internal/strconv.uint64pow10", laid_internal_strconv_uint64pow10)], narrowed := true }
def PackDiffersUptoSaid : Prop := packDiffersUptoRow.holds Tryd.pinned (OpenSpec.upto packDiffersSpec)

/-- 'syllabarylaw10.PackSizes', WHERE WHAT IT READS IS OF BULK AT MOST 1048576: true; the input reads as it did. -/
def packSizesUptoRow : OpenClaim := { program := "ytocdljmdmiphnaadoor", sum := "955909d8c27a8e2d1866ae04c25169e3eca0c95ee9a999384b0d5f1c5ce18f4e", func := "syllabary/syllabarylaw10.PackSizes", spec := "packSizes", inPlace := ["internal/abi.NoEscape"], unfollowed := true, recurses := true, named := ["internal/strconv.uint64pow10", "math/bits.deBruijn32tab", "math/bits.deBruijn64tab"], apart := false, laid := [("math/bits.deBruijn32tab", laid_math_bits_deBruijn32tab), ("math/bits.deBruijn64tab", laid_math_bits_deBruijn64tab), ("internal/strconv.uint64pow10", laid_internal_strconv_uint64pow10)], narrowed := true }
def PackSizesUptoSaid : Prop := packSizesUptoRow.holds Tryd.pinned (OpenSpec.upto packSizesSpec)

/-- 'syllabarylaw10.PackRejects', WHERE WHAT IT READS IS OF BULK AT MOST 1048576: true; the input reads as it did. -/
def packRejectsUptoRow : OpenClaim := { program := "ytocdljmdmiphnaadoor", sum := "955909d8c27a8e2d1866ae04c25169e3eca0c95ee9a999384b0d5f1c5ce18f4e", func := "syllabary/syllabarylaw10.PackRejects", spec := "packRejects", inPlace := ["internal/abi.NoEscape"], unfollowed := true, recurses := true, named := ["internal/strconv.uint64pow10", "math/bits.deBruijn32tab", "math/bits.deBruijn64tab"], apart := false, laid := [("math/bits.deBruijn32tab", laid_math_bits_deBruijn32tab), ("math/bits.deBruijn64tab", laid_math_bits_deBruijn64tab), ("internal/strconv.uint64pow10", laid_internal_strconv_uint64pow10)], narrowed := true }
def PackRejectsUptoSaid : Prop := packRejectsUptoRow.holds Tryd.pinned (OpenSpec.upto packRejectsSpec)

/-- 'syllabarylaw10.PackWords', WHERE WHAT IT READS IS OF BULK AT MOST 1048576: true; the input reads as it did. -/
def packWordsUptoRow : OpenClaim := { program := "ytocdljmdmiphnaadoor", sum := "955909d8c27a8e2d1866ae04c25169e3eca0c95ee9a999384b0d5f1c5ce18f4e", func := "syllabary/syllabarylaw10.PackWords", spec := "packWords", inPlace := ["internal/abi.NoEscape"], unfollowed := true, recurses := true, named := ["internal/strconv.uint64pow10", "math/bits.deBruijn32tab", "math/bits.deBruijn64tab"], apart := false, laid := [("math/bits.deBruijn32tab", laid_math_bits_deBruijn32tab), ("math/bits.deBruijn64tab", laid_math_bits_deBruijn64tab), ("internal/strconv.uint64pow10", laid_internal_strconv_uint64pow10)], narrowed := true }
def PackWordsUptoSaid : Prop := packWordsUptoRow.holds Tryd.pinned (OpenSpec.upto packWordsSpec)

end Rows
end Go.Proofs.YtocdljmdmiphnaaDoor
