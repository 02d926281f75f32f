/-
  NARROWER THAN 'FOR EVERY INPUT', by the rows' own cells (each row's printed sentence says how): DawgMatchesReference: laid · DawgWords: laid · DawgMinimal: laid · DawgPlaces: laid · DawgBeginnings: laid · DawgRefuses: laid · DawgSpoilt: laid · DawgChanges: laid.
  DERIVED. THE GIVEN ROWS OF THIS SEAT. 8 by the template 'for every input the law returns true; each argument reads behind the call as it read before'; 0 by the template 'total and deterministic' (their statements: YtemdlfbcnnoglaaDoorTotals.lean).
  GIVEN WITH THE SEED: the statements are not yours to turn. If you find one false, say at which input.
  Laid BY PROGRAM, IN A SANDBOX (cutbox-rows.mjs): the forced cells as the released guide's own fill.sh prints them over the translation b32f8e7ede432126… (all of the seat's roots in one cut). By AI agents, Wed Nov 11 2026. No macro, syntax, notation, axiom, sorry.
-/
import Derived.Test.YtemdlfbcnnoglaaDoorChecked
import GoSem.Claim
import GoSem.ClaimJoined
import GoSem.ClaimMapViews
import Derived.JoinedTies
import Derived.KernelRfl
namespace Go.Proofs.YtemdlfbcnnoglaaDoor
/- THE CELL 'sum', in the pinned program and in every row, IS THE sha256 OF THE DUMP (.gsa) THAT YtemdlfbcnnoglaaDoorProg.lean LOADS. Nothing in Lean hashes anything: it is a label: what it is worth is what the hold of that sum in a sandbox is worth. -/
noncomputable def Tryd.pinned : Pinned := { name := "ytemdlfbcnnoglaadoor", sum := "b32f8e7ede432126d7c8a1e6673ca988ee3a99570b4220cb6740e2f88778beef", checked := Tryd.checked }
namespace Rows
def none {H : Type} : Left H := { results := [], args := [] }

/- WHAT THE LISTED PACKAGE-LEVEL VARIABLES READ AS WHEN THE CALL BEGINS. Each datum BY PROGRAM (the guide's laid-datum.mjs) off the statement by which the dump's own 'gosem.cut.vars' lays the variable. In a bare row this is a premise. The card (YtemdlfbcnnoglaaDoorCards.lean) ties it to the program's text. -/
def laid_math_bits_deBruijn32tab {H : Type} : DataW H := .agg [.lit (.int .u8 0), .lit (.int .u8 1), .lit (.int .u8 28), .lit (.int .u8 2), .lit (.int .u8 29), .lit (.int .u8 14), .lit (.int .u8 24), .lit (.int .u8 3), .lit (.int .u8 30), .lit (.int .u8 22), .lit (.int .u8 20), .lit (.int .u8 15), .lit (.int .u8 25), .lit (.int .u8 17), .lit (.int .u8 4), .lit (.int .u8 8), .lit (.int .u8 31), .lit (.int .u8 27), .lit (.int .u8 13), .lit (.int .u8 23), .lit (.int .u8 21), .lit (.int .u8 19), .lit (.int .u8 16), .lit (.int .u8 7), .lit (.int .u8 26), .lit (.int .u8 12), .lit (.int .u8 18), .lit (.int .u8 6), .lit (.int .u8 11), .lit (.int .u8 5), .lit (.int .u8 10), .lit (.int .u8 9)]
def laid_math_bits_deBruijn64tab {H : Type} : DataW H := .agg [.lit (.int .u8 0), .lit (.int .u8 1), .lit (.int .u8 56), .lit (.int .u8 2), .lit (.int .u8 57), .lit (.int .u8 49), .lit (.int .u8 28), .lit (.int .u8 3), .lit (.int .u8 61), .lit (.int .u8 58), .lit (.int .u8 42), .lit (.int .u8 50), .lit (.int .u8 38), .lit (.int .u8 29), .lit (.int .u8 17), .lit (.int .u8 4), .lit (.int .u8 62), .lit (.int .u8 47), .lit (.int .u8 59), .lit (.int .u8 36), .lit (.int .u8 45), .lit (.int .u8 43), .lit (.int .u8 51), .lit (.int .u8 22), .lit (.int .u8 53), .lit (.int .u8 39), .lit (.int .u8 33), .lit (.int .u8 30), .lit (.int .u8 24), .lit (.int .u8 18), .lit (.int .u8 12), .lit (.int .u8 5), .lit (.int .u8 63), .lit (.int .u8 55), .lit (.int .u8 48), .lit (.int .u8 27), .lit (.int .u8 60), .lit (.int .u8 41), .lit (.int .u8 37), .lit (.int .u8 16), .lit (.int .u8 46), .lit (.int .u8 35), .lit (.int .u8 44), .lit (.int .u8 21), .lit (.int .u8 52), .lit (.int .u8 32), .lit (.int .u8 23), .lit (.int .u8 11), .lit (.int .u8 54), .lit (.int .u8 26), .lit (.int .u8 40), .lit (.int .u8 15), .lit (.int .u8 34), .lit (.int .u8 20), .lit (.int .u8 31), .lit (.int .u8 10), .lit (.int .u8 25), .lit (.int .u8 14), .lit (.int .u8 19), .lit (.int .u8 9), .lit (.int .u8 13), .lit (.int .u8 8), .lit (.int .u8 7), .lit (.int .u8 6)]
def laid_internal_strconv_uint64pow10 {H : Type} : DataW H := .agg [.lit (.int .u64 1), .lit (.int .u64 10), .lit (.int .u64 100), .lit (.int .u64 1000), .lit (.int .u64 10000), .lit (.int .u64 100000), .lit (.int .u64 1000000), .lit (.int .u64 10000000), .lit (.int .u64 100000000), .lit (.int .u64 1000000000), .lit (.int .u64 10000000000), .lit (.int .u64 100000000000), .lit (.int .u64 1000000000000), .lit (.int .u64 10000000000000), .lit (.int .u64 100000000000000), .lit (.int .u64 1000000000000000), .lit (.int .u64 10000000000000000), .lit (.int .u64 100000000000000000), .lit (.int .u64 1000000000000000000), .lit (.int .u64 10000000000000000000)]

/-- 'syllabarylaw09.DawgMatchesReference': WHATEVER THE INPUT: true; the input reads as it did. -/
def dawgMatchesReferenceSpec : ChangeSpec := { name := "dawgMatchesReference", fn := fun _ => fun
  | [d1, d2] => { results := [.lit (.bool true)], args := [d1, d2] }
  | _ => none }
def dawgMatchesReferenceRow : OpenClaim := { program := "ytemdlfbcnnoglaadoor", sum := "b32f8e7ede432126d7c8a1e6673ca988ee3a99570b4220cb6740e2f88778beef", func := "syllabary/syllabarylaw09.DawgMatchesReference", spec := "dawgMatchesReference", inPlace := ["internal/abi.NoEscape"], unfollowed := true, recurses := true, named := ["internal/strconv.uint64pow10", "math/bits.deBruijn32tab", "math/bits.deBruijn64tab"], apart := false, laid := [("math/bits.deBruijn32tab", laid_math_bits_deBruijn32tab), ("math/bits.deBruijn64tab", laid_math_bits_deBruijn64tab), ("internal/strconv.uint64pow10", laid_internal_strconv_uint64pow10)] }
def DawgMatchesReferenceSaid : Prop := dawgMatchesReferenceRow.holds Tryd.pinned (OpenSpec.ofChange dawgMatchesReferenceSpec)

/-- ITS FALSE NEIGHBOUR: 'it returns false'. Refute it at one input. -/
def dawgMatchesReferenceWrong : ChangeSpec := { name := "dawgMatchesReference", fn := fun _ => fun
  | [d1, d2] => { results := [.lit (.bool false)], args := [d1, d2] }
  | _ => none }
def DawgMatchesReferenceWrongFalsely : Prop := dawgMatchesReferenceRow.holds Tryd.pinned (OpenSpec.ofChange dawgMatchesReferenceWrong)

/-- 'syllabarylaw09.DawgWords': WHATEVER THE INPUT: true; the input reads as it did. -/
def dawgWordsSpec : ChangeSpec := { name := "dawgWords", fn := fun _ => fun
  | [d1, d2, d3] => { results := [.lit (.bool true)], args := [d1, d2, d3] }
  | _ => none }
def dawgWordsRow : OpenClaim := { program := "ytemdlfbcnnoglaadoor", sum := "b32f8e7ede432126d7c8a1e6673ca988ee3a99570b4220cb6740e2f88778beef", func := "syllabary/syllabarylaw09.DawgWords", spec := "dawgWords", inPlace := ["internal/abi.NoEscape"], unfollowed := true, recurses := true, named := ["internal/strconv.uint64pow10", "math/bits.deBruijn32tab", "math/bits.deBruijn64tab"], apart := false, laid := [("math/bits.deBruijn32tab", laid_math_bits_deBruijn32tab), ("math/bits.deBruijn64tab", laid_math_bits_deBruijn64tab), ("internal/strconv.uint64pow10", laid_internal_strconv_uint64pow10)] }
def DawgWordsSaid : Prop := dawgWordsRow.holds Tryd.pinned (OpenSpec.ofChange dawgWordsSpec)

/-- ITS FALSE NEIGHBOUR: 'it returns false'. Refute it at one input. -/
def dawgWordsWrong : ChangeSpec := { name := "dawgWords", fn := fun _ => fun
  | [d1, d2, d3] => { results := [.lit (.bool false)], args := [d1, d2, d3] }
  | _ => none }
def DawgWordsWrongFalsely : Prop := dawgWordsRow.holds Tryd.pinned (OpenSpec.ofChange dawgWordsWrong)

/-- 'syllabarylaw09.DawgMinimal': WHATEVER THE INPUT: true; the input reads as it did. -/
def dawgMinimalSpec : ChangeSpec := { name := "dawgMinimal", fn := fun _ => fun
  | [d] => { results := [.lit (.bool true)], args := [d] }
  | _ => none }
def dawgMinimalRow : OpenClaim := { program := "ytemdlfbcnnoglaadoor", sum := "b32f8e7ede432126d7c8a1e6673ca988ee3a99570b4220cb6740e2f88778beef", func := "syllabary/syllabarylaw09.DawgMinimal", spec := "dawgMinimal", inPlace := ["internal/abi.NoEscape"], unfollowed := true, recurses := true, named := ["internal/strconv.uint64pow10", "math/bits.deBruijn32tab", "math/bits.deBruijn64tab"], apart := false, laid := [("math/bits.deBruijn32tab", laid_math_bits_deBruijn32tab), ("math/bits.deBruijn64tab", laid_math_bits_deBruijn64tab), ("internal/strconv.uint64pow10", laid_internal_strconv_uint64pow10)] }
def DawgMinimalSaid : Prop := dawgMinimalRow.holds Tryd.pinned (OpenSpec.ofChange dawgMinimalSpec)

/-- ITS FALSE NEIGHBOUR: 'it returns false'. Refute it at one input. -/
def dawgMinimalWrong : ChangeSpec := { name := "dawgMinimal", fn := fun _ => fun
  | [d] => { results := [.lit (.bool false)], args := [d] }
  | _ => none }
def DawgMinimalWrongFalsely : Prop := dawgMinimalRow.holds Tryd.pinned (OpenSpec.ofChange dawgMinimalWrong)

/-- 'syllabarylaw09.DawgPlaces': WHATEVER THE INPUT: true; the input reads as it did. -/
def dawgPlacesSpec : ChangeSpec := { name := "dawgPlaces", fn := fun _ => fun
  | [d1, d2] => { results := [.lit (.bool true)], args := [d1, d2] }
  | _ => none }
def dawgPlacesRow : OpenClaim := { program := "ytemdlfbcnnoglaadoor", sum := "b32f8e7ede432126d7c8a1e6673ca988ee3a99570b4220cb6740e2f88778beef", func := "syllabary/syllabarylaw09.DawgPlaces", spec := "dawgPlaces", inPlace := ["internal/abi.NoEscape"], unfollowed := true, recurses := true, named := ["internal/strconv.uint64pow10", "math/bits.deBruijn32tab", "math/bits.deBruijn64tab"], apart := false, laid := [("math/bits.deBruijn32tab", laid_math_bits_deBruijn32tab), ("math/bits.deBruijn64tab", laid_math_bits_deBruijn64tab), ("internal/strconv.uint64pow10", laid_internal_strconv_uint64pow10)] }
def DawgPlacesSaid : Prop := dawgPlacesRow.holds Tryd.pinned (OpenSpec.ofChange dawgPlacesSpec)

/-- ITS FALSE NEIGHBOUR: 'it returns false'. Refute it at one input. -/
def dawgPlacesWrong : ChangeSpec := { name := "dawgPlaces", fn := fun _ => fun
  | [d1, d2] => { results := [.lit (.bool false)], args := [d1, d2] }
  | _ => none }
def DawgPlacesWrongFalsely : Prop := dawgPlacesRow.holds Tryd.pinned (OpenSpec.ofChange dawgPlacesWrong)

/-- 'syllabarylaw09.DawgBeginnings': WHATEVER THE INPUT: true; the input reads as it did. -/
def dawgBeginningsSpec : ChangeSpec := { name := "dawgBeginnings", fn := fun _ => fun
  | [d1, d2, d3] => { results := [.lit (.bool true)], args := [d1, d2, d3] }
  | _ => none }
def dawgBeginningsRow : OpenClaim := { program := "ytemdlfbcnnoglaadoor", sum := "b32f8e7ede432126d7c8a1e6673ca988ee3a99570b4220cb6740e2f88778beef", func := "syllabary/syllabarylaw09.DawgBeginnings", spec := "dawgBeginnings", inPlace := ["internal/abi.NoEscape"], unfollowed := true, recurses := true, named := ["internal/strconv.uint64pow10", "math/bits.deBruijn32tab", "math/bits.deBruijn64tab"], apart := false, laid := [("math/bits.deBruijn32tab", laid_math_bits_deBruijn32tab), ("math/bits.deBruijn64tab", laid_math_bits_deBruijn64tab), ("internal/strconv.uint64pow10", laid_internal_strconv_uint64pow10)] }
def DawgBeginningsSaid : Prop := dawgBeginningsRow.holds Tryd.pinned (OpenSpec.ofChange dawgBeginningsSpec)

/-- ITS FALSE NEIGHBOUR: 'it returns false'. Refute it at one input. -/
def dawgBeginningsWrong : ChangeSpec := { name := "dawgBeginnings", fn := fun _ => fun
  | [d1, d2, d3] => { results := [.lit (.bool false)], args := [d1, d2, d3] }
  | _ => none }
def DawgBeginningsWrongFalsely : Prop := dawgBeginningsRow.holds Tryd.pinned (OpenSpec.ofChange dawgBeginningsWrong)

/-- 'syllabarylaw09.DawgRefuses': WHATEVER THE INPUT: true; the input reads as it did. -/
def dawgRefusesSpec : ChangeSpec := { name := "dawgRefuses", fn := fun _ => fun
  | [d1, d2, d3] => { results := [.lit (.bool true)], args := [d1, d2, d3] }
  | _ => none }
def dawgRefusesRow : OpenClaim := { program := "ytemdlfbcnnoglaadoor", sum := "b32f8e7ede432126d7c8a1e6673ca988ee3a99570b4220cb6740e2f88778beef", func := "syllabary/syllabarylaw09.DawgRefuses", spec := "dawgRefuses", inPlace := ["internal/abi.NoEscape"], unfollowed := true, recurses := true, named := ["internal/strconv.uint64pow10", "math/bits.deBruijn32tab", "math/bits.deBruijn64tab"], apart := false, laid := [("math/bits.deBruijn32tab", laid_math_bits_deBruijn32tab), ("math/bits.deBruijn64tab", laid_math_bits_deBruijn64tab), ("internal/strconv.uint64pow10", laid_internal_strconv_uint64pow10)] }
def DawgRefusesSaid : Prop := dawgRefusesRow.holds Tryd.pinned (OpenSpec.ofChange dawgRefusesSpec)

/-- ITS FALSE NEIGHBOUR: 'it returns false'. Refute it at one input. -/
def dawgRefusesWrong : ChangeSpec := { name := "dawgRefuses", fn := fun _ => fun
  | [d1, d2, d3] => { results := [.lit (.bool false)], args := [d1, d2, d3] }
  | _ => none }
def DawgRefusesWrongFalsely : Prop := dawgRefusesRow.holds Tryd.pinned (OpenSpec.ofChange dawgRefusesWrong)

/-- 'syllabarylaw09.DawgSpoilt': WHATEVER THE INPUT: true; the input reads as it did. -/
def dawgSpoiltSpec : ChangeSpec := { name := "dawgSpoilt", fn := fun _ => fun
  | [d1, d2, d3] => { results := [.lit (.bool true)], args := [d1, d2, d3] }
  | _ => none }
def dawgSpoiltRow : OpenClaim := { program := "ytemdlfbcnnoglaadoor", sum := "b32f8e7ede432126d7c8a1e6673ca988ee3a99570b4220cb6740e2f88778beef", func := "syllabary/syllabarylaw09.DawgSpoilt", spec := "dawgSpoilt", inPlace := ["internal/abi.NoEscape"], unfollowed := true, recurses := true, named := ["internal/strconv.uint64pow10", "math/bits.deBruijn32tab", "math/bits.deBruijn64tab"], apart := false, laid := [("math/bits.deBruijn32tab", laid_math_bits_deBruijn32tab), ("math/bits.deBruijn64tab", laid_math_bits_deBruijn64tab), ("internal/strconv.uint64pow10", laid_internal_strconv_uint64pow10)] }
def DawgSpoiltSaid : Prop := dawgSpoiltRow.holds Tryd.pinned (OpenSpec.ofChange dawgSpoiltSpec)

/-- ITS FALSE NEIGHBOUR: 'it returns false'. Refute it at one input. -/
def dawgSpoiltWrong : ChangeSpec := { name := "dawgSpoilt", fn := fun _ => fun
  | [d1, d2, d3] => { results := [.lit (.bool false)], args := [d1, d2, d3] }
  | _ => none }
def DawgSpoiltWrongFalsely : Prop := dawgSpoiltRow.holds Tryd.pinned (OpenSpec.ofChange dawgSpoiltWrong)

/-- 'syllabarylaw09.DawgChanges': WHATEVER THE INPUT: true; the input reads as it did. -/
def dawgChangesSpec : ChangeSpec := { name := "dawgChanges", fn := fun _ => fun
  | [d1, d2] => { results := [.lit (.bool true)], args := [d1, d2] }
  | _ => none }
def dawgChangesRow : OpenClaim := { program := "ytemdlfbcnnoglaadoor", sum := "b32f8e7ede432126d7c8a1e6673ca988ee3a99570b4220cb6740e2f88778beef", func := "syllabary/syllabarylaw09.DawgChanges", spec := "dawgChanges", inPlace := ["internal/abi.NoEscape"], unfollowed := true, recurses := true, named := ["internal/strconv.uint64pow10", "math/bits.deBruijn32tab", "math/bits.deBruijn64tab"], apart := false, laid := [("math/bits.deBruijn32tab", laid_math_bits_deBruijn32tab), ("math/bits.deBruijn64tab", laid_math_bits_deBruijn64tab), ("internal/strconv.uint64pow10", laid_internal_strconv_uint64pow10)] }
def DawgChangesSaid : Prop := dawgChangesRow.holds Tryd.pinned (OpenSpec.ofChange dawgChangesSpec)

/-- ITS FALSE NEIGHBOUR: 'it returns false'. Refute it at one input. -/
def dawgChangesWrong : ChangeSpec := { name := "dawgChanges", fn := fun _ => fun
  | [d1, d2] => { results := [.lit (.bool false)], args := [d1, d2] }
  | _ => none }
def DawgChangesWrongFalsely : Prop := dawgChangesRow.holds Tryd.pinned (OpenSpec.ofChange dawgChangesWrong)

/- THE SECOND FORM. 'bulk': how many values and letters a reading holds, each counted each time it is reached (what is shared counts as often as it is met; a slice's spare places count too). A statement '..UptoSaid' is the law's where the arguments, and the package variables that the reading takes, are together of bulk at most 1048576: NARROWER than '..Said'. Prove '..Said' where nothing that the law and all that it calls make is longer than what came in: it says more and counts as full. Else prove '..UptoSaid'. A law counts once. -/
mutual
def uptoBulk {H : Type} : DataW H → Nat
  | .lit (.string bytes) => bytes.length + 1
  | .lit _ => 1
  | .nil => 1
  | .ptr d => uptoBulk d + 1
  | .slice elems spare => uptoBulkAll elems + uptoBulkAll spare + 1
  | .agg parts => uptoBulkAll parts + 1
  | .iface _ d => uptoBulk d + 1
  | .map entries => uptoBulkEntries entries + 1
  | .held _ => 1
def uptoBulkAll {H : Type} : List (DataW H) → Nat
  | [] => 0
  | d :: r => uptoBulk d + uptoBulkAll r
def uptoBulkEntries {H : Type} : List (Lit × DataW H) → Nat
  | [] => 0
  | x :: r => uptoBulkEntry x + uptoBulkEntries r
def uptoBulkEntry {H : Type} : Lit × DataW H → Nat
  | (.string bytes, d) => bytes.length + uptoBulk d + 1
  | (_, d) => uptoBulk d + 1
 end
def uptoSmall : (H : Type) → List (DataW H) → Bool := fun _ ds => decide (uptoBulkAll ds ≤ 1048576)
def OpenSpec.upto (s : _root_.Go.ChangeSpec) : _root_.Go.OpenSpec := { _root_.Go.OpenSpec.ofChange s with cond := some uptoSmall }

/-- 'syllabarylaw09.DawgMatchesReference', WHERE WHAT IT READS IS OF BULK AT MOST 1048576: true; the input reads as it did. -/
def dawgMatchesReferenceUptoRow : OpenClaim := { program := "ytemdlfbcnnoglaadoor", sum := "b32f8e7ede432126d7c8a1e6673ca988ee3a99570b4220cb6740e2f88778beef", func := "syllabary/syllabarylaw09.DawgMatchesReference", spec := "dawgMatchesReference", inPlace := ["internal/abi.NoEscape"], unfollowed := true, recurses := true, named := ["internal/strconv.uint64pow10", "math/bits.deBruijn32tab", "math/bits.deBruijn64tab"], apart := false, laid := [("math/bits.deBruijn32tab", laid_math_bits_deBruijn32tab), ("math/bits.deBruijn64tab", laid_math_bits_deBruijn64tab), ("internal/strconv.uint64pow10", laid_internal_strconv_uint64pow10)], narrowed := true }
def DawgMatchesReferenceUptoSaid : Prop := dawgMatchesReferenceUptoRow.holds Tryd.pinned (OpenSpec.upto dawgMatchesReferenceSpec)

/-- 'syllabarylaw09.DawgWords', WHERE WHAT IT READS IS OF BULK AT MOST 1048576: true; the input reads as it did. -/
def dawgWordsUptoRow : OpenClaim := { program := "ytemdlfbcnnoglaadoor", sum := "b32f8e7ede432126d7c8a1e6673ca988ee3a99570b4220cb6740e2f88778beef", func := "syllabary/syllabarylaw09.DawgWords", spec := "dawgWords", inPlace := ["internal/abi.NoEscape"], unfollowed := true, recurses := true, named := ["internal/strconv.uint64pow10", "math/bits.deBruijn32tab", "math/bits.deBruijn64tab"], apart := false, laid := [("math/bits.deBruijn32tab", laid_math_bits_deBruijn32tab), ("math/bits.deBruijn64tab", laid_math_bits_deBruijn64tab), ("internal/strconv.uint64pow10", laid_internal_strconv_uint64pow10)], narrowed := true }
def DawgWordsUptoSaid : Prop := dawgWordsUptoRow.holds Tryd.pinned (OpenSpec.upto dawgWordsSpec)

/-- 'syllabarylaw09.DawgMinimal', WHERE WHAT IT READS IS OF BULK AT MOST 1048576: true; the input reads as it did. -/
def dawgMinimalUptoRow : OpenClaim := { program := "ytemdlfbcnnoglaadoor", sum := "b32f8e7ede432126d7c8a1e6673ca988ee3a99570b4220cb6740e2f88778beef", func := "syllabary/syllabarylaw09.DawgMinimal", spec := "dawgMinimal", inPlace := ["internal/abi.NoEscape"], unfollowed := true, recurses := true, named := ["internal/strconv.uint64pow10", "math/bits.deBruijn32tab", "math/bits.deBruijn64tab"], apart := false, laid := [("math/bits.deBruijn32tab", laid_math_bits_deBruijn32tab), ("math/bits.deBruijn64tab", laid_math_bits_deBruijn64tab), ("internal/strconv.uint64pow10", laid_internal_strconv_uint64pow10)], narrowed := true }
def DawgMinimalUptoSaid : Prop := dawgMinimalUptoRow.holds Tryd.pinned (OpenSpec.upto dawgMinimalSpec)

/-- 'syllabarylaw09.DawgPlaces', WHERE WHAT IT READS IS OF BULK AT MOST 1048576: true; the input reads as it did. -/
def dawgPlacesUptoRow : OpenClaim := { program := "ytemdlfbcnnoglaadoor", sum := "b32f8e7ede432126d7c8a1e6673ca988ee3a99570b4220cb6740e2f88778beef", func := "syllabary/syllabarylaw09.DawgPlaces", spec := "dawgPlaces", inPlace := ["internal/abi.NoEscape"], unfollowed := true, recurses := true, named := ["internal/strconv.uint64pow10", "math/bits.deBruijn32tab", "math/bits.deBruijn64tab"], apart := false, laid := [("math/bits.deBruijn32tab", laid_math_bits_deBruijn32tab), ("math/bits.deBruijn64tab", laid_math_bits_deBruijn64tab), ("internal/strconv.uint64pow10", laid_internal_strconv_uint64pow10)], narrowed := true }
def DawgPlacesUptoSaid : Prop := dawgPlacesUptoRow.holds Tryd.pinned (OpenSpec.upto dawgPlacesSpec)

/-- 'syllabarylaw09.DawgBeginnings', WHERE WHAT IT READS IS OF BULK AT MOST 1048576: true; the input reads as it did. -/
def dawgBeginningsUptoRow : OpenClaim := { program := "ytemdlfbcnnoglaadoor", sum := "b32f8e7ede432126d7c8a1e6673ca988ee3a99570b4220cb6740e2f88778beef", func := "syllabary/syllabarylaw09.DawgBeginnings", spec := "dawgBeginnings", inPlace := ["internal/abi.NoEscape"], unfollowed := true, recurses := true, named := ["internal/strconv.uint64pow10", "math/bits.deBruijn32tab", "math/bits.deBruijn64tab"], apart := false, laid := [("math/bits.deBruijn32tab", laid_math_bits_deBruijn32tab), ("math/bits.deBruijn64tab", laid_math_bits_deBruijn64tab), ("internal/strconv.uint64pow10", laid_internal_strconv_uint64pow10)], narrowed := true }
def DawgBeginningsUptoSaid : Prop := dawgBeginningsUptoRow.holds Tryd.pinned (OpenSpec.upto dawgBeginningsSpec)

/-- 'syllabarylaw09.DawgRefuses', WHERE WHAT IT READS IS OF BULK AT MOST 1048576: true; the input reads as it did. -/
def dawgRefusesUptoRow : OpenClaim := { program := "ytemdlfbcnnoglaadoor", sum := "b32f8e7ede432126d7c8a1e6673ca988ee3a99570b4220cb6740e2f88778beef", func := "syllabary/syllabarylaw09.DawgRefuses", spec := "dawgRefuses", inPlace := ["internal/abi.NoEscape"], unfollowed := true, recurses := true, named := ["internal/strconv.uint64pow10", "math/bits.deBruijn32tab", "math/bits.deBruijn64tab"], apart := false, laid := [("math/bits.deBruijn32tab", laid_math_bits_deBruijn32tab), ("math/bits.deBruijn64tab", laid_math_bits_deBruijn64tab), ("internal/strconv.uint64pow10", laid_internal_strconv_uint64pow10)], narrowed := true }
def DawgRefusesUptoSaid : Prop := dawgRefusesUptoRow.holds Tryd.pinned (OpenSpec.upto dawgRefusesSpec)

/-- 'syllabarylaw09.DawgSpoilt', WHERE WHAT IT READS IS OF BULK AT MOST 1048576: true; the input reads as it did. -/
def dawgSpoiltUptoRow : OpenClaim := { program := "ytemdlfbcnnoglaadoor", sum := "b32f8e7ede432126d7c8a1e6673ca988ee3a99570b4220cb6740e2f88778beef", func := "syllabary/syllabarylaw09.DawgSpoilt", spec := "dawgSpoilt", inPlace := ["internal/abi.NoEscape"], unfollowed := true, recurses := true, named := ["internal/strconv.uint64pow10", "math/bits.deBruijn32tab", "math/bits.deBruijn64tab"], apart := false, laid := [("math/bits.deBruijn32tab", laid_math_bits_deBruijn32tab), ("math/bits.deBruijn64tab", laid_math_bits_deBruijn64tab), ("internal/strconv.uint64pow10", laid_internal_strconv_uint64pow10)], narrowed := true }
def DawgSpoiltUptoSaid : Prop := dawgSpoiltUptoRow.holds Tryd.pinned (OpenSpec.upto dawgSpoiltSpec)

/-- 'syllabarylaw09.DawgChanges', WHERE WHAT IT READS IS OF BULK AT MOST 1048576: true; the input reads as it did. -/
def dawgChangesUptoRow : OpenClaim := { program := "ytemdlfbcnnoglaadoor", sum := "b32f8e7ede432126d7c8a1e6673ca988ee3a99570b4220cb6740e2f88778beef", func := "syllabary/syllabarylaw09.DawgChanges", spec := "dawgChanges", inPlace := ["internal/abi.NoEscape"], unfollowed := true, recurses := true, named := ["internal/strconv.uint64pow10", "math/bits.deBruijn32tab", "math/bits.deBruijn64tab"], apart := false, laid := [("math/bits.deBruijn32tab", laid_math_bits_deBruijn32tab), ("math/bits.deBruijn64tab", laid_math_bits_deBruijn64tab), ("internal/strconv.uint64pow10", laid_internal_strconv_uint64pow10)], narrowed := true }
def DawgChangesUptoSaid : Prop := dawgChangesUptoRow.holds Tryd.pinned (OpenSpec.upto dawgChangesSpec)

end Rows
end Go.Proofs.YtemdlfbcnnoglaaDoor
