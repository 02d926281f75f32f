/-
  No cell of these rows narrows 'for every input' (looked for: loops, veiled, ifaces, maps, wideKeys, modest, calm, conditions, laid).
  DERIVED. THE GIVEN ROWS OF THIS SEAT. 7 by the template 'for every input the law returns true; each argument reads behind the call as it read before'; 0 by the template 'total and deterministic' (their statements: YtfhjgkacedgpgaaTotals.lean).
  GIVEN WITH THE SEED: the statements are not yours to turn. If you find one false, say at which input.
  Laid BY PROGRAM, IN A SANDBOX (cutbox-rows.mjs): the forced cells as the released guide's own fill.sh prints them over the translation de6b967a4a36fa48… (all of the seat's roots in one cut). By AI agents, Wed Nov 11 2026. No macro, syntax, notation, axiom, sorry.
-/
import Derived.Test.YtfhjgkacedgpgaaChecked
import GoSem.Claim
import GoSem.ClaimJoined
import GoSem.ClaimMapViews
import Derived.JoinedTies
import Derived.KernelRfl
namespace Go.Proofs.Ytfhjgkacedgpgaa
/- THE CELL 'sum', in the pinned program and in every row, IS THE sha256 OF THE DUMP (.gsa) THAT YtfhjgkacedgpgaaProg.lean LOADS. Nothing in Lean hashes anything: it is a label: what it is worth is what the hold of that sum in a sandbox is worth. -/
noncomputable def Try.pinned : Pinned := { name := "ytfhjgkacedgpgaa", sum := "de6b967a4a36fa484ff4c6ca154f8f4b622b2604e498e571c08996be32d36785", checked := Try.checked }
namespace Rows
def none {H : Type} : Left H := { results := [], args := [] }

/-- 'syllabarylaw12.DecayMatchesReference': WHATEVER THE INPUT: true; the input reads as it did. -/
def decayMatchesReferenceSpec : ChangeSpec := { name := "decayMatchesReference", fn := fun _ => fun
  | [d1, d2, d3] => { results := [.lit (.bool true)], args := [d1, d2, d3] }
  | _ => none }
def decayMatchesReferenceRow : OpenClaim := { program := "ytfhjgkacedgpgaa", sum := "de6b967a4a36fa484ff4c6ca154f8f4b622b2604e498e571c08996be32d36785", func := "syllabary/syllabarylaw12.DecayMatchesReference", spec := "decayMatchesReference", unfollowed := true, recurses := true, apart := false }
def DecayMatchesReferenceSaid : Prop := decayMatchesReferenceRow.holds Try.pinned (OpenSpec.ofChange decayMatchesReferenceSpec)

/-- ITS FALSE NEIGHBOUR: 'it returns false'. Refute it at one input. -/
def decayMatchesReferenceWrong : ChangeSpec := { name := "decayMatchesReference", fn := fun _ => fun
  | [d1, d2, d3] => { results := [.lit (.bool false)], args := [d1, d2, d3] }
  | _ => none }
def DecayMatchesReferenceWrongFalsely : Prop := decayMatchesReferenceRow.holds Try.pinned (OpenSpec.ofChange decayMatchesReferenceWrong)

/-- 'syllabarylaw12.DecaySteps': WHATEVER THE INPUT: true; the input reads as it did. -/
def decayStepsSpec : ChangeSpec := { name := "decaySteps", fn := fun _ => fun
  | [d1, d2, d3] => { results := [.lit (.bool true)], args := [d1, d2, d3] }
  | _ => none }
def decayStepsRow : OpenClaim := { program := "ytfhjgkacedgpgaa", sum := "de6b967a4a36fa484ff4c6ca154f8f4b622b2604e498e571c08996be32d36785", func := "syllabary/syllabarylaw12.DecaySteps", spec := "decaySteps", unfollowed := true, recurses := true, apart := false }
def DecayStepsSaid : Prop := decayStepsRow.holds Try.pinned (OpenSpec.ofChange decayStepsSpec)

/-- ITS FALSE NEIGHBOUR: 'it returns false'. Refute it at one input. -/
def decayStepsWrong : ChangeSpec := { name := "decaySteps", fn := fun _ => fun
  | [d1, d2, d3] => { results := [.lit (.bool false)], args := [d1, d2, d3] }
  | _ => none }
def DecayStepsWrongFalsely : Prop := decayStepsRow.holds Try.pinned (OpenSpec.ofChange decayStepsWrong)

/-- 'syllabarylaw12.DecayAdds': WHATEVER THE INPUT: true; the input reads as it did. -/
def decayAddsSpec : ChangeSpec := { name := "decayAdds", fn := fun _ => fun
  | [d1, d2, d3] => { results := [.lit (.bool true)], args := [d1, d2, d3] }
  | _ => none }
def decayAddsRow : OpenClaim := { program := "ytfhjgkacedgpgaa", sum := "de6b967a4a36fa484ff4c6ca154f8f4b622b2604e498e571c08996be32d36785", func := "syllabary/syllabarylaw12.DecayAdds", spec := "decayAdds", unfollowed := true, recurses := true, apart := false }
def DecayAddsSaid : Prop := decayAddsRow.holds Try.pinned (OpenSpec.ofChange decayAddsSpec)

/-- ITS FALSE NEIGHBOUR: 'it returns false'. Refute it at one input. -/
def decayAddsWrong : ChangeSpec := { name := "decayAdds", fn := fun _ => fun
  | [d1, d2, d3] => { results := [.lit (.bool false)], args := [d1, d2, d3] }
  | _ => none }
def DecayAddsWrongFalsely : Prop := decayAddsRow.holds Try.pinned (OpenSpec.ofChange decayAddsWrong)

/-- 'syllabarylaw12.DecayOrder': WHATEVER THE INPUT: true; the input reads as it did. -/
def decayOrderSpec : ChangeSpec := { name := "decayOrder", fn := fun _ => fun
  | [d1, d2, d3] => { results := [.lit (.bool true)], args := [d1, d2, d3] }
  | _ => none }
def decayOrderRow : OpenClaim := { program := "ytfhjgkacedgpgaa", sum := "de6b967a4a36fa484ff4c6ca154f8f4b622b2604e498e571c08996be32d36785", func := "syllabary/syllabarylaw12.DecayOrder", spec := "decayOrder", unfollowed := true, recurses := true, apart := false }
def DecayOrderSaid : Prop := decayOrderRow.holds Try.pinned (OpenSpec.ofChange decayOrderSpec)

/-- ITS FALSE NEIGHBOUR: 'it returns false'. Refute it at one input. -/
def decayOrderWrong : ChangeSpec := { name := "decayOrder", fn := fun _ => fun
  | [d1, d2, d3] => { results := [.lit (.bool false)], args := [d1, d2, d3] }
  | _ => none }
def DecayOrderWrongFalsely : Prop := decayOrderRow.holds Try.pinned (OpenSpec.ofChange decayOrderWrong)

/-- 'syllabarylaw12.DecaySums': WHATEVER THE INPUT: true; the input reads as it did. -/
def decaySumsSpec : ChangeSpec := { name := "decaySums", fn := fun _ => fun
  | [d1, d2] => { results := [.lit (.bool true)], args := [d1, d2] }
  | _ => none }
def decaySumsRow : OpenClaim := { program := "ytfhjgkacedgpgaa", sum := "de6b967a4a36fa484ff4c6ca154f8f4b622b2604e498e571c08996be32d36785", func := "syllabary/syllabarylaw12.DecaySums", spec := "decaySums", unfollowed := true, recurses := true, apart := false }
def DecaySumsSaid : Prop := decaySumsRow.holds Try.pinned (OpenSpec.ofChange decaySumsSpec)

/-- ITS FALSE NEIGHBOUR: 'it returns false'. Refute it at one input. -/
def decaySumsWrong : ChangeSpec := { name := "decaySums", fn := fun _ => fun
  | [d1, d2] => { results := [.lit (.bool false)], args := [d1, d2] }
  | _ => none }
def DecaySumsWrongFalsely : Prop := decaySumsRow.holds Try.pinned (OpenSpec.ofChange decaySumsWrong)

/-- 'syllabarylaw12.DecayEnds': WHATEVER THE INPUT: true; the input reads as it did. -/
def decayEndsSpec : ChangeSpec := { name := "decayEnds", fn := fun _ => fun
  | [d1, d2] => { results := [.lit (.bool true)], args := [d1, d2] }
  | _ => none }
def decayEndsRow : OpenClaim := { program := "ytfhjgkacedgpgaa", sum := "de6b967a4a36fa484ff4c6ca154f8f4b622b2604e498e571c08996be32d36785", func := "syllabary/syllabarylaw12.DecayEnds", spec := "decayEnds", unfollowed := true, recurses := true, apart := false }
def DecayEndsSaid : Prop := decayEndsRow.holds Try.pinned (OpenSpec.ofChange decayEndsSpec)

/-- ITS FALSE NEIGHBOUR: 'it returns false'. Refute it at one input. -/
def decayEndsWrong : ChangeSpec := { name := "decayEnds", fn := fun _ => fun
  | [d1, d2] => { results := [.lit (.bool false)], args := [d1, d2] }
  | _ => none }
def DecayEndsWrongFalsely : Prop := decayEndsRow.holds Try.pinned (OpenSpec.ofChange decayEndsWrong)

/-- 'syllabarylaw12.DecayLimits': WHATEVER THE INPUT: true; the input reads as it did. -/
def decayLimitsSpec : ChangeSpec := { name := "decayLimits", fn := fun _ => fun
  | [d1, d2] => { results := [.lit (.bool true)], args := [d1, d2] }
  | _ => none }
def decayLimitsRow : OpenClaim := { program := "ytfhjgkacedgpgaa", sum := "de6b967a4a36fa484ff4c6ca154f8f4b622b2604e498e571c08996be32d36785", func := "syllabary/syllabarylaw12.DecayLimits", spec := "decayLimits", unfollowed := true, recurses := true, apart := false }
def DecayLimitsSaid : Prop := decayLimitsRow.holds Try.pinned (OpenSpec.ofChange decayLimitsSpec)

/-- ITS FALSE NEIGHBOUR: 'it returns false'. Refute it at one input. -/
def decayLimitsWrong : ChangeSpec := { name := "decayLimits", fn := fun _ => fun
  | [d1, d2] => { results := [.lit (.bool false)], args := [d1, d2] }
  | _ => none }
def DecayLimitsWrongFalsely : Prop := decayLimitsRow.holds Try.pinned (OpenSpec.ofChange decayLimitsWrong)

/- THE SECOND FORM. 'bulk': how many values and letters a reading holds, each counted each time it is reached (what is shared counts as often as it is met; a slice's spare places count too). A statement '..UptoSaid' is the law's where the arguments, and the package variables that the reading takes, are together of bulk at most 1048576: NARROWER than '..Said'. Prove '..Said' where nothing that the law and all that it calls make is longer than what came in: it says more and counts as full. Else prove '..UptoSaid'. A law counts once. -/
mutual
def uptoBulk {H : Type} : DataW H → Nat
  | .lit (.string bytes) => bytes.length + 1
  | .lit _ => 1
  | .nil => 1
  | .ptr d => uptoBulk d + 1
  | .slice elems spare => uptoBulkAll elems + uptoBulkAll spare + 1
  | .agg parts => uptoBulkAll parts + 1
  | .iface _ d => uptoBulk d + 1
  | .map entries => uptoBulkEntries entries + 1
  | .held _ => 1
def uptoBulkAll {H : Type} : List (DataW H) → Nat
  | [] => 0
  | d :: r => uptoBulk d + uptoBulkAll r
def uptoBulkEntries {H : Type} : List (Lit × DataW H) → Nat
  | [] => 0
  | x :: r => uptoBulkEntry x + uptoBulkEntries r
def uptoBulkEntry {H : Type} : Lit × DataW H → Nat
  | (.string bytes, d) => bytes.length + uptoBulk d + 1
  | (_, d) => uptoBulk d + 1
 end
def uptoSmall : (H : Type) → List (DataW H) → Bool := fun _ ds => decide (uptoBulkAll ds ≤ 1048576)
def OpenSpec.upto (s : _root_.Go.ChangeSpec) : _root_.Go.OpenSpec := { _root_.Go.OpenSpec.ofChange s with cond := some uptoSmall }

/-- 'syllabarylaw12.DecayMatchesReference', WHERE WHAT IT READS IS OF BULK AT MOST 1048576: true; the input reads as it did. -/
def decayMatchesReferenceUptoRow : OpenClaim := { program := "ytfhjgkacedgpgaa", sum := "de6b967a4a36fa484ff4c6ca154f8f4b622b2604e498e571c08996be32d36785", func := "syllabary/syllabarylaw12.DecayMatchesReference", spec := "decayMatchesReference", unfollowed := true, recurses := true, apart := false, narrowed := true }
def DecayMatchesReferenceUptoSaid : Prop := decayMatchesReferenceUptoRow.holds Try.pinned (OpenSpec.upto decayMatchesReferenceSpec)

/-- 'syllabarylaw12.DecaySteps', WHERE WHAT IT READS IS OF BULK AT MOST 1048576: true; the input reads as it did. -/
def decayStepsUptoRow : OpenClaim := { program := "ytfhjgkacedgpgaa", sum := "de6b967a4a36fa484ff4c6ca154f8f4b622b2604e498e571c08996be32d36785", func := "syllabary/syllabarylaw12.DecaySteps", spec := "decaySteps", unfollowed := true, recurses := true, apart := false, narrowed := true }
def DecayStepsUptoSaid : Prop := decayStepsUptoRow.holds Try.pinned (OpenSpec.upto decayStepsSpec)

/-- 'syllabarylaw12.DecayAdds', WHERE WHAT IT READS IS OF BULK AT MOST 1048576: true; the input reads as it did. -/
def decayAddsUptoRow : OpenClaim := { program := "ytfhjgkacedgpgaa", sum := "de6b967a4a36fa484ff4c6ca154f8f4b622b2604e498e571c08996be32d36785", func := "syllabary/syllabarylaw12.DecayAdds", spec := "decayAdds", unfollowed := true, recurses := true, apart := false, narrowed := true }
def DecayAddsUptoSaid : Prop := decayAddsUptoRow.holds Try.pinned (OpenSpec.upto decayAddsSpec)

/-- 'syllabarylaw12.DecayOrder', WHERE WHAT IT READS IS OF BULK AT MOST 1048576: true; the input reads as it did. -/
def decayOrderUptoRow : OpenClaim := { program := "ytfhjgkacedgpgaa", sum := "de6b967a4a36fa484ff4c6ca154f8f4b622b2604e498e571c08996be32d36785", func := "syllabary/syllabarylaw12.DecayOrder", spec := "decayOrder", unfollowed := true, recurses := true, apart := false, narrowed := true }
def DecayOrderUptoSaid : Prop := decayOrderUptoRow.holds Try.pinned (OpenSpec.upto decayOrderSpec)

/-- 'syllabarylaw12.DecaySums', WHERE WHAT IT READS IS OF BULK AT MOST 1048576: true; the input reads as it did. -/
def decaySumsUptoRow : OpenClaim := { program := "ytfhjgkacedgpgaa", sum := "de6b967a4a36fa484ff4c6ca154f8f4b622b2604e498e571c08996be32d36785", func := "syllabary/syllabarylaw12.DecaySums", spec := "decaySums", unfollowed := true, recurses := true, apart := false, narrowed := true }
def DecaySumsUptoSaid : Prop := decaySumsUptoRow.holds Try.pinned (OpenSpec.upto decaySumsSpec)

/-- 'syllabarylaw12.DecayEnds', WHERE WHAT IT READS IS OF BULK AT MOST 1048576: true; the input reads as it did. -/
def decayEndsUptoRow : OpenClaim := { program := "ytfhjgkacedgpgaa", sum := "de6b967a4a36fa484ff4c6ca154f8f4b622b2604e498e571c08996be32d36785", func := "syllabary/syllabarylaw12.DecayEnds", spec := "decayEnds", unfollowed := true, recurses := true, apart := false, narrowed := true }
def DecayEndsUptoSaid : Prop := decayEndsUptoRow.holds Try.pinned (OpenSpec.upto decayEndsSpec)

/-- 'syllabarylaw12.DecayLimits', WHERE WHAT IT READS IS OF BULK AT MOST 1048576: true; the input reads as it did. -/
def decayLimitsUptoRow : OpenClaim := { program := "ytfhjgkacedgpgaa", sum := "de6b967a4a36fa484ff4c6ca154f8f4b622b2604e498e571c08996be32d36785", func := "syllabary/syllabarylaw12.DecayLimits", spec := "decayLimits", unfollowed := true, recurses := true, apart := false, narrowed := true }
def DecayLimitsUptoSaid : Prop := decayLimitsUptoRow.holds Try.pinned (OpenSpec.upto decayLimitsSpec)

end Rows
end Go.Proofs.Ytfhjgkacedgpgaa
