/-
  No cell of these rows narrows 'for every input' (looked for: loops, veiled, ifaces, maps, wideKeys, modest, calm, conditions, laid).
  DERIVED. THE GIVEN ROWS OF THIS SEAT. 7 by the template 'for every input the law returns true; each argument reads behind the call as it read before'; 0 by the template 'total and deterministic' (their statements: YtogjcfcfgnbmkaaTotals.lean).
  GIVEN WITH THE SEED: the statements are not yours to turn. If you find one false, say at which input.
  Laid BY PROGRAM, IN A SANDBOX (cutbox-rows.mjs): the forced cells as the released guide's own fill.sh prints them over the translation 6d6390df8739727a… (all of the seat's roots in one cut). By AI agents, Wed Nov 11 2026. No macro, syntax, notation, axiom, sorry.
-/
import Derived.Test.YtogjcfcfgnbmkaaChecked
import GoSem.Claim
import GoSem.ClaimJoined
import GoSem.ClaimMapViews
import Derived.JoinedTies
import Derived.KernelRfl
namespace Go.Proofs.Ytogjcfcfgnbmkaa
/- THE CELL 'sum', in the pinned program and in every row, IS THE sha256 OF THE DUMP (.gsa) THAT YtogjcfcfgnbmkaaProg.lean LOADS. Nothing in Lean hashes anything: it is a label: what it is worth is what the hold of that sum in a sandbox is worth. -/
noncomputable def Try.pinned : Pinned := { name := "ytogjcfcfgnbmkaa", sum := "6d6390df8739727a03592b5147f1cbff7015eef58e6f47c4f42e5409570b533c", checked := Try.checked }
namespace Rows
def none {H : Type} : Left H := { results := [], args := [] }

/-- 'syllabarylaw04.FlawMatchesReference': WHATEVER THE INPUT: true; the input reads as it did. -/
def flawMatchesReferenceSpec : ChangeSpec := { name := "flawMatchesReference", fn := fun _ => fun
  | [d1, d2, d3] => { results := [.lit (.bool true)], args := [d1, d2, d3] }
  | _ => none }
def flawMatchesReferenceRow : OpenClaim := { program := "ytogjcfcfgnbmkaa", sum := "6d6390df8739727a03592b5147f1cbff7015eef58e6f47c4f42e5409570b533c", func := "syllabary/syllabarylaw04.FlawMatchesReference", spec := "flawMatchesReference", unfollowed := true, recurses := true, apart := false }
def FlawMatchesReferenceSaid : Prop := flawMatchesReferenceRow.holds Try.pinned (OpenSpec.ofChange flawMatchesReferenceSpec)

/-- ITS FALSE NEIGHBOUR: 'it returns false'. Refute it at one input. -/
def flawMatchesReferenceWrong : ChangeSpec := { name := "flawMatchesReference", fn := fun _ => fun
  | [d1, d2, d3] => { results := [.lit (.bool false)], args := [d1, d2, d3] }
  | _ => none }
def FlawMatchesReferenceWrongFalsely : Prop := flawMatchesReferenceRow.holds Try.pinned (OpenSpec.ofChange flawMatchesReferenceWrong)

/-- 'syllabarylaw04.FlawProves': WHATEVER THE INPUT: true; the input reads as it did. -/
def flawProvesSpec : ChangeSpec := { name := "flawProves", fn := fun _ => fun
  | [d1, d2] => { results := [.lit (.bool true)], args := [d1, d2] }
  | _ => none }
def flawProvesRow : OpenClaim := { program := "ytogjcfcfgnbmkaa", sum := "6d6390df8739727a03592b5147f1cbff7015eef58e6f47c4f42e5409570b533c", func := "syllabary/syllabarylaw04.FlawProves", spec := "flawProves", unfollowed := true, recurses := true, apart := false }
def FlawProvesSaid : Prop := flawProvesRow.holds Try.pinned (OpenSpec.ofChange flawProvesSpec)

/-- ITS FALSE NEIGHBOUR: 'it returns false'. Refute it at one input. -/
def flawProvesWrong : ChangeSpec := { name := "flawProves", fn := fun _ => fun
  | [d1, d2] => { results := [.lit (.bool false)], args := [d1, d2] }
  | _ => none }
def FlawProvesWrongFalsely : Prop := flawProvesRow.holds Try.pinned (OpenSpec.ofChange flawProvesWrong)

/-- 'syllabarylaw04.FlawDead': WHATEVER THE INPUT: true; the input reads as it did. -/
def flawDeadSpec : ChangeSpec := { name := "flawDead", fn := fun _ => fun
  | [d1, d2] => { results := [.lit (.bool true)], args := [d1, d2] }
  | _ => none }
def flawDeadRow : OpenClaim := { program := "ytogjcfcfgnbmkaa", sum := "6d6390df8739727a03592b5147f1cbff7015eef58e6f47c4f42e5409570b533c", func := "syllabary/syllabarylaw04.FlawDead", spec := "flawDead", unfollowed := true, recurses := true, apart := false }
def FlawDeadSaid : Prop := flawDeadRow.holds Try.pinned (OpenSpec.ofChange flawDeadSpec)

/-- ITS FALSE NEIGHBOUR: 'it returns false'. Refute it at one input. -/
def flawDeadWrong : ChangeSpec := { name := "flawDead", fn := fun _ => fun
  | [d1, d2] => { results := [.lit (.bool false)], args := [d1, d2] }
  | _ => none }
def FlawDeadWrongFalsely : Prop := flawDeadRow.holds Try.pinned (OpenSpec.ofChange flawDeadWrong)

/-- 'syllabarylaw04.FlawChains': WHATEVER THE INPUT: true; the input reads as it did. -/
def flawChainsSpec : ChangeSpec := { name := "flawChains", fn := fun _ => fun
  | [d1, d2, d3] => { results := [.lit (.bool true)], args := [d1, d2, d3] }
  | _ => none }
def flawChainsRow : OpenClaim := { program := "ytogjcfcfgnbmkaa", sum := "6d6390df8739727a03592b5147f1cbff7015eef58e6f47c4f42e5409570b533c", func := "syllabary/syllabarylaw04.FlawChains", spec := "flawChains", unfollowed := true, recurses := true, apart := false }
def FlawChainsSaid : Prop := flawChainsRow.holds Try.pinned (OpenSpec.ofChange flawChainsSpec)

/-- ITS FALSE NEIGHBOUR: 'it returns false'. Refute it at one input. -/
def flawChainsWrong : ChangeSpec := { name := "flawChains", fn := fun _ => fun
  | [d1, d2, d3] => { results := [.lit (.bool false)], args := [d1, d2, d3] }
  | _ => none }
def FlawChainsWrongFalsely : Prop := flawChainsRow.holds Try.pinned (OpenSpec.ofChange flawChainsWrong)

/-- 'syllabarylaw04.FlawSound': WHATEVER THE INPUT: true; the input reads as it did. -/
def flawSoundSpec : ChangeSpec := { name := "flawSound", fn := fun _ => fun
  | [d] => { results := [.lit (.bool true)], args := [d] }
  | _ => none }
def flawSoundRow : OpenClaim := { program := "ytogjcfcfgnbmkaa", sum := "6d6390df8739727a03592b5147f1cbff7015eef58e6f47c4f42e5409570b533c", func := "syllabary/syllabarylaw04.FlawSound", spec := "flawSound", unfollowed := true, recurses := true, apart := false }
def FlawSoundSaid : Prop := flawSoundRow.holds Try.pinned (OpenSpec.ofChange flawSoundSpec)

/-- ITS FALSE NEIGHBOUR: 'it returns false'. Refute it at one input. -/
def flawSoundWrong : ChangeSpec := { name := "flawSound", fn := fun _ => fun
  | [d] => { results := [.lit (.bool false)], args := [d] }
  | _ => none }
def FlawSoundWrongFalsely : Prop := flawSoundRow.holds Try.pinned (OpenSpec.ofChange flawSoundWrong)

/-- 'syllabarylaw04.FlawAdds': WHATEVER THE INPUT: true; the input reads as it did. -/
def flawAddsSpec : ChangeSpec := { name := "flawAdds", fn := fun _ => fun
  | [d1, d2, d3] => { results := [.lit (.bool true)], args := [d1, d2, d3] }
  | _ => none }
def flawAddsRow : OpenClaim := { program := "ytogjcfcfgnbmkaa", sum := "6d6390df8739727a03592b5147f1cbff7015eef58e6f47c4f42e5409570b533c", func := "syllabary/syllabarylaw04.FlawAdds", spec := "flawAdds", unfollowed := true, recurses := true, apart := false }
def FlawAddsSaid : Prop := flawAddsRow.holds Try.pinned (OpenSpec.ofChange flawAddsSpec)

/-- ITS FALSE NEIGHBOUR: 'it returns false'. Refute it at one input. -/
def flawAddsWrong : ChangeSpec := { name := "flawAdds", fn := fun _ => fun
  | [d1, d2, d3] => { results := [.lit (.bool false)], args := [d1, d2, d3] }
  | _ => none }
def FlawAddsWrongFalsely : Prop := flawAddsRow.holds Try.pinned (OpenSpec.ofChange flawAddsWrong)

/-- 'syllabarylaw04.FlawOrders': WHATEVER THE INPUT: true; the input reads as it did. -/
def flawOrdersSpec : ChangeSpec := { name := "flawOrders", fn := fun _ => fun
  | [d] => { results := [.lit (.bool true)], args := [d] }
  | _ => none }
def flawOrdersRow : OpenClaim := { program := "ytogjcfcfgnbmkaa", sum := "6d6390df8739727a03592b5147f1cbff7015eef58e6f47c4f42e5409570b533c", func := "syllabary/syllabarylaw04.FlawOrders", spec := "flawOrders", unfollowed := true, recurses := true, apart := false }
def FlawOrdersSaid : Prop := flawOrdersRow.holds Try.pinned (OpenSpec.ofChange flawOrdersSpec)

/-- ITS FALSE NEIGHBOUR: 'it returns false'. Refute it at one input. -/
def flawOrdersWrong : ChangeSpec := { name := "flawOrders", fn := fun _ => fun
  | [d] => { results := [.lit (.bool false)], args := [d] }
  | _ => none }
def FlawOrdersWrongFalsely : Prop := flawOrdersRow.holds Try.pinned (OpenSpec.ofChange flawOrdersWrong)

/- THE SECOND FORM. 'bulk': how many values and letters a reading holds, each counted each time it is reached (what is shared counts as often as it is met; a slice's spare places count too). A statement '..UptoSaid' is the law's where the arguments, and the package variables that the reading takes, are together of bulk at most 1048576: NARROWER than '..Said'. Prove '..Said' where nothing that the law and all that it calls make is longer than what came in: it says more and counts as full. Else prove '..UptoSaid'. A law counts once. -/
mutual
def uptoBulk {H : Type} : DataW H → Nat
  | .lit (.string bytes) => bytes.length + 1
  | .lit _ => 1
  | .nil => 1
  | .ptr d => uptoBulk d + 1
  | .slice elems spare => uptoBulkAll elems + uptoBulkAll spare + 1
  | .agg parts => uptoBulkAll parts + 1
  | .iface _ d => uptoBulk d + 1
  | .map entries => uptoBulkEntries entries + 1
  | .held _ => 1
def uptoBulkAll {H : Type} : List (DataW H) → Nat
  | [] => 0
  | d :: r => uptoBulk d + uptoBulkAll r
def uptoBulkEntries {H : Type} : List (Lit × DataW H) → Nat
  | [] => 0
  | x :: r => uptoBulkEntry x + uptoBulkEntries r
def uptoBulkEntry {H : Type} : Lit × DataW H → Nat
  | (.string bytes, d) => bytes.length + uptoBulk d + 1
  | (_, d) => uptoBulk d + 1
 end
def uptoSmall : (H : Type) → List (DataW H) → Bool := fun _ ds => decide (uptoBulkAll ds ≤ 1048576)
def OpenSpec.upto (s : _root_.Go.ChangeSpec) : _root_.Go.OpenSpec := { _root_.Go.OpenSpec.ofChange s with cond := some uptoSmall }

/-- 'syllabarylaw04.FlawMatchesReference', WHERE WHAT IT READS IS OF BULK AT MOST 1048576: true; the input reads as it did. -/
def flawMatchesReferenceUptoRow : OpenClaim := { program := "ytogjcfcfgnbmkaa", sum := "6d6390df8739727a03592b5147f1cbff7015eef58e6f47c4f42e5409570b533c", func := "syllabary/syllabarylaw04.FlawMatchesReference", spec := "flawMatchesReference", unfollowed := true, recurses := true, apart := false, narrowed := true }
def FlawMatchesReferenceUptoSaid : Prop := flawMatchesReferenceUptoRow.holds Try.pinned (OpenSpec.upto flawMatchesReferenceSpec)

/-- 'syllabarylaw04.FlawProves', WHERE WHAT IT READS IS OF BULK AT MOST 1048576: true; the input reads as it did. -/
def flawProvesUptoRow : OpenClaim := { program := "ytogjcfcfgnbmkaa", sum := "6d6390df8739727a03592b5147f1cbff7015eef58e6f47c4f42e5409570b533c", func := "syllabary/syllabarylaw04.FlawProves", spec := "flawProves", unfollowed := true, recurses := true, apart := false, narrowed := true }
def FlawProvesUptoSaid : Prop := flawProvesUptoRow.holds Try.pinned (OpenSpec.upto flawProvesSpec)

/-- 'syllabarylaw04.FlawDead', WHERE WHAT IT READS IS OF BULK AT MOST 1048576: true; the input reads as it did. -/
def flawDeadUptoRow : OpenClaim := { program := "ytogjcfcfgnbmkaa", sum := "6d6390df8739727a03592b5147f1cbff7015eef58e6f47c4f42e5409570b533c", func := "syllabary/syllabarylaw04.FlawDead", spec := "flawDead", unfollowed := true, recurses := true, apart := false, narrowed := true }
def FlawDeadUptoSaid : Prop := flawDeadUptoRow.holds Try.pinned (OpenSpec.upto flawDeadSpec)

/-- 'syllabarylaw04.FlawChains', WHERE WHAT IT READS IS OF BULK AT MOST 1048576: true; the input reads as it did. -/
def flawChainsUptoRow : OpenClaim := { program := "ytogjcfcfgnbmkaa", sum := "6d6390df8739727a03592b5147f1cbff7015eef58e6f47c4f42e5409570b533c", func := "syllabary/syllabarylaw04.FlawChains", spec := "flawChains", unfollowed := true, recurses := true, apart := false, narrowed := true }
def FlawChainsUptoSaid : Prop := flawChainsUptoRow.holds Try.pinned (OpenSpec.upto flawChainsSpec)

/-- 'syllabarylaw04.FlawSound', WHERE WHAT IT READS IS OF BULK AT MOST 1048576: true; the input reads as it did. -/
def flawSoundUptoRow : OpenClaim := { program := "ytogjcfcfgnbmkaa", sum := "6d6390df8739727a03592b5147f1cbff7015eef58e6f47c4f42e5409570b533c", func := "syllabary/syllabarylaw04.FlawSound", spec := "flawSound", unfollowed := true, recurses := true, apart := false, narrowed := true }
def FlawSoundUptoSaid : Prop := flawSoundUptoRow.holds Try.pinned (OpenSpec.upto flawSoundSpec)

/-- 'syllabarylaw04.FlawAdds', WHERE WHAT IT READS IS OF BULK AT MOST 1048576: true; the input reads as it did. -/
def flawAddsUptoRow : OpenClaim := { program := "ytogjcfcfgnbmkaa", sum := "6d6390df8739727a03592b5147f1cbff7015eef58e6f47c4f42e5409570b533c", func := "syllabary/syllabarylaw04.FlawAdds", spec := "flawAdds", unfollowed := true, recurses := true, apart := false, narrowed := true }
def FlawAddsUptoSaid : Prop := flawAddsUptoRow.holds Try.pinned (OpenSpec.upto flawAddsSpec)

/-- 'syllabarylaw04.FlawOrders', WHERE WHAT IT READS IS OF BULK AT MOST 1048576: true; the input reads as it did. -/
def flawOrdersUptoRow : OpenClaim := { program := "ytogjcfcfgnbmkaa", sum := "6d6390df8739727a03592b5147f1cbff7015eef58e6f47c4f42e5409570b533c", func := "syllabary/syllabarylaw04.FlawOrders", spec := "flawOrders", unfollowed := true, recurses := true, apart := false, narrowed := true }
def FlawOrdersUptoSaid : Prop := flawOrdersUptoRow.holds Try.pinned (OpenSpec.upto flawOrdersSpec)

end Rows
end Go.Proofs.Ytogjcfcfgnbmkaa
