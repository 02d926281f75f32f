/-
  DERIVED. GIVEN WITH THE SEED: THE CARDS: each row of YtocdljmdmiphnaaDoorRows.lean that lists a variable, with what it lists TIED to the program's text (the seventh form; the later family's looks); each row that meets fmt, with fmt's text TOLD by the authors' own Lean function (tested against real Go, not proved from fmt's source: count such statements apart). THE CARD IS WHAT COUNTS. Prove the row's statement (the work); the ties are given (YtocdljmdmiphnaaDoorTie.lean); close each card by the builder's one call (the guide's Derived/Test/ToyasCard.lean, 'card_holds'). Laid BY PROGRAM, IN A SANDBOX (cutbox-door.mjs). By AI agents, Wed Nov 11 2026. No macro, syntax, notation, axiom, sorry.
-/
import Derived.Test.YtocdljmdmiphnaaDoorRows
import GoSem.ClaimSeven
namespace Go.Proofs.YtocdljmdmiphnaaDoor
namespace Rows

/-- THE TIED CARD OF 'syllabarylaw10.PackMatchesReference'. -/
def packMatchesReferenceCard : Claim7 := { stood := { row := packMatchesReferenceRow, standIns := [], harness := (true, "4ddee7594d1037a244f1ad77b55c77933f6d592ba67ce6724d373167bcc8ab24"), looks := false }, kinds := [], alts := [], laidByText := true, laidKinds := [.data, .data, .data], laidTests := true, laidLooks := .later }
def PackMatchesReferenceCardSaid : Prop := Claim7.holds Tryd.pinned (.plain (OpenSpec.ofChange packMatchesReferenceSpec)) packMatchesReferenceCard

/-- THE TIED CARD OF 'syllabarylaw10.PackReads'. -/
def packReadsCard : Claim7 := { stood := { row := packReadsRow, standIns := [], harness := (true, "4ddee7594d1037a244f1ad77b55c77933f6d592ba67ce6724d373167bcc8ab24"), looks := false }, kinds := [], alts := [], laidByText := true, laidKinds := [.data, .data, .data], laidTests := true, laidLooks := .later }
def PackReadsCardSaid : Prop := Claim7.holds Tryd.pinned (.plain (OpenSpec.ofChange packReadsSpec)) packReadsCard

/-- THE TIED CARD OF 'syllabarylaw10.PackDamage'. -/
def packDamageCard : Claim7 := { stood := { row := packDamageRow, standIns := [], harness := (true, "4ddee7594d1037a244f1ad77b55c77933f6d592ba67ce6724d373167bcc8ab24"), looks := false }, kinds := [], alts := [], laidByText := true, laidKinds := [.data, .data, .data], laidTests := true, laidLooks := .later }
def PackDamageCardSaid : Prop := Claim7.holds Tryd.pinned (.plain (OpenSpec.ofChange packDamageSpec)) packDamageCard

/-- THE TIED CARD OF 'syllabarylaw10.PackDiffers'. -/
def packDiffersCard : Claim7 := { stood := { row := packDiffersRow, standIns := [], harness := (true, "4ddee7594d1037a244f1ad77b55c77933f6d592ba67ce6724d373167bcc8ab24"), looks := false }, kinds := [], alts := [], laidByText := true, laidKinds := [.data, .data, .data], laidTests := true, laidLooks := .later }
def PackDiffersCardSaid : Prop := Claim7.holds Tryd.pinned (.plain (OpenSpec.ofChange packDiffersSpec)) packDiffersCard

/-- THE TIED CARD OF 'syllabarylaw10.PackSizes'. -/
def packSizesCard : Claim7 := { stood := { row := packSizesRow, standIns := [], harness := (true, "4ddee7594d1037a244f1ad77b55c77933f6d592ba67ce6724d373167bcc8ab24"), looks := false }, kinds := [], alts := [], laidByText := true, laidKinds := [.data, .data, .data], laidTests := true, laidLooks := .later }
def PackSizesCardSaid : Prop := Claim7.holds Tryd.pinned (.plain (OpenSpec.ofChange packSizesSpec)) packSizesCard

/-- THE TIED CARD OF 'syllabarylaw10.PackRejects'. -/
def packRejectsCard : Claim7 := { stood := { row := packRejectsRow, standIns := [], harness := (true, "4ddee7594d1037a244f1ad77b55c77933f6d592ba67ce6724d373167bcc8ab24"), looks := false }, kinds := [], alts := [], laidByText := true, laidKinds := [.data, .data, .data], laidTests := true, laidLooks := .later }
def PackRejectsCardSaid : Prop := Claim7.holds Tryd.pinned (.plain (OpenSpec.ofChange packRejectsSpec)) packRejectsCard

/-- THE TIED CARD OF 'syllabarylaw10.PackWords'. -/
def packWordsCard : Claim7 := { stood := { row := packWordsRow, standIns := [], harness := (true, "4ddee7594d1037a244f1ad77b55c77933f6d592ba67ce6724d373167bcc8ab24"), looks := false }, kinds := [], alts := [], laidByText := true, laidKinds := [.data, .data, .data], laidTests := true, laidLooks := .later }
def PackWordsCardSaid : Prop := Claim7.holds Tryd.pinned (.plain (OpenSpec.ofChange packWordsSpec)) packWordsCard

/-- THE SECOND FORM's CARD OF 'syllabarylaw10.PackMatchesReference'. -/
def packMatchesReferenceUptoCard : Claim7 := { stood := { row := packMatchesReferenceUptoRow, standIns := [], harness := (true, "4ddee7594d1037a244f1ad77b55c77933f6d592ba67ce6724d373167bcc8ab24"), looks := false }, kinds := [], alts := [], laidByText := true, laidKinds := [.data, .data, .data], laidTests := true, laidLooks := .later }
def PackMatchesReferenceUptoCardSaid : Prop := Claim7.holds Tryd.pinned (.plain (OpenSpec.upto packMatchesReferenceSpec)) packMatchesReferenceUptoCard

/-- THE SECOND FORM's CARD OF 'syllabarylaw10.PackReads'. -/
def packReadsUptoCard : Claim7 := { stood := { row := packReadsUptoRow, standIns := [], harness := (true, "4ddee7594d1037a244f1ad77b55c77933f6d592ba67ce6724d373167bcc8ab24"), looks := false }, kinds := [], alts := [], laidByText := true, laidKinds := [.data, .data, .data], laidTests := true, laidLooks := .later }
def PackReadsUptoCardSaid : Prop := Claim7.holds Tryd.pinned (.plain (OpenSpec.upto packReadsSpec)) packReadsUptoCard

/-- THE SECOND FORM's CARD OF 'syllabarylaw10.PackDamage'. -/
def packDamageUptoCard : Claim7 := { stood := { row := packDamageUptoRow, standIns := [], harness := (true, "4ddee7594d1037a244f1ad77b55c77933f6d592ba67ce6724d373167bcc8ab24"), looks := false }, kinds := [], alts := [], laidByText := true, laidKinds := [.data, .data, .data], laidTests := true, laidLooks := .later }
def PackDamageUptoCardSaid : Prop := Claim7.holds Tryd.pinned (.plain (OpenSpec.upto packDamageSpec)) packDamageUptoCard

/-- THE SECOND FORM's CARD OF 'syllabarylaw10.PackDiffers'. -/
def packDiffersUptoCard : Claim7 := { stood := { row := packDiffersUptoRow, standIns := [], harness := (true, "4ddee7594d1037a244f1ad77b55c77933f6d592ba67ce6724d373167bcc8ab24"), looks := false }, kinds := [], alts := [], laidByText := true, laidKinds := [.data, .data, .data], laidTests := true, laidLooks := .later }
def PackDiffersUptoCardSaid : Prop := Claim7.holds Tryd.pinned (.plain (OpenSpec.upto packDiffersSpec)) packDiffersUptoCard

/-- THE SECOND FORM's CARD OF 'syllabarylaw10.PackSizes'. -/
def packSizesUptoCard : Claim7 := { stood := { row := packSizesUptoRow, standIns := [], harness := (true, "4ddee7594d1037a244f1ad77b55c77933f6d592ba67ce6724d373167bcc8ab24"), looks := false }, kinds := [], alts := [], laidByText := true, laidKinds := [.data, .data, .data], laidTests := true, laidLooks := .later }
def PackSizesUptoCardSaid : Prop := Claim7.holds Tryd.pinned (.plain (OpenSpec.upto packSizesSpec)) packSizesUptoCard

/-- THE SECOND FORM's CARD OF 'syllabarylaw10.PackRejects'. -/
def packRejectsUptoCard : Claim7 := { stood := { row := packRejectsUptoRow, standIns := [], harness := (true, "4ddee7594d1037a244f1ad77b55c77933f6d592ba67ce6724d373167bcc8ab24"), looks := false }, kinds := [], alts := [], laidByText := true, laidKinds := [.data, .data, .data], laidTests := true, laidLooks := .later }
def PackRejectsUptoCardSaid : Prop := Claim7.holds Tryd.pinned (.plain (OpenSpec.upto packRejectsSpec)) packRejectsUptoCard

/-- THE SECOND FORM's CARD OF 'syllabarylaw10.PackWords'. -/
def packWordsUptoCard : Claim7 := { stood := { row := packWordsUptoRow, standIns := [], harness := (true, "4ddee7594d1037a244f1ad77b55c77933f6d592ba67ce6724d373167bcc8ab24"), looks := false }, kinds := [], alts := [], laidByText := true, laidKinds := [.data, .data, .data], laidTests := true, laidLooks := .later }
def PackWordsUptoCardSaid : Prop := Claim7.holds Tryd.pinned (.plain (OpenSpec.upto packWordsSpec)) packWordsUptoCard
end Rows
end Go.Proofs.YtocdljmdmiphnaaDoor
