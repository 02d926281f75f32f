/-
  DERIVED. GIVEN WITH THE SEED: THE CARDS: each row of YthjmdgejnakcmaaGreatDoorRows.lean that lists a variable, with what it lists TIED to the program's text (the seventh form; the later family's looks); each row that meets fmt, with fmt's text TOLD by the authors' own Lean function (tested against real Go, not proved from fmt's source: count such statements apart). THE CARD IS WHAT COUNTS. Prove the row's statement (the work); the ties are given (YthjmdgejnakcmaaGreatDoorTie.lean); close each card by the builder's one call (the guide's Derived/Test/ToyasCard.lean, 'card_holds'). Laid BY PROGRAM, IN A SANDBOX (cutbox-door.mjs). By AI agents, Wed Nov 11 2026. No macro, syntax, notation, axiom, sorry.
-/
import Derived.Test.YthjmdgejnakcmaaGreatDoorRows
import GoSem.ClaimSeven
namespace Go.Proofs.YthjmdgejnakcmaaGreatDoor
namespace Rows

/-- THE TIED CARD OF 'syllabarylaw13.LookupMatchesReference'. -/
def lookupMatchesReferenceCard : Claim7 := { stood := { row := lookupMatchesReferenceRow, standIns := [], harness := (true, "c82497375eb1640e1e7d44ab29da0a277c71e9f615476db987cd64f226c953ee"), looks := false }, kinds := [], alts := [], laidByText := true, laidKinds := [.data, .data, .data], laidTests := true, laidLooks := .later }
def LookupMatchesReferenceCardSaid : Prop := Claim7.holds Tryz.pinned (.plain (OpenSpec.ofChange lookupMatchesReferenceSpec)) lookupMatchesReferenceCard

/-- THE TIED CARD OF 'syllabarylaw13.LookupChoices'. -/
def lookupChoicesCard : Claim7 := { stood := { row := lookupChoicesRow, standIns := [], harness := (true, "c82497375eb1640e1e7d44ab29da0a277c71e9f615476db987cd64f226c953ee"), looks := false }, kinds := [], alts := [], laidByText := true, laidKinds := [.data, .data, .data], laidTests := true, laidLooks := .later }
def LookupChoicesCardSaid : Prop := Claim7.holds Tryz.pinned (.plain (OpenSpec.ofChange lookupChoicesSpec)) lookupChoicesCard

/-- THE TIED CARD OF 'syllabarylaw13.LookupShrinks'. -/
def lookupShrinksCard : Claim7 := { stood := { row := lookupShrinksRow, standIns := [], harness := (true, "c82497375eb1640e1e7d44ab29da0a277c71e9f615476db987cd64f226c953ee"), looks := false }, kinds := [], alts := [], laidByText := true, laidKinds := [.data, .data, .data], laidTests := true, laidLooks := .later }
def LookupShrinksCardSaid : Prop := Claim7.holds Tryz.pinned (.plain (OpenSpec.ofChange lookupShrinksSpec)) lookupShrinksCard

/-- THE TIED CARD OF 'syllabarylaw13.LookupCosts'. -/
def lookupCostsCard : Claim7 := { stood := { row := lookupCostsRow, standIns := [], harness := (true, "c82497375eb1640e1e7d44ab29da0a277c71e9f615476db987cd64f226c953ee"), looks := false }, kinds := [], alts := [], laidByText := true, laidKinds := [.data, .data, .data], laidTests := true, laidLooks := .later }
def LookupCostsCardSaid : Prop := Claim7.holds Tryz.pinned (.plain (OpenSpec.ofChange lookupCostsSpec)) lookupCostsCard

/-- THE TIED CARD OF 'syllabarylaw13.LookupBeginnings'. -/
def lookupBeginningsCard : Claim7 := { stood := { row := lookupBeginningsRow, standIns := [], harness := (true, "c82497375eb1640e1e7d44ab29da0a277c71e9f615476db987cd64f226c953ee"), looks := false }, kinds := [], alts := [], laidByText := true, laidKinds := [.data, .data, .data], laidTests := true, laidLooks := .later }
def LookupBeginningsCardSaid : Prop := Claim7.holds Tryz.pinned (.plain (OpenSpec.ofChange lookupBeginningsSpec)) lookupBeginningsCard

/-- THE TIED CARD OF 'syllabarylaw13.LookupOutputs'. -/
def lookupOutputsCard : Claim7 := { stood := { row := lookupOutputsRow, standIns := [], harness := (true, "c82497375eb1640e1e7d44ab29da0a277c71e9f615476db987cd64f226c953ee"), looks := false }, kinds := [], alts := [], laidByText := true, laidKinds := [.data, .data, .data], laidTests := true, laidLooks := .later }
def LookupOutputsCardSaid : Prop := Claim7.holds Tryz.pinned (.plain (OpenSpec.ofChange lookupOutputsSpec)) lookupOutputsCard

/-- THE SECOND FORM's CARD OF 'syllabarylaw13.LookupMatchesReference'. -/
def lookupMatchesReferenceUptoCard : Claim7 := { stood := { row := lookupMatchesReferenceUptoRow, standIns := [], harness := (true, "c82497375eb1640e1e7d44ab29da0a277c71e9f615476db987cd64f226c953ee"), looks := false }, kinds := [], alts := [], laidByText := true, laidKinds := [.data, .data, .data], laidTests := true, laidLooks := .later }
def LookupMatchesReferenceUptoCardSaid : Prop := Claim7.holds Tryz.pinned (.plain (OpenSpec.upto lookupMatchesReferenceSpec)) lookupMatchesReferenceUptoCard

/-- THE SECOND FORM's CARD OF 'syllabarylaw13.LookupChoices'. -/
def lookupChoicesUptoCard : Claim7 := { stood := { row := lookupChoicesUptoRow, standIns := [], harness := (true, "c82497375eb1640e1e7d44ab29da0a277c71e9f615476db987cd64f226c953ee"), looks := false }, kinds := [], alts := [], laidByText := true, laidKinds := [.data, .data, .data], laidTests := true, laidLooks := .later }
def LookupChoicesUptoCardSaid : Prop := Claim7.holds Tryz.pinned (.plain (OpenSpec.upto lookupChoicesSpec)) lookupChoicesUptoCard

/-- THE SECOND FORM's CARD OF 'syllabarylaw13.LookupShrinks'. -/
def lookupShrinksUptoCard : Claim7 := { stood := { row := lookupShrinksUptoRow, standIns := [], harness := (true, "c82497375eb1640e1e7d44ab29da0a277c71e9f615476db987cd64f226c953ee"), looks := false }, kinds := [], alts := [], laidByText := true, laidKinds := [.data, .data, .data], laidTests := true, laidLooks := .later }
def LookupShrinksUptoCardSaid : Prop := Claim7.holds Tryz.pinned (.plain (OpenSpec.upto lookupShrinksSpec)) lookupShrinksUptoCard

/-- THE SECOND FORM's CARD OF 'syllabarylaw13.LookupCosts'. -/
def lookupCostsUptoCard : Claim7 := { stood := { row := lookupCostsUptoRow, standIns := [], harness := (true, "c82497375eb1640e1e7d44ab29da0a277c71e9f615476db987cd64f226c953ee"), looks := false }, kinds := [], alts := [], laidByText := true, laidKinds := [.data, .data, .data], laidTests := true, laidLooks := .later }
def LookupCostsUptoCardSaid : Prop := Claim7.holds Tryz.pinned (.plain (OpenSpec.upto lookupCostsSpec)) lookupCostsUptoCard

/-- THE SECOND FORM's CARD OF 'syllabarylaw13.LookupBeginnings'. -/
def lookupBeginningsUptoCard : Claim7 := { stood := { row := lookupBeginningsUptoRow, standIns := [], harness := (true, "c82497375eb1640e1e7d44ab29da0a277c71e9f615476db987cd64f226c953ee"), looks := false }, kinds := [], alts := [], laidByText := true, laidKinds := [.data, .data, .data], laidTests := true, laidLooks := .later }
def LookupBeginningsUptoCardSaid : Prop := Claim7.holds Tryz.pinned (.plain (OpenSpec.upto lookupBeginningsSpec)) lookupBeginningsUptoCard

/-- THE SECOND FORM's CARD OF 'syllabarylaw13.LookupOutputs'. -/
def lookupOutputsUptoCard : Claim7 := { stood := { row := lookupOutputsUptoRow, standIns := [], harness := (true, "c82497375eb1640e1e7d44ab29da0a277c71e9f615476db987cd64f226c953ee"), looks := false }, kinds := [], alts := [], laidByText := true, laidKinds := [.data, .data, .data], laidTests := true, laidLooks := .later }
def LookupOutputsUptoCardSaid : Prop := Claim7.holds Tryz.pinned (.plain (OpenSpec.upto lookupOutputsSpec)) lookupOutputsUptoCard
end Rows
end Go.Proofs.YthjmdgejnakcmaaGreatDoor
