/-
  DERIVED. GIVEN WITH THE SEED: THE CARDS: each row of YtemdlfbcnnoglaaDoorRows.lean that lists a variable, with what it lists TIED to the program's text (the seventh form; the later family's looks); each row that meets fmt, with fmt's text TOLD by the authors' own Lean function (tested against real Go, not proved from fmt's source: count such statements apart). THE CARD IS WHAT COUNTS. Prove the row's statement (the work); the ties are given (YtemdlfbcnnoglaaDoorTie.lean); close each card by the builder's one call (the guide's Derived/Test/ToyasCard.lean, 'card_holds'). Laid BY PROGRAM, IN A SANDBOX (cutbox-door.mjs). By AI agents, Wed Nov 11 2026. No macro, syntax, notation, axiom, sorry.
-/
import Derived.Test.YtemdlfbcnnoglaaDoorRows
import GoSem.ClaimSeven
namespace Go.Proofs.YtemdlfbcnnoglaaDoor
namespace Rows

/-- THE TIED CARD OF 'syllabarylaw09.DawgMatchesReference'. -/
def dawgMatchesReferenceCard : Claim7 := { stood := { row := dawgMatchesReferenceRow, standIns := [], harness := (true, "afe1ddd4cf68e8df0a55100ece7b252a6a4977b3ac51ce65cfc812bba24ba759"), looks := false }, kinds := [], alts := [], laidByText := true, laidKinds := [.data, .data, .data], laidTests := true, laidLooks := .later }
def DawgMatchesReferenceCardSaid : Prop := Claim7.holds Tryd.pinned (.plain (OpenSpec.ofChange dawgMatchesReferenceSpec)) dawgMatchesReferenceCard

/-- THE TIED CARD OF 'syllabarylaw09.DawgWords'. -/
def dawgWordsCard : Claim7 := { stood := { row := dawgWordsRow, standIns := [], harness := (true, "afe1ddd4cf68e8df0a55100ece7b252a6a4977b3ac51ce65cfc812bba24ba759"), looks := false }, kinds := [], alts := [], laidByText := true, laidKinds := [.data, .data, .data], laidTests := true, laidLooks := .later }
def DawgWordsCardSaid : Prop := Claim7.holds Tryd.pinned (.plain (OpenSpec.ofChange dawgWordsSpec)) dawgWordsCard

/-- THE TIED CARD OF 'syllabarylaw09.DawgMinimal'. -/
def dawgMinimalCard : Claim7 := { stood := { row := dawgMinimalRow, standIns := [], harness := (true, "afe1ddd4cf68e8df0a55100ece7b252a6a4977b3ac51ce65cfc812bba24ba759"), looks := false }, kinds := [], alts := [], laidByText := true, laidKinds := [.data, .data, .data], laidTests := true, laidLooks := .later }
def DawgMinimalCardSaid : Prop := Claim7.holds Tryd.pinned (.plain (OpenSpec.ofChange dawgMinimalSpec)) dawgMinimalCard

/-- THE TIED CARD OF 'syllabarylaw09.DawgPlaces'. -/
def dawgPlacesCard : Claim7 := { stood := { row := dawgPlacesRow, standIns := [], harness := (true, "afe1ddd4cf68e8df0a55100ece7b252a6a4977b3ac51ce65cfc812bba24ba759"), looks := false }, kinds := [], alts := [], laidByText := true, laidKinds := [.data, .data, .data], laidTests := true, laidLooks := .later }
def DawgPlacesCardSaid : Prop := Claim7.holds Tryd.pinned (.plain (OpenSpec.ofChange dawgPlacesSpec)) dawgPlacesCard

/-- THE TIED CARD OF 'syllabarylaw09.DawgBeginnings'. -/
def dawgBeginningsCard : Claim7 := { stood := { row := dawgBeginningsRow, standIns := [], harness := (true, "afe1ddd4cf68e8df0a55100ece7b252a6a4977b3ac51ce65cfc812bba24ba759"), looks := false }, kinds := [], alts := [], laidByText := true, laidKinds := [.data, .data, .data], laidTests := true, laidLooks := .later }
def DawgBeginningsCardSaid : Prop := Claim7.holds Tryd.pinned (.plain (OpenSpec.ofChange dawgBeginningsSpec)) dawgBeginningsCard

/-- THE TIED CARD OF 'syllabarylaw09.DawgRefuses'. -/
def dawgRefusesCard : Claim7 := { stood := { row := dawgRefusesRow, standIns := [], harness := (true, "afe1ddd4cf68e8df0a55100ece7b252a6a4977b3ac51ce65cfc812bba24ba759"), looks := false }, kinds := [], alts := [], laidByText := true, laidKinds := [.data, .data, .data], laidTests := true, laidLooks := .later }
def DawgRefusesCardSaid : Prop := Claim7.holds Tryd.pinned (.plain (OpenSpec.ofChange dawgRefusesSpec)) dawgRefusesCard

/-- THE TIED CARD OF 'syllabarylaw09.DawgSpoilt'. -/
def dawgSpoiltCard : Claim7 := { stood := { row := dawgSpoiltRow, standIns := [], harness := (true, "afe1ddd4cf68e8df0a55100ece7b252a6a4977b3ac51ce65cfc812bba24ba759"), looks := false }, kinds := [], alts := [], laidByText := true, laidKinds := [.data, .data, .data], laidTests := true, laidLooks := .later }
def DawgSpoiltCardSaid : Prop := Claim7.holds Tryd.pinned (.plain (OpenSpec.ofChange dawgSpoiltSpec)) dawgSpoiltCard

/-- THE TIED CARD OF 'syllabarylaw09.DawgChanges'. -/
def dawgChangesCard : Claim7 := { stood := { row := dawgChangesRow, standIns := [], harness := (true, "afe1ddd4cf68e8df0a55100ece7b252a6a4977b3ac51ce65cfc812bba24ba759"), looks := false }, kinds := [], alts := [], laidByText := true, laidKinds := [.data, .data, .data], laidTests := true, laidLooks := .later }
def DawgChangesCardSaid : Prop := Claim7.holds Tryd.pinned (.plain (OpenSpec.ofChange dawgChangesSpec)) dawgChangesCard

/-- THE SECOND FORM's CARD OF 'syllabarylaw09.DawgMatchesReference'. -/
def dawgMatchesReferenceUptoCard : Claim7 := { stood := { row := dawgMatchesReferenceUptoRow, standIns := [], harness := (true, "afe1ddd4cf68e8df0a55100ece7b252a6a4977b3ac51ce65cfc812bba24ba759"), looks := false }, kinds := [], alts := [], laidByText := true, laidKinds := [.data, .data, .data], laidTests := true, laidLooks := .later }
def DawgMatchesReferenceUptoCardSaid : Prop := Claim7.holds Tryd.pinned (.plain (OpenSpec.upto dawgMatchesReferenceSpec)) dawgMatchesReferenceUptoCard

/-- THE SECOND FORM's CARD OF 'syllabarylaw09.DawgWords'. -/
def dawgWordsUptoCard : Claim7 := { stood := { row := dawgWordsUptoRow, standIns := [], harness := (true, "afe1ddd4cf68e8df0a55100ece7b252a6a4977b3ac51ce65cfc812bba24ba759"), looks := false }, kinds := [], alts := [], laidByText := true, laidKinds := [.data, .data, .data], laidTests := true, laidLooks := .later }
def DawgWordsUptoCardSaid : Prop := Claim7.holds Tryd.pinned (.plain (OpenSpec.upto dawgWordsSpec)) dawgWordsUptoCard

/-- THE SECOND FORM's CARD OF 'syllabarylaw09.DawgMinimal'. -/
def dawgMinimalUptoCard : Claim7 := { stood := { row := dawgMinimalUptoRow, standIns := [], harness := (true, "afe1ddd4cf68e8df0a55100ece7b252a6a4977b3ac51ce65cfc812bba24ba759"), looks := false }, kinds := [], alts := [], laidByText := true, laidKinds := [.data, .data, .data], laidTests := true, laidLooks := .later }
def DawgMinimalUptoCardSaid : Prop := Claim7.holds Tryd.pinned (.plain (OpenSpec.upto dawgMinimalSpec)) dawgMinimalUptoCard

/-- THE SECOND FORM's CARD OF 'syllabarylaw09.DawgPlaces'. -/
def dawgPlacesUptoCard : Claim7 := { stood := { row := dawgPlacesUptoRow, standIns := [], harness := (true, "afe1ddd4cf68e8df0a55100ece7b252a6a4977b3ac51ce65cfc812bba24ba759"), looks := false }, kinds := [], alts := [], laidByText := true, laidKinds := [.data, .data, .data], laidTests := true, laidLooks := .later }
def DawgPlacesUptoCardSaid : Prop := Claim7.holds Tryd.pinned (.plain (OpenSpec.upto dawgPlacesSpec)) dawgPlacesUptoCard

/-- THE SECOND FORM's CARD OF 'syllabarylaw09.DawgBeginnings'. -/
def dawgBeginningsUptoCard : Claim7 := { stood := { row := dawgBeginningsUptoRow, standIns := [], harness := (true, "afe1ddd4cf68e8df0a55100ece7b252a6a4977b3ac51ce65cfc812bba24ba759"), looks := false }, kinds := [], alts := [], laidByText := true, laidKinds := [.data, .data, .data], laidTests := true, laidLooks := .later }
def DawgBeginningsUptoCardSaid : Prop := Claim7.holds Tryd.pinned (.plain (OpenSpec.upto dawgBeginningsSpec)) dawgBeginningsUptoCard

/-- THE SECOND FORM's CARD OF 'syllabarylaw09.DawgRefuses'. -/
def dawgRefusesUptoCard : Claim7 := { stood := { row := dawgRefusesUptoRow, standIns := [], harness := (true, "afe1ddd4cf68e8df0a55100ece7b252a6a4977b3ac51ce65cfc812bba24ba759"), looks := false }, kinds := [], alts := [], laidByText := true, laidKinds := [.data, .data, .data], laidTests := true, laidLooks := .later }
def DawgRefusesUptoCardSaid : Prop := Claim7.holds Tryd.pinned (.plain (OpenSpec.upto dawgRefusesSpec)) dawgRefusesUptoCard

/-- THE SECOND FORM's CARD OF 'syllabarylaw09.DawgSpoilt'. -/
def dawgSpoiltUptoCard : Claim7 := { stood := { row := dawgSpoiltUptoRow, standIns := [], harness := (true, "afe1ddd4cf68e8df0a55100ece7b252a6a4977b3ac51ce65cfc812bba24ba759"), looks := false }, kinds := [], alts := [], laidByText := true, laidKinds := [.data, .data, .data], laidTests := true, laidLooks := .later }
def DawgSpoiltUptoCardSaid : Prop := Claim7.holds Tryd.pinned (.plain (OpenSpec.upto dawgSpoiltSpec)) dawgSpoiltUptoCard

/-- THE SECOND FORM's CARD OF 'syllabarylaw09.DawgChanges'. -/
def dawgChangesUptoCard : Claim7 := { stood := { row := dawgChangesUptoRow, standIns := [], harness := (true, "afe1ddd4cf68e8df0a55100ece7b252a6a4977b3ac51ce65cfc812bba24ba759"), looks := false }, kinds := [], alts := [], laidByText := true, laidKinds := [.data, .data, .data], laidTests := true, laidLooks := .later }
def DawgChangesUptoCardSaid : Prop := Claim7.holds Tryd.pinned (.plain (OpenSpec.upto dawgChangesSpec)) dawgChangesUptoCard
end Rows
end Go.Proofs.YtemdlfbcnnoglaaDoor
