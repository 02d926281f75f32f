/-
  DERIVED. GIVEN WITH THE SEED: THE CARDS: each row of YtpljngaejaehcaaGreatDoorRows.lean that lists a variable, with what it lists TIED to the program's text (the seventh form; the later family's looks); each row that meets fmt, with fmt's text TOLD by the authors' own Lean function (tested against real Go, not proved from fmt's source: count such statements apart). THE CARD IS WHAT COUNTS. Prove the row's statement (the work); the ties are given (YtpljngaejaehcaaGreatDoorTie.lean); close each card by the builder's one call (the guide's Derived/Test/ToyasCard.lean, 'card_holds'). Laid BY PROGRAM, IN A SANDBOX (cutbox-door.mjs). By AI agents, Wed Nov 11 2026. No macro, syntax, notation, axiom, sorry.
-/
import Derived.Test.YtpljngaejaehcaaGreatDoorRows
import GoSem.ClaimSeven
namespace Go.Proofs.YtpljngaejaehcaaGreatDoor
namespace Rows

/-- THE TIED CARD OF 'syllabarylaw14.LatticeMatchesReference'. -/
def latticeMatchesReferenceCard : Claim7 := { stood := { row := latticeMatchesReferenceRow, standIns := [], harness := (true, "fb9ff4c962946eb68a977ffd801e16e1c0ba2e7f2ee33bfc4a8744b5bc34aca5"), looks := false }, kinds := [], alts := [], laidByText := true, laidKinds := [.data, .data, .data], laidTests := true, laidLooks := .later }
def LatticeMatchesReferenceCardSaid : Prop := Claim7.holds Tryz.pinned (.plain (OpenSpec.ofChange latticeMatchesReferenceSpec)) latticeMatchesReferenceCard

/-- THE TIED CARD OF 'syllabarylaw14.LatticeValid'. -/
def latticeValidCard : Claim7 := { stood := { row := latticeValidRow, standIns := [], harness := (true, "fb9ff4c962946eb68a977ffd801e16e1c0ba2e7f2ee33bfc4a8744b5bc34aca5"), looks := false }, kinds := [], alts := [], laidByText := true, laidKinds := [.data, .data, .data], laidTests := true, laidLooks := .later }
def LatticeValidCardSaid : Prop := Claim7.holds Tryz.pinned (.plain (OpenSpec.ofChange latticeValidSpec)) latticeValidCard

/-- THE TIED CARD OF 'syllabarylaw14.LatticeEdges'. -/
def latticeEdgesCard : Claim7 := { stood := { row := latticeEdgesRow, standIns := [], harness := (true, "fb9ff4c962946eb68a977ffd801e16e1c0ba2e7f2ee33bfc4a8744b5bc34aca5"), looks := false }, kinds := [], alts := [], laidByText := true, laidKinds := [.data, .data, .data], laidTests := true, laidLooks := .later }
def LatticeEdgesCardSaid : Prop := Claim7.holds Tryz.pinned (.plain (OpenSpec.ofChange latticeEdgesSpec)) latticeEdgesCard

/-- THE TIED CARD OF 'syllabarylaw14.LatticeParts'. -/
def latticePartsCard : Claim7 := { stood := { row := latticePartsRow, standIns := [], harness := (true, "fb9ff4c962946eb68a977ffd801e16e1c0ba2e7f2ee33bfc4a8744b5bc34aca5"), looks := false }, kinds := [], alts := [], laidByText := true, laidKinds := [.data, .data, .data], laidTests := true, laidLooks := .later }
def LatticePartsCardSaid : Prop := Claim7.holds Tryz.pinned (.plain (OpenSpec.ofChange latticePartsSpec)) latticePartsCard

/-- THE TIED CARD OF 'syllabarylaw14.LatticeChoices'. -/
def latticeChoicesCard : Claim7 := { stood := { row := latticeChoicesRow, standIns := [], harness := (true, "fb9ff4c962946eb68a977ffd801e16e1c0ba2e7f2ee33bfc4a8744b5bc34aca5"), looks := false }, kinds := [], alts := [], laidByText := true, laidKinds := [.data, .data, .data], laidTests := true, laidLooks := .later }
def LatticeChoicesCardSaid : Prop := Claim7.holds Tryz.pinned (.plain (OpenSpec.ofChange latticeChoicesSpec)) latticeChoicesCard

/-- THE TIED CARD OF 'syllabarylaw14.LatticeWords'. -/
def latticeWordsCard : Claim7 := { stood := { row := latticeWordsRow, standIns := [], harness := (true, "fb9ff4c962946eb68a977ffd801e16e1c0ba2e7f2ee33bfc4a8744b5bc34aca5"), looks := false }, kinds := [], alts := [], laidByText := true, laidKinds := [.data, .data, .data], laidTests := true, laidLooks := .later }
def LatticeWordsCardSaid : Prop := Claim7.holds Tryz.pinned (.plain (OpenSpec.ofChange latticeWordsSpec)) latticeWordsCard

/-- THE TIED CARD OF 'syllabarylaw14.LatticeWays'. -/
def latticeWaysCard : Claim7 := { stood := { row := latticeWaysRow, standIns := [], harness := (true, "fb9ff4c962946eb68a977ffd801e16e1c0ba2e7f2ee33bfc4a8744b5bc34aca5"), looks := false }, kinds := [], alts := [], laidByText := true, laidKinds := [.data, .data, .data], laidTests := true, laidLooks := .later }
def LatticeWaysCardSaid : Prop := Claim7.holds Tryz.pinned (.plain (OpenSpec.ofChange latticeWaysSpec)) latticeWaysCard

/-- THE SECOND FORM's CARD OF 'syllabarylaw14.LatticeMatchesReference'. -/
def latticeMatchesReferenceUptoCard : Claim7 := { stood := { row := latticeMatchesReferenceUptoRow, standIns := [], harness := (true, "fb9ff4c962946eb68a977ffd801e16e1c0ba2e7f2ee33bfc4a8744b5bc34aca5"), looks := false }, kinds := [], alts := [], laidByText := true, laidKinds := [.data, .data, .data], laidTests := true, laidLooks := .later }
def LatticeMatchesReferenceUptoCardSaid : Prop := Claim7.holds Tryz.pinned (.plain (OpenSpec.upto latticeMatchesReferenceSpec)) latticeMatchesReferenceUptoCard

/-- THE SECOND FORM's CARD OF 'syllabarylaw14.LatticeValid'. -/
def latticeValidUptoCard : Claim7 := { stood := { row := latticeValidUptoRow, standIns := [], harness := (true, "fb9ff4c962946eb68a977ffd801e16e1c0ba2e7f2ee33bfc4a8744b5bc34aca5"), looks := false }, kinds := [], alts := [], laidByText := true, laidKinds := [.data, .data, .data], laidTests := true, laidLooks := .later }
def LatticeValidUptoCardSaid : Prop := Claim7.holds Tryz.pinned (.plain (OpenSpec.upto latticeValidSpec)) latticeValidUptoCard

/-- THE SECOND FORM's CARD OF 'syllabarylaw14.LatticeEdges'. -/
def latticeEdgesUptoCard : Claim7 := { stood := { row := latticeEdgesUptoRow, standIns := [], harness := (true, "fb9ff4c962946eb68a977ffd801e16e1c0ba2e7f2ee33bfc4a8744b5bc34aca5"), looks := false }, kinds := [], alts := [], laidByText := true, laidKinds := [.data, .data, .data], laidTests := true, laidLooks := .later }
def LatticeEdgesUptoCardSaid : Prop := Claim7.holds Tryz.pinned (.plain (OpenSpec.upto latticeEdgesSpec)) latticeEdgesUptoCard

/-- THE SECOND FORM's CARD OF 'syllabarylaw14.LatticeParts'. -/
def latticePartsUptoCard : Claim7 := { stood := { row := latticePartsUptoRow, standIns := [], harness := (true, "fb9ff4c962946eb68a977ffd801e16e1c0ba2e7f2ee33bfc4a8744b5bc34aca5"), looks := false }, kinds := [], alts := [], laidByText := true, laidKinds := [.data, .data, .data], laidTests := true, laidLooks := .later }
def LatticePartsUptoCardSaid : Prop := Claim7.holds Tryz.pinned (.plain (OpenSpec.upto latticePartsSpec)) latticePartsUptoCard

/-- THE SECOND FORM's CARD OF 'syllabarylaw14.LatticeChoices'. -/
def latticeChoicesUptoCard : Claim7 := { stood := { row := latticeChoicesUptoRow, standIns := [], harness := (true, "fb9ff4c962946eb68a977ffd801e16e1c0ba2e7f2ee33bfc4a8744b5bc34aca5"), looks := false }, kinds := [], alts := [], laidByText := true, laidKinds := [.data, .data, .data], laidTests := true, laidLooks := .later }
def LatticeChoicesUptoCardSaid : Prop := Claim7.holds Tryz.pinned (.plain (OpenSpec.upto latticeChoicesSpec)) latticeChoicesUptoCard

/-- THE SECOND FORM's CARD OF 'syllabarylaw14.LatticeWords'. -/
def latticeWordsUptoCard : Claim7 := { stood := { row := latticeWordsUptoRow, standIns := [], harness := (true, "fb9ff4c962946eb68a977ffd801e16e1c0ba2e7f2ee33bfc4a8744b5bc34aca5"), looks := false }, kinds := [], alts := [], laidByText := true, laidKinds := [.data, .data, .data], laidTests := true, laidLooks := .later }
def LatticeWordsUptoCardSaid : Prop := Claim7.holds Tryz.pinned (.plain (OpenSpec.upto latticeWordsSpec)) latticeWordsUptoCard

/-- THE SECOND FORM's CARD OF 'syllabarylaw14.LatticeWays'. -/
def latticeWaysUptoCard : Claim7 := { stood := { row := latticeWaysUptoRow, standIns := [], harness := (true, "fb9ff4c962946eb68a977ffd801e16e1c0ba2e7f2ee33bfc4a8744b5bc34aca5"), looks := false }, kinds := [], alts := [], laidByText := true, laidKinds := [.data, .data, .data], laidTests := true, laidLooks := .later }
def LatticeWaysUptoCardSaid : Prop := Claim7.holds Tryz.pinned (.plain (OpenSpec.upto latticeWaysSpec)) latticeWaysUptoCard
end Rows
end Go.Proofs.YtpljngaejaehcaaGreatDoor
