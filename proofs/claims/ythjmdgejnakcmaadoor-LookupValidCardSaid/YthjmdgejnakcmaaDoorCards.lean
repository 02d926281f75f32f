/-
  DERIVED. GIVEN WITH THE SEED: THE CARDS: each row of YthjmdgejnakcmaaDoorRows.lean that lists a variable, with what it lists TIED to the program's text (the seventh form; the later family's looks); each row that meets fmt, with fmt's text TOLD by the authors' own Lean function (tested against real Go, not proved from fmt's source: count such statements apart). THE CARD IS WHAT COUNTS. Prove the row's statement (the work); the ties are given (YthjmdgejnakcmaaDoorTie.lean); close each card by the builder's one call (the guide's Derived/Test/ToyasCard.lean, 'card_holds'). Laid BY PROGRAM, IN A SANDBOX (cutbox-door.mjs). By AI agents, Wed Nov 11 2026. No macro, syntax, notation, axiom, sorry.
-/
import Derived.Test.YthjmdgejnakcmaaDoorRows
import GoSem.ClaimSeven
namespace Go.Proofs.YthjmdgejnakcmaaDoor
namespace Rows

/-- THE TIED CARD OF 'syllabarylaw13.LookupValid'. -/
def lookupValidCard : Claim7 := { stood := { row := lookupValidRow, standIns := [], harness := (true, "c278aa8c628c5bdb34dbbe17fd38d807dee00fb73670f483b2eb786f402b293c"), looks := false }, kinds := [], alts := [], laidByText := true, laidKinds := [.data, .data, .data], laidTests := true, laidLooks := .later }
def LookupValidCardSaid : Prop := Claim7.holds Tryd.pinned (.plain (OpenSpec.ofChange lookupValidSpec)) lookupValidCard

/-- THE SECOND FORM's CARD OF 'syllabarylaw13.LookupValid'. -/
def lookupValidUptoCard : Claim7 := { stood := { row := lookupValidUptoRow, standIns := [], harness := (true, "c278aa8c628c5bdb34dbbe17fd38d807dee00fb73670f483b2eb786f402b293c"), looks := false }, kinds := [], alts := [], laidByText := true, laidKinds := [.data, .data, .data], laidTests := true, laidLooks := .later }
def LookupValidUptoCardSaid : Prop := Claim7.holds Tryd.pinned (.plain (OpenSpec.upto lookupValidSpec)) lookupValidUptoCard
end Rows
end Go.Proofs.YthjmdgejnakcmaaDoor
