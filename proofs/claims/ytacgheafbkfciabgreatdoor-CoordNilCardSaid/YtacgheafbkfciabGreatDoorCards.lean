/-
  DERIVED. GIVEN WITH THE SEED: THE CARDS: each row of YtacgheafbkfciabGreatDoorRows.lean that lists a variable, with what it lists TIED to the program's text (the seventh form; the later family's looks); each row that meets fmt, with fmt's text TOLD by the authors' own Lean function (tested against real Go, not proved from fmt's source: count such statements apart). THE CARD IS WHAT COUNTS. Prove the row's statement (the work); the ties are given (YtacgheafbkfciabGreatDoorTie.lean); close each card by the builder's one call (the guide's Derived/Test/ToyasCard.lean, 'card_holds'). Laid BY PROGRAM, IN A SANDBOX (cutbox-door.mjs). By AI agents, Wed Nov 11 2026. No macro, syntax, notation, axiom, sorry.
-/
import Derived.Test.YtacgheafbkfciabGreatDoorRows
import GoSem.ClaimSeven
namespace Go.Proofs.YtacgheafbkfciabGreatDoor
namespace Rows

/-- THE TIED CARD OF 'isobarlaw21.CoordNil'. -/
def coordNilCard : Claim7 := { stood := { row := coordNilRow, standIns := [], harness := (true, "353fe46c432135bf0a6e9d6497bc317e4cae046244d1f3cca8aeb347269f3a11"), looks := true }, kinds := [], alts := [], laidByText := true, laidKinds := [.handle], laidTests := true, laidLooks := .later }
def CoordNilCardSaid : Prop := Claim7.holds Tryz.pinned (.plain (OpenSpec.ofChange coordNilSpec)) coordNilCard

/-- THE SECOND FORM's CARD OF 'isobarlaw21.CoordNil'. -/
def coordNilUptoCard : Claim7 := { stood := { row := coordNilUptoRow, standIns := [], harness := (true, "353fe46c432135bf0a6e9d6497bc317e4cae046244d1f3cca8aeb347269f3a11"), looks := true }, kinds := [], alts := [], laidByText := true, laidKinds := [.handle], laidTests := true, laidLooks := .later }
def CoordNilUptoCardSaid : Prop := Claim7.holds Tryz.pinned (.plain (OpenSpec.upto coordNilSpec)) coordNilUptoCard
end Rows
end Go.Proofs.YtacgheafbkfciabGreatDoor
