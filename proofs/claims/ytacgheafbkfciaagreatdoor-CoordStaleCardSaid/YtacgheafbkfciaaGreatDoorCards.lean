/-
  DERIVED. GIVEN WITH THE SEED: THE CARDS: each row of YtacgheafbkfciaaGreatDoorRows.lean that lists a variable, with what it lists TIED to the program's text (the seventh form; the later family's looks); each row that meets fmt, with fmt's text TOLD by the authors' own Lean function (tested against real Go, not proved from fmt's source: count such statements apart). THE CARD IS WHAT COUNTS. Prove the row's statement (the work); the ties are given (YtacgheafbkfciaaGreatDoorTie.lean); close each card by the builder's one call (the guide's Derived/Test/ToyasCard.lean, 'card_holds'). Laid BY PROGRAM, IN A SANDBOX (cutbox-door.mjs). By AI agents, Wed Nov 11 2026. No macro, syntax, notation, axiom, sorry.
-/
import Derived.Test.YtacgheafbkfciaaGreatDoorRows
import GoSem.ClaimSeven
namespace Go.Proofs.YtacgheafbkfciaaGreatDoor
namespace Rows

/-- THE TIED CARD OF 'isobarlaw21.CoordFull'. -/
def coordFullCard : Claim7 := { stood := { row := coordFullRow, standIns := [], harness := (true, "2a5c7e5f3b750eb576d77ceb39ddbca393adcc0aca4bd66b40c34330f929cff8"), looks := true }, kinds := [], alts := [], laidByText := true, laidKinds := [.handle], laidTests := true, laidLooks := .later }
def CoordFullCardSaid : Prop := Claim7.holds Tryz.pinned (.plain (OpenSpec.ofChange coordFullSpec)) coordFullCard

/-- THE TIED CARD OF 'isobarlaw21.CoordStale'. -/
def coordStaleCard : Claim7 := { stood := { row := coordStaleRow, standIns := [], harness := (true, "2a5c7e5f3b750eb576d77ceb39ddbca393adcc0aca4bd66b40c34330f929cff8"), looks := true }, kinds := [], alts := [], laidByText := true, laidKinds := [.handle], laidTests := true, laidLooks := .later }
def CoordStaleCardSaid : Prop := Claim7.holds Tryz.pinned (.plain (OpenSpec.ofChange coordStaleSpec)) coordStaleCard

/-- THE TIED CARD OF 'isobarlaw21.CoordPlays'. -/
def coordPlaysCard : Claim7 := { stood := { row := coordPlaysRow, standIns := [], harness := (true, "2a5c7e5f3b750eb576d77ceb39ddbca393adcc0aca4bd66b40c34330f929cff8"), looks := true }, kinds := [], alts := [], laidByText := true, laidKinds := [.handle], laidTests := true, laidLooks := .later }
def CoordPlaysCardSaid : Prop := Claim7.holds Tryz.pinned (.plain (OpenSpec.ofChange coordPlaysSpec)) coordPlaysCard

/-- THE SECOND FORM's CARD OF 'isobarlaw21.CoordFull'. -/
def coordFullUptoCard : Claim7 := { stood := { row := coordFullUptoRow, standIns := [], harness := (true, "2a5c7e5f3b750eb576d77ceb39ddbca393adcc0aca4bd66b40c34330f929cff8"), looks := true }, kinds := [], alts := [], laidByText := true, laidKinds := [.handle], laidTests := true, laidLooks := .later }
def CoordFullUptoCardSaid : Prop := Claim7.holds Tryz.pinned (.plain (OpenSpec.upto coordFullSpec)) coordFullUptoCard

/-- THE SECOND FORM's CARD OF 'isobarlaw21.CoordStale'. -/
def coordStaleUptoCard : Claim7 := { stood := { row := coordStaleUptoRow, standIns := [], harness := (true, "2a5c7e5f3b750eb576d77ceb39ddbca393adcc0aca4bd66b40c34330f929cff8"), looks := true }, kinds := [], alts := [], laidByText := true, laidKinds := [.handle], laidTests := true, laidLooks := .later }
def CoordStaleUptoCardSaid : Prop := Claim7.holds Tryz.pinned (.plain (OpenSpec.upto coordStaleSpec)) coordStaleUptoCard

/-- THE SECOND FORM's CARD OF 'isobarlaw21.CoordPlays'. -/
def coordPlaysUptoCard : Claim7 := { stood := { row := coordPlaysUptoRow, standIns := [], harness := (true, "2a5c7e5f3b750eb576d77ceb39ddbca393adcc0aca4bd66b40c34330f929cff8"), looks := true }, kinds := [], alts := [], laidByText := true, laidKinds := [.handle], laidTests := true, laidLooks := .later }
def CoordPlaysUptoCardSaid : Prop := Claim7.holds Tryz.pinned (.plain (OpenSpec.upto coordPlaysSpec)) coordPlaysUptoCard
end Rows
end Go.Proofs.YtacgheafbkfciaaGreatDoor
