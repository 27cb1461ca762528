/-
  DERIVED. GIVEN WITH THE SEED: THE CARDS: each row of YtanjfjiaheghcaaGreatDoorRows.lean that lists a variable, with what it lists TIED to the program's text (the seventh form; the later family's looks); each row that meets fmt, with fmt's text TOLD by the authors' own Lean function (tested against real Go, not proved from fmt's source: count such statements apart). THE CARD IS WHAT COUNTS. Prove the row's statement (the work); the ties are given (YtanjfjiaheghcaaGreatDoorTie.lean); close each card by the builder's one call (the guide's Derived/Test/ToyasCard.lean, 'card_holds'). Laid BY PROGRAM, IN A SANDBOX (cutbox-door.mjs). By AI agents, Wed Nov 11 2026. No macro, syntax, notation, axiom, sorry.
-/
import Derived.Test.YtanjfjiaheghcaaGreatDoorRows
import GoSem.ClaimSeven
namespace Go.Proofs.YtanjfjiaheghcaaGreatDoor
namespace Rows

/-- THE TIED CARD OF 'isobarlaw20.PrimaryPlays'. -/
def primaryPlaysCard : Claim7 := { stood := { row := primaryPlaysRow, standIns := [], harness := (true, "7c8bb0a5e91946d394b65b1d890f9c7f4043d821d5b28eab19e82db06b81d844"), looks := true }, kinds := [], alts := [], laidByText := true, laidKinds := [.handle], laidTests := true, laidLooks := .later }
def PrimaryPlaysCardSaid : Prop := Claim7.holds Tryz.pinned (.plain (OpenSpec.ofChange primaryPlaysSpec)) primaryPlaysCard

/-- THE SECOND FORM's CARD OF 'isobarlaw20.PrimaryPlays'. -/
def primaryPlaysUptoCard : Claim7 := { stood := { row := primaryPlaysUptoRow, standIns := [], harness := (true, "7c8bb0a5e91946d394b65b1d890f9c7f4043d821d5b28eab19e82db06b81d844"), looks := true }, kinds := [], alts := [], laidByText := true, laidKinds := [.handle], laidTests := true, laidLooks := .later }
def PrimaryPlaysUptoCardSaid : Prop := Claim7.holds Tryz.pinned (.plain (OpenSpec.upto primaryPlaysSpec)) primaryPlaysUptoCard
end Rows
end Go.Proofs.YtanjfjiaheghcaaGreatDoor
