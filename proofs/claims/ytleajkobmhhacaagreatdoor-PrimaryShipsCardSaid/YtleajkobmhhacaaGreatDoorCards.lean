/-
  DERIVED. GIVEN WITH THE SEED: THE CARDS: each row of YtleajkobmhhacaaGreatDoorRows.lean that lists a variable, with what it lists TIED to the program's text (the seventh form; the later family's looks); each row that meets fmt, with fmt's text TOLD by the authors' own Lean function (tested against real Go, not proved from fmt's source: count such statements apart). THE CARD IS WHAT COUNTS. Prove the row's statement (the work); the ties are given (YtleajkobmhhacaaGreatDoorTie.lean); close each card by the builder's one call (the guide's Derived/Test/ToyasCard.lean, 'card_holds'). Laid BY PROGRAM, IN A SANDBOX (cutbox-door.mjs). By AI agents, Wed Nov 11 2026. No macro, syntax, notation, axiom, sorry.
-/
import Derived.Test.YtleajkobmhhacaaGreatDoorRows
import GoSem.ClaimSeven
namespace Go.Proofs.YtleajkobmhhacaaGreatDoor
namespace Rows

/-- THE TIED CARD OF 'isobarlaw21.CoordPlays'. -/
def coordPlaysCard : Claim7 := { stood := { row := coordPlaysRow, standIns := [], harness := (true, "5af5e5c265d7b3f53270cd639a353bf26a1fa8b72400d217ad95f6abfab63bff"), looks := true }, kinds := [], alts := [], laidByText := true, laidKinds := [.handle], laidTests := true, laidLooks := .later }
def CoordPlaysCardSaid : Prop := Claim7.holds Tryz.pinned (.plain (OpenSpec.ofChange coordPlaysSpec)) coordPlaysCard

/-- THE TIED CARD OF 'isobarlaw20.PrimaryLease'. -/
def primaryLeaseCard : Claim7 := { stood := { row := primaryLeaseRow, standIns := [], harness := (true, "5af5e5c265d7b3f53270cd639a353bf26a1fa8b72400d217ad95f6abfab63bff"), looks := true }, kinds := [], alts := [], laidByText := true, laidKinds := [.handle], laidTests := true, laidLooks := .later }
def PrimaryLeaseCardSaid : Prop := Claim7.holds Tryz.pinned (.plain (OpenSpec.ofChange primaryLeaseSpec)) primaryLeaseCard

/-- THE TIED CARD OF 'isobarlaw20.PrimaryWaits'. -/
def primaryWaitsCard : Claim7 := { stood := { row := primaryWaitsRow, standIns := [], harness := (true, "5af5e5c265d7b3f53270cd639a353bf26a1fa8b72400d217ad95f6abfab63bff"), looks := true }, kinds := [], alts := [], laidByText := true, laidKinds := [.handle], laidTests := true, laidLooks := .later }
def PrimaryWaitsCardSaid : Prop := Claim7.holds Tryz.pinned (.plain (OpenSpec.ofChange primaryWaitsSpec)) primaryWaitsCard

/-- THE TIED CARD OF 'isobarlaw20.PrimaryShips'. -/
def primaryShipsCard : Claim7 := { stood := { row := primaryShipsRow, standIns := [], harness := (true, "5af5e5c265d7b3f53270cd639a353bf26a1fa8b72400d217ad95f6abfab63bff"), looks := true }, kinds := [], alts := [], laidByText := true, laidKinds := [.handle], laidTests := true, laidLooks := .later }
def PrimaryShipsCardSaid : Prop := Claim7.holds Tryz.pinned (.plain (OpenSpec.ofChange primaryShipsSpec)) primaryShipsCard

/-- THE TIED CARD OF 'isobarlaw20.PrimaryKeeps'. -/
def primaryKeepsCard : Claim7 := { stood := { row := primaryKeepsRow, standIns := [], harness := (true, "5af5e5c265d7b3f53270cd639a353bf26a1fa8b72400d217ad95f6abfab63bff"), looks := true }, kinds := [], alts := [], laidByText := true, laidKinds := [.handle], laidTests := true, laidLooks := .later }
def PrimaryKeepsCardSaid : Prop := Claim7.holds Tryz.pinned (.plain (OpenSpec.ofChange primaryKeepsSpec)) primaryKeepsCard

/-- THE TIED CARD OF 'isobarlaw20.PrimaryQuiet'. -/
def primaryQuietCard : Claim7 := { stood := { row := primaryQuietRow, standIns := [], harness := (true, "5af5e5c265d7b3f53270cd639a353bf26a1fa8b72400d217ad95f6abfab63bff"), looks := true }, kinds := [], alts := [], laidByText := true, laidKinds := [.handle], laidTests := true, laidLooks := .later }
def PrimaryQuietCardSaid : Prop := Claim7.holds Tryz.pinned (.plain (OpenSpec.ofChange primaryQuietSpec)) primaryQuietCard

/-- THE TIED CARD OF 'isobarlaw20.PrimaryAgain'. -/
def primaryAgainCard : Claim7 := { stood := { row := primaryAgainRow, standIns := [], harness := (true, "5af5e5c265d7b3f53270cd639a353bf26a1fa8b72400d217ad95f6abfab63bff"), looks := true }, kinds := [], alts := [], laidByText := true, laidKinds := [.handle], laidTests := true, laidLooks := .later }
def PrimaryAgainCardSaid : Prop := Claim7.holds Tryz.pinned (.plain (OpenSpec.ofChange primaryAgainSpec)) primaryAgainCard

/-- THE TIED CARD OF 'isobarlaw20.PrimaryNil'. -/
def primaryNilCard : Claim7 := { stood := { row := primaryNilRow, standIns := [], harness := (true, "5af5e5c265d7b3f53270cd639a353bf26a1fa8b72400d217ad95f6abfab63bff"), looks := true }, kinds := [], alts := [], laidByText := true, laidKinds := [.handle], laidTests := true, laidLooks := .later }
def PrimaryNilCardSaid : Prop := Claim7.holds Tryz.pinned (.plain (OpenSpec.ofChange primaryNilSpec)) primaryNilCard

/-- THE TIED CARD OF 'isobarlaw20.PrimaryPlays'. -/
def primaryPlaysCard : Claim7 := { stood := { row := primaryPlaysRow, standIns := [], harness := (true, "5af5e5c265d7b3f53270cd639a353bf26a1fa8b72400d217ad95f6abfab63bff"), looks := true }, kinds := [], alts := [], laidByText := true, laidKinds := [.handle], laidTests := true, laidLooks := .later }
def PrimaryPlaysCardSaid : Prop := Claim7.holds Tryz.pinned (.plain (OpenSpec.ofChange primaryPlaysSpec)) primaryPlaysCard

/-- THE SECOND FORM's CARD OF 'isobarlaw21.CoordPlays'. -/
def coordPlaysUptoCard : Claim7 := { stood := { row := coordPlaysUptoRow, standIns := [], harness := (true, "5af5e5c265d7b3f53270cd639a353bf26a1fa8b72400d217ad95f6abfab63bff"), looks := true }, kinds := [], alts := [], laidByText := true, laidKinds := [.handle], laidTests := true, laidLooks := .later }
def CoordPlaysUptoCardSaid : Prop := Claim7.holds Tryz.pinned (.plain (OpenSpec.upto coordPlaysSpec)) coordPlaysUptoCard

/-- THE SECOND FORM's CARD OF 'isobarlaw20.PrimaryLease'. -/
def primaryLeaseUptoCard : Claim7 := { stood := { row := primaryLeaseUptoRow, standIns := [], harness := (true, "5af5e5c265d7b3f53270cd639a353bf26a1fa8b72400d217ad95f6abfab63bff"), looks := true }, kinds := [], alts := [], laidByText := true, laidKinds := [.handle], laidTests := true, laidLooks := .later }
def PrimaryLeaseUptoCardSaid : Prop := Claim7.holds Tryz.pinned (.plain (OpenSpec.upto primaryLeaseSpec)) primaryLeaseUptoCard

/-- THE SECOND FORM's CARD OF 'isobarlaw20.PrimaryWaits'. -/
def primaryWaitsUptoCard : Claim7 := { stood := { row := primaryWaitsUptoRow, standIns := [], harness := (true, "5af5e5c265d7b3f53270cd639a353bf26a1fa8b72400d217ad95f6abfab63bff"), looks := true }, kinds := [], alts := [], laidByText := true, laidKinds := [.handle], laidTests := true, laidLooks := .later }
def PrimaryWaitsUptoCardSaid : Prop := Claim7.holds Tryz.pinned (.plain (OpenSpec.upto primaryWaitsSpec)) primaryWaitsUptoCard

/-- THE SECOND FORM's CARD OF 'isobarlaw20.PrimaryShips'. -/
def primaryShipsUptoCard : Claim7 := { stood := { row := primaryShipsUptoRow, standIns := [], harness := (true, "5af5e5c265d7b3f53270cd639a353bf26a1fa8b72400d217ad95f6abfab63bff"), looks := true }, kinds := [], alts := [], laidByText := true, laidKinds := [.handle], laidTests := true, laidLooks := .later }
def PrimaryShipsUptoCardSaid : Prop := Claim7.holds Tryz.pinned (.plain (OpenSpec.upto primaryShipsSpec)) primaryShipsUptoCard

/-- THE SECOND FORM's CARD OF 'isobarlaw20.PrimaryKeeps'. -/
def primaryKeepsUptoCard : Claim7 := { stood := { row := primaryKeepsUptoRow, standIns := [], harness := (true, "5af5e5c265d7b3f53270cd639a353bf26a1fa8b72400d217ad95f6abfab63bff"), looks := true }, kinds := [], alts := [], laidByText := true, laidKinds := [.handle], laidTests := true, laidLooks := .later }
def PrimaryKeepsUptoCardSaid : Prop := Claim7.holds Tryz.pinned (.plain (OpenSpec.upto primaryKeepsSpec)) primaryKeepsUptoCard

/-- THE SECOND FORM's CARD OF 'isobarlaw20.PrimaryQuiet'. -/
def primaryQuietUptoCard : Claim7 := { stood := { row := primaryQuietUptoRow, standIns := [], harness := (true, "5af5e5c265d7b3f53270cd639a353bf26a1fa8b72400d217ad95f6abfab63bff"), looks := true }, kinds := [], alts := [], laidByText := true, laidKinds := [.handle], laidTests := true, laidLooks := .later }
def PrimaryQuietUptoCardSaid : Prop := Claim7.holds Tryz.pinned (.plain (OpenSpec.upto primaryQuietSpec)) primaryQuietUptoCard

/-- THE SECOND FORM's CARD OF 'isobarlaw20.PrimaryAgain'. -/
def primaryAgainUptoCard : Claim7 := { stood := { row := primaryAgainUptoRow, standIns := [], harness := (true, "5af5e5c265d7b3f53270cd639a353bf26a1fa8b72400d217ad95f6abfab63bff"), looks := true }, kinds := [], alts := [], laidByText := true, laidKinds := [.handle], laidTests := true, laidLooks := .later }
def PrimaryAgainUptoCardSaid : Prop := Claim7.holds Tryz.pinned (.plain (OpenSpec.upto primaryAgainSpec)) primaryAgainUptoCard

/-- THE SECOND FORM's CARD OF 'isobarlaw20.PrimaryNil'. -/
def primaryNilUptoCard : Claim7 := { stood := { row := primaryNilUptoRow, standIns := [], harness := (true, "5af5e5c265d7b3f53270cd639a353bf26a1fa8b72400d217ad95f6abfab63bff"), looks := true }, kinds := [], alts := [], laidByText := true, laidKinds := [.handle], laidTests := true, laidLooks := .later }
def PrimaryNilUptoCardSaid : Prop := Claim7.holds Tryz.pinned (.plain (OpenSpec.upto primaryNilSpec)) primaryNilUptoCard

/-- THE SECOND FORM's CARD OF 'isobarlaw20.PrimaryPlays'. -/
def primaryPlaysUptoCard : Claim7 := { stood := { row := primaryPlaysUptoRow, standIns := [], harness := (true, "5af5e5c265d7b3f53270cd639a353bf26a1fa8b72400d217ad95f6abfab63bff"), looks := true }, kinds := [], alts := [], laidByText := true, laidKinds := [.handle], laidTests := true, laidLooks := .later }
def PrimaryPlaysUptoCardSaid : Prop := Claim7.holds Tryz.pinned (.plain (OpenSpec.upto primaryPlaysSpec)) primaryPlaysUptoCard
end Rows
end Go.Proofs.YtleajkobmhhacaaGreatDoor
