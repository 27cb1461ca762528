/-
  DERIVED. GIVEN WITH THE SEED: THE CARDS: each row of YteednjcoapmkaaaGreatDoorRows.lean that lists a variable, with what it lists TIED to the program's text (the seventh form; the later family's looks); each row that meets fmt, with fmt's text TOLD by the authors' own Lean function (tested against real Go, not proved from fmt's source: count such statements apart). THE CARD IS WHAT COUNTS. Prove the row's statement (the work); the ties are given (YteednjcoapmkaaaGreatDoorTie.lean); close each card by the builder's one call (the guide's Derived/Test/ToyasCard.lean, 'card_holds'). Laid BY PROGRAM, IN A SANDBOX (cutbox-door.mjs). By AI agents, Wed Nov 11 2026. No macro, syntax, notation, axiom, sorry.
-/
import Derived.Test.YteednjcoapmkaaaGreatDoorRows
import GoSem.ClaimSeven
namespace Go.Proofs.YteednjcoapmkaaaGreatDoor
namespace Rows

/-- THE TIED CARD OF 'isobarlaw06.JournalPlays'. -/
def journalPlaysCard : Claim7 := { stood := { row := journalPlaysRow, standIns := [], harness := (true, "d1f198fc5a8f50bf9b671a66854bca27a58506cecb5c7e0f5aee302ee094fc1c"), looks := true }, kinds := [], alts := [], laidByText := true, laidKinds := [.handle], laidTests := true, laidLooks := .later }
def JournalPlaysCardSaid : Prop := Claim7.holds Tryz.pinned (.plain (OpenSpec.ofChange journalPlaysSpec)) journalPlaysCard

/-- THE TIED CARD OF 'isobarlaw11.VolumeOpens'. -/
def volumeOpensCard : Claim7 := { stood := { row := volumeOpensRow, standIns := [], harness := (true, "d1f198fc5a8f50bf9b671a66854bca27a58506cecb5c7e0f5aee302ee094fc1c"), looks := true }, kinds := [], alts := [], laidByText := true, laidKinds := [.handle], laidTests := true, laidLooks := .later }
def VolumeOpensCardSaid : Prop := Claim7.holds Tryz.pinned (.plain (OpenSpec.ofChange volumeOpensSpec)) volumeOpensCard

/-- THE TIED CARD OF 'isobarlaw11.VolumePlays'. -/
def volumePlaysCard : Claim7 := { stood := { row := volumePlaysRow, standIns := [], harness := (true, "d1f198fc5a8f50bf9b671a66854bca27a58506cecb5c7e0f5aee302ee094fc1c"), looks := true }, kinds := [], alts := [], laidByText := true, laidKinds := [.handle], laidTests := true, laidLooks := .later }
def VolumePlaysCardSaid : Prop := Claim7.holds Tryz.pinned (.plain (OpenSpec.ofChange volumePlaysSpec)) volumePlaysCard

/-- THE SECOND FORM's CARD OF 'isobarlaw06.JournalPlays'. -/
def journalPlaysUptoCard : Claim7 := { stood := { row := journalPlaysUptoRow, standIns := [], harness := (true, "d1f198fc5a8f50bf9b671a66854bca27a58506cecb5c7e0f5aee302ee094fc1c"), looks := true }, kinds := [], alts := [], laidByText := true, laidKinds := [.handle], laidTests := true, laidLooks := .later }
def JournalPlaysUptoCardSaid : Prop := Claim7.holds Tryz.pinned (.plain (OpenSpec.upto journalPlaysSpec)) journalPlaysUptoCard

/-- THE SECOND FORM's CARD OF 'isobarlaw11.VolumeOpens'. -/
def volumeOpensUptoCard : Claim7 := { stood := { row := volumeOpensUptoRow, standIns := [], harness := (true, "d1f198fc5a8f50bf9b671a66854bca27a58506cecb5c7e0f5aee302ee094fc1c"), looks := true }, kinds := [], alts := [], laidByText := true, laidKinds := [.handle], laidTests := true, laidLooks := .later }
def VolumeOpensUptoCardSaid : Prop := Claim7.holds Tryz.pinned (.plain (OpenSpec.upto volumeOpensSpec)) volumeOpensUptoCard

/-- THE SECOND FORM's CARD OF 'isobarlaw11.VolumePlays'. -/
def volumePlaysUptoCard : Claim7 := { stood := { row := volumePlaysUptoRow, standIns := [], harness := (true, "d1f198fc5a8f50bf9b671a66854bca27a58506cecb5c7e0f5aee302ee094fc1c"), looks := true }, kinds := [], alts := [], laidByText := true, laidKinds := [.handle], laidTests := true, laidLooks := .later }
def VolumePlaysUptoCardSaid : Prop := Claim7.holds Tryz.pinned (.plain (OpenSpec.upto volumePlaysSpec)) volumePlaysUptoCard
end Rows
end Go.Proofs.YteednjcoapmkaaaGreatDoor
