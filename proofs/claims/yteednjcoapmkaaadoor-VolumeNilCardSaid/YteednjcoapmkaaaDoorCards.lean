/-
  DERIVED. GIVEN WITH THE SEED: THE CARDS: each row of YteednjcoapmkaaaDoorRows.lean that lists a variable, with what it lists TIED to the program's text (the seventh form; the later family's looks); each row that meets fmt, with fmt's text TOLD by the authors' own Lean function (tested against real Go, not proved from fmt's source: count such statements apart). THE CARD IS WHAT COUNTS. Prove the row's statement (the work); the ties are given (YteednjcoapmkaaaDoorTie.lean); close each card by the builder's one call (the guide's Derived/Test/ToyasCard.lean, 'card_holds'). Laid BY PROGRAM, IN A SANDBOX (cutbox-door.mjs). By AI agents, Wed Nov 11 2026. No macro, syntax, notation, axiom, sorry.
-/
import Derived.Test.YteednjcoapmkaaaDoorRows
import GoSem.ClaimSeven
namespace Go.Proofs.YteednjcoapmkaaaDoor
namespace Rows

/-- THE TIED CARD OF 'isobarlaw06.JournalNil'. -/
def journalNilCard : Claim7 := { stood := { row := journalNilRow, standIns := [], harness := (true, "bc50da0f900b3d15998c949acd52102e94f0962e6f14e00a80c18a015e7ff879"), looks := true }, kinds := [], alts := [], laidByText := true, laidKinds := [.handle], laidTests := true, laidLooks := .later }
def JournalNilCardSaid : Prop := Claim7.holds Tryd.pinned (.plain (OpenSpec.ofChange journalNilSpec)) journalNilCard

/-- THE TIED CARD OF 'isobarlaw11.VolumeNil'. -/
def volumeNilCard : Claim7 := { stood := { row := volumeNilRow, standIns := [], harness := (true, "bc50da0f900b3d15998c949acd52102e94f0962e6f14e00a80c18a015e7ff879"), looks := true }, kinds := [], alts := [], laidByText := true, laidKinds := [.handle], laidTests := true, laidLooks := .later }
def VolumeNilCardSaid : Prop := Claim7.holds Tryd.pinned (.plain (OpenSpec.ofChange volumeNilSpec)) volumeNilCard

/-- THE SECOND FORM's CARD OF 'isobarlaw06.JournalNil'. -/
def journalNilUptoCard : Claim7 := { stood := { row := journalNilUptoRow, standIns := [], harness := (true, "bc50da0f900b3d15998c949acd52102e94f0962e6f14e00a80c18a015e7ff879"), looks := true }, kinds := [], alts := [], laidByText := true, laidKinds := [.handle], laidTests := true, laidLooks := .later }
def JournalNilUptoCardSaid : Prop := Claim7.holds Tryd.pinned (.plain (OpenSpec.upto journalNilSpec)) journalNilUptoCard

/-- THE SECOND FORM's CARD OF 'isobarlaw11.VolumeNil'. -/
def volumeNilUptoCard : Claim7 := { stood := { row := volumeNilUptoRow, standIns := [], harness := (true, "bc50da0f900b3d15998c949acd52102e94f0962e6f14e00a80c18a015e7ff879"), looks := true }, kinds := [], alts := [], laidByText := true, laidKinds := [.handle], laidTests := true, laidLooks := .later }
def VolumeNilUptoCardSaid : Prop := Claim7.holds Tryd.pinned (.plain (OpenSpec.upto volumeNilSpec)) volumeNilUptoCard
end Rows
end Go.Proofs.YteednjcoapmkaaaDoor
