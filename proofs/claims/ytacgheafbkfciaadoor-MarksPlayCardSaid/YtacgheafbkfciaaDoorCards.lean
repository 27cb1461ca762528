/-
  DERIVED. GIVEN WITH THE SEED: THE CARDS: each row of YtacgheafbkfciaaDoorRows.lean that lists a variable, with what it lists TIED to the program's text (the seventh form; the later family's looks); each row that meets fmt, with fmt's text TOLD by the authors' own Lean function (tested against real Go, not proved from fmt's source: count such statements apart). THE CARD IS WHAT COUNTS. Prove the row's statement (the work); the ties are given (YtacgheafbkfciaaDoorTie.lean); close each card by the builder's one call (the guide's Derived/Test/ToyasCard.lean, 'card_holds'). Laid BY PROGRAM, IN A SANDBOX (cutbox-door.mjs). By AI agents, Wed Nov 11 2026. No macro, syntax, notation, axiom, sorry.
-/
import Derived.Test.YtacgheafbkfciaaDoorRows
import GoSem.ClaimSeven
namespace Go.Proofs.YtacgheafbkfciaaDoor
namespace Rows

/-- THE TIED CARD OF 'isobarlaw13.MarksNil'. -/
def marksNilCard : Claim7 := { stood := { row := marksNilRow, standIns := [], harness := (true, "6fd25310d68fa193b5ee8893b308a6e06c171d0ad4f276e93bec45c6687ffdac"), looks := true }, kinds := [], alts := [], laidByText := true, laidKinds := [.handle], laidTests := true, laidLooks := .later }
def MarksNilCardSaid : Prop := Claim7.holds Tryd.pinned (.plain (OpenSpec.ofChange marksNilSpec)) marksNilCard

/-- THE TIED CARD OF 'isobarlaw13.MarksPlay'. -/
def marksPlayCard : Claim7 := { stood := { row := marksPlayRow, standIns := [], harness := (true, "6fd25310d68fa193b5ee8893b308a6e06c171d0ad4f276e93bec45c6687ffdac"), looks := true }, kinds := [], alts := [], laidByText := true, laidKinds := [.handle], laidTests := true, laidLooks := .later }
def MarksPlayCardSaid : Prop := Claim7.holds Tryd.pinned (.plain (OpenSpec.ofChange marksPlaySpec)) marksPlayCard

/-- THE SECOND FORM's CARD OF 'isobarlaw13.MarksNil'. -/
def marksNilUptoCard : Claim7 := { stood := { row := marksNilUptoRow, standIns := [], harness := (true, "6fd25310d68fa193b5ee8893b308a6e06c171d0ad4f276e93bec45c6687ffdac"), looks := true }, kinds := [], alts := [], laidByText := true, laidKinds := [.handle], laidTests := true, laidLooks := .later }
def MarksNilUptoCardSaid : Prop := Claim7.holds Tryd.pinned (.plain (OpenSpec.upto marksNilSpec)) marksNilUptoCard

/-- THE SECOND FORM's CARD OF 'isobarlaw13.MarksPlay'. -/
def marksPlayUptoCard : Claim7 := { stood := { row := marksPlayUptoRow, standIns := [], harness := (true, "6fd25310d68fa193b5ee8893b308a6e06c171d0ad4f276e93bec45c6687ffdac"), looks := true }, kinds := [], alts := [], laidByText := true, laidKinds := [.handle], laidTests := true, laidLooks := .later }
def MarksPlayUptoCardSaid : Prop := Claim7.holds Tryd.pinned (.plain (OpenSpec.upto marksPlaySpec)) marksPlayUptoCard
end Rows
end Go.Proofs.YtacgheafbkfciaaDoor
