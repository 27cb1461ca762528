/- Contracts of functions of the given program, and plain laws: parts of the proofs of laws. -/
import Derived.Test.YtanjfjiaheghcaaGreatDoorRows
import Derived.Test.YtanjfjiaheghcaaGreatDoorTie
import Derived.Test.YtanjfjiaheghcaaGreatDoorCards
import Derived.Test.YtanjfjiaheghcaaGreatDoorZPX3
import Derived.ChangeSame
import Derived.ChangeVars
import Derived.JoinedOf
import Derived.RowKit
import Derived.RowKitTokens
import Derived.LaidLaws
import Derived.LaidHandle
import Derived.Stop.Joined
import Derived.SevenTiedAt
/-
  The law PrimaryPlays holds: whatever the input, the Go function returns true, and each argument reads as it did. Conditions: none beyond the statement's own.
-/
namespace Go.Proofs.YtanjfjiaheghcaaGreatDoor
open Go Go.GL Go.ChangeShapes Go.WideShapes Go.ChangeAt Go.RowKit
open Go.ChangeMaps (open_string shut_string)
set_option linter.unusedVariables false
set_option maxHeartbeats 64000000 in
set_option maxRecDepth 100000 in
theorem closedPrimaryPlays : joinedFacts Tryz.pinned.checked.prog 3 Tryz.f3 Rows.primaryPlaysSpec Rows.primaryPlaysRow = true := by
  unfold joinedFacts
  repeat' (with_reducible refine Bool.and_eq_true_iff.2 ⟨?_, ?_⟩)
  all_goals decide +kernel
end Go.Proofs.YtanjfjiaheghcaaGreatDoor
