/-
  The law PrimaryPlays holds: whatever the input, the Go function returns true, and each argument reads as it did. Conditions: none beyond the statement's own.
-/
import Derived.Test.YtanjfjiaheghcaaGreatDoorRows
import Derived.Test.YtanjfjiaheghcaaGreatDoorTie
import Derived.Test.YtanjfjiaheghcaaGreatDoorCards
import Derived.Test.YtanjfjiaheghcaaGreatDoorZPX3
import Derived.Test.YtanjfjiaheghcaaGreatDoorZPX16
import Derived.Test.YtanjfjiaheghcaaGreatDoorZPX17
import Derived.ChangeSame
import Derived.ChangeVars
import Derived.JoinedOf
import Derived.RowKit
import Derived.RowKitTokens
import Derived.LaidLaws
import Derived.LaidHandle
import Derived.Stop.Joined
import Derived.SevenTiedAt
namespace Go.Proofs.YtanjfjiaheghcaaGreatDoor
open Go Go.GL Go.ChangeShapes Go.WideShapes Go.ChangeAt Go.RowKit
open Go.ChangeMaps (open_string shut_string)
set_option linter.unusedVariables false
theorem overPrimaryPlays : Rows.primaryPlaysRow.holds Tryz.pinned (OpenSpec.ofChange Rows.primaryPlaysSpec) :=
  OpenClaim.holds_of_wide 3 Tryz.f3 rfl rfl rfl rfl rfl rfl rfl ⟨rfl, rfl, rfl, rfl, rfl⟩ rfl rfl rfl rfl rfl (by kernel_rfl) Tryz.func3 closedPrimaryPlays
    (of_decide_eq_true (by kernel_rfl)) (by unfold Func.isWrapper; first | (rw [if_pos (by decide +kernel)]; kernel_rfl) | (rw [if_neg (by decide +kernel)]; exact ⟨rfl, rfl⟩))
    (fun os started H enc _ => liftedPrimaryPlays os started H enc)
theorem primaryPlays_holds : Rows.PrimaryPlaysCardSaid :=
  Claim7.holds_tied_plain_at .later [] [.handle] true (true, "7c8bb0a5e91946d394b65b1d890f9c7f4043d821d5b28eab19e82db06b81d844") true
    overPrimaryPlays (fun _ h => by cases h) (by kernel_rfl) (fun _ h => by cases h) primaryPlays_row_tie rfl ⟨rfl, rfl⟩ (by kernel_rfl) rfl
    (fun f fn hf hfn => by
      obtain rfl : f = 3 := Option.some.inj ((show Tryz.prog.funcNamed Rows.primaryPlaysRow.func = some 3 by kernel_rfl).symm.trans hf) |>.symm
      obtain rfl : fn = Tryz.f3 := (Option.some.inj (Tryz.func3.symm.trans hfn)).symm
      exact ⟨by kernel_rfl, fun j t ht => by
        rw [Tryz.params3] at ht
        match j, ht with
        | 0, ht => obtain rfl : 5 = t := by simpa using ht
                   exact (show Tryz.prog.wantsStandIn 5 = false by kernel_rfl)
        | 1, ht => obtain rfl : 22 = t := by simpa using ht
                   exact (show Tryz.prog.wantsStandIn 22 = false by kernel_rfl)
        | (k + 2), ht => simp at ht⟩)
    (by kernel_rfl)
end Go.Proofs.YtanjfjiaheghcaaGreatDoor
