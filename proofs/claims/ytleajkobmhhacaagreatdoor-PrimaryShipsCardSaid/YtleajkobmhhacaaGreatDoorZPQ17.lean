/-
  The law PrimaryShips holds: whatever the input, the Go function returns true, and each argument reads as it did. Conditions: none beyond the statement's own.
-/
import Derived.Test.YtleajkobmhhacaaGreatDoorRows
import Derived.Test.YtleajkobmhhacaaGreatDoorTie
import Derived.Test.YtleajkobmhhacaaGreatDoorCards
import Derived.Test.YtleajkobmhhacaaGreatDoorZPQ3
import Derived.Test.YtleajkobmhhacaaGreatDoorZPQ16
import Derived.ChangeSame
import Derived.ChangeVars
import Derived.JoinedOf
import Derived.RowKit
import Derived.RowKitTokens
import Derived.LaidLaws
import Derived.LaidHandle
import Derived.Stop.Joined
import Derived.SevenTiedAt
namespace Go.Proofs.YtleajkobmhhacaaGreatDoor
open Go Go.GL Go.ChangeShapes Go.WideShapes Go.ChangeAt Go.RowKit
open Go.ChangeMaps (open_string shut_string)
set_option linter.unusedVariables false
theorem overPrimaryShips : Rows.primaryShipsRow.holds Tryz.pinned (OpenSpec.ofChange Rows.primaryShipsSpec) :=
  OpenClaim.holds_of_wide 6 Tryz.f6 rfl rfl rfl rfl rfl rfl rfl ⟨rfl, rfl, rfl, rfl, rfl⟩ rfl rfl rfl rfl rfl (by kernel_rfl) Tryz.func6 (by kernel_rfl)
    (of_decide_eq_true (by kernel_rfl)) (by unfold Func.isWrapper; first | (rw [if_pos (by decide +kernel)]; kernel_rfl) | (rw [if_neg (by decide +kernel)]; exact ⟨rfl, rfl⟩))
    (fun os started H enc _ => liftedPrimaryShips os started H enc)
theorem primaryShips_holds : Rows.PrimaryShipsCardSaid :=
  Claim7.holds_tied_plain_at .later [] [.handle] true (true, "5af5e5c265d7b3f53270cd639a353bf26a1fa8b72400d217ad95f6abfab63bff") true
    overPrimaryShips (fun _ h => by cases h) (by kernel_rfl) (fun _ h => by cases h) primaryShips_row_tie rfl ⟨rfl, rfl⟩ (by kernel_rfl) rfl
    (fun f fn hf hfn => by
      obtain rfl : f = 6 := Option.some.inj ((show Tryz.prog.funcNamed Rows.primaryShipsRow.func = some 6 by kernel_rfl).symm.trans hf) |>.symm
      obtain rfl : fn = Tryz.f6 := (Option.some.inj (Tryz.func6.symm.trans hfn)).symm
      exact ⟨by kernel_rfl, fun j t ht => by
        rw [Tryz.params6] at ht
        match j, ht with
        | 0, ht => obtain rfl : 5 = t := by simpa using ht
                   exact (show Tryz.prog.wantsStandIn 5 = false by kernel_rfl)
        | 1, ht => obtain rfl : 108 = t := by simpa using ht
                   exact (show Tryz.prog.wantsStandIn 108 = false by kernel_rfl)
        | (k + 2), ht => simp at ht⟩)
    (by kernel_rfl)
end Go.Proofs.YtleajkobmhhacaaGreatDoor
