/-
  The law PrimaryWaits holds: whatever the input, the Go function returns true, and each argument reads as it did. Conditions: none beyond the statement's own.
-/
import Derived.Test.YtleajkobmhhacaaGreatDoorRows
import Derived.Test.YtleajkobmhhacaaGreatDoorTie
import Derived.Test.YtleajkobmhhacaaGreatDoorCards
import Derived.Test.YtleajkobmhhacaaGreatDoorZPQ3
import Derived.Test.YtleajkobmhhacaaGreatDoorZPQ16
import Derived.ChangeSame
import Derived.ChangeVars
import Derived.JoinedOf
import Derived.RowKit
import Derived.RowKitTokens
import Derived.LaidLaws
import Derived.LaidHandle
import Derived.Stop.Joined
import Derived.SevenTiedAt
namespace Go.Proofs.YtleajkobmhhacaaGreatDoor
open Go Go.GL Go.ChangeShapes Go.WideShapes Go.ChangeAt Go.RowKit
open Go.ChangeMaps (open_string shut_string)
set_option linter.unusedVariables false
theorem overPrimaryWaits : Rows.primaryWaitsRow.holds Tryz.pinned (OpenSpec.ofChange Rows.primaryWaitsSpec) :=
  OpenClaim.holds_of_wide 5 Tryz.f5 rfl rfl rfl rfl rfl rfl rfl ⟨rfl, rfl, rfl, rfl, rfl⟩ rfl rfl rfl rfl rfl (by kernel_rfl) Tryz.func5 (by kernel_rfl)
    (of_decide_eq_true (by kernel_rfl)) (by unfold Func.isWrapper; first | (rw [if_pos (by decide +kernel)]; kernel_rfl) | (rw [if_neg (by decide +kernel)]; exact ⟨rfl, rfl⟩))
    (fun os started H enc _ => liftedPrimaryWaits os started H enc)
theorem primaryWaits_holds : Rows.PrimaryWaitsCardSaid :=
  Claim7.holds_tied_plain_at .later [] [.handle] true (true, "5af5e5c265d7b3f53270cd639a353bf26a1fa8b72400d217ad95f6abfab63bff") true
    overPrimaryWaits (fun _ h => by cases h) (by kernel_rfl) (fun _ h => by cases h) primaryWaits_row_tie rfl ⟨rfl, rfl⟩ (by kernel_rfl) rfl
    (fun f fn hf hfn => by
      obtain rfl : f = 5 := Option.some.inj ((show Tryz.prog.funcNamed Rows.primaryWaitsRow.func = some 5 by kernel_rfl).symm.trans hf) |>.symm
      obtain rfl : fn = Tryz.f5 := (Option.some.inj (Tryz.func5.symm.trans hfn)).symm
      exact ⟨by kernel_rfl, fun j t ht => by
        rw [Tryz.params5] at ht
        match j, ht with
        | 0, ht => obtain rfl : 103 = t := by simpa using ht
                   exact (show Tryz.prog.wantsStandIn 103 = false by kernel_rfl)
        | 1, ht => obtain rfl : 4 = t := by simpa using ht
                   exact (show Tryz.prog.wantsStandIn 4 = false by kernel_rfl)
        | (k + 2), ht => simp at ht⟩)
    (by kernel_rfl)
end Go.Proofs.YtleajkobmhhacaaGreatDoor
