/- Contracts of functions of the given program, and plain laws on what they compute: parts of the proofs of laws. -/
import Derived.Test.YtkoakmaihcheaabDoorGLt
import Derived.Test.YtkoakmaihcheaabDoorR6a

namespace Go.Proofs.YtkoakmaihcheaabDoor
open Go Go.GL

set_option maxRecDepth 10000 in
theorem few_ro (r : Rec) : RO G 17 [.agg (encR r).toArray] (fun _ => True) (.bool (decide ((r.2.2.2.1.size : Int) < 2000))) := by
  refine RO.enter Tryd.func17 rfl (by decide) rfl Tryd.ntmps17 rfl (fun A hu hA => ?_) (fun _ _ _ h => h)
  repeat (first | refine GO ?_ | refine NW fun _ => ?_)
  exact ret1 rfl ⟨rfl, MM⟩
end Go.Proofs.YtkoakmaihcheaabDoor
