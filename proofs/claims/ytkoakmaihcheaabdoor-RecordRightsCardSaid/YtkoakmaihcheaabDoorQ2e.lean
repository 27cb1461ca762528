/- Contracts of functions of the given program, and plain laws on what they compute: parts of the proofs of laws. -/
import Derived.Test.YtkoakmaihcheaabDoorGLt
import Derived.Test.YtkoakmaihcheaabDoorQ2

namespace Go.Proofs.YtkoakmaihcheaabDoor
open Go Go.GL

def EncQ (gen : Int) (r : Rec) : Value := if RightR r ∧ (0 ≤ gen ∧ gen ≤ widest) then .tuple #[.string (ba (sectorM (bodyM gen r))), .int .i64 0] else .tuple #[.string ⟨#[]⟩, .int .i64 1]
set_option maxHeartbeats 1000000 in
set_option maxRecDepth 10000 in
theorem qencode_ro (gen : Int) (r : Rec) (hsz : r.2.2.2.1.size < 1000000) : RO G 19 [.int .i64 gen, .agg (encR r).toArray] (fun _ => True) (EncQ gen r) := by
  refine RO.enter Tryd.func19 rfl (by decide) rfl Tryd.ntmps19 rfl (fun A hu hA => ?_) (fun _ _ _ h => h)
  have hl : (encR r).length = 5 := rfl
  have hr0 := qright_ro r hsz
  unfold EncQ widest
  repeat (first | refine GO ?_ | refine NW fun _ => ?_)
  refine WL.step rfl (OP.callRO rfl rfl hr0 (fun _ _ => trivial) rfl rfl ?_)
  by_cases hr : RightR r
  rotate_left
  · rw [decide_eq_false hr, if_neg (fun h => hr h.1)]
    repeat (first | refine GD ?_ | refine NW fun _ => ?_)
    exact ret2 rfl rfl ⟨rfl, MM⟩
  rw [decide_eq_true hr]
  by_cases hg0 : gen < 0
  · rw [if_neg (by omega)]
    repeat (first | refine GD ?_ | refine NW fun _ => ?_)
    exact ret2 rfl rfl ⟨rfl, MM⟩
  by_cases hg1 : 1152921504606846975 < gen
  · rw [if_neg (by omega)]
    repeat (first | refine GD ?_ | refine NW fun _ => ?_)
    exact ret2 rfl rfl ⟨rfl, MM⟩
  rw [if_pos ⟨hr, by omega, by omega⟩]
  repeat (first | refine GD ?_ | refine NW fun _ => ?_)
  refine WL.step rfl (OP.callRO rfl rfl (qbytes_ro gen r hr) (fun _ _ => trivial) rfl rfl ?_)
  repeat (first | refine GD ?_ | refine NW fun _ => ?_)
  exact ret2 rfl rfl ⟨rfl, MM⟩
end Go.Proofs.YtkoakmaihcheaabDoor
