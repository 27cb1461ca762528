/- Contracts of functions of the given program, and plain laws on what they compute: parts of the proofs of laws. -/
import Derived.Test.YtkoakmaihcheaacDoorGLt
import Derived.Test.YtkoakmaihcheaacDoorTab
import Derived.Test.YtkoakmaihcheaacDoorGLk

namespace Go.Proofs.YtkoakmaihcheaacDoor
open Go Go.GL

/-- a fault: its error's value, and its block -/
def Fault (op : ByteArray) (at_ c : Int) (v : Value) (M : List Assn) : Prop := ∃ b, v = .iface 89 (.pointer (some ⟨b, 0, none⟩)) ∧ M = [blk b [.string op, .int .i64 at_, .iface 29 (.int .i64 c)] 91]

set_option maxRecDepth 10000 in
theorem wrap_ok (op : ByteArray) (at_ c : Int) (h : c ≠ 0) : Triple G 22 [.string op, .int .i64 at_, .iface 29 (.int .i64 c)] [] (Fault op at_ c) := by
  refine Triple.enter Tryd.func22 rfl (by decide) rfl Tryd.ntmps22 rfl (fun F => ?_)
  repeat (first | refine GO ?_ | refine NW fun _ => ?_)
  refine WC.cond rfl (fun hb => ?_) (fun _ => ?_)
  · simp [h] at hb
  repeat (first | refine GO ?_ | refine NW fun _ => ?_)
  exact ret1 rfl ⟨_, ⟨_, rfl, rfl⟩, Imp.refl _⟩

end Go.Proofs.YtkoakmaihcheaacDoor
