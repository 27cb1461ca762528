/- Contracts of functions of the given program, and plain laws on what they compute: parts of the proofs of laws. -/
import Derived.Test.YtkoakmaihcheaabDoorTab
import Derived.Test.YtkoakmaihcheaabDoorGLk

namespace Go.Proofs.YtkoakmaihcheaabDoor
open Go Go.GL

/-- a fault: its error's value, and its block -/
def Fault (op : ByteArray) (at_ c : Int) (v : Value) (M : List Assn) : Prop := ∃ b, v = .iface 85 (.pointer (some ⟨b, 0, none⟩)) ∧ M = [blk b [.string op, .int .i64 at_, .iface 29 (.int .i64 c)] 87]

set_option maxRecDepth 10000 in
theorem wrap_ok (op : ByteArray) (at_ c : Int) (h : c ≠ 0) : Triple G 42 [.string op, .int .i64 at_, .iface 29 (.int .i64 c)] [] (Fault op at_ c) := by
  refine Triple.enter Tryd.func42 rfl (by decide) rfl Tryd.ntmps42 rfl (fun F => ?_)
  repeat (first
    | refine WC.seq ?_ | refine WC.region ?_ | refine WL.nil ?_ | with_reducible refine seqK.go ?_ | refine WC.block ?_ | refine WC.skip ?_ | refine WC.exit ?_ | refine WC.ret ?_
    | with_reducible refine seqK.exit ?_ | with_reducible refine seqK.ret ?_ | (with_reducible refine blockK.hit ?hb ?_; (case hb => rfl)) | (with_reducible refine blockK.miss ?hb ?_; (case hb => rfl)) | with_reducible refine blockK.normal ?_ | with_reducible refine blockK.ret ?_ | with_reducible refine loopK.exit ?_ | with_reducible refine loopK.ret ?_
    | refine WC.condT rfl ?_ | refine WC.condF rfl ?_
    | (refine WL.step rfl ?_; first | refine OP.pure (nw := true) rfl (by first | exact trivial | (simp only [Holds]; omega) | (simp [Holds]; done) | (simp [Holds]; omega)) rfl rfl ?_ | refine OP.pure (nw := false) rfl (by first | exact trivial | (simp only [Holds]; omega) | (simp [Holds]; done) | (simp [Holds]; omega)) rfl rfl ?_ | refine OP.pickT rfl rfl rfl rfl rfl ?_ | refine OP.pickF rfl rfl rfl rfl rfl ?_ | refine OP.loadN rfl rfl rfl rfl (by repeat (first | exact HasNth.here rfl | apply HasNth.there)) rfl rfl ?_ | refine OP.loadB rfl rfl rfl rfl rfl (by repeat (first | exact HasCut.here rfl | apply HasCut.there)) rfl rfl ?_ | refine OP.store rfl rfl rfl rfl rfl rfl rfl (by repeat (first | exact UpdM.here rfl | apply UpdM.there)) rfl ?_ | refine OP.alloc rfl rfl rfl rfl rfl (fun _ => ?_) | refine OP.box rfl rfl rfl rfl rfl (fun _ => ?_) | refine OP.buildT rfl rfl rfl rfl ?_ | refine OP.sliceLit rfl rfl rfl rfl rfl rfl rfl rfl (fun _ => ?_) | refine OP.capS rfl rfl rfl rfl rfl rfl ?_)
    | (refine WL.guardT rfl rfl rfl rfl ?_; first | refine OP.pickT rfl rfl rfl rfl rfl ?_ | refine OP.pickF rfl rfl rfl rfl rfl ?_ | refine OP.pure (nw := true) rfl (by first | exact trivial | (simp only [Holds]; omega) | (simp [Holds]; done) | (simp [Holds]; omega)) rfl rfl ?_ | refine OP.pure (nw := false) rfl trivial rfl rfl ?_ | refine OP.loadN rfl rfl rfl rfl (by repeat (first | exact HasNth.here rfl | apply HasNth.there)) rfl rfl ?_ | refine OP.loadB rfl rfl rfl rfl rfl (by repeat (first | exact HasCut.here rfl | apply HasCut.there)) rfl rfl ?_ | refine OP.buildT rfl rfl rfl rfl ?_)
    | refine WL.guardF rfl rfl rfl rfl rfl rfl ?_ | refine WL.guardU rfl rfl rfl rfl rfl rfl ?_ | refine WL.guarded (nw := true) rfl rfl rfl rfl rfl rfl rfl (by first | exact trivial | (simp only [Holds]; omega) | (simp [Holds]; done) | (simp [Holds]; omega)) ?_)
  refine WC.cond rfl (fun hb => ?_) (fun _ => ?_)
  · simp [h] at hb
  repeat (first
    | refine WC.seq ?_ | refine WC.region ?_ | refine WL.nil ?_ | with_reducible refine seqK.go ?_ | refine WC.block ?_ | refine WC.skip ?_ | refine WC.exit ?_ | refine WC.ret ?_
    | with_reducible refine seqK.exit ?_ | with_reducible refine seqK.ret ?_ | (with_reducible refine blockK.hit ?hb ?_; (case hb => rfl)) | (with_reducible refine blockK.miss ?hb ?_; (case hb => rfl)) | with_reducible refine blockK.normal ?_ | with_reducible refine blockK.ret ?_ | with_reducible refine loopK.exit ?_ | with_reducible refine loopK.ret ?_
    | refine WC.condT rfl ?_ | refine WC.condF rfl ?_
    | (refine WL.step rfl ?_; first | refine OP.pure (nw := true) rfl (by first | exact trivial | (simp only [Holds]; omega) | (simp [Holds]; done) | (simp [Holds]; omega)) rfl rfl ?_ | refine OP.pure (nw := false) rfl (by first | exact trivial | (simp only [Holds]; omega) | (simp [Holds]; done) | (simp [Holds]; omega)) rfl rfl ?_ | refine OP.pickT rfl rfl rfl rfl rfl ?_ | refine OP.pickF rfl rfl rfl rfl rfl ?_ | refine OP.loadN rfl rfl rfl rfl (by repeat (first | exact HasNth.here rfl | apply HasNth.there)) rfl rfl ?_ | refine OP.loadB rfl rfl rfl rfl rfl (by repeat (first | exact HasCut.here rfl | apply HasCut.there)) rfl rfl ?_ | refine OP.store rfl rfl rfl rfl rfl rfl rfl (by repeat (first | exact UpdM.here rfl | apply UpdM.there)) rfl ?_ | refine OP.alloc rfl rfl rfl rfl rfl (fun _ => ?_) | refine OP.box rfl rfl rfl rfl rfl (fun _ => ?_) | refine OP.buildT rfl rfl rfl rfl ?_ | refine OP.sliceLit rfl rfl rfl rfl rfl rfl rfl rfl (fun _ => ?_) | refine OP.capS rfl rfl rfl rfl rfl rfl ?_)
    | (refine WL.guardT rfl rfl rfl rfl ?_; first | refine OP.pickT rfl rfl rfl rfl rfl ?_ | refine OP.pickF rfl rfl rfl rfl rfl ?_ | refine OP.pure (nw := true) rfl (by first | exact trivial | (simp only [Holds]; omega) | (simp [Holds]; done) | (simp [Holds]; omega)) rfl rfl ?_ | refine OP.pure (nw := false) rfl trivial rfl rfl ?_ | refine OP.loadN rfl rfl rfl rfl (by repeat (first | exact HasNth.here rfl | apply HasNth.there)) rfl rfl ?_ | refine OP.loadB rfl rfl rfl rfl rfl (by repeat (first | exact HasCut.here rfl | apply HasCut.there)) rfl rfl ?_ | refine OP.buildT rfl rfl rfl rfl ?_)
    | refine WL.guardF rfl rfl rfl rfl rfl rfl ?_ | refine WL.guardU rfl rfl rfl rfl rfl rfl ?_ | refine WL.guarded (nw := true) rfl rfl rfl rfl rfl rfl rfl (by first | exact trivial | (simp only [Holds]; omega) | (simp [Holds]; done) | (simp [Holds]; omega)) ?_)
  exact ret1 rfl ⟨_, ⟨_, rfl, rfl⟩, Imp.refl _⟩

end Go.Proofs.YtkoakmaihcheaabDoor
