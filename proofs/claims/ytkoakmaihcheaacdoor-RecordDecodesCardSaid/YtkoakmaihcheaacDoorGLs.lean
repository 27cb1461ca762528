/- In a drawn region: what its loads lean on may grow. -/
import Derived.Test.YtkoakmaihcheaacDoorGLr
namespace Go.GL
open Go
theorem wpB_more {P : Program} {ops : Array Oper} {Q : Exit → Act → World → Prop} {S S' : World → Prop} {n : Nat} (h : ∀ w, S' w → S w) :
    ∀ (fuel : Nat) (listed : Array Bool) (a : Act) (w : World), wpB P ops Q S' n fuel listed a w → wpB P ops Q S n fuel listed a w
  | 0, _, _, _, x => x
  | fuel + 1, _, _, _, x => ⟨x.1, fun i hi => wpOp_mono (fun a' w' y => ⟨fun hin => h _ (y.1 hin), wpB_more h fuel _ a' w' y.2⟩) (x.2 i hi)⟩
/-- from here on the loads may lean on more -/
theorem WH.more {G : Ctx} {N : Nat} {ops : Array Oper} {n : Nat} {S : List Assn} (S' : List Assn) {fuel : Nat} {listed : Array Bool} {env : Env} {L : List Assn} {k : Kont} (hS : Imp S' S) (hL : Imp L S') (h : WH G N ops n S' true fuel listed env L k) : WH G N ops n S true fuel listed env L k :=
  .mk fun ht a w ha hs _ hcl => wpB_more (fun _ x => hS.sat x) fuel listed a w (h.go ht a w ha hs (fun _ => hL.sat hs) hcl)
end Go.GL
