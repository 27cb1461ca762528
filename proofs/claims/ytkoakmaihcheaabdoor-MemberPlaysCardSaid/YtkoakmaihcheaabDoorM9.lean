/- Contracts of functions of the given program, and plain laws on what they compute: parts of the proofs of laws. -/
import Derived.Test.YtkoakmaihcheaabDoorGLt
import Derived.Test.YtkoakmaihcheaabDoorM8

namespace Go.Proofs.YtkoakmaihcheaabDoor
open Go Go.GL

set_option maxHeartbeats 1000000 in
set_option maxRecDepth 10000 in
theorem awake_ro : RO G 8 [] (fun _ => True) (.bool true) := by
  refine RO.enter Tryd.func8 rfl (by decide) rfl Tryd.ntmps8 rfl (fun A hu hA => ?_) (fun _ _ _ h => h)
  repeat (first | refine GO ?_ | refine NW fun _ => ?_)
  refine WL.step rfl (OP.callRT rfl rfl (new_ok _ 2 _ [0, 1] (by omega)) (Ent.own MM) rfl rfl ?_)
  rintro v E ⟨p, rfl, rfl⟩
  repeat (first | refine GD ?_ | refine NW fun _ => ?_)
  refine WL.imp (M := grpL p none 0 0 [true, true, false, false] [] ++ [A]) (Imp.trans (M := [blk p (bools [true, true, false, false] ++ [.slice none 0 0]) 69, A]) II (Imp.cons (Imp.nilS 75 3))) ?_
  refine WL.guardT rfl rfl rfl rfl (OP.call (F := [A]) rfl rfl (add_ok p none 0 [true, true, false, false] [] 2 5 rfl (fun _ h => by cases h) (by decide)) (Imp.refl _) rfl rfl ?_)
  rintro v M ⟨rfl, a1, cap1, rfl⟩
  have hv : Vols ([] ++ [((5 : Int), (2 : Int), false)]) := by intro c hc; simp at hc; subst hc; decide
  refine WL.fact (Ent.ownLe (a := a1) (n := 1) (cap := cap1) (T := 75) (size := 3) (cs := encL [(5, 2, false)]) MM) (fun hc => ?_)
  have hR : ∀ {L}, blk p (bools [true, true, false, false] ++ [.slice a1 1 cap1]) 69 ∈ L → ownS a1 1 cap1 75 3 (encL [(5, 2, false)]) ∈ L → Ent L (grpR p a1 cap1 [true, true, false, false] [(5, 2, false)]) := fun m1 m2 => Ent.and (Ent.whole m1) (Ent.own m2)
  repeat (first | refine GD ?_ | refine NW fun _ => ?_)
  refine WL.guardT rfl rfl rfl rfl (OP.callRO rfl rfl (last_ro p a1 cap1 [true, true, false, false] [(5, 2, false)] rfl (by decide)) (hR MM MM) rfl rfl ?_)
  repeat (first | refine GD ?_ | refine NW fun _ => ?_)
  refine WL.guardT rfl rfl rfl rfl (OP.callRT rfl rfl (at_ok p a1 cap1 [true, true, false, false] [(5, 2, false)] 4 rfl hv hc (by decide)) (hR MM MM) rfl rfl ?_)
  rintro v E ⟨a2, c2, rfl, rfl⟩
  repeat (first | refine GD ?_ | refine NW fun _ => ?_)
  refine WL.guardT rfl rfl rfl rfl (OP.callRT rfl rfl (now_ok p a1 cap1 [true, true, false, false] [(5, 2, false)] rfl hv hc (by decide)) (hR MM MM) rfl rfl ?_)
  rintro v E ⟨a3, c3, rfl, rfl⟩
  repeat (first | refine GD ?_ | refine NW fun _ => ?_)
  exact ret1 rfl ⟨rfl, MM⟩
end Go.Proofs.YtkoakmaihcheaabDoor
