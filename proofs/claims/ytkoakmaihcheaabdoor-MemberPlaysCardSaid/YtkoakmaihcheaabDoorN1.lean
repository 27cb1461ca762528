/- Contracts of functions of the given program, and plain laws on what they compute: parts of the proofs of laws. -/
import Derived.Test.YtkoakmaihcheaabDoorGLt
import Derived.Test.YtkoakmaihcheaabDoorE3
import Derived.Test.YtkoakmaihcheaabDoorM9

namespace Go.Proofs.YtkoakmaihcheaabDoor
open Go Go.GL

set_option maxRecDepth 10000 in
theorem put_nil (c : Ch) : RT G 48 [.pointer none, .agg (encC c).toArray] (fun _ => True) (Fault member 0 11) := by
  refine RT.enter Tryd.func48 rfl (by decide) rfl Tryd.ntmps48 rfl (fun A hu hA => ?_)
  repeat (first | refine GO ?_ | refine NW fun _ => ?_)
  refine WL.step rfl (OP.call (pre := []) (F := _) rfl rfl (wrong_ok _ _ (by decide)) (Imp.refl _) rfl rfl ?_)
  rintro v' E ⟨b', rfl, rfl⟩
  repeat (first | refine GO ?_ | refine NW fun _ => ?_)
  exact ret1 rfl ⟨[_], ⟨b', rfl, rfl⟩, II⟩
set_option maxRecDepth 10000 in
theorem add_nil (v m : Int) : RT G 25 [.pointer none, .int .i64 v, .int .i64 m] (fun _ => True) (Fault member 0 11) := by
  refine RT.enter Tryd.func25 rfl (by decide) rfl Tryd.ntmps25 rfl (fun A hu hA => ?_)
  repeat (first | refine GO ?_ | refine NW fun _ => ?_)
  refine WL.step rfl (OP.callRT rfl rfl (put_nil (m, v, false)) (fun _ _ => trivial) rfl rfl ?_)
  rintro v' E ⟨b', rfl, rfl⟩
  repeat (first | refine GO ?_ | refine NW fun _ => ?_)
  exact ret1 rfl ⟨[_], ⟨b', rfl, rfl⟩, II⟩
set_option maxRecDepth 10000 in
theorem remove_nil (v m : Int) : RT G 27 [.pointer none, .int .i64 v, .int .i64 m] (fun _ => True) (Fault member 0 11) := by
  refine RT.enter Tryd.func27 rfl (by decide) rfl Tryd.ntmps27 rfl (fun A hu hA => ?_)
  repeat (first | refine GO ?_ | refine NW fun _ => ?_)
  refine WL.step rfl (OP.callRT rfl rfl (put_nil (m, v, true)) (fun _ _ => trivial) rfl rfl ?_)
  rintro v' E ⟨b', rfl, rfl⟩
  repeat (first | refine GO ?_ | refine NW fun _ => ?_)
  exact ret1 rfl ⟨[_], ⟨b', rfl, rfl⟩, II⟩
set_option maxRecDepth 10000 in
theorem at_nil (m : Int) : RO G 11 [.pointer none, .int .i64 m] (fun _ => True) (.slice none 0 0) := by
  refine RO.enter Tryd.func11 rfl (by decide) rfl Tryd.ntmps11 rfl (fun A hu hA => ?_) (fun _ _ _ h => h)
  repeat (first | refine GO ?_ | refine NW fun _ => ?_)
  exact ret1 rfl ⟨rfl, MM⟩
set_option maxRecDepth 10000 in
theorem now_nil : RO G 30 [.pointer none] (fun _ => True) (.slice none 0 0) := by
  refine RO.enter Tryd.func30 rfl (by decide) rfl Tryd.ntmps30 rfl (fun A hu hA => ?_) (fun _ _ _ h => h)
  repeat (first | refine GO ?_ | refine NW fun _ => ?_)
  exact ret1 rfl ⟨rfl, MM⟩
set_option maxRecDepth 10000 in
theorem bytes_nilG : RO G 14 [.pointer none] (fun _ => True) (.slice none 0 0) := by
  refine RO.enter Tryd.func14 rfl (by decide) rfl Tryd.ntmps14 rfl (fun A hu hA => ?_) (fun _ _ _ h => h)
  repeat (first | refine GO ?_ | refine NW fun _ => ?_)
  exact ret1 rfl ⟨rfl, MM⟩
set_option maxRecDepth 10000 in
theorem last_nil : RO G 15 [.pointer none] (fun _ => True) (.int .i64 0) := by
  refine RO.enter Tryd.func15 rfl (by decide) rfl Tryd.ntmps15 rfl (fun A hu hA => ?_) (fun _ _ _ h => h)
  repeat (first | refine GO ?_ | refine NW fun _ => ?_)
  exact ret1 rfl ⟨rfl, MM⟩
set_option maxHeartbeats 1000000 in
set_option maxRecDepth 10000 in
theorem place_nil (at' f' : Int) : RO G 24 [.nilIface, .int .i64 at', .int .i64 f'] (fun _ => True) (.bool (decide (f' = 0))) := by
  refine RO.enter Tryd.func24 rfl (by decide) rfl Tryd.ntmps24 rfl (fun A hu hA => ?_) (fun _ _ _ h => h)
  repeat (first | refine GO ?_ | refine NW fun _ => ?_)
  refine WL.step rfl (OP.callRO rfl rfl (first_nil _) (fun _ _ => trivial) rfl rfl ?_)
  repeat (first | refine GO ?_ | refine NW fun _ => ?_)
  refine WL.step rfl (OP.callRO rfl rfl code_nil (fun _ _ => trivial) rfl rfl ?_)
  by_cases hf : f' = 0
  · have h0 : (0 : Int) = f' := hf.symm
    have h1 : ¬ (f' ≠ 0) := fun h => h hf
    repeat (first | refine GD ?_ | refine NW fun _ => ?_)
    exact ret1 rfl ⟨by simp [hf], MM⟩
  · have h0 : ¬ (0 : Int) = f' := fun h => hf h.symm
    repeat (first | refine GD ?_ | refine NW fun _ => ?_)
    exact ret1 rfl ⟨by simp [hf], MM⟩
set_option maxHeartbeats 1000000 in
set_option maxRecDepth 10000 in
theorem place_fault (b : Nat) (at_ c at' f' : Int) (hc : c ≠ 0) : RO G 24 [.iface 85 (.pointer (some ⟨b, 0, none⟩)), .int .i64 at', .int .i64 f'] (FaultR b member at_ c) (.bool (decide (c = f' ∧ at_ = at'))) := by
  refine RO.enter Tryd.func24 rfl (by decide) rfl Tryd.ntmps24 rfl (fun A hu hA => ?_) (up_FaultR _ _ _ _)
  have hfirst := first_fault b member member at_ c
  rw [if_pos rfl] at hfirst
  repeat (first | refine GO ?_ | refine NW fun _ => ?_)
  refine WL.step rfl (OP.callRO rfl rfl hfirst (Ent.mem MM hu hA) rfl rfl ?_)
  repeat (first | refine GO ?_ | refine NW fun _ => ?_)
  refine WL.step rfl (OP.callRO rfl rfl (code_fault b member at_ c) (Ent.mem MM hu hA) rfl rfl ?_)
  by_cases hf : c = f'
  · have hf0 : ¬ f' = 0 := fun h => hc (hf.trans h)
    by_cases ha : at_ = at'
    · repeat (first | refine GD ?_ | refine NW fun _ => ?_)
      exact ret1 rfl ⟨by simp [hf, ha], MM⟩
    · repeat (first | refine GD ?_ | refine NW fun _ => ?_)
      exact ret1 rfl ⟨by simp [ha], MM⟩
  · repeat (first | refine GD ?_ | refine NW fun _ => ?_)
    exact ret1 rfl ⟨by simp [hf], MM⟩
set_option maxHeartbeats 1000000 in
set_option maxRecDepth 10000 in
theorem mnil_ro (v m : Int) : RO G 6 [.int .i64 v, .int .i64 m] ErrT (.bool true) := by
  refine RO.enter Tryd.func6 rfl (by decide) rfl Tryd.ntmps6 rfl (fun A hu hA => ?_) up_ErrT
  repeat (first | refine GO ?_ | refine NW fun _ => ?_)
  refine WL.step rfl (OP.callRO rfl rfl awake_ro (fun _ _ => trivial) rfl rfl ?_)
  repeat (first | refine GD ?_ | refine NW fun _ => ?_)
  refine WL.step rfl (OP.callRT rfl rfl (add_nil v m) (fun _ _ => trivial) rfl rfl ?_)
  rintro v' E ⟨b1, rfl, rfl⟩
  have hp1 := place_fault b1 0 11 0 11 (by decide)
  rw [decide_eq_true (show (11 : Int) = 11 ∧ (0 : Int) = 0 from ⟨rfl, rfl⟩)] at hp1
  repeat (first | refine GD ?_ | refine NW fun _ => ?_)
  refine WL.step rfl (OP.callRO rfl rfl hp1 (Ent.and (Ent.mem MM hu hA) (Ent.whole (c := faultCells member 0 11) (T := 87) MM)) rfl rfl ?_)
  repeat (first | refine GD ?_ | refine NW fun _ => ?_)
  refine WL.guardT rfl rfl rfl rfl (OP.callRT rfl rfl (remove_nil v m) (fun _ _ => trivial) rfl rfl ?_)
  rintro v' E ⟨b2, rfl, rfl⟩
  have hp2 := place_fault b2 0 11 0 11 (by decide)
  rw [decide_eq_true (show (11 : Int) = 11 ∧ (0 : Int) = 0 from ⟨rfl, rfl⟩)] at hp2
  repeat (first | refine GD ?_ | refine NW fun _ => ?_)
  refine WL.guardT rfl rfl rfl rfl (OP.callRO rfl rfl hp2 (Ent.and (Ent.mem MM hu hA) (Ent.whole (c := faultCells member 0 11) (T := 87) MM)) rfl rfl ?_)
  repeat (first | refine GD ?_ | refine NW fun _ => ?_)
  refine WL.guardT rfl rfl rfl rfl (OP.callRO rfl rfl (at_nil m) (fun _ _ => trivial) rfl rfl ?_)
  repeat (first | refine GD ?_ | refine NW fun _ => ?_)
  refine WL.guardT rfl rfl rfl rfl (OP.callRO rfl rfl now_nil (fun _ _ => trivial) rfl rfl ?_)
  repeat (first | refine GD ?_ | refine NW fun _ => ?_)
  refine WL.guardT rfl rfl rfl rfl (OP.callRO rfl rfl bytes_nilG (fun _ _ => trivial) rfl rfl ?_)
  repeat (first | refine GD ?_ | refine NW fun _ => ?_)
  refine WL.guardT rfl rfl rfl rfl (OP.callRO rfl rfl last_nil (fun _ _ => trivial) rfl rfl ?_)
  repeat (first | refine GD ?_ | refine NW fun _ => ?_)
  exact ret1 rfl ⟨rfl, MM⟩
end Go.Proofs.YtkoakmaihcheaabDoor
