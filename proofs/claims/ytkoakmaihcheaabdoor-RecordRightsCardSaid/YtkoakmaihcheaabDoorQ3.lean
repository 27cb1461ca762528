/- Contracts of functions of the given program, and plain laws on what they compute: parts of the proofs of laws. -/
import Derived.Test.YtkoakmaihcheaabDoorGLt
import Derived.Test.YtkoakmaihcheaabDoorQ2e
import Derived.Test.YtkoakmaihcheaabDoorR6b
import Derived.Test.YtkoakmaihcheaabDoorE3

namespace Go.Proofs.YtkoakmaihcheaabDoor
open Go Go.GL

set_option maxHeartbeats 8000000 in
set_option maxRecDepth 10000 in
theorem rights_ro (gen : Int) (r : Rec) (hz1 : r.2.2.2.1.size ≤ maxLen) :
    RO G 4 [.int .i64 gen, .agg (encR r).toArray] ErrT (.bool true) := by
  refine RO.enter Tryd.func4 rfl (by decide) rfl Tryd.ntmps4 rfl (fun A hu hA => ?_) up_ErrT
  have hER : ∀ {L}, A ∈ L → Ent L ErrT := fun m => Ent.mem m hu hA
  have hf1 := few_ro r
  have he1 := fun h => encode_ok gen r h
  have hq1 := fun h => qencode_ro gen r h
  have hr1 := fun h => right_ro r h
  have hr2 := fun h => qright_ro r h
  unfold maxLen at hz1
  repeat (first | refine GO ?_ | refine NW fun _ => ?_)
  refine WL.step rfl (OP.callRO rfl rfl rawake_ro (fun _ _ => trivial) rfl rfl ?_)
  repeat (first | refine GD ?_ | refine NW fun _ => ?_)
  refine WL.guardT rfl rfl rfl rfl (OP.callRO rfl rfl hf1 (fun _ _ => trivial) rfl rfl ?_)
  by_cases h1 : (r.2.2.2.1.size : Int) < 2000
  rotate_left
  · rw [decide_eq_false h1]
    repeat (first | refine GD ?_ | refine NW fun _ => ?_)
    refine WL.step rfl (OP.callRO rfl rfl rawake_ro (fun _ _ => trivial) rfl rfl ?_)
    repeat (first | refine GD ?_ | refine NW fun _ => ?_)
    exact ret1 rfl ⟨rfl, MM⟩
  rw [decide_eq_true h1]
  repeat (first | refine GD ?_ | refine NW fun _ => ?_)
  refine WL.step rfl (OP.callRT rfl rfl (he1 (by omega)) (fun _ _ => trivial) rfl rfl ?_)
  rintro v E hE
  unfold EncPost at hE
  have hq1 := hq1 (by omega)
  unfold EncQ at hq1
  have hr1 := hr1 (by omega)
  have hr2 := hr2 (by omega)
  by_cases hr : RightR r ∧ (0 ≤ gen ∧ gen ≤ widest)
  · rw [if_pos hr] at hE hq1
    obtain ⟨v1, rfl, a, cap, rfl, rfl⟩ := hE
    generalize sectorM (bodyM gen r) = l1 at *
    repeat (first | refine GD ?_ | refine NW fun _ => ?_)
    refine WL.step rfl (OP.callRO rfl rfl hq1 (fun _ _ => trivial) rfl rfl ?_)
    repeat (first | refine GD ?_ | refine NW fun _ => ?_)
    refine WL.step rfl (OP.callRO rfl rfl (first_nil _) (fun _ _ => trivial) rfl rfl ?_)
    repeat (first | refine GD ?_ | refine NW fun _ => ?_)
    refine RD 34 34 (_) ?_
    refine VV 0 ?_
    refine VV 2 ?_
    refine WH.only 1 rfl rfl (by kernel_rfl) rfl (OP.callRO rfl rfl hr1 (fun _ _ => trivial) rfl rfl ⟨fun _ => II, ?_⟩)
    refine WH.only 3 rfl rfl (by kernel_rfl) rfl (OP.callRO rfl rfl hr2 (fun _ _ => trivial) rfl rfl ⟨fun _ => II, ?_⟩)
    rw [decide_eq_true hr.1]
    refine VV 4 ?_; refine VV 5 ?_; refine VV 6 ?_
    refine VG 7 rfl (Quiet.toStr (sv := ba l1) rfl rfl rfl rfl rfl rfl rfl rfl (by rw [strCells_ba]; exact Ent.own (T := 5) MM)) ?_
    refine VV 8 ?_; refine VV 9 ?_
    rw [decide_eq_true rfl]
    refine VV 10 ?_; refine VV 11 ?_; refine VV 12 ?_
    refine VV 14 ?_
    refine WH.onlyG (q := true) 13 rfl rfl rfl rfl rfl rfl rfl (by kernel_rfl) rfl (.inl rfl) (fun _ => OP.callRO rfl rfl code_nil (fun _ _ => trivial) rfl rfl ⟨fun _ => II, ?_⟩) (fun h => nomatch h)
    refine VV 15 ?_; refine VV 16 ?_; refine VV 17 ?_; refine VV 18 ?_; refine VV 19 ?_; refine VV 20 ?_; refine VV 21 ?_; refine VV 22 ?_; refine VV 23 ?_; refine VV 24 ?_; refine VV 25 ?_
    refine VV 26 ?_
    refine VV 27 ?_; refine VV 28 ?_; refine VV 29 ?_; refine VV 30 ?_; refine VV 31 ?_; refine VV 32 ?_; refine VV 33 ?_
    refine DN ?_
    repeat (first | refine GD ?_ | refine NW fun _ => ?_)
    exact ret1 rfl ⟨rfl, MM⟩
  · rw [if_neg hr] at hE hq1
    obtain ⟨e, rfl, b', rfl, rfl⟩ := hE
    have hfirst := first_fault b' recW recW r.1 1
    rw [if_pos rfl] at hfirst
    have hEF : ∀ {L}, A ∈ L → blk b' (faultCells recW r.1 1) 87 ∈ L → Ent L (FaultR b' recW r.1 1) := fun m1 m2 => Ent.and (hER m1) (Ent.whole m2)
    have hld : ∀ {L b}, blk b (encR r) 38 ∈ L → Ent L (cellAt b (0 + 0) (.int .i64 r.1)) := fun m => Ent.blk (c := encR r) m rfl
    have hl5 : (encR r).length = 5 := rfl
    repeat (first | refine GD ?_ | refine NW fun _ => ?_)
    refine WL.step rfl (OP.callRO rfl rfl hq1 (fun _ _ => trivial) rfl rfl ?_)
    repeat (first | refine GD ?_ | refine NW fun _ => ?_)
    refine WL.step rfl (OP.callRO rfl rfl hfirst (hEF MM MM) rfl rfl ?_)
    repeat (first | refine GD ?_ | refine NW fun _ => ?_)
    refine RD 34 34 (_) ?_
    refine VV 0 ?_
    refine VV 2 ?_
    refine WH.only 1 rfl rfl (by kernel_rfl) rfl (OP.callRO rfl rfl hr1 (fun _ _ => trivial) rfl rfl ⟨fun _ => II, ?_⟩)
    refine WH.only 3 rfl rfl (by kernel_rfl) rfl (OP.callRO rfl rfl hr2 (fun _ _ => trivial) rfl rfl ⟨fun _ => II, ?_⟩)
    refine VV 4 ?_
    rw [show ((decide (RightR r)) == (decide (RightR r))) = true from beq_self_eq_true _]
    refine VV 5 ?_; refine VV 6 ?_
    refine VG 7 rfl (Quiet.toStr (sv := ⟨#[]⟩) rfl rfl rfl rfl rfl rfl rfl rfl (fun _ _ => ⟨rfl, .inl ⟨rfl, rfl⟩⟩)) ?_
    refine VV 8 ?_; refine VV 9 ?_
    rw [decide_eq_true rfl]
    refine VV 10 ?_; refine VV 11 ?_; refine VV 12 ?_
    refine VV 14 ?_
    refine WH.onlyG (q := true) 13 rfl rfl rfl rfl rfl rfl rfl (by kernel_rfl) rfl (.inl rfl) (fun _ => OP.callRO rfl rfl (code_fault b' recW r.1 1) (hEF MM MM) rfl rfl ⟨fun _ => II, ?_⟩) (fun h => nomatch h)
    refine VV 15 ?_; refine VV 16 ?_; refine VV 17 ?_; refine VV 18 ?_; refine VV 19 ?_; refine VV 20 ?_; refine VV 21 ?_; refine VV 22 ?_; refine VV 23 ?_; refine VV 24 ?_; refine VV 25 ?_; refine VV 26 ?_; refine VV 27 ?_; refine VV 28 ?_
    refine VG 29 rfl (Quiet.load (v := .int .i64 r.1) rfl rfl rfl (.inl ⟨rfl, hld MM⟩)) ?_
    refine VV 30 ?_
    rw [decide_eq_true rfl]
    refine VV 31 ?_; refine VV 32 ?_; refine VV 33 ?_
    refine DN ?_
    repeat (first | refine GD ?_ | refine NW fun _ => ?_)
    exact ret1 rfl ⟨rfl, MM⟩
end Go.Proofs.YtkoakmaihcheaabDoor
