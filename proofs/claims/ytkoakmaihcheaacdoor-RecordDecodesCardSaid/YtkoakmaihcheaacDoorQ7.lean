/- Contracts of functions of the given program, and plain laws on what they compute: parts of the proofs of laws. -/
import Derived.Test.YtkoakmaihcheaacDoorGLt
import Derived.Test.YtkoakmaihcheaacDoorQ6
import Derived.Test.YtkoakmaihcheaacDoorR6a
import Derived.Test.YtkoakmaihcheaacDoorR14
import Derived.Test.YtkoakmaihcheaacDoorE3

namespace Go.Proofs.YtkoakmaihcheaacDoor
open Go Go.GL

theorem decR_code {l : List UInt8} {c : Int} (h : decR l = .error c) : c ≠ 0 := by
  unfold decR at h
  split at h
  · split at h
    · cases h
    · cases h; decide
  · cases h; decide
set_option maxHeartbeats 4000000 in
set_option maxRecDepth 10000 in
theorem decodes_ro (b : ByteArray) : RO G 5 [.string b] ErrT (.bool true) := by
  refine RO.enter Tryd.func5 rfl (by decide) rfl Tryd.ntmps5 rfl (fun A hu hA => ?_) up_ErrT
  have hER : ∀ {L}, A ∈ L → Ent L ErrT := fun m => Ent.mem m hu hA
  repeat (first | refine GO ?_ | refine NW fun _ => ?_)
  refine WL.step rfl (OP.callRO rfl rfl rawake_ro (fun _ _ => trivial) rfl rfl ?_)
  by_cases h2 : 2000 < b.size
  · repeat (first | refine GD ?_ | refine NW fun _ => ?_)
    refine WL.step rfl (OP.callRO rfl rfl rawake_ro (fun _ _ => trivial) rfl rfl ?_)
    repeat (first | refine GD ?_ | refine NW fun _ => ?_)
    exact ret1 rfl ⟨rfl, MM⟩
  have hsl : b.size = b.data.toList.length := Array.length_toList.symm
  have hqd := qdecode_ro b.data.toList (by omega)
  rw [ba_data] at hqd
  unfold DecQ at hqd
  repeat (first | refine GD ?_ | refine NW fun _ => ?_)
  refine WL.step rfl (OP.toBytes rfl rfl rfl rfl rfl rfl rfl rfl rfl rfl (fun q cap => ?_))
  refine WL.fact (Ent.ownLe (a := some ⟨q, 0, none⟩) (n := b.size) (cap := cap) (T := 5) (size := 1) (cs := strCells b) MM) (fun hc => ?_)
  refine WL.step rfl (OP.callRT rfl rfl (decode5_ok (some ⟨q, 0, none⟩) b.size cap b.data.toList hsl hc (by omega)) (Ent.own MM) rfl rfl ?_)
  rintro v E hD
  unfold DecPost at hD
  cases hdec : decR b.data.toList with
  | error code =>
    have hcn := decR_code hdec
    rw [hdec] at hD hqd
    obtain ⟨e, rfl, b', rfl, rfl⟩ := hD
    dsimp only at hqd
    have hfirst := first_fault b' recW recW 0 code
    rw [if_pos rfl] at hfirst
    have hEF : ∀ {L}, A ∈ L → blk b' (faultCells recW 0 code) 91 ∈ L → Ent L (FaultR b' recW 0 code) := fun m1 m2 => Ent.and (hER m1) (Ent.whole m2)
    repeat (first | refine GD ?_ | refine NW fun _ => ?_)
    refine WL.step rfl (OP.callRO rfl rfl hqd (fun _ _ => trivial) rfl rfl ?_)
    repeat (first | refine GD ?_ | refine NW fun _ => ?_)
    refine WL.step rfl (OP.callRO rfl rfl hfirst (hEF MM MM) rfl rfl ?_)
    have h00 : (0 : Int) = 0 := rfl
    repeat (first | refine GD ?_ | refine NW fun _ => ?_)
    refine WL.guardT rfl rfl rfl rfl (OP.eqAgg (EqAgg.eqlSelf (xs := encR rec0) rfl rfl rfl rfl (by kernel_rfl) (by kernel_rfl) (by kernel_rfl) rfl) rfl rfl ?_)
    repeat (first | refine GD ?_ | refine NW fun _ => ?_)
    refine WL.guardT rfl rfl rfl rfl (OP.callRO rfl rfl (code_fault b' recW 0 code) (hEF MM MM) rfl rfl ?_)
    have hcc : code = code := rfl
    repeat (first | refine GD ?_ | refine NW fun _ => ?_)
    exact ret1 rfl ⟨rfl, MM⟩
  | ok x =>
    obtain ⟨m, t⟩ := x
    rw [hdec] at hD hqd
    obtain ⟨rfl, rfl⟩ := hD
    dsimp only at hqd
    have hmm : m = m := rfl
    repeat (first | refine GD ?_ | refine NW fun _ => ?_)
    refine WL.step rfl (OP.callRO rfl rfl hqd (fun _ _ => trivial) rfl rfl ?_)
    repeat (first | refine GD ?_ | refine NW fun _ => ?_)
    refine WL.step rfl (OP.callRO rfl rfl (first_nil _) (fun _ _ => trivial) rfl rfl ?_)
    repeat (first | refine GD ?_ | refine NW fun _ => ?_)
    refine WL.guardT rfl rfl rfl rfl (OP.eqAgg (EqAgg.eqlSelf (xs := encR t) rfl rfl rfl rfl (by kernel_rfl) (by kernel_rfl) (by kernel_rfl) rfl) rfl rfl ?_)
    repeat (first | refine GD ?_ | refine NW fun _ => ?_)
    refine WL.guardT rfl rfl rfl rfl (OP.callRO rfl rfl code_nil (fun _ _ => trivial) rfl rfl ?_)
    repeat (first | refine GD ?_ | refine NW fun _ => ?_)
    exact ret1 rfl ⟨rfl, MM⟩
end Go.Proofs.YtkoakmaihcheaacDoor
