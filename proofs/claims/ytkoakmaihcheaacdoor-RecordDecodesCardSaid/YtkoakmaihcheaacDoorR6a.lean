/- Contracts of functions of the given program, and plain laws on what they compute: parts of the proofs of laws. -/
import Derived.Test.YtkoakmaihcheaacDoorGLt
import Derived.Test.YtkoakmaihcheaacDoorR6

namespace Go.Proofs.YtkoakmaihcheaacDoor
open Go Go.GL

theorem body_awake : bodyM 2 (1, 2, 0, ⟨#[]⟩, 7) = [2, 1, 2, 7] := by
  unfold bodyM
  dsimp only
  rw [if_neg (by decide), show clampN 2 = 2 from rfl, show clampN 1 = 1 from rfl, show clampN 7 = 7 from rfl, numB_lt (by decide), numB_lt (by decide), numB_lt (by decide)]
  rfl
set_option maxHeartbeats 1000000 in
set_option maxRecDepth 10000 in
theorem rawake_ro : RO G 9 [] (fun _ => True) (.bool true) := by
  refine RO.enter Tryd.func9 rfl (by decide) rfl Tryd.ntmps9 rfl (fun A hu hA => ?_) (fun _ _ _ h => h)
  repeat (first | refine GO ?_ | refine NW fun _ => ?_)
  refine WL.step rfl (OP.callRT rfl rfl (encode_ok 2 (1, 2, 0, ⟨#[]⟩, 7) (by decide)) (fun _ _ => trivial) rfl rfl ?_)
  rintro v E hE
  unfold EncPost at hE
  rw [if_pos ⟨⟨by decide, .inl ⟨rfl, by decide, rfl, rfl⟩⟩, by decide⟩, body_awake] at hE
  obtain ⟨v1, rfl, a, cap, rfl, rfl⟩ := hE
  have hlen : (sectorM [2, 1, 2, 7]).length = 64 := sectorM_len (by decide)
  have g0 : ((sectorM [2, 1, 2, 7]).map byteV)[0]? = some (.int .u8 2) := rfl
  have g3 : ((sectorM [2, 1, 2, 7]).map byteV)[3]? = some (.int .u8 7) := rfl
  generalize sectorM [2, 1, 2, 7] = l at *
  rw [hlen]
  refine WL.fact (Ent.some (Ent.own (a := a) (n := 64) (cap := cap) (T := 5) (size := 1) (cs := l.map byteV) MM) (by decide)) ?_
  rintro ⟨b2, off2, rfl⟩
  repeat (first | refine GD ?_ | refine NW fun _ => ?_)
  refine WL.guardT rfl rfl rfl rfl (OP.load1 (v := .int .u8 2) rfl rfl rfl rfl (Ent.elem (i := 0) (Ent.own (T := 5) MM) rfl g0) rfl rfl ?_)
  repeat (first | refine GD ?_ | refine NW fun _ => ?_)
  refine WL.guardT rfl rfl rfl rfl (OP.load1 (v := .int .u8 7) rfl rfl rfl rfl (Ent.elem (i := 3) (Ent.own (T := 5) MM) rfl g3) rfl rfl ?_)
  repeat (first | refine GD ?_ | refine NW fun _ => ?_)
  exact ret1 rfl ⟨rfl, MM⟩
end Go.Proofs.YtkoakmaihcheaacDoor
