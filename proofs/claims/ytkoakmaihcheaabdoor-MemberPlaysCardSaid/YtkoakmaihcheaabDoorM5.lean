/- Contracts of functions of the given program, and plain laws on what they compute: parts of the proofs of laws. -/
import Derived.Test.YtkoakmaihcheaabDoorGLt
import Derived.Test.YtkoakmaihcheaabDoorM4

namespace Go.Proofs.YtkoakmaihcheaabDoor
open Go Go.GL

/-- the marker of the last change -/
def lastM (ch : List Ch) : Int := match ch.getLast? with
  | some c => c.1
  | none => 0
set_option maxRecDepth 10000 in
theorem last_ro (p : Nat) (a : Option Addr) (cap : Nat) (f : List Bool) (ch : List Ch) (hf : f.length = 4) (hs : ch.length < 1000000) :
    RO G 15 [.pointer (some ⟨p, 0, none⟩)] (grpR p a cap f ch) (.int .i64 (lastM ch)) := by
  refine RO.enter Tryd.func15 rfl (by decide) rfl Tryd.ntmps15 rfl (fun A hu hA => ?_) (up_grpR _ _ _ _ _)
  have hE1 : ∀ {L}, A ∈ L → Ent L (cellsAt p 0 (bools f ++ [.slice a ch.length cap])) := fun m => Ent.mem m hu fun k x => (hA k x).1
  have hE2 : ∀ {L}, A ∈ L → Ent L (readS a ch.length 3 (encL ch)) := fun m => Ent.mem m hu fun k x => (hA k x).2
  have hg : (bools f ++ [Value.slice a ch.length cap])[4]? = some (.slice a ch.length cap) := by
    obtain ⟨f0, f1, f2, f3, rfl⟩ := four hf; rfl
  repeat (first | refine GO ?_ | refine NW fun _ => ?_)
  refine WL.guardT rfl rfl rfl rfl (OP.load1 (v := .slice a ch.length cap) rfl rfl rfl rfl (Ent.one (i := 4) (hE1 MM) hg) rfl rfl ?_)
  by_cases h0 : ch.length = 0
  · repeat (first | refine GD ?_ | refine NW fun _ => ?_)
    have : ch = [] := List.length_eq_zero_iff.1 h0
    subst this
    exact ret1 rfl ⟨rfl, MM⟩
  · repeat (first | refine GD ?_ | refine NW fun _ => ?_)
    refine WC.fact (Ent.some (hE2 MM) (by omega)) ?_
    rintro ⟨b, off, rfl⟩
    refine RD 14 14 ([A]) ?_
    refine WW 0 ?_; refine WW 1 ?_; refine WW 2 ?_
    refine VL 3 (.slice (some ⟨b, off, none⟩) ch.length cap) rfl rfl rfl rfl (.inl ⟨rfl, Ent.one (i := 4) (hE1 MM) hg⟩) ?_
    refine WW 4 ?_; refine WW 5 ?_; refine WW 6 ?_
    refine VL 7 (.slice (some ⟨b, off, none⟩) ch.length cap) rfl rfl rfl rfl (.inl ⟨rfl, Ent.one (i := 4) (hE1 MM) hg⟩) ?_
    refine WW 8 ?_; refine WW 9 ?_; refine WW 10 ?_; refine WW 11 ?_
    refine VL 12 (.int .i64 (ch[ch.length - 1]'(by omega)).1) rfl rfl rfl rfl (.inl ⟨rfl, by rw [show ((ch.length : Int) - 1).toNat = ch.length - 1 from by omega]; exact Ent.elem (i := (ch.length - 1) * 3 + 0) (hE2 MM) rfl (encL_get _ _ _ (by omega) (by decide))⟩) ?_
    refine WW 13 ?_
    refine DN ?_
    repeat (first | refine GO ?_ | refine NW fun _ => ?_)
    refine ret1 rfl ⟨?_, MM⟩
    unfold lastM
    rw [List.getLast?_eq_getElem?, List.getElem?_eq_getElem (by omega)]
end Go.Proofs.YtkoakmaihcheaabDoor
