/- Contracts of functions of the given program, and plain laws on what they compute: parts of the proofs of laws. -/
import Derived.Test.YtkoakmaihcheaaaS1

namespace Go.Proofs.Ytkoakmaihcheaaa
open Go Go.GL

/-- a step: kind, volume, I, block, N, data, keep -/
abbrev St := Int × Int × Int × Int × Int × ByteArray × Int
def encSt (s : St) : List Value := [.int .i64 s.1, .int .i64 s.2.1, .int .i64 s.2.2.1, .int .i64 s.2.2.2.1, .int .i64 s.2.2.2.2.1, .string s.2.2.2.2.2.1, .int .u64 s.2.2.2.2.2.2]
def stepM (k place : Int) (s : RS) : St × RS :=
  if k = 1 then ((1, (one s).1 % 4, 0, (one (one s).2).1 % 8, place, (dataM (one (one s).2).2).1, 0), (dataM (one (one s).2).2).2)
  else if k = 2 then ((2, (one s).1 % 4, 0, (one (one s).2).1 % 8, 0, ⟨#[]⟩, 0), (one (one s).2).2)
  else if k = 4 ∨ k = 5 ∨ k = 7 ∨ k = 8 then ((k, 0, (one s).1, 0, 0, ⟨#[]⟩, 0), (one s).2)
  else if k = 6 then ((6, (one s).1 % 4, 0, 0, 0, ⟨#[]⟩, 0), (one s).2)
  else if k = 11 then ((11, (one s).1 % 4, 0, 0, 0, ⟨#[]⟩, (one (one s).2).1), (one (one s).2).2)
  else if k = 12 ∨ k = 13 then ((k, 0, 0, 0, 0, ⟨#[]⟩, (one s).1), (one s).2)
  else if k = 14 ∨ k = 15 then ((k, 0, (one (one s).2).1, 0, (one s).1 % 4 + 1, ⟨#[]⟩, 0), (one (one s).2).2)
  else if k = 16 then ((16, (one s).1 % 4, 0, 0, (one (one s).2).1 % 2, ⟨#[]⟩, 0), (one (one s).2).2)
  else ((k, 0, 0, 0, 0, ⟨#[]⟩, 0), s)

set_option maxHeartbeats 4000000 in
set_option maxRecDepth 10000 in
theorem step_ok (r : Nat) (v : Value) (s : RS) (A : Assn) (hu : Up A) (hv : Bytes A s.1 v) (k place : Int) (hk : 1 ≤ k ∧ k ≤ 17) :
    Triple G 28 [.pointer (some ⟨r, 0, none⟩), .int .i64 k, .int .i64 place] [blk r [v, .bool s.2] 63, A] (OnePost r A (.agg (encSt (stepM k place s).1).toArray) (stepM k place s).2) := by
  refine Triple.enter Try.func28 rfl (by decide) rfl Try.ntmps28 rfl (fun F => ?_)
  have h0 := one_nn s
  have h1 := one_nn (one s).2
  obtain rfl | rfl | rfl | rfl | rfl | rfl | rfl | rfl | rfl | rfl | rfl | rfl | rfl | rfl | rfl | rfl | rfl : k = 1 ∨ k = 2 ∨ k = 3 ∨ k = 4 ∨ k = 5 ∨ k = 6 ∨ k = 7 ∨ k = 8 ∨ k = 9 ∨ k = 10 ∨ k = 11 ∨ k = 12 ∨ k = 13 ∨ k = 14 ∨ k = 15 ∨ k = 16 ∨ k = 17 := by omega
  all_goals
    repeat (first
      | (first
    | refine WC.seq ?_ | refine WC.region ?_ | refine WL.nil ?_ | with_reducible refine seqK.go ?_ | refine WC.block ?_ | refine WC.skip ?_ | refine WC.exit ?_ | refine WC.ret ?_
    | with_reducible refine seqK.exit ?_ | with_reducible refine seqK.ret ?_ | (with_reducible refine blockK.hit ?hb ?_; (case hb => rfl)) | (with_reducible refine blockK.miss ?hb ?_; (case hb => rfl)) | with_reducible refine blockK.normal ?_ | with_reducible refine blockK.ret ?_ | with_reducible refine loopK.exit ?_ | with_reducible refine loopK.ret ?_
    | refine WC.condT rfl ?_ | refine WC.condF rfl ?_
    | refine WL.step rfl (OP.pure (nw := true) rfl (by first | exact trivial | (simp only [Holds]; omega) | (simp [Holds]; done) | (simp [Holds]; omega)) rfl rfl ?_)
    | refine WL.step rfl (OP.pure (nw := false) rfl (by first | exact trivial | (simp only [Holds]; omega) | (simp [Holds]; done) | (simp [Holds]; omega)) rfl rfl ?_)
    | refine WL.step rfl (OP.pickT rfl rfl rfl rfl rfl ?_) | refine WL.step rfl (OP.pickF rfl rfl rfl rfl rfl ?_) | refine WL.guardT rfl rfl rfl rfl (OP.pickT rfl rfl rfl rfl rfl ?_) | refine WL.guardT rfl rfl rfl rfl (OP.pickF rfl rfl rfl rfl rfl ?_)
    | refine WL.guardT rfl rfl rfl rfl (OP.pure (nw := true) rfl (by first | exact trivial | (simp only [Holds]; omega) | (simp [Holds]; done) | (simp [Holds]; omega)) rfl rfl ?_)
    | refine WL.guardT rfl rfl rfl rfl (OP.pure (nw := false) rfl trivial rfl rfl ?_)
    | refine WL.guardT rfl rfl rfl rfl (OP.loadN rfl rfl rfl rfl (by repeat (first | exact HasNth.here rfl | apply HasNth.there)) rfl rfl ?_)
    | refine WL.guardT rfl rfl rfl rfl (OP.loadB rfl rfl rfl rfl rfl (by repeat (first | exact HasCut.here rfl | apply HasCut.there)) rfl rfl ?_)
    | refine WL.guardF rfl rfl rfl rfl rfl rfl ?_
    | refine WL.guarded (nw := true) rfl rfl rfl rfl rfl rfl rfl (by first | exact trivial | (simp only [Holds]; omega) | (simp [Holds]; done) | (simp [Holds]; omega)) ?_
    | refine WL.step rfl (OP.loadN rfl rfl rfl rfl (by repeat (first | exact HasNth.here rfl | apply HasNth.there)) rfl rfl ?_)
    | refine WL.step rfl (OP.loadB rfl rfl rfl rfl rfl (by repeat (first | exact HasCut.here rfl | apply HasCut.there)) rfl rfl ?_)
    | refine WL.step rfl (OP.store rfl rfl rfl rfl rfl rfl rfl (by repeat (first | exact UpdM.here rfl | apply UpdM.there)) rfl ?_)
    | refine WL.step rfl (OP.alloc rfl rfl rfl rfl rfl (fun _ => ?_))
    | refine WL.step rfl (OP.box rfl rfl rfl rfl rfl (fun _ => ?_))
    | refine WL.step rfl (OP.buildT rfl rfl rfl rfl ?_)
    | refine WL.step rfl (OP.sliceLit rfl rfl rfl rfl rfl rfl rfl rfl (fun _ => ?_)))
      | (refine WL.step rfl (OP.call (pre := [blk r [_, .bool _] 63, A]) rfl rfl (volume_ok r _ _ A hu (by assumption)) (Picks.imp (by repeat (first | exact Picks.nil _ | apply Picks.cons | exact Pick.here _ _ | apply Pick.there))) rfl rfl ?_); rintro _ _ ⟨rfl, v', hv', rfl⟩)
      | (refine WL.step rfl (OP.call (pre := [blk r [_, .bool _] 63, A]) rfl rfl (block_ok r _ _ A hu (by assumption)) (Picks.imp (by repeat (first | exact Picks.nil _ | apply Picks.cons | exact Pick.here _ _ | apply Pick.there))) rfl rfl ?_); rintro _ _ ⟨rfl, v', hv', rfl⟩)
      | (refine WL.step rfl (OP.call (pre := [blk r [_, .bool _] 63, A]) rfl rfl (keep_ok r _ _ A hu (by assumption)) (Picks.imp (by repeat (first | exact Picks.nil _ | apply Picks.cons | exact Pick.here _ _ | apply Pick.there))) rfl rfl ?_); rintro _ _ ⟨rfl, v', hv', rfl⟩)
      | (refine WL.step rfl (OP.call (pre := [blk r [_, .bool _] 63, A]) rfl rfl (data_ok r _ _ A hu (by assumption)) (Picks.imp (by repeat (first | exact Picks.nil _ | apply Picks.cons | exact Pick.here _ _ | apply Pick.there))) rfl rfl ?_); rintro _ _ ⟨rfl, v', hv', rfl⟩)
      | (refine WL.step rfl (OP.call (pre := [blk r [_, .bool _] 63, A]) rfl rfl (one_ok r _ _ A hu (by assumption)) (Picks.imp (by repeat (first | exact Picks.nil _ | apply Picks.cons | exact Pick.here _ _ | apply Pick.there))) rfl rfl ?_); rintro _ _ ⟨rfl, v', hv', rfl⟩))
    refine retA rfl rfl rfl rfl (HasCut.ent (n := 7) (by repeat (first | exact HasCut.here rfl | apply HasCut.there))).1 ⟨_, ⟨rfl, _, (by assumption), rfl⟩, (Imp.sub (by repeat (first | exact Picks.nil _ | apply Picks.cons | exact Pick.here _ _ | apply Pick.there)))⟩
end Go.Proofs.Ytkoakmaihcheaaa
