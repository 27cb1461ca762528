/- Contracts of functions of the given program, and plain laws on what they compute: parts of the proofs of laws. -/
import Derived.Test.YtkoakmaihcheaaaM5

namespace Go.Proofs.Ytkoakmaihcheaaa
open Go Go.GL

def grpL (p : Nat) (a : Option Addr) (n cap : Nat) (f : List Bool) (ch : List Ch) : List Assn := [blk p (bools f ++ [.slice a n cap]) 73, ownS a n cap 78 3 (encL ch)]
/-- what is wrong with a change -/
def putM (f : List Bool) (ch : List Ch) (c : Ch) : Option Int :=
  if ¬ (0 ≤ c.2.1 ∧ c.2.1 < 4) then some 5
  else if c.1 ≤ lastM ch then some 10
  else if 1152921504606846975 < c.1 then some 1
  else if (after f ch).getD c.2.1.toNat false ≠ c.2.2 then some 9
  else if 100 ≤ ch.length then some 6
  else none
def PutPost (p : Nat) (a : Option Addr) (cap : Nat) (f : List Bool) (ch : List Ch) (c : Ch) (v : Value) (M : List Assn) : Prop :=
  match putM f ch c with
  | some code => ∃ E, Fault member c.2.1 code v E ∧ M = E ++ grpL p a ch.length cap f ch
  | none => v = .nilIface ∧ ∃ a' cap', M = grpL p a' (ch.length + 1) cap' f (ch ++ [c])

set_option maxHeartbeats 4000000 in
set_option maxRecDepth 10000 in
theorem put_ok (p : Nat) (a : Option Addr) (cap : Nat) (f : List Bool) (ch : List Ch) (c : Ch) (hf : f.length = 4) (hv : Vols ch) (hs : ch.length ≤ 100) :
    Triple G 35 [.pointer (some ⟨p, 0, none⟩), .agg (encC c).toArray] (grpL p a ch.length cap f ch) (PutPost p a cap f ch c) := by
  refine Triple.enter Try.func35 rfl (by decide) rfl Try.ntmps35 rfl (fun F => ?_)
  obtain ⟨mark, vol, gone⟩ := c
  obtain ⟨f0, f1, f2, f3, rfl⟩ := four hf
  have hR : ∀ {L}, blk p (bools [f0, f1, f2, f3] ++ [.slice a ch.length cap]) 73 ∈ L → ownS a ch.length cap 78 3 (encL ch) ∈ L → Ent L (grpR p a cap [f0, f1, f2, f3] ch) := fun m1 m2 => Ent.and (Ent.whole m1) (Ent.own m2)
  refine WC.fact (Ent.ownLe (a := a) (n := ch.length) (cap := cap) (T := 78) (size := 3) (cs := encL ch) (by repeat (first | exact List.Mem.head _ | apply List.Mem.tail))) (fun hc => ?_)
  repeat (first
    | refine WC.seq ?_ | refine WC.region ?_ | refine WL.nil ?_ | with_reducible refine seqK.go ?_ | refine WC.block ?_ | refine WC.skip ?_ | refine WC.exit ?_ | refine WC.ret ?_
    | with_reducible refine seqK.exit ?_ | with_reducible refine seqK.ret ?_ | (with_reducible refine blockK.hit ?hb ?_; (case hb => rfl)) | (with_reducible refine blockK.miss ?hb ?_; (case hb => rfl)) | with_reducible refine blockK.normal ?_ | with_reducible refine blockK.ret ?_ | with_reducible refine loopK.exit ?_ | with_reducible refine loopK.ret ?_
    | refine WC.condT rfl ?_ | refine WC.condF rfl ?_
    | refine WL.step rfl (OP.pure (nw := true) rfl (by first | exact trivial | (simp only [Holds]; omega) | (simp [Holds]; done) | (simp [Holds]; omega)) rfl rfl ?_)
    | refine WL.step rfl (OP.pure (nw := false) rfl (by first | exact trivial | (simp only [Holds]; omega) | (simp [Holds]; done) | (simp [Holds]; omega)) rfl rfl ?_)
    | refine WL.step rfl (OP.pickT rfl rfl rfl rfl rfl ?_) | refine WL.step rfl (OP.pickF rfl rfl rfl rfl rfl ?_) | refine WL.guardT rfl rfl rfl rfl (OP.pickT rfl rfl rfl rfl rfl ?_) | refine WL.guardT rfl rfl rfl rfl (OP.pickF rfl rfl rfl rfl rfl ?_)
    | refine WL.guardT rfl rfl rfl rfl (OP.pure (nw := true) rfl (by first | exact trivial | (simp only [Holds]; omega) | (simp [Holds]; done) | (simp [Holds]; omega)) rfl rfl ?_)
    | refine WL.guardT rfl rfl rfl rfl (OP.pure (nw := false) rfl trivial rfl rfl ?_)
    | refine WL.guardT rfl rfl rfl rfl (OP.loadN rfl rfl rfl rfl (by repeat (first | exact HasNth.here rfl | apply HasNth.there)) rfl rfl ?_)
    | refine WL.guardT rfl rfl rfl rfl (OP.loadB rfl rfl rfl rfl rfl (by repeat (first | exact HasCut.here rfl | apply HasCut.there)) rfl rfl ?_)
    | refine WL.guardF rfl rfl rfl rfl rfl rfl ?_
    | refine WL.guarded (nw := true) rfl rfl rfl rfl rfl rfl rfl (by first | exact trivial | (simp only [Holds]; omega) | (simp [Holds]; done) | (simp [Holds]; omega)) ?_
    | refine WL.step rfl (OP.loadN rfl rfl rfl rfl (by repeat (first | exact HasNth.here rfl | apply HasNth.there)) rfl rfl ?_)
    | refine WL.step rfl (OP.loadB rfl rfl rfl rfl rfl (by repeat (first | exact HasCut.here rfl | apply HasCut.there)) rfl rfl ?_)
    | refine WL.step rfl (OP.store rfl rfl rfl rfl rfl rfl rfl (by repeat (first | exact UpdM.here rfl | apply UpdM.there)) rfl ?_)
    | refine WL.step rfl (OP.alloc rfl rfl rfl rfl rfl (fun _ => ?_))
    | refine WL.step rfl (OP.box rfl rfl rfl rfl rfl (fun _ => ?_))
    | refine WL.step rfl (OP.buildT rfl rfl rfl rfl ?_)
    | refine WL.step rfl (OP.sliceLit rfl rfl rfl rfl rfl rfl rfl rfl (fun _ => ?_)))
  refine WL.step rfl (OP.callRO rfl rfl (there_ro _) (fun _ _ => trivial) rfl rfl ?_)
  by_cases h1 : 0 ≤ vol ∧ vol < 4
  rotate_left
  · simp only [h1, decide_false]
    repeat (first
    | refine WC.seq ?_ | refine WC.region ?_ | refine WL.nil ?_ | with_reducible refine seqK.go ?_ | refine WC.block ?_ | refine WC.skip ?_ | refine WC.exit ?_ | refine WC.ret ?_
    | with_reducible refine seqK.exit ?_ | with_reducible refine seqK.ret ?_ | (with_reducible refine blockK.hit ?hb ?_; (case hb => rfl)) | (with_reducible refine blockK.miss ?hb ?_; (case hb => rfl)) | with_reducible refine blockK.normal ?_ | with_reducible refine blockK.ret ?_ | with_reducible refine loopK.exit ?_ | with_reducible refine loopK.ret ?_
    | refine WC.condT rfl ?_ | refine WC.condF rfl ?_
    | refine WL.step rfl (OP.pure (nw := true) rfl (by first | exact trivial | (simp only [Holds]; omega) | (simp [Holds]; done) | (simp [Holds]; omega)) rfl rfl ?_)
    | refine WL.step rfl (OP.pure (nw := false) rfl (by first | exact trivial | (simp only [Holds]; omega) | (simp [Holds]; done) | (simp [Holds]; omega)) rfl rfl ?_)
    | refine WL.step rfl (OP.pickT rfl rfl rfl rfl rfl ?_) | refine WL.step rfl (OP.pickF rfl rfl rfl rfl rfl ?_) | refine WL.guardT rfl rfl rfl rfl (OP.pickT rfl rfl rfl rfl rfl ?_) | refine WL.guardT rfl rfl rfl rfl (OP.pickF rfl rfl rfl rfl rfl ?_)
    | refine WL.guardT rfl rfl rfl rfl (OP.pure (nw := true) rfl (by first | exact trivial | (simp only [Holds]; omega) | (simp [Holds]; done) | (simp [Holds]; omega)) rfl rfl ?_)
    | refine WL.guardT rfl rfl rfl rfl (OP.pure (nw := false) rfl trivial rfl rfl ?_)
    | refine WL.guardT rfl rfl rfl rfl (OP.loadN rfl rfl rfl rfl (by repeat (first | exact HasNth.here rfl | apply HasNth.there)) rfl rfl ?_)
    | refine WL.guardT rfl rfl rfl rfl (OP.loadB rfl rfl rfl rfl rfl (by repeat (first | exact HasCut.here rfl | apply HasCut.there)) rfl rfl ?_)
    | refine WL.guardF rfl rfl rfl rfl rfl rfl ?_
    | refine WL.guarded (nw := true) rfl rfl rfl rfl rfl rfl rfl (by first | exact trivial | (simp only [Holds]; omega) | (simp [Holds]; done) | (simp [Holds]; omega)) ?_
    | refine WL.step rfl (OP.loadN rfl rfl rfl rfl (by repeat (first | exact HasNth.here rfl | apply HasNth.there)) rfl rfl ?_)
    | refine WL.step rfl (OP.loadB rfl rfl rfl rfl rfl (by repeat (first | exact HasCut.here rfl | apply HasCut.there)) rfl rfl ?_)
    | refine WL.step rfl (OP.store rfl rfl rfl rfl rfl rfl rfl (by repeat (first | exact UpdM.here rfl | apply UpdM.there)) rfl ?_)
    | refine WL.step rfl (OP.alloc rfl rfl rfl rfl rfl (fun _ => ?_))
    | refine WL.step rfl (OP.box rfl rfl rfl rfl rfl (fun _ => ?_))
    | refine WL.step rfl (OP.buildT rfl rfl rfl rfl ?_)
    | refine WL.step rfl (OP.sliceLit rfl rfl rfl rfl rfl rfl rfl rfl (fun _ => ?_)))
    refine WL.step rfl (OP.call (pre := []) (F := _) rfl rfl (wrong_ok _ _ (by decide)) (Imp.refl _) rfl rfl ?_)
    rintro v' E ⟨b', rfl, rfl⟩
    repeat (first
    | refine WC.seq ?_ | refine WC.region ?_ | refine WL.nil ?_ | with_reducible refine seqK.go ?_ | refine WC.block ?_ | refine WC.skip ?_ | refine WC.exit ?_ | refine WC.ret ?_
    | with_reducible refine seqK.exit ?_ | with_reducible refine seqK.ret ?_ | (with_reducible refine blockK.hit ?hb ?_; (case hb => rfl)) | (with_reducible refine blockK.miss ?hb ?_; (case hb => rfl)) | with_reducible refine blockK.normal ?_ | with_reducible refine blockK.ret ?_ | with_reducible refine loopK.exit ?_ | with_reducible refine loopK.ret ?_
    | refine WC.condT rfl ?_ | refine WC.condF rfl ?_
    | refine WL.step rfl (OP.pure (nw := true) rfl (by first | exact trivial | (simp only [Holds]; omega) | (simp [Holds]; done) | (simp [Holds]; omega)) rfl rfl ?_)
    | refine WL.step rfl (OP.pure (nw := false) rfl (by first | exact trivial | (simp only [Holds]; omega) | (simp [Holds]; done) | (simp [Holds]; omega)) rfl rfl ?_)
    | refine WL.step rfl (OP.pickT rfl rfl rfl rfl rfl ?_) | refine WL.step rfl (OP.pickF rfl rfl rfl rfl rfl ?_) | refine WL.guardT rfl rfl rfl rfl (OP.pickT rfl rfl rfl rfl rfl ?_) | refine WL.guardT rfl rfl rfl rfl (OP.pickF rfl rfl rfl rfl rfl ?_)
    | refine WL.guardT rfl rfl rfl rfl (OP.pure (nw := true) rfl (by first | exact trivial | (simp only [Holds]; omega) | (simp [Holds]; done) | (simp [Holds]; omega)) rfl rfl ?_)
    | refine WL.guardT rfl rfl rfl rfl (OP.pure (nw := false) rfl trivial rfl rfl ?_)
    | refine WL.guardT rfl rfl rfl rfl (OP.loadN rfl rfl rfl rfl (by repeat (first | exact HasNth.here rfl | apply HasNth.there)) rfl rfl ?_)
    | refine WL.guardT rfl rfl rfl rfl (OP.loadB rfl rfl rfl rfl rfl (by repeat (first | exact HasCut.here rfl | apply HasCut.there)) rfl rfl ?_)
    | refine WL.guardF rfl rfl rfl rfl rfl rfl ?_
    | refine WL.guarded (nw := true) rfl rfl rfl rfl rfl rfl rfl (by first | exact trivial | (simp only [Holds]; omega) | (simp [Holds]; done) | (simp [Holds]; omega)) ?_
    | refine WL.step rfl (OP.loadN rfl rfl rfl rfl (by repeat (first | exact HasNth.here rfl | apply HasNth.there)) rfl rfl ?_)
    | refine WL.step rfl (OP.loadB rfl rfl rfl rfl rfl (by repeat (first | exact HasCut.here rfl | apply HasCut.there)) rfl rfl ?_)
    | refine WL.step rfl (OP.store rfl rfl rfl rfl rfl rfl rfl (by repeat (first | exact UpdM.here rfl | apply UpdM.there)) rfl ?_)
    | refine WL.step rfl (OP.alloc rfl rfl rfl rfl rfl (fun _ => ?_))
    | refine WL.step rfl (OP.box rfl rfl rfl rfl rfl (fun _ => ?_))
    | refine WL.step rfl (OP.buildT rfl rfl rfl rfl ?_)
    | refine WL.step rfl (OP.sliceLit rfl rfl rfl rfl rfl rfl rfl rfl (fun _ => ?_)))
    refine ret1 rfl ⟨[_] ++ grpL p a ch.length cap _ ch, ?_, (Imp.sub (by repeat (first | exact Picks.nil _ | apply Picks.cons | exact Pick.here _ _ | apply Pick.there)))⟩
    unfold PutPost putM
    rw [if_pos h1]
    exact ⟨_, ⟨_, rfl, rfl⟩, rfl⟩
  simp only [h1, and_self, decide_true]
  repeat (first
    | refine WC.seq ?_ | refine WC.region ?_ | refine WL.nil ?_ | with_reducible refine seqK.go ?_ | refine WC.block ?_ | refine WC.skip ?_ | refine WC.exit ?_ | refine WC.ret ?_
    | with_reducible refine seqK.exit ?_ | with_reducible refine seqK.ret ?_ | (with_reducible refine blockK.hit ?hb ?_; (case hb => rfl)) | (with_reducible refine blockK.miss ?hb ?_; (case hb => rfl)) | with_reducible refine blockK.normal ?_ | with_reducible refine blockK.ret ?_ | with_reducible refine loopK.exit ?_ | with_reducible refine loopK.ret ?_
    | refine WC.condT rfl ?_ | refine WC.condF rfl ?_
    | refine WL.step rfl (OP.pure (nw := true) rfl (by first | exact trivial | (simp only [Holds]; omega) | (simp [Holds]; done) | (simp [Holds]; omega)) rfl rfl ?_)
    | refine WL.step rfl (OP.pure (nw := false) rfl (by first | exact trivial | (simp only [Holds]; omega) | (simp [Holds]; done) | (simp [Holds]; omega)) rfl rfl ?_)
    | refine WL.step rfl (OP.pickT rfl rfl rfl rfl rfl ?_) | refine WL.step rfl (OP.pickF rfl rfl rfl rfl rfl ?_) | refine WL.guardT rfl rfl rfl rfl (OP.pickT rfl rfl rfl rfl rfl ?_) | refine WL.guardT rfl rfl rfl rfl (OP.pickF rfl rfl rfl rfl rfl ?_)
    | refine WL.guardT rfl rfl rfl rfl (OP.pure (nw := true) rfl (by first | exact trivial | (simp only [Holds]; omega) | (simp [Holds]; done) | (simp [Holds]; omega)) rfl rfl ?_)
    | refine WL.guardT rfl rfl rfl rfl (OP.pure (nw := false) rfl trivial rfl rfl ?_)
    | refine WL.guardT rfl rfl rfl rfl (OP.loadN rfl rfl rfl rfl (by repeat (first | exact HasNth.here rfl | apply HasNth.there)) rfl rfl ?_)
    | refine WL.guardT rfl rfl rfl rfl (OP.loadB rfl rfl rfl rfl rfl (by repeat (first | exact HasCut.here rfl | apply HasCut.there)) rfl rfl ?_)
    | refine WL.guardF rfl rfl rfl rfl rfl rfl ?_
    | refine WL.guarded (nw := true) rfl rfl rfl rfl rfl rfl rfl (by first | exact trivial | (simp only [Holds]; omega) | (simp [Holds]; done) | (simp [Holds]; omega)) ?_
    | refine WL.step rfl (OP.loadN rfl rfl rfl rfl (by repeat (first | exact HasNth.here rfl | apply HasNth.there)) rfl rfl ?_)
    | refine WL.step rfl (OP.loadB rfl rfl rfl rfl rfl (by repeat (first | exact HasCut.here rfl | apply HasCut.there)) rfl rfl ?_)
    | refine WL.step rfl (OP.store rfl rfl rfl rfl rfl rfl rfl (by repeat (first | exact UpdM.here rfl | apply UpdM.there)) rfl ?_)
    | refine WL.step rfl (OP.alloc rfl rfl rfl rfl rfl (fun _ => ?_))
    | refine WL.step rfl (OP.box rfl rfl rfl rfl rfl (fun _ => ?_))
    | refine WL.step rfl (OP.buildT rfl rfl rfl rfl ?_)
    | refine WL.step rfl (OP.sliceLit rfl rfl rfl rfl rfl rfl rfl rfl (fun _ => ?_)))
  refine WC.regionD 6 6 _ rfl (by kernel_rfl) (Imp.refl _) ?_
  (first | refine WH.pure (nw := true) 0 rfl rfl (by kernel_rfl) (by kernel_rfl) (by kernel_rfl) (fun _ _ _ h => h) rfl rfl (by first | exact trivial | (simp only [Holds]; omega) | (simp [Holds]; done) | (simp [Holds]; omega)) rfl rfl ?_ | refine WH.pure (nw := false) 0 rfl rfl (by kernel_rfl) (by kernel_rfl) (by kernel_rfl) (fun _ _ _ h => h) rfl rfl (by first | exact trivial | (simp only [Holds]; omega) | (simp [Holds]; done) | (simp [Holds]; omega)) rfl rfl ?_ | refine WH.load 0 rfl rfl (by kernel_rfl) (by kernel_rfl) (by kernel_rfl) (fun _ _ _ h => h) rfl rfl rfl rfl (.inl ⟨rfl, HasNth.ent (by repeat (first | exact HasNth.here rfl | apply HasNth.there))⟩) rfl rfl ?_ | refine WH.load 0 rfl rfl (by kernel_rfl) (by kernel_rfl) (by kernel_rfl) (fun _ _ _ h => h) rfl rfl rfl rfl (loads_cut rfl rfl (by repeat (first | exact HasCut.here rfl | apply HasCut.there))) rfl rfl ?_); (first | refine WH.pure (nw := true) 1 rfl rfl (by kernel_rfl) (by kernel_rfl) (by kernel_rfl) (fun _ _ _ h => h) rfl rfl (by first | exact trivial | (simp only [Holds]; omega) | (simp [Holds]; done) | (simp [Holds]; omega)) rfl rfl ?_ | refine WH.pure (nw := false) 1 rfl rfl (by kernel_rfl) (by kernel_rfl) (by kernel_rfl) (fun _ _ _ h => h) rfl rfl (by first | exact trivial | (simp only [Holds]; omega) | (simp [Holds]; done) | (simp [Holds]; omega)) rfl rfl ?_ | refine WH.load 1 rfl rfl (by kernel_rfl) (by kernel_rfl) (by kernel_rfl) (fun _ _ _ h => h) rfl rfl rfl rfl (.inl ⟨rfl, HasNth.ent (by repeat (first | exact HasNth.here rfl | apply HasNth.there))⟩) rfl rfl ?_ | refine WH.load 1 rfl rfl (by kernel_rfl) (by kernel_rfl) (by kernel_rfl) (fun _ _ _ h => h) rfl rfl rfl rfl (loads_cut rfl rfl (by repeat (first | exact HasCut.here rfl | apply HasCut.there))) rfl rfl ?_); (first | refine WH.pure (nw := true) 2 rfl rfl (by kernel_rfl) (by kernel_rfl) (by kernel_rfl) (fun _ _ _ h => h) rfl rfl (by first | exact trivial | (simp only [Holds]; omega) | (simp [Holds]; done) | (simp [Holds]; omega)) rfl rfl ?_ | refine WH.pure (nw := false) 2 rfl rfl (by kernel_rfl) (by kernel_rfl) (by kernel_rfl) (fun _ _ _ h => h) rfl rfl (by first | exact trivial | (simp only [Holds]; omega) | (simp [Holds]; done) | (simp [Holds]; omega)) rfl rfl ?_ | refine WH.load 2 rfl rfl (by kernel_rfl) (by kernel_rfl) (by kernel_rfl) (fun _ _ _ h => h) rfl rfl rfl rfl (.inl ⟨rfl, HasNth.ent (by repeat (first | exact HasNth.here rfl | apply HasNth.there))⟩) rfl rfl ?_ | refine WH.load 2 rfl rfl (by kernel_rfl) (by kernel_rfl) (by kernel_rfl) (fun _ _ _ h => h) rfl rfl rfl rfl (loads_cut rfl rfl (by repeat (first | exact HasCut.here rfl | apply HasCut.there))) rfl rfl ?_)
  refine WH.only 3 rfl rfl (by kernel_rfl) rfl (OP.callRO rfl rfl (last_ro p a cap _ ch hf (by omega)) (hR (by repeat (first | exact List.Mem.head _ | apply List.Mem.tail)) (by repeat (first | exact List.Mem.head _ | apply List.Mem.tail))) rfl rfl ⟨fun _ => Imp.refl _, ?_⟩)
  (first | refine WH.pure (nw := true) 4 rfl rfl (by kernel_rfl) (by kernel_rfl) (by kernel_rfl) (fun _ _ _ h => h) rfl rfl (by first | exact trivial | (simp only [Holds]; omega) | (simp [Holds]; done) | (simp [Holds]; omega)) rfl rfl ?_ | refine WH.pure (nw := false) 4 rfl rfl (by kernel_rfl) (by kernel_rfl) (by kernel_rfl) (fun _ _ _ h => h) rfl rfl (by first | exact trivial | (simp only [Holds]; omega) | (simp [Holds]; done) | (simp [Holds]; omega)) rfl rfl ?_ | refine WH.load 4 rfl rfl (by kernel_rfl) (by kernel_rfl) (by kernel_rfl) (fun _ _ _ h => h) rfl rfl rfl rfl (.inl ⟨rfl, HasNth.ent (by repeat (first | exact HasNth.here rfl | apply HasNth.there))⟩) rfl rfl ?_ | refine WH.load 4 rfl rfl (by kernel_rfl) (by kernel_rfl) (by kernel_rfl) (fun _ _ _ h => h) rfl rfl rfl rfl (loads_cut rfl rfl (by repeat (first | exact HasCut.here rfl | apply HasCut.there))) rfl rfl ?_); (first | refine WH.pure (nw := true) 5 rfl rfl (by kernel_rfl) (by kernel_rfl) (by kernel_rfl) (fun _ _ _ h => h) rfl rfl (by first | exact trivial | (simp only [Holds]; omega) | (simp [Holds]; done) | (simp [Holds]; omega)) rfl rfl ?_ | refine WH.pure (nw := false) 5 rfl rfl (by kernel_rfl) (by kernel_rfl) (by kernel_rfl) (fun _ _ _ h => h) rfl rfl (by first | exact trivial | (simp only [Holds]; omega) | (simp [Holds]; done) | (simp [Holds]; omega)) rfl rfl ?_ | refine WH.load 5 rfl rfl (by kernel_rfl) (by kernel_rfl) (by kernel_rfl) (fun _ _ _ h => h) rfl rfl rfl rfl (.inl ⟨rfl, HasNth.ent (by repeat (first | exact HasNth.here rfl | apply HasNth.there))⟩) rfl rfl ?_ | refine WH.load 5 rfl rfl (by kernel_rfl) (by kernel_rfl) (by kernel_rfl) (fun _ _ _ h => h) rfl rfl rfl rfl (loads_cut rfl rfl (by repeat (first | exact HasCut.here rfl | apply HasCut.there))) rfl rfl ?_)
  refine WH.done (by kernel_rfl) ?_
  by_cases h2 : mark ≤ lastM ch
  · simp only [h2, decide_true]
    repeat (first
    | refine WC.seq ?_ | refine WC.region ?_ | refine WL.nil ?_ | with_reducible refine seqK.go ?_ | refine WC.block ?_ | refine WC.skip ?_ | refine WC.exit ?_ | refine WC.ret ?_
    | with_reducible refine seqK.exit ?_ | with_reducible refine seqK.ret ?_ | (with_reducible refine blockK.hit ?hb ?_; (case hb => rfl)) | (with_reducible refine blockK.miss ?hb ?_; (case hb => rfl)) | with_reducible refine blockK.normal ?_ | with_reducible refine blockK.ret ?_ | with_reducible refine loopK.exit ?_ | with_reducible refine loopK.ret ?_
    | refine WC.condT rfl ?_ | refine WC.condF rfl ?_
    | refine WL.step rfl (OP.pure (nw := true) rfl (by first | exact trivial | (simp only [Holds]; omega) | (simp [Holds]; done) | (simp [Holds]; omega)) rfl rfl ?_)
    | refine WL.step rfl (OP.pure (nw := false) rfl (by first | exact trivial | (simp only [Holds]; omega) | (simp [Holds]; done) | (simp [Holds]; omega)) rfl rfl ?_)
    | refine WL.step rfl (OP.pickT rfl rfl rfl rfl rfl ?_) | refine WL.step rfl (OP.pickF rfl rfl rfl rfl rfl ?_) | refine WL.guardT rfl rfl rfl rfl (OP.pickT rfl rfl rfl rfl rfl ?_) | refine WL.guardT rfl rfl rfl rfl (OP.pickF rfl rfl rfl rfl rfl ?_)
    | refine WL.guardT rfl rfl rfl rfl (OP.pure (nw := true) rfl (by first | exact trivial | (simp only [Holds]; omega) | (simp [Holds]; done) | (simp [Holds]; omega)) rfl rfl ?_)
    | refine WL.guardT rfl rfl rfl rfl (OP.pure (nw := false) rfl trivial rfl rfl ?_)
    | refine WL.guardT rfl rfl rfl rfl (OP.loadN rfl rfl rfl rfl (by repeat (first | exact HasNth.here rfl | apply HasNth.there)) rfl rfl ?_)
    | refine WL.guardT rfl rfl rfl rfl (OP.loadB rfl rfl rfl rfl rfl (by repeat (first | exact HasCut.here rfl | apply HasCut.there)) rfl rfl ?_)
    | refine WL.guardF rfl rfl rfl rfl rfl rfl ?_
    | refine WL.guarded (nw := true) rfl rfl rfl rfl rfl rfl rfl (by first | exact trivial | (simp only [Holds]; omega) | (simp [Holds]; done) | (simp [Holds]; omega)) ?_
    | refine WL.step rfl (OP.loadN rfl rfl rfl rfl (by repeat (first | exact HasNth.here rfl | apply HasNth.there)) rfl rfl ?_)
    | refine WL.step rfl (OP.loadB rfl rfl rfl rfl rfl (by repeat (first | exact HasCut.here rfl | apply HasCut.there)) rfl rfl ?_)
    | refine WL.step rfl (OP.store rfl rfl rfl rfl rfl rfl rfl (by repeat (first | exact UpdM.here rfl | apply UpdM.there)) rfl ?_)
    | refine WL.step rfl (OP.alloc rfl rfl rfl rfl rfl (fun _ => ?_))
    | refine WL.step rfl (OP.box rfl rfl rfl rfl rfl (fun _ => ?_))
    | refine WL.step rfl (OP.buildT rfl rfl rfl rfl ?_)
    | refine WL.step rfl (OP.sliceLit rfl rfl rfl rfl rfl rfl rfl rfl (fun _ => ?_)))
    refine WL.step rfl (OP.call (pre := []) (F := _) rfl rfl (wrong_ok _ _ (by decide)) (Imp.refl _) rfl rfl ?_)
    rintro v' E ⟨b', rfl, rfl⟩
    repeat (first
    | refine WC.seq ?_ | refine WC.region ?_ | refine WL.nil ?_ | with_reducible refine seqK.go ?_ | refine WC.block ?_ | refine WC.skip ?_ | refine WC.exit ?_ | refine WC.ret ?_
    | with_reducible refine seqK.exit ?_ | with_reducible refine seqK.ret ?_ | (with_reducible refine blockK.hit ?hb ?_; (case hb => rfl)) | (with_reducible refine blockK.miss ?hb ?_; (case hb => rfl)) | with_reducible refine blockK.normal ?_ | with_reducible refine blockK.ret ?_ | with_reducible refine loopK.exit ?_ | with_reducible refine loopK.ret ?_
    | refine WC.condT rfl ?_ | refine WC.condF rfl ?_
    | refine WL.step rfl (OP.pure (nw := true) rfl (by first | exact trivial | (simp only [Holds]; omega) | (simp [Holds]; done) | (simp [Holds]; omega)) rfl rfl ?_)
    | refine WL.step rfl (OP.pure (nw := false) rfl (by first | exact trivial | (simp only [Holds]; omega) | (simp [Holds]; done) | (simp [Holds]; omega)) rfl rfl ?_)
    | refine WL.step rfl (OP.pickT rfl rfl rfl rfl rfl ?_) | refine WL.step rfl (OP.pickF rfl rfl rfl rfl rfl ?_) | refine WL.guardT rfl rfl rfl rfl (OP.pickT rfl rfl rfl rfl rfl ?_) | refine WL.guardT rfl rfl rfl rfl (OP.pickF rfl rfl rfl rfl rfl ?_)
    | refine WL.guardT rfl rfl rfl rfl (OP.pure (nw := true) rfl (by first | exact trivial | (simp only [Holds]; omega) | (simp [Holds]; done) | (simp [Holds]; omega)) rfl rfl ?_)
    | refine WL.guardT rfl rfl rfl rfl (OP.pure (nw := false) rfl trivial rfl rfl ?_)
    | refine WL.guardT rfl rfl rfl rfl (OP.loadN rfl rfl rfl rfl (by repeat (first | exact HasNth.here rfl | apply HasNth.there)) rfl rfl ?_)
    | refine WL.guardT rfl rfl rfl rfl (OP.loadB rfl rfl rfl rfl rfl (by repeat (first | exact HasCut.here rfl | apply HasCut.there)) rfl rfl ?_)
    | refine WL.guardF rfl rfl rfl rfl rfl rfl ?_
    | refine WL.guarded (nw := true) rfl rfl rfl rfl rfl rfl rfl (by first | exact trivial | (simp only [Holds]; omega) | (simp [Holds]; done) | (simp [Holds]; omega)) ?_
    | refine WL.step rfl (OP.loadN rfl rfl rfl rfl (by repeat (first | exact HasNth.here rfl | apply HasNth.there)) rfl rfl ?_)
    | refine WL.step rfl (OP.loadB rfl rfl rfl rfl rfl (by repeat (first | exact HasCut.here rfl | apply HasCut.there)) rfl rfl ?_)
    | refine WL.step rfl (OP.store rfl rfl rfl rfl rfl rfl rfl (by repeat (first | exact UpdM.here rfl | apply UpdM.there)) rfl ?_)
    | refine WL.step rfl (OP.alloc rfl rfl rfl rfl rfl (fun _ => ?_))
    | refine WL.step rfl (OP.box rfl rfl rfl rfl rfl (fun _ => ?_))
    | refine WL.step rfl (OP.buildT rfl rfl rfl rfl ?_)
    | refine WL.step rfl (OP.sliceLit rfl rfl rfl rfl rfl rfl rfl rfl (fun _ => ?_)))
    refine ret1 rfl ⟨[_] ++ grpL p a ch.length cap _ ch, ?_, (Imp.sub (by repeat (first | exact Picks.nil _ | apply Picks.cons | exact Pick.here _ _ | apply Pick.there)))⟩
    unfold PutPost putM
    rw [if_neg (not_not_intro h1), if_pos h2]
    exact ⟨_, ⟨_, rfl, rfl⟩, rfl⟩
  simp only [h2, decide_false]
  by_cases h3 : 1152921504606846975 < mark
  · repeat (first | refine WL.step rfl (OP.decT (nw := true) rfl trivial (by omega) rfl rfl ?_) | refine WL.step rfl (OP.decF (nw := true) rfl trivial (by omega) rfl rfl ?_) | refine WL.step rfl (OP.decNT (nw := true) rfl trivial (by omega) rfl rfl ?_) | refine WL.step rfl (OP.decNF (nw := true) rfl trivial (by omega) rfl rfl ?_) | refine WL.guardT rfl rfl rfl rfl (OP.decT (nw := true) rfl trivial (by omega) rfl rfl ?_) | refine WL.guardT rfl rfl rfl rfl (OP.decF (nw := true) rfl trivial (by omega) rfl rfl ?_) | (first
    | refine WC.seq ?_ | refine WC.region ?_ | refine WL.nil ?_ | with_reducible refine seqK.go ?_ | refine WC.block ?_ | refine WC.skip ?_ | refine WC.exit ?_ | refine WC.ret ?_
    | with_reducible refine seqK.exit ?_ | with_reducible refine seqK.ret ?_ | (with_reducible refine blockK.hit ?hb ?_; (case hb => rfl)) | (with_reducible refine blockK.miss ?hb ?_; (case hb => rfl)) | with_reducible refine blockK.normal ?_ | with_reducible refine blockK.ret ?_ | with_reducible refine loopK.exit ?_ | with_reducible refine loopK.ret ?_
    | refine WC.condT rfl ?_ | refine WC.condF rfl ?_
    | refine WL.step rfl (OP.pure (nw := true) rfl (by first | exact trivial | (simp only [Holds]; omega) | (simp [Holds]; done) | (simp [Holds]; omega)) rfl rfl ?_)
    | refine WL.step rfl (OP.pure (nw := false) rfl (by first | exact trivial | (simp only [Holds]; omega) | (simp [Holds]; done) | (simp [Holds]; omega)) rfl rfl ?_)
    | refine WL.step rfl (OP.pickT rfl rfl rfl rfl rfl ?_) | refine WL.step rfl (OP.pickF rfl rfl rfl rfl rfl ?_) | refine WL.guardT rfl rfl rfl rfl (OP.pickT rfl rfl rfl rfl rfl ?_) | refine WL.guardT rfl rfl rfl rfl (OP.pickF rfl rfl rfl rfl rfl ?_)
    | refine WL.guardT rfl rfl rfl rfl (OP.pure (nw := true) rfl (by first | exact trivial | (simp only [Holds]; omega) | (simp [Holds]; done) | (simp [Holds]; omega)) rfl rfl ?_)
    | refine WL.guardT rfl rfl rfl rfl (OP.pure (nw := false) rfl trivial rfl rfl ?_)
    | refine WL.guardT rfl rfl rfl rfl (OP.loadN rfl rfl rfl rfl (by repeat (first | exact HasNth.here rfl | apply HasNth.there)) rfl rfl ?_)
    | refine WL.guardT rfl rfl rfl rfl (OP.loadB rfl rfl rfl rfl rfl (by repeat (first | exact HasCut.here rfl | apply HasCut.there)) rfl rfl ?_)
    | refine WL.guardF rfl rfl rfl rfl rfl rfl ?_
    | refine WL.guarded (nw := true) rfl rfl rfl rfl rfl rfl rfl (by first | exact trivial | (simp only [Holds]; omega) | (simp [Holds]; done) | (simp [Holds]; omega)) ?_
    | refine WL.step rfl (OP.loadN rfl rfl rfl rfl (by repeat (first | exact HasNth.here rfl | apply HasNth.there)) rfl rfl ?_)
    | refine WL.step rfl (OP.loadB rfl rfl rfl rfl rfl (by repeat (first | exact HasCut.here rfl | apply HasCut.there)) rfl rfl ?_)
    | refine WL.step rfl (OP.store rfl rfl rfl rfl rfl rfl rfl (by repeat (first | exact UpdM.here rfl | apply UpdM.there)) rfl ?_)
    | refine WL.step rfl (OP.alloc rfl rfl rfl rfl rfl (fun _ => ?_))
    | refine WL.step rfl (OP.box rfl rfl rfl rfl rfl (fun _ => ?_))
    | refine WL.step rfl (OP.buildT rfl rfl rfl rfl ?_)
    | refine WL.step rfl (OP.sliceLit rfl rfl rfl rfl rfl rfl rfl rfl (fun _ => ?_))))
    repeat (first
    | refine WC.seq ?_ | refine WC.region ?_ | refine WL.nil ?_ | with_reducible refine seqK.go ?_ | refine WC.block ?_ | refine WC.skip ?_ | refine WC.exit ?_ | refine WC.ret ?_
    | with_reducible refine seqK.exit ?_ | with_reducible refine seqK.ret ?_ | (with_reducible refine blockK.hit ?hb ?_; (case hb => rfl)) | (with_reducible refine blockK.miss ?hb ?_; (case hb => rfl)) | with_reducible refine blockK.normal ?_ | with_reducible refine blockK.ret ?_ | with_reducible refine loopK.exit ?_ | with_reducible refine loopK.ret ?_
    | refine WC.condT rfl ?_ | refine WC.condF rfl ?_
    | refine WL.step rfl (OP.pure (nw := true) rfl (by first | exact trivial | (simp only [Holds]; omega) | (simp [Holds]; done) | (simp [Holds]; omega)) rfl rfl ?_)
    | refine WL.step rfl (OP.pure (nw := false) rfl (by first | exact trivial | (simp only [Holds]; omega) | (simp [Holds]; done) | (simp [Holds]; omega)) rfl rfl ?_)
    | refine WL.step rfl (OP.pickT rfl rfl rfl rfl rfl ?_) | refine WL.step rfl (OP.pickF rfl rfl rfl rfl rfl ?_) | refine WL.guardT rfl rfl rfl rfl (OP.pickT rfl rfl rfl rfl rfl ?_) | refine WL.guardT rfl rfl rfl rfl (OP.pickF rfl rfl rfl rfl rfl ?_)
    | refine WL.guardT rfl rfl rfl rfl (OP.pure (nw := true) rfl (by first | exact trivial | (simp only [Holds]; omega) | (simp [Holds]; done) | (simp [Holds]; omega)) rfl rfl ?_)
    | refine WL.guardT rfl rfl rfl rfl (OP.pure (nw := false) rfl trivial rfl rfl ?_)
    | refine WL.guardT rfl rfl rfl rfl (OP.loadN rfl rfl rfl rfl (by repeat (first | exact HasNth.here rfl | apply HasNth.there)) rfl rfl ?_)
    | refine WL.guardT rfl rfl rfl rfl (OP.loadB rfl rfl rfl rfl rfl (by repeat (first | exact HasCut.here rfl | apply HasCut.there)) rfl rfl ?_)
    | refine WL.guardF rfl rfl rfl rfl rfl rfl ?_
    | refine WL.guarded (nw := true) rfl rfl rfl rfl rfl rfl rfl (by first | exact trivial | (simp only [Holds]; omega) | (simp [Holds]; done) | (simp [Holds]; omega)) ?_
    | refine WL.step rfl (OP.loadN rfl rfl rfl rfl (by repeat (first | exact HasNth.here rfl | apply HasNth.there)) rfl rfl ?_)
    | refine WL.step rfl (OP.loadB rfl rfl rfl rfl rfl (by repeat (first | exact HasCut.here rfl | apply HasCut.there)) rfl rfl ?_)
    | refine WL.step rfl (OP.store rfl rfl rfl rfl rfl rfl rfl (by repeat (first | exact UpdM.here rfl | apply UpdM.there)) rfl ?_)
    | refine WL.step rfl (OP.alloc rfl rfl rfl rfl rfl (fun _ => ?_))
    | refine WL.step rfl (OP.box rfl rfl rfl rfl rfl (fun _ => ?_))
    | refine WL.step rfl (OP.buildT rfl rfl rfl rfl ?_)
    | refine WL.step rfl (OP.sliceLit rfl rfl rfl rfl rfl rfl rfl rfl (fun _ => ?_)))
    refine WL.step rfl (OP.call (pre := []) (F := _) rfl rfl (wrong_ok _ _ (by decide)) (Imp.refl _) rfl rfl ?_)
    rintro v' E ⟨b', rfl, rfl⟩
    repeat (first
    | refine WC.seq ?_ | refine WC.region ?_ | refine WL.nil ?_ | with_reducible refine seqK.go ?_ | refine WC.block ?_ | refine WC.skip ?_ | refine WC.exit ?_ | refine WC.ret ?_
    | with_reducible refine seqK.exit ?_ | with_reducible refine seqK.ret ?_ | (with_reducible refine blockK.hit ?hb ?_; (case hb => rfl)) | (with_reducible refine blockK.miss ?hb ?_; (case hb => rfl)) | with_reducible refine blockK.normal ?_ | with_reducible refine blockK.ret ?_ | with_reducible refine loopK.exit ?_ | with_reducible refine loopK.ret ?_
    | refine WC.condT rfl ?_ | refine WC.condF rfl ?_
    | refine WL.step rfl (OP.pure (nw := true) rfl (by first | exact trivial | (simp only [Holds]; omega) | (simp [Holds]; done) | (simp [Holds]; omega)) rfl rfl ?_)
    | refine WL.step rfl (OP.pure (nw := false) rfl (by first | exact trivial | (simp only [Holds]; omega) | (simp [Holds]; done) | (simp [Holds]; omega)) rfl rfl ?_)
    | refine WL.step rfl (OP.pickT rfl rfl rfl rfl rfl ?_) | refine WL.step rfl (OP.pickF rfl rfl rfl rfl rfl ?_) | refine WL.guardT rfl rfl rfl rfl (OP.pickT rfl rfl rfl rfl rfl ?_) | refine WL.guardT rfl rfl rfl rfl (OP.pickF rfl rfl rfl rfl rfl ?_)
    | refine WL.guardT rfl rfl rfl rfl (OP.pure (nw := true) rfl (by first | exact trivial | (simp only [Holds]; omega) | (simp [Holds]; done) | (simp [Holds]; omega)) rfl rfl ?_)
    | refine WL.guardT rfl rfl rfl rfl (OP.pure (nw := false) rfl trivial rfl rfl ?_)
    | refine WL.guardT rfl rfl rfl rfl (OP.loadN rfl rfl rfl rfl (by repeat (first | exact HasNth.here rfl | apply HasNth.there)) rfl rfl ?_)
    | refine WL.guardT rfl rfl rfl rfl (OP.loadB rfl rfl rfl rfl rfl (by repeat (first | exact HasCut.here rfl | apply HasCut.there)) rfl rfl ?_)
    | refine WL.guardF rfl rfl rfl rfl rfl rfl ?_
    | refine WL.guarded (nw := true) rfl rfl rfl rfl rfl rfl rfl (by first | exact trivial | (simp only [Holds]; omega) | (simp [Holds]; done) | (simp [Holds]; omega)) ?_
    | refine WL.step rfl (OP.loadN rfl rfl rfl rfl (by repeat (first | exact HasNth.here rfl | apply HasNth.there)) rfl rfl ?_)
    | refine WL.step rfl (OP.loadB rfl rfl rfl rfl rfl (by repeat (first | exact HasCut.here rfl | apply HasCut.there)) rfl rfl ?_)
    | refine WL.step rfl (OP.store rfl rfl rfl rfl rfl rfl rfl (by repeat (first | exact UpdM.here rfl | apply UpdM.there)) rfl ?_)
    | refine WL.step rfl (OP.alloc rfl rfl rfl rfl rfl (fun _ => ?_))
    | refine WL.step rfl (OP.box rfl rfl rfl rfl rfl (fun _ => ?_))
    | refine WL.step rfl (OP.buildT rfl rfl rfl rfl ?_)
    | refine WL.step rfl (OP.sliceLit rfl rfl rfl rfl rfl rfl rfl rfl (fun _ => ?_)))
    refine ret1 rfl ⟨[_] ++ grpL p a ch.length cap _ ch, ?_, (Imp.sub (by repeat (first | exact Picks.nil _ | apply Picks.cons | exact Pick.here _ _ | apply Pick.there)))⟩
    unfold PutPost putM
    rw [if_neg (not_not_intro h1), if_neg h2, if_pos h3]
    exact ⟨_, ⟨_, rfl, rfl⟩, rfl⟩
  repeat (first | refine WL.step rfl (OP.decT (nw := true) rfl trivial (by omega) rfl rfl ?_) | refine WL.step rfl (OP.decF (nw := true) rfl trivial (by omega) rfl rfl ?_) | refine WL.step rfl (OP.decNT (nw := true) rfl trivial (by omega) rfl rfl ?_) | refine WL.step rfl (OP.decNF (nw := true) rfl trivial (by omega) rfl rfl ?_) | refine WL.guardT rfl rfl rfl rfl (OP.decT (nw := true) rfl trivial (by omega) rfl rfl ?_) | refine WL.guardT rfl rfl rfl rfl (OP.decF (nw := true) rfl trivial (by omega) rfl rfl ?_) | (first
    | refine WC.seq ?_ | refine WC.region ?_ | refine WL.nil ?_ | with_reducible refine seqK.go ?_ | refine WC.block ?_ | refine WC.skip ?_ | refine WC.exit ?_ | refine WC.ret ?_
    | with_reducible refine seqK.exit ?_ | with_reducible refine seqK.ret ?_ | (with_reducible refine blockK.hit ?hb ?_; (case hb => rfl)) | (with_reducible refine blockK.miss ?hb ?_; (case hb => rfl)) | with_reducible refine blockK.normal ?_ | with_reducible refine blockK.ret ?_ | with_reducible refine loopK.exit ?_ | with_reducible refine loopK.ret ?_
    | refine WC.condT rfl ?_ | refine WC.condF rfl ?_
    | refine WL.step rfl (OP.pure (nw := true) rfl (by first | exact trivial | (simp only [Holds]; omega) | (simp [Holds]; done) | (simp [Holds]; omega)) rfl rfl ?_)
    | refine WL.step rfl (OP.pure (nw := false) rfl (by first | exact trivial | (simp only [Holds]; omega) | (simp [Holds]; done) | (simp [Holds]; omega)) rfl rfl ?_)
    | refine WL.step rfl (OP.pickT rfl rfl rfl rfl rfl ?_) | refine WL.step rfl (OP.pickF rfl rfl rfl rfl rfl ?_) | refine WL.guardT rfl rfl rfl rfl (OP.pickT rfl rfl rfl rfl rfl ?_) | refine WL.guardT rfl rfl rfl rfl (OP.pickF rfl rfl rfl rfl rfl ?_)
    | refine WL.guardT rfl rfl rfl rfl (OP.pure (nw := true) rfl (by first | exact trivial | (simp only [Holds]; omega) | (simp [Holds]; done) | (simp [Holds]; omega)) rfl rfl ?_)
    | refine WL.guardT rfl rfl rfl rfl (OP.pure (nw := false) rfl trivial rfl rfl ?_)
    | refine WL.guardT rfl rfl rfl rfl (OP.loadN rfl rfl rfl rfl (by repeat (first | exact HasNth.here rfl | apply HasNth.there)) rfl rfl ?_)
    | refine WL.guardT rfl rfl rfl rfl (OP.loadB rfl rfl rfl rfl rfl (by repeat (first | exact HasCut.here rfl | apply HasCut.there)) rfl rfl ?_)
    | refine WL.guardF rfl rfl rfl rfl rfl rfl ?_
    | refine WL.guarded (nw := true) rfl rfl rfl rfl rfl rfl rfl (by first | exact trivial | (simp only [Holds]; omega) | (simp [Holds]; done) | (simp [Holds]; omega)) ?_
    | refine WL.step rfl (OP.loadN rfl rfl rfl rfl (by repeat (first | exact HasNth.here rfl | apply HasNth.there)) rfl rfl ?_)
    | refine WL.step rfl (OP.loadB rfl rfl rfl rfl rfl (by repeat (first | exact HasCut.here rfl | apply HasCut.there)) rfl rfl ?_)
    | refine WL.step rfl (OP.store rfl rfl rfl rfl rfl rfl rfl (by repeat (first | exact UpdM.here rfl | apply UpdM.there)) rfl ?_)
    | refine WL.step rfl (OP.alloc rfl rfl rfl rfl rfl (fun _ => ?_))
    | refine WL.step rfl (OP.box rfl rfl rfl rfl rfl (fun _ => ?_))
    | refine WL.step rfl (OP.buildT rfl rfl rfl rfl ?_)
    | refine WL.step rfl (OP.sliceLit rfl rfl rfl rfl rfl rfl rfl rfl (fun _ => ?_))))
  have hbeh := behind_ro p a cap [f0, f1, f2, f3] ch ch.length rfl hv (Nat.le_refl _) hc (by omega)
  rw [List.take_length] at hbeh
  obtain ⟨s0, s1, s2, s3, hsv⟩ := four (show (after [f0, f1, f2, f3] ch).length = 4 by rw [after_length]; rfl)
  rw [hsv] at hbeh
  refine WC.regionD 14 14 _ rfl (by kernel_rfl) (Imp.refl _) ?_
  (first | refine WH.pure (nw := true) 0 rfl rfl (by kernel_rfl) (by kernel_rfl) (by kernel_rfl) (fun _ _ _ h => h) rfl rfl (by first | exact trivial | (simp only [Holds]; omega) | (simp [Holds]; done) | (simp [Holds]; omega)) rfl rfl ?_ | refine WH.pure (nw := false) 0 rfl rfl (by kernel_rfl) (by kernel_rfl) (by kernel_rfl) (fun _ _ _ h => h) rfl rfl (by first | exact trivial | (simp only [Holds]; omega) | (simp [Holds]; done) | (simp [Holds]; omega)) rfl rfl ?_ | refine WH.load 0 rfl rfl (by kernel_rfl) (by kernel_rfl) (by kernel_rfl) (fun _ _ _ h => h) rfl rfl rfl rfl (.inl ⟨rfl, HasNth.ent (by repeat (first | exact HasNth.here rfl | apply HasNth.there))⟩) rfl rfl ?_ | refine WH.load 0 rfl rfl (by kernel_rfl) (by kernel_rfl) (by kernel_rfl) (fun _ _ _ h => h) rfl rfl rfl rfl (loads_cut rfl rfl (by repeat (first | exact HasCut.here rfl | apply HasCut.there))) rfl rfl ?_); (first | refine WH.pure (nw := true) 1 rfl rfl (by kernel_rfl) (by kernel_rfl) (by kernel_rfl) (fun _ _ _ h => h) rfl rfl (by first | exact trivial | (simp only [Holds]; omega) | (simp [Holds]; done) | (simp [Holds]; omega)) rfl rfl ?_ | refine WH.pure (nw := false) 1 rfl rfl (by kernel_rfl) (by kernel_rfl) (by kernel_rfl) (fun _ _ _ h => h) rfl rfl (by first | exact trivial | (simp only [Holds]; omega) | (simp [Holds]; done) | (simp [Holds]; omega)) rfl rfl ?_ | refine WH.load 1 rfl rfl (by kernel_rfl) (by kernel_rfl) (by kernel_rfl) (fun _ _ _ h => h) rfl rfl rfl rfl (.inl ⟨rfl, HasNth.ent (by repeat (first | exact HasNth.here rfl | apply HasNth.there))⟩) rfl rfl ?_ | refine WH.load 1 rfl rfl (by kernel_rfl) (by kernel_rfl) (by kernel_rfl) (fun _ _ _ h => h) rfl rfl rfl rfl (loads_cut rfl rfl (by repeat (first | exact HasCut.here rfl | apply HasCut.there))) rfl rfl ?_); (first | refine WH.pure (nw := true) 2 rfl rfl (by kernel_rfl) (by kernel_rfl) (by kernel_rfl) (fun _ _ _ h => h) rfl rfl (by first | exact trivial | (simp only [Holds]; omega) | (simp [Holds]; done) | (simp [Holds]; omega)) rfl rfl ?_ | refine WH.pure (nw := false) 2 rfl rfl (by kernel_rfl) (by kernel_rfl) (by kernel_rfl) (fun _ _ _ h => h) rfl rfl (by first | exact trivial | (simp only [Holds]; omega) | (simp [Holds]; done) | (simp [Holds]; omega)) rfl rfl ?_ | refine WH.load 2 rfl rfl (by kernel_rfl) (by kernel_rfl) (by kernel_rfl) (fun _ _ _ h => h) rfl rfl rfl rfl (.inl ⟨rfl, HasNth.ent (by repeat (first | exact HasNth.here rfl | apply HasNth.there))⟩) rfl rfl ?_ | refine WH.load 2 rfl rfl (by kernel_rfl) (by kernel_rfl) (by kernel_rfl) (fun _ _ _ h => h) rfl rfl rfl rfl (loads_cut rfl rfl (by repeat (first | exact HasCut.here rfl | apply HasCut.there))) rfl rfl ?_); (first | refine WH.pure (nw := true) 3 rfl rfl (by kernel_rfl) (by kernel_rfl) (by kernel_rfl) (fun _ _ _ h => h) rfl rfl (by first | exact trivial | (simp only [Holds]; omega) | (simp [Holds]; done) | (simp [Holds]; omega)) rfl rfl ?_ | refine WH.pure (nw := false) 3 rfl rfl (by kernel_rfl) (by kernel_rfl) (by kernel_rfl) (fun _ _ _ h => h) rfl rfl (by first | exact trivial | (simp only [Holds]; omega) | (simp [Holds]; done) | (simp [Holds]; omega)) rfl rfl ?_ | refine WH.load 3 rfl rfl (by kernel_rfl) (by kernel_rfl) (by kernel_rfl) (fun _ _ _ h => h) rfl rfl rfl rfl (.inl ⟨rfl, HasNth.ent (by repeat (first | exact HasNth.here rfl | apply HasNth.there))⟩) rfl rfl ?_ | refine WH.load 3 rfl rfl (by kernel_rfl) (by kernel_rfl) (by kernel_rfl) (fun _ _ _ h => h) rfl rfl rfl rfl (loads_cut rfl rfl (by repeat (first | exact HasCut.here rfl | apply HasCut.there))) rfl rfl ?_); (first | refine WH.pure (nw := true) 4 rfl rfl (by kernel_rfl) (by kernel_rfl) (by kernel_rfl) (fun _ _ _ h => h) rfl rfl (by first | exact trivial | (simp only [Holds]; omega) | (simp [Holds]; done) | (simp [Holds]; omega)) rfl rfl ?_ | refine WH.pure (nw := false) 4 rfl rfl (by kernel_rfl) (by kernel_rfl) (by kernel_rfl) (fun _ _ _ h => h) rfl rfl (by first | exact trivial | (simp only [Holds]; omega) | (simp [Holds]; done) | (simp [Holds]; omega)) rfl rfl ?_ | refine WH.load 4 rfl rfl (by kernel_rfl) (by kernel_rfl) (by kernel_rfl) (fun _ _ _ h => h) rfl rfl rfl rfl (.inl ⟨rfl, HasNth.ent (by repeat (first | exact HasNth.here rfl | apply HasNth.there))⟩) rfl rfl ?_ | refine WH.load 4 rfl rfl (by kernel_rfl) (by kernel_rfl) (by kernel_rfl) (fun _ _ _ h => h) rfl rfl rfl rfl (loads_cut rfl rfl (by repeat (first | exact HasCut.here rfl | apply HasCut.there))) rfl rfl ?_); (first | refine WH.pure (nw := true) 5 rfl rfl (by kernel_rfl) (by kernel_rfl) (by kernel_rfl) (fun _ _ _ h => h) rfl rfl (by first | exact trivial | (simp only [Holds]; omega) | (simp [Holds]; done) | (simp [Holds]; omega)) rfl rfl ?_ | refine WH.pure (nw := false) 5 rfl rfl (by kernel_rfl) (by kernel_rfl) (by kernel_rfl) (fun _ _ _ h => h) rfl rfl (by first | exact trivial | (simp only [Holds]; omega) | (simp [Holds]; done) | (simp [Holds]; omega)) rfl rfl ?_ | refine WH.load 5 rfl rfl (by kernel_rfl) (by kernel_rfl) (by kernel_rfl) (fun _ _ _ h => h) rfl rfl rfl rfl (.inl ⟨rfl, HasNth.ent (by repeat (first | exact HasNth.here rfl | apply HasNth.there))⟩) rfl rfl ?_ | refine WH.load 5 rfl rfl (by kernel_rfl) (by kernel_rfl) (by kernel_rfl) (fun _ _ _ h => h) rfl rfl rfl rfl (loads_cut rfl rfl (by repeat (first | exact HasCut.here rfl | apply HasCut.there))) rfl rfl ?_)
  (first | refine WH.pure (nw := true) 7 rfl rfl (by kernel_rfl) (by kernel_rfl) (by kernel_rfl) (fun _ _ _ h => h) rfl rfl (by first | exact trivial | (simp only [Holds]; omega) | (simp [Holds]; done) | (simp [Holds]; omega)) rfl rfl ?_ | refine WH.pure (nw := false) 7 rfl rfl (by kernel_rfl) (by kernel_rfl) (by kernel_rfl) (fun _ _ _ h => h) rfl rfl (by first | exact trivial | (simp only [Holds]; omega) | (simp [Holds]; done) | (simp [Holds]; omega)) rfl rfl ?_ | refine WH.load 7 rfl rfl (by kernel_rfl) (by kernel_rfl) (by kernel_rfl) (fun _ _ _ h => h) rfl rfl rfl rfl (.inl ⟨rfl, HasNth.ent (by repeat (first | exact HasNth.here rfl | apply HasNth.there))⟩) rfl rfl ?_ | refine WH.load 7 rfl rfl (by kernel_rfl) (by kernel_rfl) (by kernel_rfl) (fun _ _ _ h => h) rfl rfl rfl rfl (loads_cut rfl rfl (by repeat (first | exact HasCut.here rfl | apply HasCut.there))) rfl rfl ?_); (first | refine WH.pure (nw := true) 8 rfl rfl (by kernel_rfl) (by kernel_rfl) (by kernel_rfl) (fun _ _ _ h => h) rfl rfl (by first | exact trivial | (simp only [Holds]; omega) | (simp [Holds]; done) | (simp [Holds]; omega)) rfl rfl ?_ | refine WH.pure (nw := false) 8 rfl rfl (by kernel_rfl) (by kernel_rfl) (by kernel_rfl) (fun _ _ _ h => h) rfl rfl (by first | exact trivial | (simp only [Holds]; omega) | (simp [Holds]; done) | (simp [Holds]; omega)) rfl rfl ?_ | refine WH.load 8 rfl rfl (by kernel_rfl) (by kernel_rfl) (by kernel_rfl) (fun _ _ _ h => h) rfl rfl rfl rfl (.inl ⟨rfl, HasNth.ent (by repeat (first | exact HasNth.here rfl | apply HasNth.there))⟩) rfl rfl ?_ | refine WH.load 8 rfl rfl (by kernel_rfl) (by kernel_rfl) (by kernel_rfl) (fun _ _ _ h => h) rfl rfl rfl rfl (loads_cut rfl rfl (by repeat (first | exact HasCut.here rfl | apply HasCut.there))) rfl rfl ?_)
  (first | refine WH.pure (nw := true) 10 rfl rfl (by kernel_rfl) (by kernel_rfl) (by kernel_rfl) (fun _ _ _ h => h) rfl rfl (by first | exact trivial | (simp only [Holds]; omega) | (simp [Holds]; done) | (simp [Holds]; omega)) rfl rfl ?_ | refine WH.pure (nw := false) 10 rfl rfl (by kernel_rfl) (by kernel_rfl) (by kernel_rfl) (fun _ _ _ h => h) rfl rfl (by first | exact trivial | (simp only [Holds]; omega) | (simp [Holds]; done) | (simp [Holds]; omega)) rfl rfl ?_ | refine WH.load 10 rfl rfl (by kernel_rfl) (by kernel_rfl) (by kernel_rfl) (fun _ _ _ h => h) rfl rfl rfl rfl (.inl ⟨rfl, HasNth.ent (by repeat (first | exact HasNth.here rfl | apply HasNth.there))⟩) rfl rfl ?_ | refine WH.load 10 rfl rfl (by kernel_rfl) (by kernel_rfl) (by kernel_rfl) (fun _ _ _ h => h) rfl rfl rfl rfl (loads_cut rfl rfl (by repeat (first | exact HasCut.here rfl | apply HasCut.there))) rfl rfl ?_); (first | refine WH.pure (nw := true) 11 rfl rfl (by kernel_rfl) (by kernel_rfl) (by kernel_rfl) (fun _ _ _ h => h) rfl rfl (by first | exact trivial | (simp only [Holds]; omega) | (simp [Holds]; done) | (simp [Holds]; omega)) rfl rfl ?_ | refine WH.pure (nw := false) 11 rfl rfl (by kernel_rfl) (by kernel_rfl) (by kernel_rfl) (fun _ _ _ h => h) rfl rfl (by first | exact trivial | (simp only [Holds]; omega) | (simp [Holds]; done) | (simp [Holds]; omega)) rfl rfl ?_ | refine WH.load 11 rfl rfl (by kernel_rfl) (by kernel_rfl) (by kernel_rfl) (fun _ _ _ h => h) rfl rfl rfl rfl (.inl ⟨rfl, HasNth.ent (by repeat (first | exact HasNth.here rfl | apply HasNth.there))⟩) rfl rfl ?_ | refine WH.load 11 rfl rfl (by kernel_rfl) (by kernel_rfl) (by kernel_rfl) (fun _ _ _ h => h) rfl rfl rfl rfl (loads_cut rfl rfl (by repeat (first | exact HasCut.here rfl | apply HasCut.there))) rfl rfl ?_)
  refine WH.only 6 rfl rfl (by kernel_rfl) rfl (OP.callRO rfl rfl hbeh (hR (by repeat (first | exact List.Mem.head _ | apply List.Mem.tail)) (by repeat (first | exact List.Mem.head _ | apply List.Mem.tail))) rfl rfl ⟨fun _ => Imp.refl _, ?_⟩)
  obtain rfl | rfl | rfl | rfl : vol = 0 ∨ vol = 1 ∨ vol = 2 ∨ vol = 3 := by omega
  all_goals
    (first | refine WH.pure (nw := true) 9 rfl rfl (by kernel_rfl) (by kernel_rfl) (by kernel_rfl) (fun _ _ _ h => h) rfl rfl (by first | exact trivial | (simp only [Holds]; omega) | (simp [Holds]; done) | (simp [Holds]; omega)) rfl rfl ?_ | refine WH.pure (nw := false) 9 rfl rfl (by kernel_rfl) (by kernel_rfl) (by kernel_rfl) (fun _ _ _ h => h) rfl rfl (by first | exact trivial | (simp only [Holds]; omega) | (simp [Holds]; done) | (simp [Holds]; omega)) rfl rfl ?_ | refine WH.load 9 rfl rfl (by kernel_rfl) (by kernel_rfl) (by kernel_rfl) (fun _ _ _ h => h) rfl rfl rfl rfl (.inl ⟨rfl, HasNth.ent (by repeat (first | exact HasNth.here rfl | apply HasNth.there))⟩) rfl rfl ?_ | refine WH.load 9 rfl rfl (by kernel_rfl) (by kernel_rfl) (by kernel_rfl) (fun _ _ _ h => h) rfl rfl rfl rfl (loads_cut rfl rfl (by repeat (first | exact HasCut.here rfl | apply HasCut.there))) rfl rfl ?_)
    (first | refine WH.pure (nw := true) 12 rfl rfl (by kernel_rfl) (by kernel_rfl) (by kernel_rfl) (fun _ _ _ h => h) rfl rfl (by first | exact trivial | (simp only [Holds]; omega) | (simp [Holds]; done) | (simp [Holds]; omega)) rfl rfl ?_ | refine WH.pure (nw := false) 12 rfl rfl (by kernel_rfl) (by kernel_rfl) (by kernel_rfl) (fun _ _ _ h => h) rfl rfl (by first | exact trivial | (simp only [Holds]; omega) | (simp [Holds]; done) | (simp [Holds]; omega)) rfl rfl ?_ | refine WH.load 12 rfl rfl (by kernel_rfl) (by kernel_rfl) (by kernel_rfl) (fun _ _ _ h => h) rfl rfl rfl rfl (.inl ⟨rfl, HasNth.ent (by repeat (first | exact HasNth.here rfl | apply HasNth.there))⟩) rfl rfl ?_ | refine WH.load 12 rfl rfl (by kernel_rfl) (by kernel_rfl) (by kernel_rfl) (fun _ _ _ h => h) rfl rfl rfl rfl (loads_cut rfl rfl (by repeat (first | exact HasCut.here rfl | apply HasCut.there))) rfl rfl ?_); (first | refine WH.pure (nw := true) 13 rfl rfl (by kernel_rfl) (by kernel_rfl) (by kernel_rfl) (fun _ _ _ h => h) rfl rfl (by first | exact trivial | (simp only [Holds]; omega) | (simp [Holds]; done) | (simp [Holds]; omega)) rfl rfl ?_ | refine WH.pure (nw := false) 13 rfl rfl (by kernel_rfl) (by kernel_rfl) (by kernel_rfl) (fun _ _ _ h => h) rfl rfl (by first | exact trivial | (simp only [Holds]; omega) | (simp [Holds]; done) | (simp [Holds]; omega)) rfl rfl ?_ | refine WH.load 13 rfl rfl (by kernel_rfl) (by kernel_rfl) (by kernel_rfl) (fun _ _ _ h => h) rfl rfl rfl rfl (.inl ⟨rfl, HasNth.ent (by repeat (first | exact HasNth.here rfl | apply HasNth.there))⟩) rfl rfl ?_ | refine WH.load 13 rfl rfl (by kernel_rfl) (by kernel_rfl) (by kernel_rfl) (fun _ _ _ h => h) rfl rfl rfl rfl (loads_cut rfl rfl (by repeat (first | exact HasCut.here rfl | apply HasCut.there))) rfl rfl ?_)
    refine WH.done (by kernel_rfl) ?_
    refine WC.cond rfl (fun hb => ?_) (fun hb => ?_)
    · repeat (first
    | refine WC.seq ?_ | refine WC.region ?_ | refine WL.nil ?_ | with_reducible refine seqK.go ?_ | refine WC.block ?_ | refine WC.skip ?_ | refine WC.exit ?_ | refine WC.ret ?_
    | with_reducible refine seqK.exit ?_ | with_reducible refine seqK.ret ?_ | (with_reducible refine blockK.hit ?hb ?_; (case hb => rfl)) | (with_reducible refine blockK.miss ?hb ?_; (case hb => rfl)) | with_reducible refine blockK.normal ?_ | with_reducible refine blockK.ret ?_ | with_reducible refine loopK.exit ?_ | with_reducible refine loopK.ret ?_
    | refine WC.condT rfl ?_ | refine WC.condF rfl ?_
    | refine WL.step rfl (OP.pure (nw := true) rfl (by first | exact trivial | (simp only [Holds]; omega) | (simp [Holds]; done) | (simp [Holds]; omega)) rfl rfl ?_)
    | refine WL.step rfl (OP.pure (nw := false) rfl (by first | exact trivial | (simp only [Holds]; omega) | (simp [Holds]; done) | (simp [Holds]; omega)) rfl rfl ?_)
    | refine WL.step rfl (OP.pickT rfl rfl rfl rfl rfl ?_) | refine WL.step rfl (OP.pickF rfl rfl rfl rfl rfl ?_) | refine WL.guardT rfl rfl rfl rfl (OP.pickT rfl rfl rfl rfl rfl ?_) | refine WL.guardT rfl rfl rfl rfl (OP.pickF rfl rfl rfl rfl rfl ?_)
    | refine WL.guardT rfl rfl rfl rfl (OP.pure (nw := true) rfl (by first | exact trivial | (simp only [Holds]; omega) | (simp [Holds]; done) | (simp [Holds]; omega)) rfl rfl ?_)
    | refine WL.guardT rfl rfl rfl rfl (OP.pure (nw := false) rfl trivial rfl rfl ?_)
    | refine WL.guardT rfl rfl rfl rfl (OP.loadN rfl rfl rfl rfl (by repeat (first | exact HasNth.here rfl | apply HasNth.there)) rfl rfl ?_)
    | refine WL.guardT rfl rfl rfl rfl (OP.loadB rfl rfl rfl rfl rfl (by repeat (first | exact HasCut.here rfl | apply HasCut.there)) rfl rfl ?_)
    | refine WL.guardF rfl rfl rfl rfl rfl rfl ?_
    | refine WL.guarded (nw := true) rfl rfl rfl rfl rfl rfl rfl (by first | exact trivial | (simp only [Holds]; omega) | (simp [Holds]; done) | (simp [Holds]; omega)) ?_
    | refine WL.step rfl (OP.loadN rfl rfl rfl rfl (by repeat (first | exact HasNth.here rfl | apply HasNth.there)) rfl rfl ?_)
    | refine WL.step rfl (OP.loadB rfl rfl rfl rfl rfl (by repeat (first | exact HasCut.here rfl | apply HasCut.there)) rfl rfl ?_)
    | refine WL.step rfl (OP.store rfl rfl rfl rfl rfl rfl rfl (by repeat (first | exact UpdM.here rfl | apply UpdM.there)) rfl ?_)
    | refine WL.step rfl (OP.alloc rfl rfl rfl rfl rfl (fun _ => ?_))
    | refine WL.step rfl (OP.box rfl rfl rfl rfl rfl (fun _ => ?_))
    | refine WL.step rfl (OP.buildT rfl rfl rfl rfl ?_)
    | refine WL.step rfl (OP.sliceLit rfl rfl rfl rfl rfl rfl rfl rfl (fun _ => ?_)))
      refine WL.step rfl (OP.call (pre := []) (F := _) rfl rfl (wrong_ok _ _ (by decide)) (Imp.refl _) rfl rfl ?_)
      rintro v' E ⟨b', rfl, rfl⟩
      repeat (first
    | refine WC.seq ?_ | refine WC.region ?_ | refine WL.nil ?_ | with_reducible refine seqK.go ?_ | refine WC.block ?_ | refine WC.skip ?_ | refine WC.exit ?_ | refine WC.ret ?_
    | with_reducible refine seqK.exit ?_ | with_reducible refine seqK.ret ?_ | (with_reducible refine blockK.hit ?hb ?_; (case hb => rfl)) | (with_reducible refine blockK.miss ?hb ?_; (case hb => rfl)) | with_reducible refine blockK.normal ?_ | with_reducible refine blockK.ret ?_ | with_reducible refine loopK.exit ?_ | with_reducible refine loopK.ret ?_
    | refine WC.condT rfl ?_ | refine WC.condF rfl ?_
    | refine WL.step rfl (OP.pure (nw := true) rfl (by first | exact trivial | (simp only [Holds]; omega) | (simp [Holds]; done) | (simp [Holds]; omega)) rfl rfl ?_)
    | refine WL.step rfl (OP.pure (nw := false) rfl (by first | exact trivial | (simp only [Holds]; omega) | (simp [Holds]; done) | (simp [Holds]; omega)) rfl rfl ?_)
    | refine WL.step rfl (OP.pickT rfl rfl rfl rfl rfl ?_) | refine WL.step rfl (OP.pickF rfl rfl rfl rfl rfl ?_) | refine WL.guardT rfl rfl rfl rfl (OP.pickT rfl rfl rfl rfl rfl ?_) | refine WL.guardT rfl rfl rfl rfl (OP.pickF rfl rfl rfl rfl rfl ?_)
    | refine WL.guardT rfl rfl rfl rfl (OP.pure (nw := true) rfl (by first | exact trivial | (simp only [Holds]; omega) | (simp [Holds]; done) | (simp [Holds]; omega)) rfl rfl ?_)
    | refine WL.guardT rfl rfl rfl rfl (OP.pure (nw := false) rfl trivial rfl rfl ?_)
    | refine WL.guardT rfl rfl rfl rfl (OP.loadN rfl rfl rfl rfl (by repeat (first | exact HasNth.here rfl | apply HasNth.there)) rfl rfl ?_)
    | refine WL.guardT rfl rfl rfl rfl (OP.loadB rfl rfl rfl rfl rfl (by repeat (first | exact HasCut.here rfl | apply HasCut.there)) rfl rfl ?_)
    | refine WL.guardF rfl rfl rfl rfl rfl rfl ?_
    | refine WL.guarded (nw := true) rfl rfl rfl rfl rfl rfl rfl (by first | exact trivial | (simp only [Holds]; omega) | (simp [Holds]; done) | (simp [Holds]; omega)) ?_
    | refine WL.step rfl (OP.loadN rfl rfl rfl rfl (by repeat (first | exact HasNth.here rfl | apply HasNth.there)) rfl rfl ?_)
    | refine WL.step rfl (OP.loadB rfl rfl rfl rfl rfl (by repeat (first | exact HasCut.here rfl | apply HasCut.there)) rfl rfl ?_)
    | refine WL.step rfl (OP.store rfl rfl rfl rfl rfl rfl rfl (by repeat (first | exact UpdM.here rfl | apply UpdM.there)) rfl ?_)
    | refine WL.step rfl (OP.alloc rfl rfl rfl rfl rfl (fun _ => ?_))
    | refine WL.step rfl (OP.box rfl rfl rfl rfl rfl (fun _ => ?_))
    | refine WL.step rfl (OP.buildT rfl rfl rfl rfl ?_)
    | refine WL.step rfl (OP.sliceLit rfl rfl rfl rfl rfl rfl rfl rfl (fun _ => ?_)))
      refine ret1 rfl ⟨[_] ++ grpL p a ch.length cap _ ch, ?_, (Imp.sub (by repeat (first | exact Picks.nil _ | apply Picks.cons | exact Pick.here _ _ | apply Pick.there)))⟩
      unfold PutPost putM
      rw [if_neg (not_not_intro h1), if_neg h2, if_neg h3, if_pos]
      · exact ⟨_, ⟨_, rfl, rfl⟩, rfl⟩
      · rw [hsv]; simpa using hb
    · by_cases h5 : 100 ≤ ch.length
      · repeat (first | refine WL.step rfl (OP.decT (nw := true) rfl trivial (by omega) rfl rfl ?_) | refine WL.step rfl (OP.decF (nw := true) rfl trivial (by omega) rfl rfl ?_) | refine WL.step rfl (OP.decNT (nw := true) rfl trivial (by omega) rfl rfl ?_) | refine WL.step rfl (OP.decNF (nw := true) rfl trivial (by omega) rfl rfl ?_) | refine WL.guardT rfl rfl rfl rfl (OP.decT (nw := true) rfl trivial (by omega) rfl rfl ?_) | refine WL.guardT rfl rfl rfl rfl (OP.decF (nw := true) rfl trivial (by omega) rfl rfl ?_) | (first
    | refine WC.seq ?_ | refine WC.region ?_ | refine WL.nil ?_ | with_reducible refine seqK.go ?_ | refine WC.block ?_ | refine WC.skip ?_ | refine WC.exit ?_ | refine WC.ret ?_
    | with_reducible refine seqK.exit ?_ | with_reducible refine seqK.ret ?_ | (with_reducible refine blockK.hit ?hb ?_; (case hb => rfl)) | (with_reducible refine blockK.miss ?hb ?_; (case hb => rfl)) | with_reducible refine blockK.normal ?_ | with_reducible refine blockK.ret ?_ | with_reducible refine loopK.exit ?_ | with_reducible refine loopK.ret ?_
    | refine WC.condT rfl ?_ | refine WC.condF rfl ?_
    | refine WL.step rfl (OP.pure (nw := true) rfl (by first | exact trivial | (simp only [Holds]; omega) | (simp [Holds]; done) | (simp [Holds]; omega)) rfl rfl ?_)
    | refine WL.step rfl (OP.pure (nw := false) rfl (by first | exact trivial | (simp only [Holds]; omega) | (simp [Holds]; done) | (simp [Holds]; omega)) rfl rfl ?_)
    | refine WL.step rfl (OP.pickT rfl rfl rfl rfl rfl ?_) | refine WL.step rfl (OP.pickF rfl rfl rfl rfl rfl ?_) | refine WL.guardT rfl rfl rfl rfl (OP.pickT rfl rfl rfl rfl rfl ?_) | refine WL.guardT rfl rfl rfl rfl (OP.pickF rfl rfl rfl rfl rfl ?_)
    | refine WL.guardT rfl rfl rfl rfl (OP.pure (nw := true) rfl (by first | exact trivial | (simp only [Holds]; omega) | (simp [Holds]; done) | (simp [Holds]; omega)) rfl rfl ?_)
    | refine WL.guardT rfl rfl rfl rfl (OP.pure (nw := false) rfl trivial rfl rfl ?_)
    | refine WL.guardT rfl rfl rfl rfl (OP.loadN rfl rfl rfl rfl (by repeat (first | exact HasNth.here rfl | apply HasNth.there)) rfl rfl ?_)
    | refine WL.guardT rfl rfl rfl rfl (OP.loadB rfl rfl rfl rfl rfl (by repeat (first | exact HasCut.here rfl | apply HasCut.there)) rfl rfl ?_)
    | refine WL.guardF rfl rfl rfl rfl rfl rfl ?_
    | refine WL.guarded (nw := true) rfl rfl rfl rfl rfl rfl rfl (by first | exact trivial | (simp only [Holds]; omega) | (simp [Holds]; done) | (simp [Holds]; omega)) ?_
    | refine WL.step rfl (OP.loadN rfl rfl rfl rfl (by repeat (first | exact HasNth.here rfl | apply HasNth.there)) rfl rfl ?_)
    | refine WL.step rfl (OP.loadB rfl rfl rfl rfl rfl (by repeat (first | exact HasCut.here rfl | apply HasCut.there)) rfl rfl ?_)
    | refine WL.step rfl (OP.store rfl rfl rfl rfl rfl rfl rfl (by repeat (first | exact UpdM.here rfl | apply UpdM.there)) rfl ?_)
    | refine WL.step rfl (OP.alloc rfl rfl rfl rfl rfl (fun _ => ?_))
    | refine WL.step rfl (OP.box rfl rfl rfl rfl rfl (fun _ => ?_))
    | refine WL.step rfl (OP.buildT rfl rfl rfl rfl ?_)
    | refine WL.step rfl (OP.sliceLit rfl rfl rfl rfl rfl rfl rfl rfl (fun _ => ?_))))
        repeat (first
    | refine WC.seq ?_ | refine WC.region ?_ | refine WL.nil ?_ | with_reducible refine seqK.go ?_ | refine WC.block ?_ | refine WC.skip ?_ | refine WC.exit ?_ | refine WC.ret ?_
    | with_reducible refine seqK.exit ?_ | with_reducible refine seqK.ret ?_ | (with_reducible refine blockK.hit ?hb ?_; (case hb => rfl)) | (with_reducible refine blockK.miss ?hb ?_; (case hb => rfl)) | with_reducible refine blockK.normal ?_ | with_reducible refine blockK.ret ?_ | with_reducible refine loopK.exit ?_ | with_reducible refine loopK.ret ?_
    | refine WC.condT rfl ?_ | refine WC.condF rfl ?_
    | refine WL.step rfl (OP.pure (nw := true) rfl (by first | exact trivial | (simp only [Holds]; omega) | (simp [Holds]; done) | (simp [Holds]; omega)) rfl rfl ?_)
    | refine WL.step rfl (OP.pure (nw := false) rfl (by first | exact trivial | (simp only [Holds]; omega) | (simp [Holds]; done) | (simp [Holds]; omega)) rfl rfl ?_)
    | refine WL.step rfl (OP.pickT rfl rfl rfl rfl rfl ?_) | refine WL.step rfl (OP.pickF rfl rfl rfl rfl rfl ?_) | refine WL.guardT rfl rfl rfl rfl (OP.pickT rfl rfl rfl rfl rfl ?_) | refine WL.guardT rfl rfl rfl rfl (OP.pickF rfl rfl rfl rfl rfl ?_)
    | refine WL.guardT rfl rfl rfl rfl (OP.pure (nw := true) rfl (by first | exact trivial | (simp only [Holds]; omega) | (simp [Holds]; done) | (simp [Holds]; omega)) rfl rfl ?_)
    | refine WL.guardT rfl rfl rfl rfl (OP.pure (nw := false) rfl trivial rfl rfl ?_)
    | refine WL.guardT rfl rfl rfl rfl (OP.loadN rfl rfl rfl rfl (by repeat (first | exact HasNth.here rfl | apply HasNth.there)) rfl rfl ?_)
    | refine WL.guardT rfl rfl rfl rfl (OP.loadB rfl rfl rfl rfl rfl (by repeat (first | exact HasCut.here rfl | apply HasCut.there)) rfl rfl ?_)
    | refine WL.guardF rfl rfl rfl rfl rfl rfl ?_
    | refine WL.guarded (nw := true) rfl rfl rfl rfl rfl rfl rfl (by first | exact trivial | (simp only [Holds]; omega) | (simp [Holds]; done) | (simp [Holds]; omega)) ?_
    | refine WL.step rfl (OP.loadN rfl rfl rfl rfl (by repeat (first | exact HasNth.here rfl | apply HasNth.there)) rfl rfl ?_)
    | refine WL.step rfl (OP.loadB rfl rfl rfl rfl rfl (by repeat (first | exact HasCut.here rfl | apply HasCut.there)) rfl rfl ?_)
    | refine WL.step rfl (OP.store rfl rfl rfl rfl rfl rfl rfl (by repeat (first | exact UpdM.here rfl | apply UpdM.there)) rfl ?_)
    | refine WL.step rfl (OP.alloc rfl rfl rfl rfl rfl (fun _ => ?_))
    | refine WL.step rfl (OP.box rfl rfl rfl rfl rfl (fun _ => ?_))
    | refine WL.step rfl (OP.buildT rfl rfl rfl rfl ?_)
    | refine WL.step rfl (OP.sliceLit rfl rfl rfl rfl rfl rfl rfl rfl (fun _ => ?_)))
        refine WL.step rfl (OP.call (pre := []) (F := _) rfl rfl (wrong_ok _ _ (by decide)) (Imp.refl _) rfl rfl ?_)
        rintro v' E ⟨b', rfl, rfl⟩
        repeat (first
    | refine WC.seq ?_ | refine WC.region ?_ | refine WL.nil ?_ | with_reducible refine seqK.go ?_ | refine WC.block ?_ | refine WC.skip ?_ | refine WC.exit ?_ | refine WC.ret ?_
    | with_reducible refine seqK.exit ?_ | with_reducible refine seqK.ret ?_ | (with_reducible refine blockK.hit ?hb ?_; (case hb => rfl)) | (with_reducible refine blockK.miss ?hb ?_; (case hb => rfl)) | with_reducible refine blockK.normal ?_ | with_reducible refine blockK.ret ?_ | with_reducible refine loopK.exit ?_ | with_reducible refine loopK.ret ?_
    | refine WC.condT rfl ?_ | refine WC.condF rfl ?_
    | refine WL.step rfl (OP.pure (nw := true) rfl (by first | exact trivial | (simp only [Holds]; omega) | (simp [Holds]; done) | (simp [Holds]; omega)) rfl rfl ?_)
    | refine WL.step rfl (OP.pure (nw := false) rfl (by first | exact trivial | (simp only [Holds]; omega) | (simp [Holds]; done) | (simp [Holds]; omega)) rfl rfl ?_)
    | refine WL.step rfl (OP.pickT rfl rfl rfl rfl rfl ?_) | refine WL.step rfl (OP.pickF rfl rfl rfl rfl rfl ?_) | refine WL.guardT rfl rfl rfl rfl (OP.pickT rfl rfl rfl rfl rfl ?_) | refine WL.guardT rfl rfl rfl rfl (OP.pickF rfl rfl rfl rfl rfl ?_)
    | refine WL.guardT rfl rfl rfl rfl (OP.pure (nw := true) rfl (by first | exact trivial | (simp only [Holds]; omega) | (simp [Holds]; done) | (simp [Holds]; omega)) rfl rfl ?_)
    | refine WL.guardT rfl rfl rfl rfl (OP.pure (nw := false) rfl trivial rfl rfl ?_)
    | refine WL.guardT rfl rfl rfl rfl (OP.loadN rfl rfl rfl rfl (by repeat (first | exact HasNth.here rfl | apply HasNth.there)) rfl rfl ?_)
    | refine WL.guardT rfl rfl rfl rfl (OP.loadB rfl rfl rfl rfl rfl (by repeat (first | exact HasCut.here rfl | apply HasCut.there)) rfl rfl ?_)
    | refine WL.guardF rfl rfl rfl rfl rfl rfl ?_
    | refine WL.guarded (nw := true) rfl rfl rfl rfl rfl rfl rfl (by first | exact trivial | (simp only [Holds]; omega) | (simp [Holds]; done) | (simp [Holds]; omega)) ?_
    | refine WL.step rfl (OP.loadN rfl rfl rfl rfl (by repeat (first | exact HasNth.here rfl | apply HasNth.there)) rfl rfl ?_)
    | refine WL.step rfl (OP.loadB rfl rfl rfl rfl rfl (by repeat (first | exact HasCut.here rfl | apply HasCut.there)) rfl rfl ?_)
    | refine WL.step rfl (OP.store rfl rfl rfl rfl rfl rfl rfl (by repeat (first | exact UpdM.here rfl | apply UpdM.there)) rfl ?_)
    | refine WL.step rfl (OP.alloc rfl rfl rfl rfl rfl (fun _ => ?_))
    | refine WL.step rfl (OP.box rfl rfl rfl rfl rfl (fun _ => ?_))
    | refine WL.step rfl (OP.buildT rfl rfl rfl rfl ?_)
    | refine WL.step rfl (OP.sliceLit rfl rfl rfl rfl rfl rfl rfl rfl (fun _ => ?_)))
        refine ret1 rfl ⟨[_] ++ grpL p a ch.length cap _ ch, ?_, (Imp.sub (by repeat (first | exact Picks.nil _ | apply Picks.cons | exact Pick.here _ _ | apply Pick.there)))⟩
        unfold PutPost putM
        rw [if_neg (not_not_intro h1), if_neg h2, if_neg h3, if_neg, if_pos h5]
        · exact ⟨_, ⟨_, rfl, rfl⟩, rfl⟩
        · rw [hsv]; simpa using hb
      · repeat (first | refine WL.step rfl (OP.decT (nw := true) rfl trivial (by omega) rfl rfl ?_) | refine WL.step rfl (OP.decF (nw := true) rfl trivial (by omega) rfl rfl ?_) | refine WL.step rfl (OP.decNT (nw := true) rfl trivial (by omega) rfl rfl ?_) | refine WL.step rfl (OP.decNF (nw := true) rfl trivial (by omega) rfl rfl ?_) | refine WL.guardT rfl rfl rfl rfl (OP.decT (nw := true) rfl trivial (by omega) rfl rfl ?_) | refine WL.guardT rfl rfl rfl rfl (OP.decF (nw := true) rfl trivial (by omega) rfl rfl ?_) | (first
    | refine WC.seq ?_ | refine WC.region ?_ | refine WL.nil ?_ | with_reducible refine seqK.go ?_ | refine WC.block ?_ | refine WC.skip ?_ | refine WC.exit ?_ | refine WC.ret ?_
    | with_reducible refine seqK.exit ?_ | with_reducible refine seqK.ret ?_ | (with_reducible refine blockK.hit ?hb ?_; (case hb => rfl)) | (with_reducible refine blockK.miss ?hb ?_; (case hb => rfl)) | with_reducible refine blockK.normal ?_ | with_reducible refine blockK.ret ?_ | with_reducible refine loopK.exit ?_ | with_reducible refine loopK.ret ?_
    | refine WC.condT rfl ?_ | refine WC.condF rfl ?_
    | refine WL.step rfl (OP.pure (nw := true) rfl (by first | exact trivial | (simp only [Holds]; omega) | (simp [Holds]; done) | (simp [Holds]; omega)) rfl rfl ?_)
    | refine WL.step rfl (OP.pure (nw := false) rfl (by first | exact trivial | (simp only [Holds]; omega) | (simp [Holds]; done) | (simp [Holds]; omega)) rfl rfl ?_)
    | refine WL.step rfl (OP.pickT rfl rfl rfl rfl rfl ?_) | refine WL.step rfl (OP.pickF rfl rfl rfl rfl rfl ?_) | refine WL.guardT rfl rfl rfl rfl (OP.pickT rfl rfl rfl rfl rfl ?_) | refine WL.guardT rfl rfl rfl rfl (OP.pickF rfl rfl rfl rfl rfl ?_)
    | refine WL.guardT rfl rfl rfl rfl (OP.pure (nw := true) rfl (by first | exact trivial | (simp only [Holds]; omega) | (simp [Holds]; done) | (simp [Holds]; omega)) rfl rfl ?_)
    | refine WL.guardT rfl rfl rfl rfl (OP.pure (nw := false) rfl trivial rfl rfl ?_)
    | refine WL.guardT rfl rfl rfl rfl (OP.loadN rfl rfl rfl rfl (by repeat (first | exact HasNth.here rfl | apply HasNth.there)) rfl rfl ?_)
    | refine WL.guardT rfl rfl rfl rfl (OP.loadB rfl rfl rfl rfl rfl (by repeat (first | exact HasCut.here rfl | apply HasCut.there)) rfl rfl ?_)
    | refine WL.guardF rfl rfl rfl rfl rfl rfl ?_
    | refine WL.guarded (nw := true) rfl rfl rfl rfl rfl rfl rfl (by first | exact trivial | (simp only [Holds]; omega) | (simp [Holds]; done) | (simp [Holds]; omega)) ?_
    | refine WL.step rfl (OP.loadN rfl rfl rfl rfl (by repeat (first | exact HasNth.here rfl | apply HasNth.there)) rfl rfl ?_)
    | refine WL.step rfl (OP.loadB rfl rfl rfl rfl rfl (by repeat (first | exact HasCut.here rfl | apply HasCut.there)) rfl rfl ?_)
    | refine WL.step rfl (OP.store rfl rfl rfl rfl rfl rfl rfl (by repeat (first | exact UpdM.here rfl | apply UpdM.there)) rfl ?_)
    | refine WL.step rfl (OP.alloc rfl rfl rfl rfl rfl (fun _ => ?_))
    | refine WL.step rfl (OP.box rfl rfl rfl rfl rfl (fun _ => ?_))
    | refine WL.step rfl (OP.buildT rfl rfl rfl rfl ?_)
    | refine WL.step rfl (OP.sliceLit rfl rfl rfl rfl rfl rfl rfl rfl (fun _ => ?_))))
        refine WC.regionD 8 11 [_, _] rfl (by kernel_rfl) (Imp.sub (L := _ :: _ :: _) (Picks.cons (Pick.here _ _) (Picks.cons (Pick.here _ _) (Picks.nil _)))) ?_
        (first | refine WH.pure (nw := true) 0 rfl rfl (by kernel_rfl) (by kernel_rfl) (by kernel_rfl) (fun _ _ _ h => h) rfl rfl (by first | exact trivial | (simp only [Holds]; omega) | (simp [Holds]; done) | (simp [Holds]; omega)) rfl rfl ?_ | refine WH.pure (nw := false) 0 rfl rfl (by kernel_rfl) (by kernel_rfl) (by kernel_rfl) (fun _ _ _ h => h) rfl rfl (by first | exact trivial | (simp only [Holds]; omega) | (simp [Holds]; done) | (simp [Holds]; omega)) rfl rfl ?_ | refine WH.load 0 rfl rfl (by kernel_rfl) (by kernel_rfl) (by kernel_rfl) (fun _ _ _ h => h) rfl rfl rfl rfl (.inl ⟨rfl, HasNth.ent (by repeat (first | exact HasNth.here rfl | apply HasNth.there))⟩) rfl rfl ?_ | refine WH.load 0 rfl rfl (by kernel_rfl) (by kernel_rfl) (by kernel_rfl) (fun _ _ _ h => h) rfl rfl rfl rfl (loads_cut rfl rfl (by repeat (first | exact HasCut.here rfl | apply HasCut.there))) rfl rfl ?_); (first | refine WH.pure (nw := true) 1 rfl rfl (by kernel_rfl) (by kernel_rfl) (by kernel_rfl) (fun _ _ _ h => h) rfl rfl (by first | exact trivial | (simp only [Holds]; omega) | (simp [Holds]; done) | (simp [Holds]; omega)) rfl rfl ?_ | refine WH.pure (nw := false) 1 rfl rfl (by kernel_rfl) (by kernel_rfl) (by kernel_rfl) (fun _ _ _ h => h) rfl rfl (by first | exact trivial | (simp only [Holds]; omega) | (simp [Holds]; done) | (simp [Holds]; omega)) rfl rfl ?_ | refine WH.load 1 rfl rfl (by kernel_rfl) (by kernel_rfl) (by kernel_rfl) (fun _ _ _ h => h) rfl rfl rfl rfl (.inl ⟨rfl, HasNth.ent (by repeat (first | exact HasNth.here rfl | apply HasNth.there))⟩) rfl rfl ?_ | refine WH.load 1 rfl rfl (by kernel_rfl) (by kernel_rfl) (by kernel_rfl) (fun _ _ _ h => h) rfl rfl rfl rfl (loads_cut rfl rfl (by repeat (first | exact HasCut.here rfl | apply HasCut.there))) rfl rfl ?_); (first | refine WH.pure (nw := true) 2 rfl rfl (by kernel_rfl) (by kernel_rfl) (by kernel_rfl) (fun _ _ _ h => h) rfl rfl (by first | exact trivial | (simp only [Holds]; omega) | (simp [Holds]; done) | (simp [Holds]; omega)) rfl rfl ?_ | refine WH.pure (nw := false) 2 rfl rfl (by kernel_rfl) (by kernel_rfl) (by kernel_rfl) (fun _ _ _ h => h) rfl rfl (by first | exact trivial | (simp only [Holds]; omega) | (simp [Holds]; done) | (simp [Holds]; omega)) rfl rfl ?_ | refine WH.load 2 rfl rfl (by kernel_rfl) (by kernel_rfl) (by kernel_rfl) (fun _ _ _ h => h) rfl rfl rfl rfl (.inl ⟨rfl, HasNth.ent (by repeat (first | exact HasNth.here rfl | apply HasNth.there))⟩) rfl rfl ?_ | refine WH.load 2 rfl rfl (by kernel_rfl) (by kernel_rfl) (by kernel_rfl) (fun _ _ _ h => h) rfl rfl rfl rfl (loads_cut rfl rfl (by repeat (first | exact HasCut.here rfl | apply HasCut.there))) rfl rfl ?_); (first | refine WH.pure (nw := true) 3 rfl rfl (by kernel_rfl) (by kernel_rfl) (by kernel_rfl) (fun _ _ _ h => h) rfl rfl (by first | exact trivial | (simp only [Holds]; omega) | (simp [Holds]; done) | (simp [Holds]; omega)) rfl rfl ?_ | refine WH.pure (nw := false) 3 rfl rfl (by kernel_rfl) (by kernel_rfl) (by kernel_rfl) (fun _ _ _ h => h) rfl rfl (by first | exact trivial | (simp only [Holds]; omega) | (simp [Holds]; done) | (simp [Holds]; omega)) rfl rfl ?_ | refine WH.load 3 rfl rfl (by kernel_rfl) (by kernel_rfl) (by kernel_rfl) (fun _ _ _ h => h) rfl rfl rfl rfl (.inl ⟨rfl, HasNth.ent (by repeat (first | exact HasNth.here rfl | apply HasNth.there))⟩) rfl rfl ?_ | refine WH.load 3 rfl rfl (by kernel_rfl) (by kernel_rfl) (by kernel_rfl) (fun _ _ _ h => h) rfl rfl rfl rfl (loads_cut rfl rfl (by repeat (first | exact HasCut.here rfl | apply HasCut.there))) rfl rfl ?_); (first | refine WH.pure (nw := true) 4 rfl rfl (by kernel_rfl) (by kernel_rfl) (by kernel_rfl) (fun _ _ _ h => h) rfl rfl (by first | exact trivial | (simp only [Holds]; omega) | (simp [Holds]; done) | (simp [Holds]; omega)) rfl rfl ?_ | refine WH.pure (nw := false) 4 rfl rfl (by kernel_rfl) (by kernel_rfl) (by kernel_rfl) (fun _ _ _ h => h) rfl rfl (by first | exact trivial | (simp only [Holds]; omega) | (simp [Holds]; done) | (simp [Holds]; omega)) rfl rfl ?_ | refine WH.load 4 rfl rfl (by kernel_rfl) (by kernel_rfl) (by kernel_rfl) (fun _ _ _ h => h) rfl rfl rfl rfl (.inl ⟨rfl, HasNth.ent (by repeat (first | exact HasNth.here rfl | apply HasNth.there))⟩) rfl rfl ?_ | refine WH.load 4 rfl rfl (by kernel_rfl) (by kernel_rfl) (by kernel_rfl) (fun _ _ _ h => h) rfl rfl rfl rfl (loads_cut rfl rfl (by repeat (first | exact HasCut.here rfl | apply HasCut.there))) rfl rfl ?_); (first | refine WH.pure (nw := true) 5 rfl rfl (by kernel_rfl) (by kernel_rfl) (by kernel_rfl) (fun _ _ _ h => h) rfl rfl (by first | exact trivial | (simp only [Holds]; omega) | (simp [Holds]; done) | (simp [Holds]; omega)) rfl rfl ?_ | refine WH.pure (nw := false) 5 rfl rfl (by kernel_rfl) (by kernel_rfl) (by kernel_rfl) (fun _ _ _ h => h) rfl rfl (by first | exact trivial | (simp only [Holds]; omega) | (simp [Holds]; done) | (simp [Holds]; omega)) rfl rfl ?_ | refine WH.load 5 rfl rfl (by kernel_rfl) (by kernel_rfl) (by kernel_rfl) (fun _ _ _ h => h) rfl rfl rfl rfl (.inl ⟨rfl, HasNth.ent (by repeat (first | exact HasNth.here rfl | apply HasNth.there))⟩) rfl rfl ?_ | refine WH.load 5 rfl rfl (by kernel_rfl) (by kernel_rfl) (by kernel_rfl) (fun _ _ _ h => h) rfl rfl rfl rfl (loads_cut rfl rfl (by repeat (first | exact HasCut.here rfl | apply HasCut.there))) rfl rfl ?_)
        refine WH.only 6 rfl rfl (by kernel_rfl) rfl (OP.sliceLit rfl rfl rfl rfl rfl rfl rfl rfl (fun b' => ⟨fun _ => (Imp.sub (by repeat (first | exact Picks.nil _ | apply Picks.cons | exact Pick.here _ _ | apply Pick.there))), ?_⟩))
        refine WH.only 7 rfl rfl (by kernel_rfl) rfl (OP.append rfl rfl rfl rfl rfl rfl rfl rfl rfl (Pick.imp (by repeat (first | exact Pick.here _ _ | apply Pick.there))) (Ent.own (by repeat (first | exact List.Mem.head _ | apply List.Mem.tail))) rfl (by omega) (by omega) rfl rfl (fun a' cap' => ⟨fun _ => (Imp.sub (by repeat (first | exact Picks.nil _ | apply Picks.cons | exact Pick.here _ _ | apply Pick.there))), ?_⟩))
        (first | refine WH.pure (nw := true) 8 rfl rfl (by kernel_rfl) (by kernel_rfl) (by kernel_rfl) (fun _ _ _ h => h) rfl rfl (by first | exact trivial | (simp only [Holds]; omega) | (simp [Holds]; done) | (simp [Holds]; omega)) rfl rfl ?_ | refine WH.pure (nw := false) 8 rfl rfl (by kernel_rfl) (by kernel_rfl) (by kernel_rfl) (fun _ _ _ h => h) rfl rfl (by first | exact trivial | (simp only [Holds]; omega) | (simp [Holds]; done) | (simp [Holds]; omega)) rfl rfl ?_ | refine WH.load 8 rfl rfl (by kernel_rfl) (by kernel_rfl) (by kernel_rfl) (fun _ _ _ h => h) rfl rfl rfl rfl (.inl ⟨rfl, HasNth.ent (by repeat (first | exact HasNth.here rfl | apply HasNth.there))⟩) rfl rfl ?_ | refine WH.load 8 rfl rfl (by kernel_rfl) (by kernel_rfl) (by kernel_rfl) (fun _ _ _ h => h) rfl rfl rfl rfl (loads_cut rfl rfl (by repeat (first | exact HasCut.here rfl | apply HasCut.there))) rfl rfl ?_); (first | refine WH.pure (nw := true) 9 rfl rfl (by kernel_rfl) (by kernel_rfl) (by kernel_rfl) (fun _ _ _ h => h) rfl rfl (by first | exact trivial | (simp only [Holds]; omega) | (simp [Holds]; done) | (simp [Holds]; omega)) rfl rfl ?_ | refine WH.pure (nw := false) 9 rfl rfl (by kernel_rfl) (by kernel_rfl) (by kernel_rfl) (fun _ _ _ h => h) rfl rfl (by first | exact trivial | (simp only [Holds]; omega) | (simp [Holds]; done) | (simp [Holds]; omega)) rfl rfl ?_ | refine WH.load 9 rfl rfl (by kernel_rfl) (by kernel_rfl) (by kernel_rfl) (fun _ _ _ h => h) rfl rfl rfl rfl (.inl ⟨rfl, HasNth.ent (by repeat (first | exact HasNth.here rfl | apply HasNth.there))⟩) rfl rfl ?_ | refine WH.load 9 rfl rfl (by kernel_rfl) (by kernel_rfl) (by kernel_rfl) (fun _ _ _ h => h) rfl rfl rfl rfl (loads_cut rfl rfl (by repeat (first | exact HasCut.here rfl | apply HasCut.there))) rfl rfl ?_)
        refine WH.only 10 rfl rfl (by kernel_rfl) rfl (OP.store rfl rfl rfl rfl rfl rfl rfl (by repeat (first | exact UpdM.here rfl | apply UpdM.there)) rfl ⟨(fun h => nomatch h), ?_⟩)
        refine WH.done (by kernel_rfl) ?_
        repeat (first
    | refine WC.seq ?_ | refine WC.region ?_ | refine WL.nil ?_ | with_reducible refine seqK.go ?_ | refine WC.block ?_ | refine WC.skip ?_ | refine WC.exit ?_ | refine WC.ret ?_
    | with_reducible refine seqK.exit ?_ | with_reducible refine seqK.ret ?_ | (with_reducible refine blockK.hit ?hb ?_; (case hb => rfl)) | (with_reducible refine blockK.miss ?hb ?_; (case hb => rfl)) | with_reducible refine blockK.normal ?_ | with_reducible refine blockK.ret ?_ | with_reducible refine loopK.exit ?_ | with_reducible refine loopK.ret ?_
    | refine WC.condT rfl ?_ | refine WC.condF rfl ?_
    | refine WL.step rfl (OP.pure (nw := true) rfl (by first | exact trivial | (simp only [Holds]; omega) | (simp [Holds]; done) | (simp [Holds]; omega)) rfl rfl ?_)
    | refine WL.step rfl (OP.pure (nw := false) rfl (by first | exact trivial | (simp only [Holds]; omega) | (simp [Holds]; done) | (simp [Holds]; omega)) rfl rfl ?_)
    | refine WL.step rfl (OP.pickT rfl rfl rfl rfl rfl ?_) | refine WL.step rfl (OP.pickF rfl rfl rfl rfl rfl ?_) | refine WL.guardT rfl rfl rfl rfl (OP.pickT rfl rfl rfl rfl rfl ?_) | refine WL.guardT rfl rfl rfl rfl (OP.pickF rfl rfl rfl rfl rfl ?_)
    | refine WL.guardT rfl rfl rfl rfl (OP.pure (nw := true) rfl (by first | exact trivial | (simp only [Holds]; omega) | (simp [Holds]; done) | (simp [Holds]; omega)) rfl rfl ?_)
    | refine WL.guardT rfl rfl rfl rfl (OP.pure (nw := false) rfl trivial rfl rfl ?_)
    | refine WL.guardT rfl rfl rfl rfl (OP.loadN rfl rfl rfl rfl (by repeat (first | exact HasNth.here rfl | apply HasNth.there)) rfl rfl ?_)
    | refine WL.guardT rfl rfl rfl rfl (OP.loadB rfl rfl rfl rfl rfl (by repeat (first | exact HasCut.here rfl | apply HasCut.there)) rfl rfl ?_)
    | refine WL.guardF rfl rfl rfl rfl rfl rfl ?_
    | refine WL.guarded (nw := true) rfl rfl rfl rfl rfl rfl rfl (by first | exact trivial | (simp only [Holds]; omega) | (simp [Holds]; done) | (simp [Holds]; omega)) ?_
    | refine WL.step rfl (OP.loadN rfl rfl rfl rfl (by repeat (first | exact HasNth.here rfl | apply HasNth.there)) rfl rfl ?_)
    | refine WL.step rfl (OP.loadB rfl rfl rfl rfl rfl (by repeat (first | exact HasCut.here rfl | apply HasCut.there)) rfl rfl ?_)
    | refine WL.step rfl (OP.store rfl rfl rfl rfl rfl rfl rfl (by repeat (first | exact UpdM.here rfl | apply UpdM.there)) rfl ?_)
    | refine WL.step rfl (OP.alloc rfl rfl rfl rfl rfl (fun _ => ?_))
    | refine WL.step rfl (OP.box rfl rfl rfl rfl rfl (fun _ => ?_))
    | refine WL.step rfl (OP.buildT rfl rfl rfl rfl ?_)
    | refine WL.step rfl (OP.sliceLit rfl rfl rfl rfl rfl rfl rfl rfl (fun _ => ?_)))
        refine ret1 rfl ⟨[blk p (bools [f0, f1, f2, f3] ++ [.slice a' (ch.length + 1) cap']) 73, ownS a' (ch.length + 1) cap' 78 3 (encL ch ++ encC _)], ?_, (Imp.sub (by repeat (first | exact Picks.nil _ | apply Picks.cons | exact Pick.here _ _ | apply Pick.there)))⟩
        unfold PutPost putM
        rw [if_neg (not_not_intro h1), if_neg h2, if_neg h3, if_neg, if_neg h5]
        · exact ⟨rfl, a', cap', by unfold grpL; rw [encL_snoc]⟩
        · rw [hsv]; simpa using hb
end Go.Proofs.Ytkoakmaihcheaaa
