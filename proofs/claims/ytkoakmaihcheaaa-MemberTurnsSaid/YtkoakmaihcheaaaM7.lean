/- Contracts of functions of the given program, and plain laws on what they compute: parts of the proofs of laws. -/
import Derived.Test.YtkoakmaihcheaaaM6

namespace Go.Proofs.Ytkoakmaihcheaaa
open Go Go.GL

set_option maxRecDepth 10000 in
theorem add_ok (p : Nat) (a : Option Addr) (cap : Nat) (f : List Bool) (ch : List Ch) (v m : Int) (hf : f.length = 4) (hv : Vols ch) (hs : ch.length ≤ 100) :
    Triple G 17 [.pointer (some ⟨p, 0, none⟩), .int .i64 v, .int .i64 m] (grpL p a ch.length cap f ch) (PutPost p a cap f ch (m, v, false)) := by
  refine Triple.enter Try.func17 rfl (by decide) rfl Try.ntmps17 rfl (fun F => ?_)
  repeat (first
    | refine WC.seq ?_ | refine WC.region ?_ | refine WL.nil ?_ | with_reducible refine seqK.go ?_ | refine WC.block ?_ | refine WC.skip ?_ | refine WC.exit ?_ | refine WC.ret ?_
    | with_reducible refine seqK.exit ?_ | with_reducible refine seqK.ret ?_ | (with_reducible refine blockK.hit ?hb ?_; (case hb => rfl)) | (with_reducible refine blockK.miss ?hb ?_; (case hb => rfl)) | with_reducible refine blockK.normal ?_ | with_reducible refine blockK.ret ?_ | with_reducible refine loopK.exit ?_ | with_reducible refine loopK.ret ?_
    | refine WC.condT rfl ?_ | refine WC.condF rfl ?_
    | refine WL.step rfl (OP.pure (nw := true) rfl (by first | exact trivial | (simp only [Holds]; omega) | (simp [Holds]; done) | (simp [Holds]; omega)) rfl rfl ?_)
    | refine WL.step rfl (OP.pure (nw := false) rfl (by first | exact trivial | (simp only [Holds]; omega) | (simp [Holds]; done) | (simp [Holds]; omega)) rfl rfl ?_)
    | refine WL.step rfl (OP.pickT rfl rfl rfl rfl rfl ?_) | refine WL.step rfl (OP.pickF rfl rfl rfl rfl rfl ?_) | refine WL.guardT rfl rfl rfl rfl (OP.pickT rfl rfl rfl rfl rfl ?_) | refine WL.guardT rfl rfl rfl rfl (OP.pickF rfl rfl rfl rfl rfl ?_)
    | refine WL.guardT rfl rfl rfl rfl (OP.pure (nw := true) rfl (by first | exact trivial | (simp only [Holds]; omega) | (simp [Holds]; done) | (simp [Holds]; omega)) rfl rfl ?_)
    | refine WL.guardT rfl rfl rfl rfl (OP.pure (nw := false) rfl trivial rfl rfl ?_)
    | refine WL.guardT rfl rfl rfl rfl (OP.loadN rfl rfl rfl rfl (by repeat (first | exact HasNth.here rfl | apply HasNth.there)) rfl rfl ?_)
    | refine WL.guardT rfl rfl rfl rfl (OP.loadB rfl rfl rfl rfl rfl (by repeat (first | exact HasCut.here rfl | apply HasCut.there)) rfl rfl ?_)
    | refine WL.guardF rfl rfl rfl rfl rfl rfl ?_
    | refine WL.guarded (nw := true) rfl rfl rfl rfl rfl rfl rfl (by first | exact trivial | (simp only [Holds]; omega) | (simp [Holds]; done) | (simp [Holds]; omega)) ?_
    | refine WL.step rfl (OP.loadN rfl rfl rfl rfl (by repeat (first | exact HasNth.here rfl | apply HasNth.there)) rfl rfl ?_)
    | refine WL.step rfl (OP.loadB rfl rfl rfl rfl rfl (by repeat (first | exact HasCut.here rfl | apply HasCut.there)) rfl rfl ?_)
    | refine WL.step rfl (OP.store rfl rfl rfl rfl rfl rfl rfl (by repeat (first | exact UpdM.here rfl | apply UpdM.there)) rfl ?_)
    | refine WL.step rfl (OP.alloc rfl rfl rfl rfl rfl (fun _ => ?_))
    | refine WL.step rfl (OP.box rfl rfl rfl rfl rfl (fun _ => ?_))
    | refine WL.step rfl (OP.buildT rfl rfl rfl rfl ?_)
    | refine WL.step rfl (OP.sliceLit rfl rfl rfl rfl rfl rfl rfl rfl (fun _ => ?_)))
  refine WL.step rfl (OP.call (pre := grpL p a ch.length cap f ch) (F := [F]) rfl rfl (put_ok p a cap f ch (m, v, false) hf hv hs) (Imp.refl _) rfl rfl ?_)
  rintro v' M hM
  repeat (first
    | refine WC.seq ?_ | refine WC.region ?_ | refine WL.nil ?_ | with_reducible refine seqK.go ?_ | refine WC.block ?_ | refine WC.skip ?_ | refine WC.exit ?_ | refine WC.ret ?_
    | with_reducible refine seqK.exit ?_ | with_reducible refine seqK.ret ?_ | (with_reducible refine blockK.hit ?hb ?_; (case hb => rfl)) | (with_reducible refine blockK.miss ?hb ?_; (case hb => rfl)) | with_reducible refine blockK.normal ?_ | with_reducible refine blockK.ret ?_ | with_reducible refine loopK.exit ?_ | with_reducible refine loopK.ret ?_
    | refine WC.condT rfl ?_ | refine WC.condF rfl ?_
    | refine WL.step rfl (OP.pure (nw := true) rfl (by first | exact trivial | (simp only [Holds]; omega) | (simp [Holds]; done) | (simp [Holds]; omega)) rfl rfl ?_)
    | refine WL.step rfl (OP.pure (nw := false) rfl (by first | exact trivial | (simp only [Holds]; omega) | (simp [Holds]; done) | (simp [Holds]; omega)) rfl rfl ?_)
    | refine WL.step rfl (OP.pickT rfl rfl rfl rfl rfl ?_) | refine WL.step rfl (OP.pickF rfl rfl rfl rfl rfl ?_) | refine WL.guardT rfl rfl rfl rfl (OP.pickT rfl rfl rfl rfl rfl ?_) | refine WL.guardT rfl rfl rfl rfl (OP.pickF rfl rfl rfl rfl rfl ?_)
    | refine WL.guardT rfl rfl rfl rfl (OP.pure (nw := true) rfl (by first | exact trivial | (simp only [Holds]; omega) | (simp [Holds]; done) | (simp [Holds]; omega)) rfl rfl ?_)
    | refine WL.guardT rfl rfl rfl rfl (OP.pure (nw := false) rfl trivial rfl rfl ?_)
    | refine WL.guardT rfl rfl rfl rfl (OP.loadN rfl rfl rfl rfl (by repeat (first | exact HasNth.here rfl | apply HasNth.there)) rfl rfl ?_)
    | refine WL.guardT rfl rfl rfl rfl (OP.loadB rfl rfl rfl rfl rfl (by repeat (first | exact HasCut.here rfl | apply HasCut.there)) rfl rfl ?_)
    | refine WL.guardF rfl rfl rfl rfl rfl rfl ?_
    | refine WL.guarded (nw := true) rfl rfl rfl rfl rfl rfl rfl (by first | exact trivial | (simp only [Holds]; omega) | (simp [Holds]; done) | (simp [Holds]; omega)) ?_
    | refine WL.step rfl (OP.loadN rfl rfl rfl rfl (by repeat (first | exact HasNth.here rfl | apply HasNth.there)) rfl rfl ?_)
    | refine WL.step rfl (OP.loadB rfl rfl rfl rfl rfl (by repeat (first | exact HasCut.here rfl | apply HasCut.there)) rfl rfl ?_)
    | refine WL.step rfl (OP.store rfl rfl rfl rfl rfl rfl rfl (by repeat (first | exact UpdM.here rfl | apply UpdM.there)) rfl ?_)
    | refine WL.step rfl (OP.alloc rfl rfl rfl rfl rfl (fun _ => ?_))
    | refine WL.step rfl (OP.box rfl rfl rfl rfl rfl (fun _ => ?_))
    | refine WL.step rfl (OP.buildT rfl rfl rfl rfl ?_)
    | refine WL.step rfl (OP.sliceLit rfl rfl rfl rfl rfl rfl rfl rfl (fun _ => ?_)))
  exact ret1 rfl ⟨M, hM, Imp.refl _⟩
set_option maxRecDepth 10000 in
theorem remove_ok (p : Nat) (a : Option Addr) (cap : Nat) (f : List Bool) (ch : List Ch) (v m : Int) (hf : f.length = 4) (hv : Vols ch) (hs : ch.length ≤ 100) :
    Triple G 18 [.pointer (some ⟨p, 0, none⟩), .int .i64 v, .int .i64 m] (grpL p a ch.length cap f ch) (PutPost p a cap f ch (m, v, true)) := by
  refine Triple.enter Try.func18 rfl (by decide) rfl Try.ntmps18 rfl (fun F => ?_)
  repeat (first
    | refine WC.seq ?_ | refine WC.region ?_ | refine WL.nil ?_ | with_reducible refine seqK.go ?_ | refine WC.block ?_ | refine WC.skip ?_ | refine WC.exit ?_ | refine WC.ret ?_
    | with_reducible refine seqK.exit ?_ | with_reducible refine seqK.ret ?_ | (with_reducible refine blockK.hit ?hb ?_; (case hb => rfl)) | (with_reducible refine blockK.miss ?hb ?_; (case hb => rfl)) | with_reducible refine blockK.normal ?_ | with_reducible refine blockK.ret ?_ | with_reducible refine loopK.exit ?_ | with_reducible refine loopK.ret ?_
    | refine WC.condT rfl ?_ | refine WC.condF rfl ?_
    | refine WL.step rfl (OP.pure (nw := true) rfl (by first | exact trivial | (simp only [Holds]; omega) | (simp [Holds]; done) | (simp [Holds]; omega)) rfl rfl ?_)
    | refine WL.step rfl (OP.pure (nw := false) rfl (by first | exact trivial | (simp only [Holds]; omega) | (simp [Holds]; done) | (simp [Holds]; omega)) rfl rfl ?_)
    | refine WL.step rfl (OP.pickT rfl rfl rfl rfl rfl ?_) | refine WL.step rfl (OP.pickF rfl rfl rfl rfl rfl ?_) | refine WL.guardT rfl rfl rfl rfl (OP.pickT rfl rfl rfl rfl rfl ?_) | refine WL.guardT rfl rfl rfl rfl (OP.pickF rfl rfl rfl rfl rfl ?_)
    | refine WL.guardT rfl rfl rfl rfl (OP.pure (nw := true) rfl (by first | exact trivial | (simp only [Holds]; omega) | (simp [Holds]; done) | (simp [Holds]; omega)) rfl rfl ?_)
    | refine WL.guardT rfl rfl rfl rfl (OP.pure (nw := false) rfl trivial rfl rfl ?_)
    | refine WL.guardT rfl rfl rfl rfl (OP.loadN rfl rfl rfl rfl (by repeat (first | exact HasNth.here rfl | apply HasNth.there)) rfl rfl ?_)
    | refine WL.guardT rfl rfl rfl rfl (OP.loadB rfl rfl rfl rfl rfl (by repeat (first | exact HasCut.here rfl | apply HasCut.there)) rfl rfl ?_)
    | refine WL.guardF rfl rfl rfl rfl rfl rfl ?_
    | refine WL.guarded (nw := true) rfl rfl rfl rfl rfl rfl rfl (by first | exact trivial | (simp only [Holds]; omega) | (simp [Holds]; done) | (simp [Holds]; omega)) ?_
    | refine WL.step rfl (OP.loadN rfl rfl rfl rfl (by repeat (first | exact HasNth.here rfl | apply HasNth.there)) rfl rfl ?_)
    | refine WL.step rfl (OP.loadB rfl rfl rfl rfl rfl (by repeat (first | exact HasCut.here rfl | apply HasCut.there)) rfl rfl ?_)
    | refine WL.step rfl (OP.store rfl rfl rfl rfl rfl rfl rfl (by repeat (first | exact UpdM.here rfl | apply UpdM.there)) rfl ?_)
    | refine WL.step rfl (OP.alloc rfl rfl rfl rfl rfl (fun _ => ?_))
    | refine WL.step rfl (OP.box rfl rfl rfl rfl rfl (fun _ => ?_))
    | refine WL.step rfl (OP.buildT rfl rfl rfl rfl ?_)
    | refine WL.step rfl (OP.sliceLit rfl rfl rfl rfl rfl rfl rfl rfl (fun _ => ?_)))
  refine WL.step rfl (OP.call (pre := grpL p a ch.length cap f ch) (F := [F]) rfl rfl (put_ok p a cap f ch (m, v, true) hf hv hs) (Imp.refl _) rfl rfl ?_)
  rintro v' M hM
  repeat (first
    | refine WC.seq ?_ | refine WC.region ?_ | refine WL.nil ?_ | with_reducible refine seqK.go ?_ | refine WC.block ?_ | refine WC.skip ?_ | refine WC.exit ?_ | refine WC.ret ?_
    | with_reducible refine seqK.exit ?_ | with_reducible refine seqK.ret ?_ | (with_reducible refine blockK.hit ?hb ?_; (case hb => rfl)) | (with_reducible refine blockK.miss ?hb ?_; (case hb => rfl)) | with_reducible refine blockK.normal ?_ | with_reducible refine blockK.ret ?_ | with_reducible refine loopK.exit ?_ | with_reducible refine loopK.ret ?_
    | refine WC.condT rfl ?_ | refine WC.condF rfl ?_
    | refine WL.step rfl (OP.pure (nw := true) rfl (by first | exact trivial | (simp only [Holds]; omega) | (simp [Holds]; done) | (simp [Holds]; omega)) rfl rfl ?_)
    | refine WL.step rfl (OP.pure (nw := false) rfl (by first | exact trivial | (simp only [Holds]; omega) | (simp [Holds]; done) | (simp [Holds]; omega)) rfl rfl ?_)
    | refine WL.step rfl (OP.pickT rfl rfl rfl rfl rfl ?_) | refine WL.step rfl (OP.pickF rfl rfl rfl rfl rfl ?_) | refine WL.guardT rfl rfl rfl rfl (OP.pickT rfl rfl rfl rfl rfl ?_) | refine WL.guardT rfl rfl rfl rfl (OP.pickF rfl rfl rfl rfl rfl ?_)
    | refine WL.guardT rfl rfl rfl rfl (OP.pure (nw := true) rfl (by first | exact trivial | (simp only [Holds]; omega) | (simp [Holds]; done) | (simp [Holds]; omega)) rfl rfl ?_)
    | refine WL.guardT rfl rfl rfl rfl (OP.pure (nw := false) rfl trivial rfl rfl ?_)
    | refine WL.guardT rfl rfl rfl rfl (OP.loadN rfl rfl rfl rfl (by repeat (first | exact HasNth.here rfl | apply HasNth.there)) rfl rfl ?_)
    | refine WL.guardT rfl rfl rfl rfl (OP.loadB rfl rfl rfl rfl rfl (by repeat (first | exact HasCut.here rfl | apply HasCut.there)) rfl rfl ?_)
    | refine WL.guardF rfl rfl rfl rfl rfl rfl ?_
    | refine WL.guarded (nw := true) rfl rfl rfl rfl rfl rfl rfl (by first | exact trivial | (simp only [Holds]; omega) | (simp [Holds]; done) | (simp [Holds]; omega)) ?_
    | refine WL.step rfl (OP.loadN rfl rfl rfl rfl (by repeat (first | exact HasNth.here rfl | apply HasNth.there)) rfl rfl ?_)
    | refine WL.step rfl (OP.loadB rfl rfl rfl rfl rfl (by repeat (first | exact HasCut.here rfl | apply HasCut.there)) rfl rfl ?_)
    | refine WL.step rfl (OP.store rfl rfl rfl rfl rfl rfl rfl (by repeat (first | exact UpdM.here rfl | apply UpdM.there)) rfl ?_)
    | refine WL.step rfl (OP.alloc rfl rfl rfl rfl rfl (fun _ => ?_))
    | refine WL.step rfl (OP.box rfl rfl rfl rfl rfl (fun _ => ?_))
    | refine WL.step rfl (OP.buildT rfl rfl rfl rfl ?_)
    | refine WL.step rfl (OP.sliceLit rfl rfl rfl rfl rfl rfl rfl rfl (fun _ => ?_)))
  exact ret1 rfl ⟨M, hM, Imp.refl _⟩
set_option maxRecDepth 10000 in
theorem now_ok (p : Nat) (a : Option Addr) (cap : Nat) (f : List Bool) (ch : List Ch) (hf : f.length = 4) (hv : Vols ch) (hc : ch.length ≤ cap) (hs : ch.length < 1000000) :
    RT G 21 [.pointer (some ⟨p, 0, none⟩)] (grpR p a cap f ch) (Ints (listM (after f ch))) := by
  refine RT.enter Try.func21 rfl (by decide) rfl Try.ntmps21 rfl (fun A hu hA => ?_)
  have hE1 : ∀ {L}, A ∈ L → Ent L (cellsAt p 0 (bools f ++ [.slice a ch.length cap])) := fun m => Ent.mem m hu fun k x => (hA k x).1
  have hg : (bools f ++ [Value.slice a ch.length cap])[4]? = some (.slice a ch.length cap) := by
    obtain ⟨f0, f1, f2, f3, rfl⟩ := four hf; rfl
  repeat (first
    | refine WC.seq ?_ | refine WC.region ?_ | refine WL.nil ?_ | with_reducible refine seqK.go ?_ | refine WC.block ?_ | refine WC.skip ?_ | refine WC.exit ?_ | refine WC.ret ?_
    | with_reducible refine seqK.exit ?_ | with_reducible refine seqK.ret ?_ | (with_reducible refine blockK.hit ?hb ?_; (case hb => rfl)) | (with_reducible refine blockK.miss ?hb ?_; (case hb => rfl)) | with_reducible refine blockK.normal ?_ | with_reducible refine blockK.ret ?_ | with_reducible refine loopK.exit ?_ | with_reducible refine loopK.ret ?_
    | refine WC.condT rfl ?_ | refine WC.condF rfl ?_
    | refine WL.step rfl (OP.pure (nw := true) rfl (by first | exact trivial | (simp only [Holds]; omega) | (simp [Holds]; done) | (simp [Holds]; omega)) rfl rfl ?_)
    | refine WL.step rfl (OP.pure (nw := false) rfl (by first | exact trivial | (simp only [Holds]; omega) | (simp [Holds]; done) | (simp [Holds]; omega)) rfl rfl ?_)
    | refine WL.step rfl (OP.pickT rfl rfl rfl rfl rfl ?_) | refine WL.step rfl (OP.pickF rfl rfl rfl rfl rfl ?_) | refine WL.guardT rfl rfl rfl rfl (OP.pickT rfl rfl rfl rfl rfl ?_) | refine WL.guardT rfl rfl rfl rfl (OP.pickF rfl rfl rfl rfl rfl ?_)
    | refine WL.guardT rfl rfl rfl rfl (OP.pure (nw := true) rfl (by first | exact trivial | (simp only [Holds]; omega) | (simp [Holds]; done) | (simp [Holds]; omega)) rfl rfl ?_)
    | refine WL.guardT rfl rfl rfl rfl (OP.pure (nw := false) rfl trivial rfl rfl ?_)
    | refine WL.guardT rfl rfl rfl rfl (OP.loadN rfl rfl rfl rfl (by repeat (first | exact HasNth.here rfl | apply HasNth.there)) rfl rfl ?_)
    | refine WL.guardT rfl rfl rfl rfl (OP.loadB rfl rfl rfl rfl rfl (by repeat (first | exact HasCut.here rfl | apply HasCut.there)) rfl rfl ?_)
    | refine WL.guardF rfl rfl rfl rfl rfl rfl ?_
    | refine WL.guarded (nw := true) rfl rfl rfl rfl rfl rfl rfl (by first | exact trivial | (simp only [Holds]; omega) | (simp [Holds]; done) | (simp [Holds]; omega)) ?_
    | refine WL.step rfl (OP.loadN rfl rfl rfl rfl (by repeat (first | exact HasNth.here rfl | apply HasNth.there)) rfl rfl ?_)
    | refine WL.step rfl (OP.loadB rfl rfl rfl rfl rfl (by repeat (first | exact HasCut.here rfl | apply HasCut.there)) rfl rfl ?_)
    | refine WL.step rfl (OP.store rfl rfl rfl rfl rfl rfl rfl (by repeat (first | exact UpdM.here rfl | apply UpdM.there)) rfl ?_)
    | refine WL.step rfl (OP.alloc rfl rfl rfl rfl rfl (fun _ => ?_))
    | refine WL.step rfl (OP.box rfl rfl rfl rfl rfl (fun _ => ?_))
    | refine WL.step rfl (OP.buildT rfl rfl rfl rfl ?_)
    | refine WL.step rfl (OP.sliceLit rfl rfl rfl rfl rfl rfl rfl rfl (fun _ => ?_)))
  refine WL.step rfl (OP.load1 (v := .slice a ch.length cap) rfl rfl rfl rfl (Ent.one (i := 4) (hE1 (by repeat (first | exact List.Mem.head _ | apply List.Mem.tail))) hg) rfl rfl ?_)
  repeat (first
    | refine WC.seq ?_ | refine WC.region ?_ | refine WL.nil ?_ | with_reducible refine seqK.go ?_ | refine WC.block ?_ | refine WC.skip ?_ | refine WC.exit ?_ | refine WC.ret ?_
    | with_reducible refine seqK.exit ?_ | with_reducible refine seqK.ret ?_ | (with_reducible refine blockK.hit ?hb ?_; (case hb => rfl)) | (with_reducible refine blockK.miss ?hb ?_; (case hb => rfl)) | with_reducible refine blockK.normal ?_ | with_reducible refine blockK.ret ?_ | with_reducible refine loopK.exit ?_ | with_reducible refine loopK.ret ?_
    | refine WC.condT rfl ?_ | refine WC.condF rfl ?_
    | refine WL.step rfl (OP.pure (nw := true) rfl (by first | exact trivial | (simp only [Holds]; omega) | (simp [Holds]; done) | (simp [Holds]; omega)) rfl rfl ?_)
    | refine WL.step rfl (OP.pure (nw := false) rfl (by first | exact trivial | (simp only [Holds]; omega) | (simp [Holds]; done) | (simp [Holds]; omega)) rfl rfl ?_)
    | refine WL.step rfl (OP.pickT rfl rfl rfl rfl rfl ?_) | refine WL.step rfl (OP.pickF rfl rfl rfl rfl rfl ?_) | refine WL.guardT rfl rfl rfl rfl (OP.pickT rfl rfl rfl rfl rfl ?_) | refine WL.guardT rfl rfl rfl rfl (OP.pickF rfl rfl rfl rfl rfl ?_)
    | refine WL.guardT rfl rfl rfl rfl (OP.pure (nw := true) rfl (by first | exact trivial | (simp only [Holds]; omega) | (simp [Holds]; done) | (simp [Holds]; omega)) rfl rfl ?_)
    | refine WL.guardT rfl rfl rfl rfl (OP.pure (nw := false) rfl trivial rfl rfl ?_)
    | refine WL.guardT rfl rfl rfl rfl (OP.loadN rfl rfl rfl rfl (by repeat (first | exact HasNth.here rfl | apply HasNth.there)) rfl rfl ?_)
    | refine WL.guardT rfl rfl rfl rfl (OP.loadB rfl rfl rfl rfl rfl (by repeat (first | exact HasCut.here rfl | apply HasCut.there)) rfl rfl ?_)
    | refine WL.guardF rfl rfl rfl rfl rfl rfl ?_
    | refine WL.guarded (nw := true) rfl rfl rfl rfl rfl rfl rfl (by first | exact trivial | (simp only [Holds]; omega) | (simp [Holds]; done) | (simp [Holds]; omega)) ?_
    | refine WL.step rfl (OP.loadN rfl rfl rfl rfl (by repeat (first | exact HasNth.here rfl | apply HasNth.there)) rfl rfl ?_)
    | refine WL.step rfl (OP.loadB rfl rfl rfl rfl rfl (by repeat (first | exact HasCut.here rfl | apply HasCut.there)) rfl rfl ?_)
    | refine WL.step rfl (OP.store rfl rfl rfl rfl rfl rfl rfl (by repeat (first | exact UpdM.here rfl | apply UpdM.there)) rfl ?_)
    | refine WL.step rfl (OP.alloc rfl rfl rfl rfl rfl (fun _ => ?_))
    | refine WL.step rfl (OP.box rfl rfl rfl rfl rfl (fun _ => ?_))
    | refine WL.step rfl (OP.buildT rfl rfl rfl rfl ?_)
    | refine WL.step rfl (OP.sliceLit rfl rfl rfl rfl rfl rfl rfl rfl (fun _ => ?_)))
  have hbeh := behind_ro p a cap f ch ch.length hf hv (Nat.le_refl _) hc hs
  rw [List.take_length] at hbeh
  refine WL.step rfl (OP.callRO rfl rfl hbeh (Ent.mem (by repeat (first | exact List.Mem.head _ | apply List.Mem.tail)) hu hA) rfl rfl ?_)
  refine WL.step rfl (OP.callRT rfl rfl (list_ok _ (by rw [after_length, hf])) (fun _ _ => trivial) rfl rfl ?_)
  rintro v E hE
  repeat (first
    | refine WC.seq ?_ | refine WC.region ?_ | refine WL.nil ?_ | with_reducible refine seqK.go ?_ | refine WC.block ?_ | refine WC.skip ?_ | refine WC.exit ?_ | refine WC.ret ?_
    | with_reducible refine seqK.exit ?_ | with_reducible refine seqK.ret ?_ | (with_reducible refine blockK.hit ?hb ?_; (case hb => rfl)) | (with_reducible refine blockK.miss ?hb ?_; (case hb => rfl)) | with_reducible refine blockK.normal ?_ | with_reducible refine blockK.ret ?_ | with_reducible refine loopK.exit ?_ | with_reducible refine loopK.ret ?_
    | refine WC.condT rfl ?_ | refine WC.condF rfl ?_
    | refine WL.step rfl (OP.pure (nw := true) rfl (by first | exact trivial | (simp only [Holds]; omega) | (simp [Holds]; done) | (simp [Holds]; omega)) rfl rfl ?_)
    | refine WL.step rfl (OP.pure (nw := false) rfl (by first | exact trivial | (simp only [Holds]; omega) | (simp [Holds]; done) | (simp [Holds]; omega)) rfl rfl ?_)
    | refine WL.step rfl (OP.pickT rfl rfl rfl rfl rfl ?_) | refine WL.step rfl (OP.pickF rfl rfl rfl rfl rfl ?_) | refine WL.guardT rfl rfl rfl rfl (OP.pickT rfl rfl rfl rfl rfl ?_) | refine WL.guardT rfl rfl rfl rfl (OP.pickF rfl rfl rfl rfl rfl ?_)
    | refine WL.guardT rfl rfl rfl rfl (OP.pure (nw := true) rfl (by first | exact trivial | (simp only [Holds]; omega) | (simp [Holds]; done) | (simp [Holds]; omega)) rfl rfl ?_)
    | refine WL.guardT rfl rfl rfl rfl (OP.pure (nw := false) rfl trivial rfl rfl ?_)
    | refine WL.guardT rfl rfl rfl rfl (OP.loadN rfl rfl rfl rfl (by repeat (first | exact HasNth.here rfl | apply HasNth.there)) rfl rfl ?_)
    | refine WL.guardT rfl rfl rfl rfl (OP.loadB rfl rfl rfl rfl rfl (by repeat (first | exact HasCut.here rfl | apply HasCut.there)) rfl rfl ?_)
    | refine WL.guardF rfl rfl rfl rfl rfl rfl ?_
    | refine WL.guarded (nw := true) rfl rfl rfl rfl rfl rfl rfl (by first | exact trivial | (simp only [Holds]; omega) | (simp [Holds]; done) | (simp [Holds]; omega)) ?_
    | refine WL.step rfl (OP.loadN rfl rfl rfl rfl (by repeat (first | exact HasNth.here rfl | apply HasNth.there)) rfl rfl ?_)
    | refine WL.step rfl (OP.loadB rfl rfl rfl rfl rfl (by repeat (first | exact HasCut.here rfl | apply HasCut.there)) rfl rfl ?_)
    | refine WL.step rfl (OP.store rfl rfl rfl rfl rfl rfl rfl (by repeat (first | exact UpdM.here rfl | apply UpdM.there)) rfl ?_)
    | refine WL.step rfl (OP.alloc rfl rfl rfl rfl rfl (fun _ => ?_))
    | refine WL.step rfl (OP.box rfl rfl rfl rfl rfl (fun _ => ?_))
    | refine WL.step rfl (OP.buildT rfl rfl rfl rfl ?_)
    | refine WL.step rfl (OP.sliceLit rfl rfl rfl rfl rfl rfl rfl rfl (fun _ => ?_)))
  exact ret1 rfl ⟨E, hE, Imp.refl _⟩
set_option maxRecDepth 10000 in
theorem same_ro (a a' : Option Addr) (n c n' c' : Nat) (l l' : List Int) (hn : n = l.length) (hn' : n' = l'.length) (hs : n < 1000000) (hs' : n' < 1000000) :
    RO G 19 [.slice a n c, .slice a' n' c'] (fun h => readS a n 1 (l.map vI) h ∧ readS a' n' 1 (l'.map vI) h) (.bool (decide (l = l'))) := by
  refine RO.enter Try.func19 rfl (by decide) rfl Try.ntmps19 rfl (fun A hu hA => ?_) (up_and (up_readS _ _ _ _) (up_readS _ _ _ _))
  have hE1 : ∀ {L}, A ∈ L → Ent L (readS a n 1 (l.map vI)) := fun m => Ent.mem m hu fun k x => (hA k x).1
  have hE2 : ∀ {L}, A ∈ L → Ent L (readS a' n' 1 (l'.map vI)) := fun m => Ent.mem m hu fun k x => (hA k x).2
  by_cases hne : n = n'
  rotate_left
  · repeat (first | refine WL.step rfl (OP.decT (nw := true) rfl trivial (by omega) rfl rfl ?_) | refine WL.step rfl (OP.decF (nw := true) rfl trivial (by omega) rfl rfl ?_) | refine WL.step rfl (OP.decNT (nw := true) rfl trivial (by omega) rfl rfl ?_) | refine WL.step rfl (OP.decNF (nw := true) rfl trivial (by omega) rfl rfl ?_) | refine WL.guardT rfl rfl rfl rfl (OP.decT (nw := true) rfl trivial (by omega) rfl rfl ?_) | refine WL.guardT rfl rfl rfl rfl (OP.decF (nw := true) rfl trivial (by omega) rfl rfl ?_) | (first
    | refine WC.seq ?_ | refine WC.region ?_ | refine WL.nil ?_ | with_reducible refine seqK.go ?_ | refine WC.block ?_ | refine WC.skip ?_ | refine WC.exit ?_ | refine WC.ret ?_
    | with_reducible refine seqK.exit ?_ | with_reducible refine seqK.ret ?_ | (with_reducible refine blockK.hit ?hb ?_; (case hb => rfl)) | (with_reducible refine blockK.miss ?hb ?_; (case hb => rfl)) | with_reducible refine blockK.normal ?_ | with_reducible refine blockK.ret ?_ | with_reducible refine loopK.exit ?_ | with_reducible refine loopK.ret ?_
    | refine WC.condT rfl ?_ | refine WC.condF rfl ?_
    | refine WL.step rfl (OP.pure (nw := true) rfl (by first | exact trivial | (simp only [Holds]; omega) | (simp [Holds]; done) | (simp [Holds]; omega)) rfl rfl ?_)
    | refine WL.step rfl (OP.pure (nw := false) rfl (by first | exact trivial | (simp only [Holds]; omega) | (simp [Holds]; done) | (simp [Holds]; omega)) rfl rfl ?_)
    | refine WL.step rfl (OP.pickT rfl rfl rfl rfl rfl ?_) | refine WL.step rfl (OP.pickF rfl rfl rfl rfl rfl ?_) | refine WL.guardT rfl rfl rfl rfl (OP.pickT rfl rfl rfl rfl rfl ?_) | refine WL.guardT rfl rfl rfl rfl (OP.pickF rfl rfl rfl rfl rfl ?_)
    | refine WL.guardT rfl rfl rfl rfl (OP.pure (nw := true) rfl (by first | exact trivial | (simp only [Holds]; omega) | (simp [Holds]; done) | (simp [Holds]; omega)) rfl rfl ?_)
    | refine WL.guardT rfl rfl rfl rfl (OP.pure (nw := false) rfl trivial rfl rfl ?_)
    | refine WL.guardT rfl rfl rfl rfl (OP.loadN rfl rfl rfl rfl (by repeat (first | exact HasNth.here rfl | apply HasNth.there)) rfl rfl ?_)
    | refine WL.guardT rfl rfl rfl rfl (OP.loadB rfl rfl rfl rfl rfl (by repeat (first | exact HasCut.here rfl | apply HasCut.there)) rfl rfl ?_)
    | refine WL.guardF rfl rfl rfl rfl rfl rfl ?_
    | refine WL.guarded (nw := true) rfl rfl rfl rfl rfl rfl rfl (by first | exact trivial | (simp only [Holds]; omega) | (simp [Holds]; done) | (simp [Holds]; omega)) ?_
    | refine WL.step rfl (OP.loadN rfl rfl rfl rfl (by repeat (first | exact HasNth.here rfl | apply HasNth.there)) rfl rfl ?_)
    | refine WL.step rfl (OP.loadB rfl rfl rfl rfl rfl (by repeat (first | exact HasCut.here rfl | apply HasCut.there)) rfl rfl ?_)
    | refine WL.step rfl (OP.store rfl rfl rfl rfl rfl rfl rfl (by repeat (first | exact UpdM.here rfl | apply UpdM.there)) rfl ?_)
    | refine WL.step rfl (OP.alloc rfl rfl rfl rfl rfl (fun _ => ?_))
    | refine WL.step rfl (OP.box rfl rfl rfl rfl rfl (fun _ => ?_))
    | refine WL.step rfl (OP.buildT rfl rfl rfl rfl ?_)
    | refine WL.step rfl (OP.sliceLit rfl rfl rfl rfl rfl rfl rfl rfl (fun _ => ?_))))
    refine ret1 rfl ⟨?_, (by repeat (first | exact List.Mem.head _ | apply List.Mem.tail))⟩
    have : l ≠ l' := fun e => hne (by rw [hn, hn', e])
    simp [this]
  subst hne
  repeat (first | refine WL.step rfl (OP.decT (nw := true) rfl trivial (by omega) rfl rfl ?_) | refine WL.step rfl (OP.decF (nw := true) rfl trivial (by omega) rfl rfl ?_) | refine WL.step rfl (OP.decNT (nw := true) rfl trivial (by omega) rfl rfl ?_) | refine WL.step rfl (OP.decNF (nw := true) rfl trivial (by omega) rfl rfl ?_) | refine WL.guardT rfl rfl rfl rfl (OP.decT (nw := true) rfl trivial (by omega) rfl rfl ?_) | refine WL.guardT rfl rfl rfl rfl (OP.decF (nw := true) rfl trivial (by omega) rfl rfl ?_) | (first
    | refine WC.seq ?_ | refine WC.region ?_ | refine WL.nil ?_ | with_reducible refine seqK.go ?_ | refine WC.block ?_ | refine WC.skip ?_ | refine WC.exit ?_ | refine WC.ret ?_
    | with_reducible refine seqK.exit ?_ | with_reducible refine seqK.ret ?_ | (with_reducible refine blockK.hit ?hb ?_; (case hb => rfl)) | (with_reducible refine blockK.miss ?hb ?_; (case hb => rfl)) | with_reducible refine blockK.normal ?_ | with_reducible refine blockK.ret ?_ | with_reducible refine loopK.exit ?_ | with_reducible refine loopK.ret ?_
    | refine WC.condT rfl ?_ | refine WC.condF rfl ?_
    | refine WL.step rfl (OP.pure (nw := true) rfl (by first | exact trivial | (simp only [Holds]; omega) | (simp [Holds]; done) | (simp [Holds]; omega)) rfl rfl ?_)
    | refine WL.step rfl (OP.pure (nw := false) rfl (by first | exact trivial | (simp only [Holds]; omega) | (simp [Holds]; done) | (simp [Holds]; omega)) rfl rfl ?_)
    | refine WL.step rfl (OP.pickT rfl rfl rfl rfl rfl ?_) | refine WL.step rfl (OP.pickF rfl rfl rfl rfl rfl ?_) | refine WL.guardT rfl rfl rfl rfl (OP.pickT rfl rfl rfl rfl rfl ?_) | refine WL.guardT rfl rfl rfl rfl (OP.pickF rfl rfl rfl rfl rfl ?_)
    | refine WL.guardT rfl rfl rfl rfl (OP.pure (nw := true) rfl (by first | exact trivial | (simp only [Holds]; omega) | (simp [Holds]; done) | (simp [Holds]; omega)) rfl rfl ?_)
    | refine WL.guardT rfl rfl rfl rfl (OP.pure (nw := false) rfl trivial rfl rfl ?_)
    | refine WL.guardT rfl rfl rfl rfl (OP.loadN rfl rfl rfl rfl (by repeat (first | exact HasNth.here rfl | apply HasNth.there)) rfl rfl ?_)
    | refine WL.guardT rfl rfl rfl rfl (OP.loadB rfl rfl rfl rfl rfl (by repeat (first | exact HasCut.here rfl | apply HasCut.there)) rfl rfl ?_)
    | refine WL.guardF rfl rfl rfl rfl rfl rfl ?_
    | refine WL.guarded (nw := true) rfl rfl rfl rfl rfl rfl rfl (by first | exact trivial | (simp only [Holds]; omega) | (simp [Holds]; done) | (simp [Holds]; omega)) ?_
    | refine WL.step rfl (OP.loadN rfl rfl rfl rfl (by repeat (first | exact HasNth.here rfl | apply HasNth.there)) rfl rfl ?_)
    | refine WL.step rfl (OP.loadB rfl rfl rfl rfl rfl (by repeat (first | exact HasCut.here rfl | apply HasCut.there)) rfl rfl ?_)
    | refine WL.step rfl (OP.store rfl rfl rfl rfl rfl rfl rfl (by repeat (first | exact UpdM.here rfl | apply UpdM.there)) rfl ?_)
    | refine WL.step rfl (OP.alloc rfl rfl rfl rfl rfl (fun _ => ?_))
    | refine WL.step rfl (OP.box rfl rfl rfl rfl rfl (fun _ => ?_))
    | refine WL.step rfl (OP.buildT rfl rfl rfl rfl ?_)
    | refine WL.step rfl (OP.sliceLit rfl rfl rfl rfl rfl rfl rfl rfl (fun _ => ?_))))
  refine WC.loop (σ := Nat) (fun k => k ≤ n ∧ ∀ j, j < k → l[j]? = l'[j]?)
    (fun k => [(0, .val (.slice a n c)), (1, .val (.slice a' n c')), (12, .val (.int .i64 n)), (13, .val (.int .i64 k))])
    (fun k => [A]) (fun k => n - k) 0 ⟨Nat.zero_le _, fun j hj => by omega⟩ ⟨rfl, rfl, rfl, rfl, trivial⟩ (Imp.refl _) ?_
  rintro k ⟨hk, hall⟩
  by_cases hlt : k < n
  rotate_left
  · repeat (first | refine WL.step rfl (OP.decT (nw := true) rfl trivial (by omega) rfl rfl ?_) | refine WL.step rfl (OP.decF (nw := true) rfl trivial (by omega) rfl rfl ?_) | refine WL.step rfl (OP.decNT (nw := true) rfl trivial (by omega) rfl rfl ?_) | refine WL.step rfl (OP.decNF (nw := true) rfl trivial (by omega) rfl rfl ?_) | refine WL.guardT rfl rfl rfl rfl (OP.decT (nw := true) rfl trivial (by omega) rfl rfl ?_) | refine WL.guardT rfl rfl rfl rfl (OP.decF (nw := true) rfl trivial (by omega) rfl rfl ?_) | (first
    | refine WC.seq ?_ | refine WC.region ?_ | refine WL.nil ?_ | with_reducible refine seqK.go ?_ | refine WC.block ?_ | refine WC.skip ?_ | refine WC.exit ?_ | refine WC.ret ?_
    | with_reducible refine seqK.exit ?_ | with_reducible refine seqK.ret ?_ | (with_reducible refine blockK.hit ?hb ?_; (case hb => rfl)) | (with_reducible refine blockK.miss ?hb ?_; (case hb => rfl)) | with_reducible refine blockK.normal ?_ | with_reducible refine blockK.ret ?_ | with_reducible refine loopK.exit ?_ | with_reducible refine loopK.ret ?_
    | refine WC.condT rfl ?_ | refine WC.condF rfl ?_
    | refine WL.step rfl (OP.pure (nw := true) rfl (by first | exact trivial | (simp only [Holds]; omega) | (simp [Holds]; done) | (simp [Holds]; omega)) rfl rfl ?_)
    | refine WL.step rfl (OP.pure (nw := false) rfl (by first | exact trivial | (simp only [Holds]; omega) | (simp [Holds]; done) | (simp [Holds]; omega)) rfl rfl ?_)
    | refine WL.step rfl (OP.pickT rfl rfl rfl rfl rfl ?_) | refine WL.step rfl (OP.pickF rfl rfl rfl rfl rfl ?_) | refine WL.guardT rfl rfl rfl rfl (OP.pickT rfl rfl rfl rfl rfl ?_) | refine WL.guardT rfl rfl rfl rfl (OP.pickF rfl rfl rfl rfl rfl ?_)
    | refine WL.guardT rfl rfl rfl rfl (OP.pure (nw := true) rfl (by first | exact trivial | (simp only [Holds]; omega) | (simp [Holds]; done) | (simp [Holds]; omega)) rfl rfl ?_)
    | refine WL.guardT rfl rfl rfl rfl (OP.pure (nw := false) rfl trivial rfl rfl ?_)
    | refine WL.guardT rfl rfl rfl rfl (OP.loadN rfl rfl rfl rfl (by repeat (first | exact HasNth.here rfl | apply HasNth.there)) rfl rfl ?_)
    | refine WL.guardT rfl rfl rfl rfl (OP.loadB rfl rfl rfl rfl rfl (by repeat (first | exact HasCut.here rfl | apply HasCut.there)) rfl rfl ?_)
    | refine WL.guardF rfl rfl rfl rfl rfl rfl ?_
    | refine WL.guarded (nw := true) rfl rfl rfl rfl rfl rfl rfl (by first | exact trivial | (simp only [Holds]; omega) | (simp [Holds]; done) | (simp [Holds]; omega)) ?_
    | refine WL.step rfl (OP.loadN rfl rfl rfl rfl (by repeat (first | exact HasNth.here rfl | apply HasNth.there)) rfl rfl ?_)
    | refine WL.step rfl (OP.loadB rfl rfl rfl rfl rfl (by repeat (first | exact HasCut.here rfl | apply HasCut.there)) rfl rfl ?_)
    | refine WL.step rfl (OP.store rfl rfl rfl rfl rfl rfl rfl (by repeat (first | exact UpdM.here rfl | apply UpdM.there)) rfl ?_)
    | refine WL.step rfl (OP.alloc rfl rfl rfl rfl rfl (fun _ => ?_))
    | refine WL.step rfl (OP.box rfl rfl rfl rfl rfl (fun _ => ?_))
    | refine WL.step rfl (OP.buildT rfl rfl rfl rfl ?_)
    | refine WL.step rfl (OP.sliceLit rfl rfl rfl rfl rfl rfl rfl rfl (fun _ => ?_))))
    refine ret1 rfl ⟨?_, (by repeat (first | exact List.Mem.head _ | apply List.Mem.tail))⟩
    have : l = l' := List.ext_getElem? fun i => by
      by_cases hi : i < k
      · exact hall i hi
      · rw [List.getElem?_eq_none (by omega), List.getElem?_eq_none (by omega)]
    simp [this]
  have hl1 : k < l.length := by omega
  have hl2 : k < l'.length := by omega
  repeat (first | refine WL.step rfl (OP.decT (nw := true) rfl trivial (by omega) rfl rfl ?_) | refine WL.step rfl (OP.decF (nw := true) rfl trivial (by omega) rfl rfl ?_) | refine WL.step rfl (OP.decNT (nw := true) rfl trivial (by omega) rfl rfl ?_) | refine WL.step rfl (OP.decNF (nw := true) rfl trivial (by omega) rfl rfl ?_) | refine WL.guardT rfl rfl rfl rfl (OP.decT (nw := true) rfl trivial (by omega) rfl rfl ?_) | refine WL.guardT rfl rfl rfl rfl (OP.decF (nw := true) rfl trivial (by omega) rfl rfl ?_) | (first
    | refine WC.seq ?_ | refine WC.region ?_ | refine WL.nil ?_ | with_reducible refine seqK.go ?_ | refine WC.block ?_ | refine WC.skip ?_ | refine WC.exit ?_ | refine WC.ret ?_
    | with_reducible refine seqK.exit ?_ | with_reducible refine seqK.ret ?_ | (with_reducible refine blockK.hit ?hb ?_; (case hb => rfl)) | (with_reducible refine blockK.miss ?hb ?_; (case hb => rfl)) | with_reducible refine blockK.normal ?_ | with_reducible refine blockK.ret ?_ | with_reducible refine loopK.exit ?_ | with_reducible refine loopK.ret ?_
    | refine WC.condT rfl ?_ | refine WC.condF rfl ?_
    | refine WL.step rfl (OP.pure (nw := true) rfl (by first | exact trivial | (simp only [Holds]; omega) | (simp [Holds]; done) | (simp [Holds]; omega)) rfl rfl ?_)
    | refine WL.step rfl (OP.pure (nw := false) rfl (by first | exact trivial | (simp only [Holds]; omega) | (simp [Holds]; done) | (simp [Holds]; omega)) rfl rfl ?_)
    | refine WL.step rfl (OP.pickT rfl rfl rfl rfl rfl ?_) | refine WL.step rfl (OP.pickF rfl rfl rfl rfl rfl ?_) | refine WL.guardT rfl rfl rfl rfl (OP.pickT rfl rfl rfl rfl rfl ?_) | refine WL.guardT rfl rfl rfl rfl (OP.pickF rfl rfl rfl rfl rfl ?_)
    | refine WL.guardT rfl rfl rfl rfl (OP.pure (nw := true) rfl (by first | exact trivial | (simp only [Holds]; omega) | (simp [Holds]; done) | (simp [Holds]; omega)) rfl rfl ?_)
    | refine WL.guardT rfl rfl rfl rfl (OP.pure (nw := false) rfl trivial rfl rfl ?_)
    | refine WL.guardT rfl rfl rfl rfl (OP.loadN rfl rfl rfl rfl (by repeat (first | exact HasNth.here rfl | apply HasNth.there)) rfl rfl ?_)
    | refine WL.guardT rfl rfl rfl rfl (OP.loadB rfl rfl rfl rfl rfl (by repeat (first | exact HasCut.here rfl | apply HasCut.there)) rfl rfl ?_)
    | refine WL.guardF rfl rfl rfl rfl rfl rfl ?_
    | refine WL.guarded (nw := true) rfl rfl rfl rfl rfl rfl rfl (by first | exact trivial | (simp only [Holds]; omega) | (simp [Holds]; done) | (simp [Holds]; omega)) ?_
    | refine WL.step rfl (OP.loadN rfl rfl rfl rfl (by repeat (first | exact HasNth.here rfl | apply HasNth.there)) rfl rfl ?_)
    | refine WL.step rfl (OP.loadB rfl rfl rfl rfl rfl (by repeat (first | exact HasCut.here rfl | apply HasCut.there)) rfl rfl ?_)
    | refine WL.step rfl (OP.store rfl rfl rfl rfl rfl rfl rfl (by repeat (first | exact UpdM.here rfl | apply UpdM.there)) rfl ?_)
    | refine WL.step rfl (OP.alloc rfl rfl rfl rfl rfl (fun _ => ?_))
    | refine WL.step rfl (OP.box rfl rfl rfl rfl rfl (fun _ => ?_))
    | refine WL.step rfl (OP.buildT rfl rfl rfl rfl ?_)
    | refine WL.step rfl (OP.sliceLit rfl rfl rfl rfl rfl rfl rfl rfl (fun _ => ?_))))
  refine WC.fact (Ent.some (hE1 (by repeat (first | exact List.Mem.head _ | apply List.Mem.tail))) (by omega)) ?_
  rintro ⟨b, off, rfl⟩
  refine WC.fact (Ent.some (hE2 (by repeat (first | exact List.Mem.head _ | apply List.Mem.tail))) (by omega)) ?_
  rintro ⟨b', off', rfl⟩
  refine WC.regionD 9 9 (_) rfl (by kernel_rfl) (by first | exact Imp.refl _ | exact (Imp.sub (by repeat (first | exact Picks.nil _ | apply Picks.cons | exact Pick.here _ _ | apply Pick.there)))) ?_
  (first | refine WH.pure (nw := true) 0 rfl rfl (by kernel_rfl) (by kernel_rfl) (by kernel_rfl) (fun _ _ _ h => h) rfl rfl (by first | exact trivial | (simp only [Holds]; omega) | (simp [Holds]; done) | (simp [Holds]; omega)) rfl rfl ?_ | refine WH.pure (nw := false) 0 rfl rfl (by kernel_rfl) (by kernel_rfl) (by kernel_rfl) (fun _ _ _ h => h) rfl rfl (by first | exact trivial | (simp only [Holds]; omega) | (simp [Holds]; done) | (simp [Holds]; omega)) rfl rfl ?_ | refine WH.load 0 rfl rfl (by kernel_rfl) (by kernel_rfl) (by kernel_rfl) (fun _ _ _ h => h) rfl rfl rfl rfl (.inl ⟨rfl, HasNth.ent (by repeat (first | exact HasNth.here rfl | apply HasNth.there))⟩) rfl rfl ?_ | refine WH.load 0 rfl rfl (by kernel_rfl) (by kernel_rfl) (by kernel_rfl) (fun _ _ _ h => h) rfl rfl rfl rfl (loads_cut rfl rfl (by repeat (first | exact HasCut.here rfl | apply HasCut.there))) rfl rfl ?_); (first | refine WH.pure (nw := true) 1 rfl rfl (by kernel_rfl) (by kernel_rfl) (by kernel_rfl) (fun _ _ _ h => h) rfl rfl (by first | exact trivial | (simp only [Holds]; omega) | (simp [Holds]; done) | (simp [Holds]; omega)) rfl rfl ?_ | refine WH.pure (nw := false) 1 rfl rfl (by kernel_rfl) (by kernel_rfl) (by kernel_rfl) (fun _ _ _ h => h) rfl rfl (by first | exact trivial | (simp only [Holds]; omega) | (simp [Holds]; done) | (simp [Holds]; omega)) rfl rfl ?_ | refine WH.load 1 rfl rfl (by kernel_rfl) (by kernel_rfl) (by kernel_rfl) (fun _ _ _ h => h) rfl rfl rfl rfl (.inl ⟨rfl, HasNth.ent (by repeat (first | exact HasNth.here rfl | apply HasNth.there))⟩) rfl rfl ?_ | refine WH.load 1 rfl rfl (by kernel_rfl) (by kernel_rfl) (by kernel_rfl) (fun _ _ _ h => h) rfl rfl rfl rfl (loads_cut rfl rfl (by repeat (first | exact HasCut.here rfl | apply HasCut.there))) rfl rfl ?_); (first | refine WH.pure (nw := true) 2 rfl rfl (by kernel_rfl) (by kernel_rfl) (by kernel_rfl) (fun _ _ _ h => h) rfl rfl (by first | exact trivial | (simp only [Holds]; omega) | (simp [Holds]; done) | (simp [Holds]; omega)) rfl rfl ?_ | refine WH.pure (nw := false) 2 rfl rfl (by kernel_rfl) (by kernel_rfl) (by kernel_rfl) (fun _ _ _ h => h) rfl rfl (by first | exact trivial | (simp only [Holds]; omega) | (simp [Holds]; done) | (simp [Holds]; omega)) rfl rfl ?_ | refine WH.load 2 rfl rfl (by kernel_rfl) (by kernel_rfl) (by kernel_rfl) (fun _ _ _ h => h) rfl rfl rfl rfl (.inl ⟨rfl, HasNth.ent (by repeat (first | exact HasNth.here rfl | apply HasNth.there))⟩) rfl rfl ?_ | refine WH.load 2 rfl rfl (by kernel_rfl) (by kernel_rfl) (by kernel_rfl) (fun _ _ _ h => h) rfl rfl rfl rfl (loads_cut rfl rfl (by repeat (first | exact HasCut.here rfl | apply HasCut.there))) rfl rfl ?_)
  refine WH.load (v := .int .i64 l[k]) 3 rfl rfl (by kernel_rfl) (by kernel_rfl) (by kernel_rfl) (fun _ _ _ h => h) rfl rfl rfl rfl (.inl ⟨rfl, Ent.elem (i := k * 1) (hE1 (by repeat (first | exact List.Mem.head _ | apply List.Mem.tail))) rfl (by simp [vI, hl1])⟩) rfl rfl ?_
  (first | refine WH.pure (nw := true) 4 rfl rfl (by kernel_rfl) (by kernel_rfl) (by kernel_rfl) (fun _ _ _ h => h) rfl rfl (by first | exact trivial | (simp only [Holds]; omega) | (simp [Holds]; done) | (simp [Holds]; omega)) rfl rfl ?_ | refine WH.pure (nw := false) 4 rfl rfl (by kernel_rfl) (by kernel_rfl) (by kernel_rfl) (fun _ _ _ h => h) rfl rfl (by first | exact trivial | (simp only [Holds]; omega) | (simp [Holds]; done) | (simp [Holds]; omega)) rfl rfl ?_ | refine WH.load 4 rfl rfl (by kernel_rfl) (by kernel_rfl) (by kernel_rfl) (fun _ _ _ h => h) rfl rfl rfl rfl (.inl ⟨rfl, HasNth.ent (by repeat (first | exact HasNth.here rfl | apply HasNth.there))⟩) rfl rfl ?_ | refine WH.load 4 rfl rfl (by kernel_rfl) (by kernel_rfl) (by kernel_rfl) (fun _ _ _ h => h) rfl rfl rfl rfl (loads_cut rfl rfl (by repeat (first | exact HasCut.here rfl | apply HasCut.there))) rfl rfl ?_); (first | refine WH.pure (nw := true) 5 rfl rfl (by kernel_rfl) (by kernel_rfl) (by kernel_rfl) (fun _ _ _ h => h) rfl rfl (by first | exact trivial | (simp only [Holds]; omega) | (simp [Holds]; done) | (simp [Holds]; omega)) rfl rfl ?_ | refine WH.pure (nw := false) 5 rfl rfl (by kernel_rfl) (by kernel_rfl) (by kernel_rfl) (fun _ _ _ h => h) rfl rfl (by first | exact trivial | (simp only [Holds]; omega) | (simp [Holds]; done) | (simp [Holds]; omega)) rfl rfl ?_ | refine WH.load 5 rfl rfl (by kernel_rfl) (by kernel_rfl) (by kernel_rfl) (fun _ _ _ h => h) rfl rfl rfl rfl (.inl ⟨rfl, HasNth.ent (by repeat (first | exact HasNth.here rfl | apply HasNth.there))⟩) rfl rfl ?_ | refine WH.load 5 rfl rfl (by kernel_rfl) (by kernel_rfl) (by kernel_rfl) (fun _ _ _ h => h) rfl rfl rfl rfl (loads_cut rfl rfl (by repeat (first | exact HasCut.here rfl | apply HasCut.there))) rfl rfl ?_); (first | refine WH.pure (nw := true) 6 rfl rfl (by kernel_rfl) (by kernel_rfl) (by kernel_rfl) (fun _ _ _ h => h) rfl rfl (by first | exact trivial | (simp only [Holds]; omega) | (simp [Holds]; done) | (simp [Holds]; omega)) rfl rfl ?_ | refine WH.pure (nw := false) 6 rfl rfl (by kernel_rfl) (by kernel_rfl) (by kernel_rfl) (fun _ _ _ h => h) rfl rfl (by first | exact trivial | (simp only [Holds]; omega) | (simp [Holds]; done) | (simp [Holds]; omega)) rfl rfl ?_ | refine WH.load 6 rfl rfl (by kernel_rfl) (by kernel_rfl) (by kernel_rfl) (fun _ _ _ h => h) rfl rfl rfl rfl (.inl ⟨rfl, HasNth.ent (by repeat (first | exact HasNth.here rfl | apply HasNth.there))⟩) rfl rfl ?_ | refine WH.load 6 rfl rfl (by kernel_rfl) (by kernel_rfl) (by kernel_rfl) (fun _ _ _ h => h) rfl rfl rfl rfl (loads_cut rfl rfl (by repeat (first | exact HasCut.here rfl | apply HasCut.there))) rfl rfl ?_)
  refine WH.load (v := .int .i64 l'[k]) 7 rfl rfl (by kernel_rfl) (by kernel_rfl) (by kernel_rfl) (fun _ _ _ h => h) rfl rfl rfl rfl (.inl ⟨rfl, Ent.elem (i := k * 1) (hE2 (by repeat (first | exact List.Mem.head _ | apply List.Mem.tail))) rfl (by simp [vI, hl2])⟩) rfl rfl ?_
  (first | refine WH.pure (nw := true) 8 rfl rfl (by kernel_rfl) (by kernel_rfl) (by kernel_rfl) (fun _ _ _ h => h) rfl rfl (by first | exact trivial | (simp only [Holds]; omega) | (simp [Holds]; done) | (simp [Holds]; omega)) rfl rfl ?_ | refine WH.pure (nw := false) 8 rfl rfl (by kernel_rfl) (by kernel_rfl) (by kernel_rfl) (fun _ _ _ h => h) rfl rfl (by first | exact trivial | (simp only [Holds]; omega) | (simp [Holds]; done) | (simp [Holds]; omega)) rfl rfl ?_ | refine WH.load 8 rfl rfl (by kernel_rfl) (by kernel_rfl) (by kernel_rfl) (fun _ _ _ h => h) rfl rfl rfl rfl (.inl ⟨rfl, HasNth.ent (by repeat (first | exact HasNth.here rfl | apply HasNth.there))⟩) rfl rfl ?_ | refine WH.load 8 rfl rfl (by kernel_rfl) (by kernel_rfl) (by kernel_rfl) (fun _ _ _ h => h) rfl rfl rfl rfl (loads_cut rfl rfl (by repeat (first | exact HasCut.here rfl | apply HasCut.there))) rfl rfl ?_)
  refine WH.done (by kernel_rfl) ?_
  by_cases he : l[k] = l'[k]
  · simp only [he, decide_true]
    repeat (first
    | refine WC.seq ?_ | refine WC.region ?_ | refine WL.nil ?_ | with_reducible refine seqK.go ?_ | refine WC.block ?_ | refine WC.skip ?_ | refine WC.exit ?_ | refine WC.ret ?_
    | with_reducible refine seqK.exit ?_ | with_reducible refine seqK.ret ?_ | (with_reducible refine blockK.hit ?hb ?_; (case hb => rfl)) | (with_reducible refine blockK.miss ?hb ?_; (case hb => rfl)) | with_reducible refine blockK.normal ?_ | with_reducible refine blockK.ret ?_ | with_reducible refine loopK.exit ?_ | with_reducible refine loopK.ret ?_
    | refine WC.condT rfl ?_ | refine WC.condF rfl ?_
    | refine WL.step rfl (OP.pure (nw := true) rfl (by first | exact trivial | (simp only [Holds]; omega) | (simp [Holds]; done) | (simp [Holds]; omega)) rfl rfl ?_)
    | refine WL.step rfl (OP.pure (nw := false) rfl (by first | exact trivial | (simp only [Holds]; omega) | (simp [Holds]; done) | (simp [Holds]; omega)) rfl rfl ?_)
    | refine WL.step rfl (OP.pickT rfl rfl rfl rfl rfl ?_) | refine WL.step rfl (OP.pickF rfl rfl rfl rfl rfl ?_) | refine WL.guardT rfl rfl rfl rfl (OP.pickT rfl rfl rfl rfl rfl ?_) | refine WL.guardT rfl rfl rfl rfl (OP.pickF rfl rfl rfl rfl rfl ?_)
    | refine WL.guardT rfl rfl rfl rfl (OP.pure (nw := true) rfl (by first | exact trivial | (simp only [Holds]; omega) | (simp [Holds]; done) | (simp [Holds]; omega)) rfl rfl ?_)
    | refine WL.guardT rfl rfl rfl rfl (OP.pure (nw := false) rfl trivial rfl rfl ?_)
    | refine WL.guardT rfl rfl rfl rfl (OP.loadN rfl rfl rfl rfl (by repeat (first | exact HasNth.here rfl | apply HasNth.there)) rfl rfl ?_)
    | refine WL.guardT rfl rfl rfl rfl (OP.loadB rfl rfl rfl rfl rfl (by repeat (first | exact HasCut.here rfl | apply HasCut.there)) rfl rfl ?_)
    | refine WL.guardF rfl rfl rfl rfl rfl rfl ?_
    | refine WL.guarded (nw := true) rfl rfl rfl rfl rfl rfl rfl (by first | exact trivial | (simp only [Holds]; omega) | (simp [Holds]; done) | (simp [Holds]; omega)) ?_
    | refine WL.step rfl (OP.loadN rfl rfl rfl rfl (by repeat (first | exact HasNth.here rfl | apply HasNth.there)) rfl rfl ?_)
    | refine WL.step rfl (OP.loadB rfl rfl rfl rfl rfl (by repeat (first | exact HasCut.here rfl | apply HasCut.there)) rfl rfl ?_)
    | refine WL.step rfl (OP.store rfl rfl rfl rfl rfl rfl rfl (by repeat (first | exact UpdM.here rfl | apply UpdM.there)) rfl ?_)
    | refine WL.step rfl (OP.alloc rfl rfl rfl rfl rfl (fun _ => ?_))
    | refine WL.step rfl (OP.box rfl rfl rfl rfl rfl (fun _ => ?_))
    | refine WL.step rfl (OP.buildT rfl rfl rfl rfl ?_)
    | refine WL.step rfl (OP.sliceLit rfl rfl rfl rfl rfl rfl rfl rfl (fun _ => ?_)))
    exact ⟨k + 1, ⟨by omega, fun j hj => by
      by_cases e : j = k
      · subst e; rw [List.getElem?_eq_getElem hl1, List.getElem?_eq_getElem hl2, he]
      · exact hall j (by omega)⟩, by omega, ⟨rfl, rfl, rfl, rfl, trivial⟩, Imp.refl _⟩
  · simp only [he, decide_false]
    repeat (first
    | refine WC.seq ?_ | refine WC.region ?_ | refine WL.nil ?_ | with_reducible refine seqK.go ?_ | refine WC.block ?_ | refine WC.skip ?_ | refine WC.exit ?_ | refine WC.ret ?_
    | with_reducible refine seqK.exit ?_ | with_reducible refine seqK.ret ?_ | (with_reducible refine blockK.hit ?hb ?_; (case hb => rfl)) | (with_reducible refine blockK.miss ?hb ?_; (case hb => rfl)) | with_reducible refine blockK.normal ?_ | with_reducible refine blockK.ret ?_ | with_reducible refine loopK.exit ?_ | with_reducible refine loopK.ret ?_
    | refine WC.condT rfl ?_ | refine WC.condF rfl ?_
    | refine WL.step rfl (OP.pure (nw := true) rfl (by first | exact trivial | (simp only [Holds]; omega) | (simp [Holds]; done) | (simp [Holds]; omega)) rfl rfl ?_)
    | refine WL.step rfl (OP.pure (nw := false) rfl (by first | exact trivial | (simp only [Holds]; omega) | (simp [Holds]; done) | (simp [Holds]; omega)) rfl rfl ?_)
    | refine WL.step rfl (OP.pickT rfl rfl rfl rfl rfl ?_) | refine WL.step rfl (OP.pickF rfl rfl rfl rfl rfl ?_) | refine WL.guardT rfl rfl rfl rfl (OP.pickT rfl rfl rfl rfl rfl ?_) | refine WL.guardT rfl rfl rfl rfl (OP.pickF rfl rfl rfl rfl rfl ?_)
    | refine WL.guardT rfl rfl rfl rfl (OP.pure (nw := true) rfl (by first | exact trivial | (simp only [Holds]; omega) | (simp [Holds]; done) | (simp [Holds]; omega)) rfl rfl ?_)
    | refine WL.guardT rfl rfl rfl rfl (OP.pure (nw := false) rfl trivial rfl rfl ?_)
    | refine WL.guardT rfl rfl rfl rfl (OP.loadN rfl rfl rfl rfl (by repeat (first | exact HasNth.here rfl | apply HasNth.there)) rfl rfl ?_)
    | refine WL.guardT rfl rfl rfl rfl (OP.loadB rfl rfl rfl rfl rfl (by repeat (first | exact HasCut.here rfl | apply HasCut.there)) rfl rfl ?_)
    | refine WL.guardF rfl rfl rfl rfl rfl rfl ?_
    | refine WL.guarded (nw := true) rfl rfl rfl rfl rfl rfl rfl (by first | exact trivial | (simp only [Holds]; omega) | (simp [Holds]; done) | (simp [Holds]; omega)) ?_
    | refine WL.step rfl (OP.loadN rfl rfl rfl rfl (by repeat (first | exact HasNth.here rfl | apply HasNth.there)) rfl rfl ?_)
    | refine WL.step rfl (OP.loadB rfl rfl rfl rfl rfl (by repeat (first | exact HasCut.here rfl | apply HasCut.there)) rfl rfl ?_)
    | refine WL.step rfl (OP.store rfl rfl rfl rfl rfl rfl rfl (by repeat (first | exact UpdM.here rfl | apply UpdM.there)) rfl ?_)
    | refine WL.step rfl (OP.alloc rfl rfl rfl rfl rfl (fun _ => ?_))
    | refine WL.step rfl (OP.box rfl rfl rfl rfl rfl (fun _ => ?_))
    | refine WL.step rfl (OP.buildT rfl rfl rfl rfl ?_)
    | refine WL.step rfl (OP.sliceLit rfl rfl rfl rfl rfl rfl rfl rfl (fun _ => ?_)))
    refine ret1 rfl ⟨?_, (by repeat (first | exact List.Mem.head _ | apply List.Mem.tail))⟩
    have : l ≠ l' := fun e => he (by subst e; rfl)
    simp [this]
end Go.Proofs.Ytkoakmaihcheaaa
