/- Contracts of functions of the given program, and plain laws on what they compute: parts of the proofs of laws. -/
import Derived.Test.YtkoakmaihcheaaaM10

namespace Go.Proofs.Ytkoakmaihcheaaa
open Go Go.GL

theorem put_any2 {p : Nat} {a : Option Addr} {cap : Nat} {f : List Bool} {ch : List Ch} {c : Ch} {v : Value} {M : List Assn} (h : PutPost p a cap f ch c v M) :
    ∃ a' cap', Imp M (grpL p a' (putCh f ch c).length cap' f (putCh f ch c)) ∧ ((v = .nilIface ∧ putM f ch c = none) ∨ ((∃ b, v = .iface 95 (.pointer (some ⟨b, 0, none⟩))) ∧ putCh f ch c = ch ∧ ∃ code, putM f ch c = some code)) := by
  unfold PutPost at h
  unfold putCh
  split at h
  · rename_i code e
    rw [e]
    obtain ⟨E, ⟨b, hv, _⟩, rfl⟩ := h
    exact ⟨a, cap, Imp.dropL _ _, .inr ⟨⟨b, hv⟩, rfl, code, rfl⟩⟩
  · rename_i e
    rw [e]
    obtain ⟨hv, a', cap', rfl⟩ := h
    exact ⟨a', cap', by simp only [List.length_append, List.length_singleton]; exact Imp.refl _, .inl ⟨hv, rfl⟩⟩

theorem flat_len {α : Type} (enc : α → List Value) (m : Nat) (he : ∀ x, (enc x).length = m) (l : List α) : (l.flatMap enc).length = l.length * m := by
  induction l with
  | nil => simp
  | cons a r ih => rw [List.flatMap_cons, List.length_append, he, ih, List.length_cons, Nat.succ_mul]; omega
set_option maxHeartbeats 4000000 in
set_option maxRecDepth 10000 in
theorem stays_ro (a b : Option Addr) (n c m c2 : Nat) (l : List Int) (ops : List Op3) (ok ov om mark : Int) :
    RO G 5 [.slice a n c, .slice b m c2, .agg (encO (ok, ov, om)).toArray, .int .i64 mark] (fun h => readS a n 1 (l.map vI) h ∧ readS b m 3 (encOs ops) h) (.bool true) := by
  refine RO.enter Try.func5 rfl (by decide) rfl Try.ntmps5 rfl (fun A hu hA => ?_) (up_and (up_readS _ _ _ _) (up_readS _ _ _ _))
  have hE1 : ∀ {L}, A ∈ L → Ent L (readS a n 1 (l.map vI)) := fun m => Ent.mem m hu fun k x => (hA k x).1
  have hE2 : ∀ {L}, A ∈ L → Ent L (readS b m 3 (encOs ops)) := fun m => Ent.mem m hu fun k x => (hA k x).2
  refine WC.fact (Ent.len (hE2 (by repeat (first | exact List.Mem.head _ | apply List.Mem.tail)))) (fun hlen => ?_)
  have hm : m = ops.length := by
    have : (encOs ops).length = ops.length * 3 := flat_len encO 3 (fun _ => rfl) ops
    omega
  repeat (first
    | refine WC.seq ?_ | refine WC.region ?_ | refine WL.nil ?_ | with_reducible refine seqK.go ?_ | refine WC.block ?_ | refine WC.skip ?_ | refine WC.exit ?_ | refine WC.ret ?_
    | with_reducible refine seqK.exit ?_ | with_reducible refine seqK.ret ?_ | (with_reducible refine blockK.hit ?hb ?_; (case hb => rfl)) | (with_reducible refine blockK.miss ?hb ?_; (case hb => rfl)) | with_reducible refine blockK.normal ?_ | with_reducible refine blockK.ret ?_ | with_reducible refine loopK.exit ?_ | with_reducible refine loopK.ret ?_
    | refine WC.condT rfl ?_ | refine WC.condF rfl ?_
    | refine WL.step rfl (OP.pure (nw := true) rfl (by first | exact trivial | (simp only [Holds]; omega) | (simp [Holds]; done) | (simp [Holds]; omega)) rfl rfl ?_)
    | refine WL.step rfl (OP.pure (nw := false) rfl (by first | exact trivial | (simp only [Holds]; omega) | (simp [Holds]; done) | (simp [Holds]; omega)) rfl rfl ?_)
    | refine WL.step rfl (OP.pickT rfl rfl rfl rfl rfl ?_) | refine WL.step rfl (OP.pickF rfl rfl rfl rfl rfl ?_) | refine WL.guardT rfl rfl rfl rfl (OP.pickT rfl rfl rfl rfl rfl ?_) | refine WL.guardT rfl rfl rfl rfl (OP.pickF rfl rfl rfl rfl rfl ?_)
    | refine WL.guardT rfl rfl rfl rfl (OP.pure (nw := true) rfl (by first | exact trivial | (simp only [Holds]; omega) | (simp [Holds]; done) | (simp [Holds]; omega)) rfl rfl ?_)
    | refine WL.guardT rfl rfl rfl rfl (OP.pure (nw := false) rfl trivial rfl rfl ?_)
    | refine WL.guardT rfl rfl rfl rfl (OP.loadN rfl rfl rfl rfl (by repeat (first | exact HasNth.here rfl | apply HasNth.there)) rfl rfl ?_)
    | refine WL.guardT rfl rfl rfl rfl (OP.loadB rfl rfl rfl rfl rfl (by repeat (first | exact HasCut.here rfl | apply HasCut.there)) rfl rfl ?_)
    | refine WL.guardF rfl rfl rfl rfl rfl rfl ?_
    | refine WL.guarded (nw := true) rfl rfl rfl rfl rfl rfl rfl (by first | exact trivial | (simp only [Holds]; omega) | (simp [Holds]; done) | (simp [Holds]; omega)) ?_
    | refine WL.step rfl (OP.loadN rfl rfl rfl rfl (by repeat (first | exact HasNth.here rfl | apply HasNth.there)) rfl rfl ?_)
    | refine WL.step rfl (OP.loadB rfl rfl rfl rfl rfl (by repeat (first | exact HasCut.here rfl | apply HasCut.there)) rfl rfl ?_)
    | refine WL.step rfl (OP.store rfl rfl rfl rfl rfl rfl rfl (by repeat (first | exact UpdM.here rfl | apply UpdM.there)) rfl ?_)
    | refine WL.step rfl (OP.alloc rfl rfl rfl rfl rfl (fun _ => ?_))
    | refine WL.step rfl (OP.box rfl rfl rfl rfl rfl (fun _ => ?_))
    | refine WL.step rfl (OP.buildT rfl rfl rfl rfl ?_)
    | refine WL.step rfl (OP.sliceLit rfl rfl rfl rfl rfl rfl rfl rfl (fun _ => ?_)))
  rename_i q
  refine WL.step rfl (OP.callRO rfl rfl awake_ro (fun _ _ => trivial) rfl rfl ?_)
  by_cases h20 : 20 < n
  · repeat (first | refine WL.step rfl (OP.decT (nw := true) rfl trivial (by omega) rfl rfl ?_) | refine WL.step rfl (OP.decF (nw := true) rfl trivial (by omega) rfl rfl ?_) | refine WL.step rfl (OP.decNT (nw := true) rfl trivial (by omega) rfl rfl ?_) | refine WL.step rfl (OP.decNF (nw := true) rfl trivial (by omega) rfl rfl ?_) | refine WL.guardT rfl rfl rfl rfl (OP.decT (nw := true) rfl trivial (by omega) rfl rfl ?_) | refine WL.guardT rfl rfl rfl rfl (OP.decF (nw := true) rfl trivial (by omega) rfl rfl ?_) | (first
    | refine WC.seq ?_ | refine WC.region ?_ | refine WL.nil ?_ | with_reducible refine seqK.go ?_ | refine WC.block ?_ | refine WC.skip ?_ | refine WC.exit ?_ | refine WC.ret ?_
    | with_reducible refine seqK.exit ?_ | with_reducible refine seqK.ret ?_ | (with_reducible refine blockK.hit ?hb ?_; (case hb => rfl)) | (with_reducible refine blockK.miss ?hb ?_; (case hb => rfl)) | with_reducible refine blockK.normal ?_ | with_reducible refine blockK.ret ?_ | with_reducible refine loopK.exit ?_ | with_reducible refine loopK.ret ?_
    | refine WC.condT rfl ?_ | refine WC.condF rfl ?_
    | refine WL.step rfl (OP.pure (nw := true) rfl (by first | exact trivial | (simp only [Holds]; omega) | (simp [Holds]; done) | (simp [Holds]; omega)) rfl rfl ?_)
    | refine WL.step rfl (OP.pure (nw := false) rfl (by first | exact trivial | (simp only [Holds]; omega) | (simp [Holds]; done) | (simp [Holds]; omega)) rfl rfl ?_)
    | refine WL.step rfl (OP.pickT rfl rfl rfl rfl rfl ?_) | refine WL.step rfl (OP.pickF rfl rfl rfl rfl rfl ?_) | refine WL.guardT rfl rfl rfl rfl (OP.pickT rfl rfl rfl rfl rfl ?_) | refine WL.guardT rfl rfl rfl rfl (OP.pickF rfl rfl rfl rfl rfl ?_)
    | refine WL.guardT rfl rfl rfl rfl (OP.pure (nw := true) rfl (by first | exact trivial | (simp only [Holds]; omega) | (simp [Holds]; done) | (simp [Holds]; omega)) rfl rfl ?_)
    | refine WL.guardT rfl rfl rfl rfl (OP.pure (nw := false) rfl trivial rfl rfl ?_)
    | refine WL.guardT rfl rfl rfl rfl (OP.loadN rfl rfl rfl rfl (by repeat (first | exact HasNth.here rfl | apply HasNth.there)) rfl rfl ?_)
    | refine WL.guardT rfl rfl rfl rfl (OP.loadB rfl rfl rfl rfl rfl (by repeat (first | exact HasCut.here rfl | apply HasCut.there)) rfl rfl ?_)
    | refine WL.guardF rfl rfl rfl rfl rfl rfl ?_
    | refine WL.guarded (nw := true) rfl rfl rfl rfl rfl rfl rfl (by first | exact trivial | (simp only [Holds]; omega) | (simp [Holds]; done) | (simp [Holds]; omega)) ?_
    | refine WL.step rfl (OP.loadN rfl rfl rfl rfl (by repeat (first | exact HasNth.here rfl | apply HasNth.there)) rfl rfl ?_)
    | refine WL.step rfl (OP.loadB rfl rfl rfl rfl rfl (by repeat (first | exact HasCut.here rfl | apply HasCut.there)) rfl rfl ?_)
    | refine WL.step rfl (OP.store rfl rfl rfl rfl rfl rfl rfl (by repeat (first | exact UpdM.here rfl | apply UpdM.there)) rfl ?_)
    | refine WL.step rfl (OP.alloc rfl rfl rfl rfl rfl (fun _ => ?_))
    | refine WL.step rfl (OP.box rfl rfl rfl rfl rfl (fun _ => ?_))
    | refine WL.step rfl (OP.buildT rfl rfl rfl rfl ?_)
    | refine WL.step rfl (OP.sliceLit rfl rfl rfl rfl rfl rfl rfl rfl (fun _ => ?_))))
    refine WL.step rfl (OP.callRO rfl rfl awake_ro (fun _ _ => trivial) rfl rfl ?_)
    repeat (first
    | refine WC.seq ?_ | refine WC.region ?_ | refine WL.nil ?_ | with_reducible refine seqK.go ?_ | refine WC.block ?_ | refine WC.skip ?_ | refine WC.exit ?_ | refine WC.ret ?_
    | with_reducible refine seqK.exit ?_ | with_reducible refine seqK.ret ?_ | (with_reducible refine blockK.hit ?hb ?_; (case hb => rfl)) | (with_reducible refine blockK.miss ?hb ?_; (case hb => rfl)) | with_reducible refine blockK.normal ?_ | with_reducible refine blockK.ret ?_ | with_reducible refine loopK.exit ?_ | with_reducible refine loopK.ret ?_
    | refine WC.condT rfl ?_ | refine WC.condF rfl ?_
    | refine WL.step rfl (OP.pure (nw := true) rfl (by first | exact trivial | (simp only [Holds]; omega) | (simp [Holds]; done) | (simp [Holds]; omega)) rfl rfl ?_)
    | refine WL.step rfl (OP.pure (nw := false) rfl (by first | exact trivial | (simp only [Holds]; omega) | (simp [Holds]; done) | (simp [Holds]; omega)) rfl rfl ?_)
    | refine WL.step rfl (OP.pickT rfl rfl rfl rfl rfl ?_) | refine WL.step rfl (OP.pickF rfl rfl rfl rfl rfl ?_) | refine WL.guardT rfl rfl rfl rfl (OP.pickT rfl rfl rfl rfl rfl ?_) | refine WL.guardT rfl rfl rfl rfl (OP.pickF rfl rfl rfl rfl rfl ?_)
    | refine WL.guardT rfl rfl rfl rfl (OP.pure (nw := true) rfl (by first | exact trivial | (simp only [Holds]; omega) | (simp [Holds]; done) | (simp [Holds]; omega)) rfl rfl ?_)
    | refine WL.guardT rfl rfl rfl rfl (OP.pure (nw := false) rfl trivial rfl rfl ?_)
    | refine WL.guardT rfl rfl rfl rfl (OP.loadN rfl rfl rfl rfl (by repeat (first | exact HasNth.here rfl | apply HasNth.there)) rfl rfl ?_)
    | refine WL.guardT rfl rfl rfl rfl (OP.loadB rfl rfl rfl rfl rfl (by repeat (first | exact HasCut.here rfl | apply HasCut.there)) rfl rfl ?_)
    | refine WL.guardF rfl rfl rfl rfl rfl rfl ?_
    | refine WL.guarded (nw := true) rfl rfl rfl rfl rfl rfl rfl (by first | exact trivial | (simp only [Holds]; omega) | (simp [Holds]; done) | (simp [Holds]; omega)) ?_
    | refine WL.step rfl (OP.loadN rfl rfl rfl rfl (by repeat (first | exact HasNth.here rfl | apply HasNth.there)) rfl rfl ?_)
    | refine WL.step rfl (OP.loadB rfl rfl rfl rfl rfl (by repeat (first | exact HasCut.here rfl | apply HasCut.there)) rfl rfl ?_)
    | refine WL.step rfl (OP.store rfl rfl rfl rfl rfl rfl rfl (by repeat (first | exact UpdM.here rfl | apply UpdM.there)) rfl ?_)
    | refine WL.step rfl (OP.alloc rfl rfl rfl rfl rfl (fun _ => ?_))
    | refine WL.step rfl (OP.box rfl rfl rfl rfl rfl (fun _ => ?_))
    | refine WL.step rfl (OP.buildT rfl rfl rfl rfl ?_)
    | refine WL.step rfl (OP.sliceLit rfl rfl rfl rfl rfl rfl rfl rfl (fun _ => ?_)))
    exact ret1 rfl ⟨rfl, (by repeat (first | exact List.Mem.head _ | apply List.Mem.tail))⟩
  by_cases h200 : 200 < m
  · repeat (first | refine WL.step rfl (OP.decT (nw := true) rfl trivial (by omega) rfl rfl ?_) | refine WL.step rfl (OP.decF (nw := true) rfl trivial (by omega) rfl rfl ?_) | refine WL.step rfl (OP.decNT (nw := true) rfl trivial (by omega) rfl rfl ?_) | refine WL.step rfl (OP.decNF (nw := true) rfl trivial (by omega) rfl rfl ?_) | refine WL.guardT rfl rfl rfl rfl (OP.decT (nw := true) rfl trivial (by omega) rfl rfl ?_) | refine WL.guardT rfl rfl rfl rfl (OP.decF (nw := true) rfl trivial (by omega) rfl rfl ?_) | (first
    | refine WC.seq ?_ | refine WC.region ?_ | refine WL.nil ?_ | with_reducible refine seqK.go ?_ | refine WC.block ?_ | refine WC.skip ?_ | refine WC.exit ?_ | refine WC.ret ?_
    | with_reducible refine seqK.exit ?_ | with_reducible refine seqK.ret ?_ | (with_reducible refine blockK.hit ?hb ?_; (case hb => rfl)) | (with_reducible refine blockK.miss ?hb ?_; (case hb => rfl)) | with_reducible refine blockK.normal ?_ | with_reducible refine blockK.ret ?_ | with_reducible refine loopK.exit ?_ | with_reducible refine loopK.ret ?_
    | refine WC.condT rfl ?_ | refine WC.condF rfl ?_
    | refine WL.step rfl (OP.pure (nw := true) rfl (by first | exact trivial | (simp only [Holds]; omega) | (simp [Holds]; done) | (simp [Holds]; omega)) rfl rfl ?_)
    | refine WL.step rfl (OP.pure (nw := false) rfl (by first | exact trivial | (simp only [Holds]; omega) | (simp [Holds]; done) | (simp [Holds]; omega)) rfl rfl ?_)
    | refine WL.step rfl (OP.pickT rfl rfl rfl rfl rfl ?_) | refine WL.step rfl (OP.pickF rfl rfl rfl rfl rfl ?_) | refine WL.guardT rfl rfl rfl rfl (OP.pickT rfl rfl rfl rfl rfl ?_) | refine WL.guardT rfl rfl rfl rfl (OP.pickF rfl rfl rfl rfl rfl ?_)
    | refine WL.guardT rfl rfl rfl rfl (OP.pure (nw := true) rfl (by first | exact trivial | (simp only [Holds]; omega) | (simp [Holds]; done) | (simp [Holds]; omega)) rfl rfl ?_)
    | refine WL.guardT rfl rfl rfl rfl (OP.pure (nw := false) rfl trivial rfl rfl ?_)
    | refine WL.guardT rfl rfl rfl rfl (OP.loadN rfl rfl rfl rfl (by repeat (first | exact HasNth.here rfl | apply HasNth.there)) rfl rfl ?_)
    | refine WL.guardT rfl rfl rfl rfl (OP.loadB rfl rfl rfl rfl rfl (by repeat (first | exact HasCut.here rfl | apply HasCut.there)) rfl rfl ?_)
    | refine WL.guardF rfl rfl rfl rfl rfl rfl ?_
    | refine WL.guarded (nw := true) rfl rfl rfl rfl rfl rfl rfl (by first | exact trivial | (simp only [Holds]; omega) | (simp [Holds]; done) | (simp [Holds]; omega)) ?_
    | refine WL.step rfl (OP.loadN rfl rfl rfl rfl (by repeat (first | exact HasNth.here rfl | apply HasNth.there)) rfl rfl ?_)
    | refine WL.step rfl (OP.loadB rfl rfl rfl rfl rfl (by repeat (first | exact HasCut.here rfl | apply HasCut.there)) rfl rfl ?_)
    | refine WL.step rfl (OP.store rfl rfl rfl rfl rfl rfl rfl (by repeat (first | exact UpdM.here rfl | apply UpdM.there)) rfl ?_)
    | refine WL.step rfl (OP.alloc rfl rfl rfl rfl rfl (fun _ => ?_))
    | refine WL.step rfl (OP.box rfl rfl rfl rfl rfl (fun _ => ?_))
    | refine WL.step rfl (OP.buildT rfl rfl rfl rfl ?_)
    | refine WL.step rfl (OP.sliceLit rfl rfl rfl rfl rfl rfl rfl rfl (fun _ => ?_))))
    refine WL.step rfl (OP.callRO rfl rfl awake_ro (fun _ _ => trivial) rfl rfl ?_)
    repeat (first
    | refine WC.seq ?_ | refine WC.region ?_ | refine WL.nil ?_ | with_reducible refine seqK.go ?_ | refine WC.block ?_ | refine WC.skip ?_ | refine WC.exit ?_ | refine WC.ret ?_
    | with_reducible refine seqK.exit ?_ | with_reducible refine seqK.ret ?_ | (with_reducible refine blockK.hit ?hb ?_; (case hb => rfl)) | (with_reducible refine blockK.miss ?hb ?_; (case hb => rfl)) | with_reducible refine blockK.normal ?_ | with_reducible refine blockK.ret ?_ | with_reducible refine loopK.exit ?_ | with_reducible refine loopK.ret ?_
    | refine WC.condT rfl ?_ | refine WC.condF rfl ?_
    | refine WL.step rfl (OP.pure (nw := true) rfl (by first | exact trivial | (simp only [Holds]; omega) | (simp [Holds]; done) | (simp [Holds]; omega)) rfl rfl ?_)
    | refine WL.step rfl (OP.pure (nw := false) rfl (by first | exact trivial | (simp only [Holds]; omega) | (simp [Holds]; done) | (simp [Holds]; omega)) rfl rfl ?_)
    | refine WL.step rfl (OP.pickT rfl rfl rfl rfl rfl ?_) | refine WL.step rfl (OP.pickF rfl rfl rfl rfl rfl ?_) | refine WL.guardT rfl rfl rfl rfl (OP.pickT rfl rfl rfl rfl rfl ?_) | refine WL.guardT rfl rfl rfl rfl (OP.pickF rfl rfl rfl rfl rfl ?_)
    | refine WL.guardT rfl rfl rfl rfl (OP.pure (nw := true) rfl (by first | exact trivial | (simp only [Holds]; omega) | (simp [Holds]; done) | (simp [Holds]; omega)) rfl rfl ?_)
    | refine WL.guardT rfl rfl rfl rfl (OP.pure (nw := false) rfl trivial rfl rfl ?_)
    | refine WL.guardT rfl rfl rfl rfl (OP.loadN rfl rfl rfl rfl (by repeat (first | exact HasNth.here rfl | apply HasNth.there)) rfl rfl ?_)
    | refine WL.guardT rfl rfl rfl rfl (OP.loadB rfl rfl rfl rfl rfl (by repeat (first | exact HasCut.here rfl | apply HasCut.there)) rfl rfl ?_)
    | refine WL.guardF rfl rfl rfl rfl rfl rfl ?_
    | refine WL.guarded (nw := true) rfl rfl rfl rfl rfl rfl rfl (by first | exact trivial | (simp only [Holds]; omega) | (simp [Holds]; done) | (simp [Holds]; omega)) ?_
    | refine WL.step rfl (OP.loadN rfl rfl rfl rfl (by repeat (first | exact HasNth.here rfl | apply HasNth.there)) rfl rfl ?_)
    | refine WL.step rfl (OP.loadB rfl rfl rfl rfl rfl (by repeat (first | exact HasCut.here rfl | apply HasCut.there)) rfl rfl ?_)
    | refine WL.step rfl (OP.store rfl rfl rfl rfl rfl rfl rfl (by repeat (first | exact UpdM.here rfl | apply UpdM.there)) rfl ?_)
    | refine WL.step rfl (OP.alloc rfl rfl rfl rfl rfl (fun _ => ?_))
    | refine WL.step rfl (OP.box rfl rfl rfl rfl rfl (fun _ => ?_))
    | refine WL.step rfl (OP.buildT rfl rfl rfl rfl ?_)
    | refine WL.step rfl (OP.sliceLit rfl rfl rfl rfl rfl rfl rfl rfl (fun _ => ?_)))
    exact ret1 rfl ⟨rfl, (by repeat (first | exact List.Mem.head _ | apply List.Mem.tail))⟩
  repeat (first | refine WL.step rfl (OP.decT (nw := true) rfl trivial (by omega) rfl rfl ?_) | refine WL.step rfl (OP.decF (nw := true) rfl trivial (by omega) rfl rfl ?_) | refine WL.step rfl (OP.decNT (nw := true) rfl trivial (by omega) rfl rfl ?_) | refine WL.step rfl (OP.decNF (nw := true) rfl trivial (by omega) rfl rfl ?_) | refine WL.guardT rfl rfl rfl rfl (OP.decT (nw := true) rfl trivial (by omega) rfl rfl ?_) | refine WL.guardT rfl rfl rfl rfl (OP.decF (nw := true) rfl trivial (by omega) rfl rfl ?_) | (first
    | refine WC.seq ?_ | refine WC.region ?_ | refine WL.nil ?_ | with_reducible refine seqK.go ?_ | refine WC.block ?_ | refine WC.skip ?_ | refine WC.exit ?_ | refine WC.ret ?_
    | with_reducible refine seqK.exit ?_ | with_reducible refine seqK.ret ?_ | (with_reducible refine blockK.hit ?hb ?_; (case hb => rfl)) | (with_reducible refine blockK.miss ?hb ?_; (case hb => rfl)) | with_reducible refine blockK.normal ?_ | with_reducible refine blockK.ret ?_ | with_reducible refine loopK.exit ?_ | with_reducible refine loopK.ret ?_
    | refine WC.condT rfl ?_ | refine WC.condF rfl ?_
    | refine WL.step rfl (OP.pure (nw := true) rfl (by first | exact trivial | (simp only [Holds]; omega) | (simp [Holds]; done) | (simp [Holds]; omega)) rfl rfl ?_)
    | refine WL.step rfl (OP.pure (nw := false) rfl (by first | exact trivial | (simp only [Holds]; omega) | (simp [Holds]; done) | (simp [Holds]; omega)) rfl rfl ?_)
    | refine WL.step rfl (OP.pickT rfl rfl rfl rfl rfl ?_) | refine WL.step rfl (OP.pickF rfl rfl rfl rfl rfl ?_) | refine WL.guardT rfl rfl rfl rfl (OP.pickT rfl rfl rfl rfl rfl ?_) | refine WL.guardT rfl rfl rfl rfl (OP.pickF rfl rfl rfl rfl rfl ?_)
    | refine WL.guardT rfl rfl rfl rfl (OP.pure (nw := true) rfl (by first | exact trivial | (simp only [Holds]; omega) | (simp [Holds]; done) | (simp [Holds]; omega)) rfl rfl ?_)
    | refine WL.guardT rfl rfl rfl rfl (OP.pure (nw := false) rfl trivial rfl rfl ?_)
    | refine WL.guardT rfl rfl rfl rfl (OP.loadN rfl rfl rfl rfl (by repeat (first | exact HasNth.here rfl | apply HasNth.there)) rfl rfl ?_)
    | refine WL.guardT rfl rfl rfl rfl (OP.loadB rfl rfl rfl rfl rfl (by repeat (first | exact HasCut.here rfl | apply HasCut.there)) rfl rfl ?_)
    | refine WL.guardF rfl rfl rfl rfl rfl rfl ?_
    | refine WL.guarded (nw := true) rfl rfl rfl rfl rfl rfl rfl (by first | exact trivial | (simp only [Holds]; omega) | (simp [Holds]; done) | (simp [Holds]; omega)) ?_
    | refine WL.step rfl (OP.loadN rfl rfl rfl rfl (by repeat (first | exact HasNth.here rfl | apply HasNth.there)) rfl rfl ?_)
    | refine WL.step rfl (OP.loadB rfl rfl rfl rfl rfl (by repeat (first | exact HasCut.here rfl | apply HasCut.there)) rfl rfl ?_)
    | refine WL.step rfl (OP.store rfl rfl rfl rfl rfl rfl rfl (by repeat (first | exact UpdM.here rfl | apply UpdM.there)) rfl ?_)
    | refine WL.step rfl (OP.alloc rfl rfl rfl rfl rfl (fun _ => ?_))
    | refine WL.step rfl (OP.box rfl rfl rfl rfl rfl (fun _ => ?_))
    | refine WL.step rfl (OP.buildT rfl rfl rfl rfl ?_)
    | refine WL.step rfl (OP.sliceLit rfl rfl rfl rfl rfl rfl rfl rfl (fun _ => ?_))))
  refine WL.step rfl (OP.callRT rfl rfl (new_ok a n c l (by omega)) (hE1 (by repeat (first | exact List.Mem.head _ | apply List.Mem.tail))) rfl rfl ?_)
  rintro v E hE
  unfold NewPost at hE
  split at hE
  rotate_left
  · obtain ⟨e, rfl, b', rfl, rfl⟩ := hE
    repeat (first
    | refine WC.seq ?_ | refine WC.region ?_ | refine WL.nil ?_ | with_reducible refine seqK.go ?_ | refine WC.block ?_ | refine WC.skip ?_ | refine WC.exit ?_ | refine WC.ret ?_
    | with_reducible refine seqK.exit ?_ | with_reducible refine seqK.ret ?_ | (with_reducible refine blockK.hit ?hb ?_; (case hb => rfl)) | (with_reducible refine blockK.miss ?hb ?_; (case hb => rfl)) | with_reducible refine blockK.normal ?_ | with_reducible refine blockK.ret ?_ | with_reducible refine loopK.exit ?_ | with_reducible refine loopK.ret ?_
    | refine WC.condT rfl ?_ | refine WC.condF rfl ?_
    | refine WL.step rfl (OP.pure (nw := true) rfl (by first | exact trivial | (simp only [Holds]; omega) | (simp [Holds]; done) | (simp [Holds]; omega)) rfl rfl ?_)
    | refine WL.step rfl (OP.pure (nw := false) rfl (by first | exact trivial | (simp only [Holds]; omega) | (simp [Holds]; done) | (simp [Holds]; omega)) rfl rfl ?_)
    | refine WL.step rfl (OP.pickT rfl rfl rfl rfl rfl ?_) | refine WL.step rfl (OP.pickF rfl rfl rfl rfl rfl ?_) | refine WL.guardT rfl rfl rfl rfl (OP.pickT rfl rfl rfl rfl rfl ?_) | refine WL.guardT rfl rfl rfl rfl (OP.pickF rfl rfl rfl rfl rfl ?_)
    | refine WL.guardT rfl rfl rfl rfl (OP.pure (nw := true) rfl (by first | exact trivial | (simp only [Holds]; omega) | (simp [Holds]; done) | (simp [Holds]; omega)) rfl rfl ?_)
    | refine WL.guardT rfl rfl rfl rfl (OP.pure (nw := false) rfl trivial rfl rfl ?_)
    | refine WL.guardT rfl rfl rfl rfl (OP.loadN rfl rfl rfl rfl (by repeat (first | exact HasNth.here rfl | apply HasNth.there)) rfl rfl ?_)
    | refine WL.guardT rfl rfl rfl rfl (OP.loadB rfl rfl rfl rfl rfl (by repeat (first | exact HasCut.here rfl | apply HasCut.there)) rfl rfl ?_)
    | refine WL.guardF rfl rfl rfl rfl rfl rfl ?_
    | refine WL.guarded (nw := true) rfl rfl rfl rfl rfl rfl rfl (by first | exact trivial | (simp only [Holds]; omega) | (simp [Holds]; done) | (simp [Holds]; omega)) ?_
    | refine WL.step rfl (OP.loadN rfl rfl rfl rfl (by repeat (first | exact HasNth.here rfl | apply HasNth.there)) rfl rfl ?_)
    | refine WL.step rfl (OP.loadB rfl rfl rfl rfl rfl (by repeat (first | exact HasCut.here rfl | apply HasCut.there)) rfl rfl ?_)
    | refine WL.step rfl (OP.store rfl rfl rfl rfl rfl rfl rfl (by repeat (first | exact UpdM.here rfl | apply UpdM.there)) rfl ?_)
    | refine WL.step rfl (OP.alloc rfl rfl rfl rfl rfl (fun _ => ?_))
    | refine WL.step rfl (OP.box rfl rfl rfl rfl rfl (fun _ => ?_))
    | refine WL.step rfl (OP.buildT rfl rfl rfl rfl ?_)
    | refine WL.step rfl (OP.sliceLit rfl rfl rfl rfl rfl rfl rfl rfl (fun _ => ?_)))
    exact ret1 rfl ⟨rfl, (by repeat (first | exact List.Mem.head _ | apply List.Mem.tail))⟩
  rename_i f hf
  obtain ⟨p, rfl, rfl⟩ := hE
  have hfl : f.length = 4 := newM_length hf
  repeat (first | refine WL.step rfl (OP.decT (nw := true) rfl trivial (by omega) rfl rfl ?_) | refine WL.step rfl (OP.decF (nw := true) rfl trivial (by omega) rfl rfl ?_) | refine WL.step rfl (OP.decNT (nw := true) rfl trivial (by omega) rfl rfl ?_) | refine WL.step rfl (OP.decNF (nw := true) rfl trivial (by omega) rfl rfl ?_) | refine WL.guardT rfl rfl rfl rfl (OP.decT (nw := true) rfl trivial (by omega) rfl rfl ?_) | refine WL.guardT rfl rfl rfl rfl (OP.decF (nw := true) rfl trivial (by omega) rfl rfl ?_) | (first
    | refine WC.seq ?_ | refine WC.region ?_ | refine WL.nil ?_ | with_reducible refine seqK.go ?_ | refine WC.block ?_ | refine WC.skip ?_ | refine WC.exit ?_ | refine WC.ret ?_
    | with_reducible refine seqK.exit ?_ | with_reducible refine seqK.ret ?_ | (with_reducible refine blockK.hit ?hb ?_; (case hb => rfl)) | (with_reducible refine blockK.miss ?hb ?_; (case hb => rfl)) | with_reducible refine blockK.normal ?_ | with_reducible refine blockK.ret ?_ | with_reducible refine loopK.exit ?_ | with_reducible refine loopK.ret ?_
    | refine WC.condT rfl ?_ | refine WC.condF rfl ?_
    | refine WL.step rfl (OP.pure (nw := true) rfl (by first | exact trivial | (simp only [Holds]; omega) | (simp [Holds]; done) | (simp [Holds]; omega)) rfl rfl ?_)
    | refine WL.step rfl (OP.pure (nw := false) rfl (by first | exact trivial | (simp only [Holds]; omega) | (simp [Holds]; done) | (simp [Holds]; omega)) rfl rfl ?_)
    | refine WL.step rfl (OP.pickT rfl rfl rfl rfl rfl ?_) | refine WL.step rfl (OP.pickF rfl rfl rfl rfl rfl ?_) | refine WL.guardT rfl rfl rfl rfl (OP.pickT rfl rfl rfl rfl rfl ?_) | refine WL.guardT rfl rfl rfl rfl (OP.pickF rfl rfl rfl rfl rfl ?_)
    | refine WL.guardT rfl rfl rfl rfl (OP.pure (nw := true) rfl (by first | exact trivial | (simp only [Holds]; omega) | (simp [Holds]; done) | (simp [Holds]; omega)) rfl rfl ?_)
    | refine WL.guardT rfl rfl rfl rfl (OP.pure (nw := false) rfl trivial rfl rfl ?_)
    | refine WL.guardT rfl rfl rfl rfl (OP.loadN rfl rfl rfl rfl (by repeat (first | exact HasNth.here rfl | apply HasNth.there)) rfl rfl ?_)
    | refine WL.guardT rfl rfl rfl rfl (OP.loadB rfl rfl rfl rfl rfl (by repeat (first | exact HasCut.here rfl | apply HasCut.there)) rfl rfl ?_)
    | refine WL.guardF rfl rfl rfl rfl rfl rfl ?_
    | refine WL.guarded (nw := true) rfl rfl rfl rfl rfl rfl rfl (by first | exact trivial | (simp only [Holds]; omega) | (simp [Holds]; done) | (simp [Holds]; omega)) ?_
    | refine WL.step rfl (OP.loadN rfl rfl rfl rfl (by repeat (first | exact HasNth.here rfl | apply HasNth.there)) rfl rfl ?_)
    | refine WL.step rfl (OP.loadB rfl rfl rfl rfl rfl (by repeat (first | exact HasCut.here rfl | apply HasCut.there)) rfl rfl ?_)
    | refine WL.step rfl (OP.store rfl rfl rfl rfl rfl rfl rfl (by repeat (first | exact UpdM.here rfl | apply UpdM.there)) rfl ?_)
    | refine WL.step rfl (OP.alloc rfl rfl rfl rfl rfl (fun _ => ?_))
    | refine WL.step rfl (OP.box rfl rfl rfl rfl rfl (fun _ => ?_))
    | refine WL.step rfl (OP.buildT rfl rfl rfl rfl ?_)
    | refine WL.step rfl (OP.sliceLit rfl rfl rfl rfl rfl rfl rfl rfl (fun _ => ?_))))
  refine WL.step rfl (OP.call (pre := grpL p none 0 0 f [] ++ [A]) (F := [blk q (encO (ok, ov, om)) 37]) rfl rfl (play_ok p none 0 f [] b m c2 ops A hu (fun h x => (hA h x).2) hfl (fun _ h => by cases h) (by decide) hm (by omega)) (Imp.trans (Imp.nilS 78 3) (Imp.sub (by repeat (first | exact Picks.nil _ | apply Picks.cons | exact Pick.here _ _ | apply Pick.there)))) rfl rfl ?_)
  rintro v M ⟨rfl, a1, cap1, rfl⟩
  obtain ⟨hv, hs⟩ := playM_inv (f := f) (ch := []) ops (fun _ h => by cases h) (by decide)
  have hsrt := srt_play (f := f) (ch := []) ops (fun _ h => by cases h)
  generalize playM f [] ops = ch at *
  have hR : ∀ {L} {a1 cap1} {ch}, blk p (bools f ++ [.slice a1 ch.length cap1]) 73 ∈ L → ownS a1 ch.length cap1 78 3 (encL ch) ∈ L → Ent L (grpR p a1 cap1 f ch) := fun m1 m2 => Ent.and (Ent.whole m1) (Ent.own m2)
  refine WL.fact (Ent.ownLe (a := a1) (n := ch.length) (cap := cap1) (T := 78) (size := 3) (cs := encL ch) (by repeat (first | exact List.Mem.head _ | apply List.Mem.tail))) (fun hc => ?_)
  repeat (first | refine WL.step rfl (OP.decT (nw := true) rfl trivial (by omega) rfl rfl ?_) | refine WL.step rfl (OP.decF (nw := true) rfl trivial (by omega) rfl rfl ?_) | refine WL.step rfl (OP.decNT (nw := true) rfl trivial (by omega) rfl rfl ?_) | refine WL.step rfl (OP.decNF (nw := true) rfl trivial (by omega) rfl rfl ?_) | refine WL.guardT rfl rfl rfl rfl (OP.decT (nw := true) rfl trivial (by omega) rfl rfl ?_) | refine WL.guardT rfl rfl rfl rfl (OP.decF (nw := true) rfl trivial (by omega) rfl rfl ?_) | (first
    | refine WC.seq ?_ | refine WC.region ?_ | refine WL.nil ?_ | with_reducible refine seqK.go ?_ | refine WC.block ?_ | refine WC.skip ?_ | refine WC.exit ?_ | refine WC.ret ?_
    | with_reducible refine seqK.exit ?_ | with_reducible refine seqK.ret ?_ | (with_reducible refine blockK.hit ?hb ?_; (case hb => rfl)) | (with_reducible refine blockK.miss ?hb ?_; (case hb => rfl)) | with_reducible refine blockK.normal ?_ | with_reducible refine blockK.ret ?_ | with_reducible refine loopK.exit ?_ | with_reducible refine loopK.ret ?_
    | refine WC.condT rfl ?_ | refine WC.condF rfl ?_
    | refine WL.step rfl (OP.pure (nw := true) rfl (by first | exact trivial | (simp only [Holds]; omega) | (simp [Holds]; done) | (simp [Holds]; omega)) rfl rfl ?_)
    | refine WL.step rfl (OP.pure (nw := false) rfl (by first | exact trivial | (simp only [Holds]; omega) | (simp [Holds]; done) | (simp [Holds]; omega)) rfl rfl ?_)
    | refine WL.step rfl (OP.pickT rfl rfl rfl rfl rfl ?_) | refine WL.step rfl (OP.pickF rfl rfl rfl rfl rfl ?_) | refine WL.guardT rfl rfl rfl rfl (OP.pickT rfl rfl rfl rfl rfl ?_) | refine WL.guardT rfl rfl rfl rfl (OP.pickF rfl rfl rfl rfl rfl ?_)
    | refine WL.guardT rfl rfl rfl rfl (OP.pure (nw := true) rfl (by first | exact trivial | (simp only [Holds]; omega) | (simp [Holds]; done) | (simp [Holds]; omega)) rfl rfl ?_)
    | refine WL.guardT rfl rfl rfl rfl (OP.pure (nw := false) rfl trivial rfl rfl ?_)
    | refine WL.guardT rfl rfl rfl rfl (OP.loadN rfl rfl rfl rfl (by repeat (first | exact HasNth.here rfl | apply HasNth.there)) rfl rfl ?_)
    | refine WL.guardT rfl rfl rfl rfl (OP.loadB rfl rfl rfl rfl rfl (by repeat (first | exact HasCut.here rfl | apply HasCut.there)) rfl rfl ?_)
    | refine WL.guardF rfl rfl rfl rfl rfl rfl ?_
    | refine WL.guarded (nw := true) rfl rfl rfl rfl rfl rfl rfl (by first | exact trivial | (simp only [Holds]; omega) | (simp [Holds]; done) | (simp [Holds]; omega)) ?_
    | refine WL.step rfl (OP.loadN rfl rfl rfl rfl (by repeat (first | exact HasNth.here rfl | apply HasNth.there)) rfl rfl ?_)
    | refine WL.step rfl (OP.loadB rfl rfl rfl rfl rfl (by repeat (first | exact HasCut.here rfl | apply HasCut.there)) rfl rfl ?_)
    | refine WL.step rfl (OP.store rfl rfl rfl rfl rfl rfl rfl (by repeat (first | exact UpdM.here rfl | apply UpdM.there)) rfl ?_)
    | refine WL.step rfl (OP.alloc rfl rfl rfl rfl rfl (fun _ => ?_))
    | refine WL.step rfl (OP.box rfl rfl rfl rfl rfl (fun _ => ?_))
    | refine WL.step rfl (OP.buildT rfl rfl rfl rfl ?_)
    | refine WL.step rfl (OP.sliceLit rfl rfl rfl rfl rfl rfl rfl rfl (fun _ => ?_))))
  refine WL.step rfl (OP.callRT rfl rfl (at_ok p a1 cap1 f ch mark hfl hv hc (by omega)) (hR (by repeat (first | exact List.Mem.head _ | apply List.Mem.tail)) (by repeat (first | exact List.Mem.head _ | apply List.Mem.tail))) rfl rfl ?_)
  rintro v E ⟨a2, c3, rfl, rfl⟩
  repeat (first | refine WL.step rfl (OP.decT (nw := true) rfl trivial (by omega) rfl rfl ?_) | refine WL.step rfl (OP.decF (nw := true) rfl trivial (by omega) rfl rfl ?_) | refine WL.step rfl (OP.decNT (nw := true) rfl trivial (by omega) rfl rfl ?_) | refine WL.step rfl (OP.decNF (nw := true) rfl trivial (by omega) rfl rfl ?_) | refine WL.guardT rfl rfl rfl rfl (OP.decT (nw := true) rfl trivial (by omega) rfl rfl ?_) | refine WL.guardT rfl rfl rfl rfl (OP.decF (nw := true) rfl trivial (by omega) rfl rfl ?_) | (first
    | refine WC.seq ?_ | refine WC.region ?_ | refine WL.nil ?_ | with_reducible refine seqK.go ?_ | refine WC.block ?_ | refine WC.skip ?_ | refine WC.exit ?_ | refine WC.ret ?_
    | with_reducible refine seqK.exit ?_ | with_reducible refine seqK.ret ?_ | (with_reducible refine blockK.hit ?hb ?_; (case hb => rfl)) | (with_reducible refine blockK.miss ?hb ?_; (case hb => rfl)) | with_reducible refine blockK.normal ?_ | with_reducible refine blockK.ret ?_ | with_reducible refine loopK.exit ?_ | with_reducible refine loopK.ret ?_
    | refine WC.condT rfl ?_ | refine WC.condF rfl ?_
    | refine WL.step rfl (OP.pure (nw := true) rfl (by first | exact trivial | (simp only [Holds]; omega) | (simp [Holds]; done) | (simp [Holds]; omega)) rfl rfl ?_)
    | refine WL.step rfl (OP.pure (nw := false) rfl (by first | exact trivial | (simp only [Holds]; omega) | (simp [Holds]; done) | (simp [Holds]; omega)) rfl rfl ?_)
    | refine WL.step rfl (OP.pickT rfl rfl rfl rfl rfl ?_) | refine WL.step rfl (OP.pickF rfl rfl rfl rfl rfl ?_) | refine WL.guardT rfl rfl rfl rfl (OP.pickT rfl rfl rfl rfl rfl ?_) | refine WL.guardT rfl rfl rfl rfl (OP.pickF rfl rfl rfl rfl rfl ?_)
    | refine WL.guardT rfl rfl rfl rfl (OP.pure (nw := true) rfl (by first | exact trivial | (simp only [Holds]; omega) | (simp [Holds]; done) | (simp [Holds]; omega)) rfl rfl ?_)
    | refine WL.guardT rfl rfl rfl rfl (OP.pure (nw := false) rfl trivial rfl rfl ?_)
    | refine WL.guardT rfl rfl rfl rfl (OP.loadN rfl rfl rfl rfl (by repeat (first | exact HasNth.here rfl | apply HasNth.there)) rfl rfl ?_)
    | refine WL.guardT rfl rfl rfl rfl (OP.loadB rfl rfl rfl rfl rfl (by repeat (first | exact HasCut.here rfl | apply HasCut.there)) rfl rfl ?_)
    | refine WL.guardF rfl rfl rfl rfl rfl rfl ?_
    | refine WL.guarded (nw := true) rfl rfl rfl rfl rfl rfl rfl (by first | exact trivial | (simp only [Holds]; omega) | (simp [Holds]; done) | (simp [Holds]; omega)) ?_
    | refine WL.step rfl (OP.loadN rfl rfl rfl rfl (by repeat (first | exact HasNth.here rfl | apply HasNth.there)) rfl rfl ?_)
    | refine WL.step rfl (OP.loadB rfl rfl rfl rfl rfl (by repeat (first | exact HasCut.here rfl | apply HasCut.there)) rfl rfl ?_)
    | refine WL.step rfl (OP.store rfl rfl rfl rfl rfl rfl rfl (by repeat (first | exact UpdM.here rfl | apply UpdM.there)) rfl ?_)
    | refine WL.step rfl (OP.alloc rfl rfl rfl rfl rfl (fun _ => ?_))
    | refine WL.step rfl (OP.box rfl rfl rfl rfl rfl (fun _ => ?_))
    | refine WL.step rfl (OP.buildT rfl rfl rfl rfl ?_)
    | refine WL.step rfl (OP.sliceLit rfl rfl rfl rfl rfl rfl rfl rfl (fun _ => ?_))))
  refine WL.step rfl (OP.callRO rfl rfl (last_ro p a1 cap1 f ch hfl (by omega)) (hR (by repeat (first | exact List.Mem.head _ | apply List.Mem.tail)) (by repeat (first | exact List.Mem.head _ | apply List.Mem.tail))) rfl rfl ?_)
  repeat (first | refine WL.step rfl (OP.decT (nw := true) rfl trivial (by omega) rfl rfl ?_) | refine WL.step rfl (OP.decF (nw := true) rfl trivial (by omega) rfl rfl ?_) | refine WL.step rfl (OP.decNT (nw := true) rfl trivial (by omega) rfl rfl ?_) | refine WL.step rfl (OP.decNF (nw := true) rfl trivial (by omega) rfl rfl ?_) | refine WL.guardT rfl rfl rfl rfl (OP.decT (nw := true) rfl trivial (by omega) rfl rfl ?_) | refine WL.guardT rfl rfl rfl rfl (OP.decF (nw := true) rfl trivial (by omega) rfl rfl ?_) | (first
    | refine WC.seq ?_ | refine WC.region ?_ | refine WL.nil ?_ | with_reducible refine seqK.go ?_ | refine WC.block ?_ | refine WC.skip ?_ | refine WC.exit ?_ | refine WC.ret ?_
    | with_reducible refine seqK.exit ?_ | with_reducible refine seqK.ret ?_ | (with_reducible refine blockK.hit ?hb ?_; (case hb => rfl)) | (with_reducible refine blockK.miss ?hb ?_; (case hb => rfl)) | with_reducible refine blockK.normal ?_ | with_reducible refine blockK.ret ?_ | with_reducible refine loopK.exit ?_ | with_reducible refine loopK.ret ?_
    | refine WC.condT rfl ?_ | refine WC.condF rfl ?_
    | refine WL.step rfl (OP.pure (nw := true) rfl (by first | exact trivial | (simp only [Holds]; omega) | (simp [Holds]; done) | (simp [Holds]; omega)) rfl rfl ?_)
    | refine WL.step rfl (OP.pure (nw := false) rfl (by first | exact trivial | (simp only [Holds]; omega) | (simp [Holds]; done) | (simp [Holds]; omega)) rfl rfl ?_)
    | refine WL.step rfl (OP.pickT rfl rfl rfl rfl rfl ?_) | refine WL.step rfl (OP.pickF rfl rfl rfl rfl rfl ?_) | refine WL.guardT rfl rfl rfl rfl (OP.pickT rfl rfl rfl rfl rfl ?_) | refine WL.guardT rfl rfl rfl rfl (OP.pickF rfl rfl rfl rfl rfl ?_)
    | refine WL.guardT rfl rfl rfl rfl (OP.pure (nw := true) rfl (by first | exact trivial | (simp only [Holds]; omega) | (simp [Holds]; done) | (simp [Holds]; omega)) rfl rfl ?_)
    | refine WL.guardT rfl rfl rfl rfl (OP.pure (nw := false) rfl trivial rfl rfl ?_)
    | refine WL.guardT rfl rfl rfl rfl (OP.loadN rfl rfl rfl rfl (by repeat (first | exact HasNth.here rfl | apply HasNth.there)) rfl rfl ?_)
    | refine WL.guardT rfl rfl rfl rfl (OP.loadB rfl rfl rfl rfl rfl (by repeat (first | exact HasCut.here rfl | apply HasCut.there)) rfl rfl ?_)
    | refine WL.guardF rfl rfl rfl rfl rfl rfl ?_
    | refine WL.guarded (nw := true) rfl rfl rfl rfl rfl rfl rfl (by first | exact trivial | (simp only [Holds]; omega) | (simp [Holds]; done) | (simp [Holds]; omega)) ?_
    | refine WL.step rfl (OP.loadN rfl rfl rfl rfl (by repeat (first | exact HasNth.here rfl | apply HasNth.there)) rfl rfl ?_)
    | refine WL.step rfl (OP.loadB rfl rfl rfl rfl rfl (by repeat (first | exact HasCut.here rfl | apply HasCut.there)) rfl rfl ?_)
    | refine WL.step rfl (OP.store rfl rfl rfl rfl rfl rfl rfl (by repeat (first | exact UpdM.here rfl | apply UpdM.there)) rfl ?_)
    | refine WL.step rfl (OP.alloc rfl rfl rfl rfl rfl (fun _ => ?_))
    | refine WL.step rfl (OP.box rfl rfl rfl rfl rfl (fun _ => ?_))
    | refine WL.step rfl (OP.buildT rfl rfl rfl rfl ?_)
    | refine WL.step rfl (OP.sliceLit rfl rfl rfl rfl rfl rfl rfl rfl (fun _ => ?_))))
  refine WL.step rfl (OP.call (pre := grpL p a1 ch.length cap1 f ch) rfl rfl (add_ok p a1 cap1 f ch ov om hfl hv hs) (Picks.imp (by repeat (first | exact Picks.nil _ | apply Picks.cons | exact Pick.here _ _ | apply Pick.there))) rfl rfl ?_)
  rintro e1 M1 hM1
  obtain ⟨a', cap', hi, he1⟩ := put_any2 hM1
  have hone := one_put f ch (om, ov, false)
  have hinv := putCh_inv (f := f) (c := (om, ov, false)) hv hs
  have hone2 := one_two f ch ov om
  generalize hch' : putCh f ch (om, ov, false) = ch' at *
  refine WL.imp (Imp.app hi _) ?_
  by_cases hk : ok = 2
  · repeat (first | refine WL.step rfl (OP.decT (nw := true) rfl trivial (by omega) rfl rfl ?_) | refine WL.step rfl (OP.decF (nw := true) rfl trivial (by omega) rfl rfl ?_) | refine WL.step rfl (OP.decNT (nw := true) rfl trivial (by omega) rfl rfl ?_) | refine WL.step rfl (OP.decNF (nw := true) rfl trivial (by omega) rfl rfl ?_) | refine WL.guardT rfl rfl rfl rfl (OP.decT (nw := true) rfl trivial (by omega) rfl rfl ?_) | refine WL.guardT rfl rfl rfl rfl (OP.decF (nw := true) rfl trivial (by omega) rfl rfl ?_) | (first
    | refine WC.seq ?_ | refine WC.region ?_ | refine WL.nil ?_ | with_reducible refine seqK.go ?_ | refine WC.block ?_ | refine WC.skip ?_ | refine WC.exit ?_ | refine WC.ret ?_
    | with_reducible refine seqK.exit ?_ | with_reducible refine seqK.ret ?_ | (with_reducible refine blockK.hit ?hb ?_; (case hb => rfl)) | (with_reducible refine blockK.miss ?hb ?_; (case hb => rfl)) | with_reducible refine blockK.normal ?_ | with_reducible refine blockK.ret ?_ | with_reducible refine loopK.exit ?_ | with_reducible refine loopK.ret ?_
    | refine WC.condT rfl ?_ | refine WC.condF rfl ?_
    | refine WL.step rfl (OP.pure (nw := true) rfl (by first | exact trivial | (simp only [Holds]; omega) | (simp [Holds]; done) | (simp [Holds]; omega)) rfl rfl ?_)
    | refine WL.step rfl (OP.pure (nw := false) rfl (by first | exact trivial | (simp only [Holds]; omega) | (simp [Holds]; done) | (simp [Holds]; omega)) rfl rfl ?_)
    | refine WL.step rfl (OP.pickT rfl rfl rfl rfl rfl ?_) | refine WL.step rfl (OP.pickF rfl rfl rfl rfl rfl ?_) | refine WL.guardT rfl rfl rfl rfl (OP.pickT rfl rfl rfl rfl rfl ?_) | refine WL.guardT rfl rfl rfl rfl (OP.pickF rfl rfl rfl rfl rfl ?_)
    | refine WL.guardT rfl rfl rfl rfl (OP.pure (nw := true) rfl (by first | exact trivial | (simp only [Holds]; omega) | (simp [Holds]; done) | (simp [Holds]; omega)) rfl rfl ?_)
    | refine WL.guardT rfl rfl rfl rfl (OP.pure (nw := false) rfl trivial rfl rfl ?_)
    | refine WL.guardT rfl rfl rfl rfl (OP.loadN rfl rfl rfl rfl (by repeat (first | exact HasNth.here rfl | apply HasNth.there)) rfl rfl ?_)
    | refine WL.guardT rfl rfl rfl rfl (OP.loadB rfl rfl rfl rfl rfl (by repeat (first | exact HasCut.here rfl | apply HasCut.there)) rfl rfl ?_)
    | refine WL.guardF rfl rfl rfl rfl rfl rfl ?_
    | refine WL.guarded (nw := true) rfl rfl rfl rfl rfl rfl rfl (by first | exact trivial | (simp only [Holds]; omega) | (simp [Holds]; done) | (simp [Holds]; omega)) ?_
    | refine WL.step rfl (OP.loadN rfl rfl rfl rfl (by repeat (first | exact HasNth.here rfl | apply HasNth.there)) rfl rfl ?_)
    | refine WL.step rfl (OP.loadB rfl rfl rfl rfl rfl (by repeat (first | exact HasCut.here rfl | apply HasCut.there)) rfl rfl ?_)
    | refine WL.step rfl (OP.store rfl rfl rfl rfl rfl rfl rfl (by repeat (first | exact UpdM.here rfl | apply UpdM.there)) rfl ?_)
    | refine WL.step rfl (OP.alloc rfl rfl rfl rfl rfl (fun _ => ?_))
    | refine WL.step rfl (OP.box rfl rfl rfl rfl rfl (fun _ => ?_))
    | refine WL.step rfl (OP.buildT rfl rfl rfl rfl ?_)
    | refine WL.step rfl (OP.sliceLit rfl rfl rfl rfl rfl rfl rfl rfl (fun _ => ?_))))
    refine WL.step rfl (OP.call (pre := grpL p a' ch'.length cap' f ch') rfl rfl (remove_ok p a' cap' f ch' ov om hfl hinv.1 hinv.2) (Picks.imp (by repeat (first | exact Picks.nil _ | apply Picks.cons | exact Pick.here _ _ | apply Pick.there))) rfl rfl ?_)
    rintro e2 M2 hM2
    obtain ⟨ax, capx, hix, hex⟩ := put_any2 hM2
    have hinvx := putCh_inv (f := f) (c := (om, ov, true)) hinv.1 hinv.2
    generalize hchx : putCh f ch' (om, ov, true) = chx at *
    have honex := hone2
    have hvx := hinvx.1
    have hsx := hinvx.2
    refine WL.imp (Imp.app hix _) ?_
    obtain ⟨rfl, _⟩ | ⟨⟨bb, rfl⟩, _⟩ := hex
    · repeat (first | refine WL.step rfl (OP.decT (nw := true) rfl trivial (by omega) rfl rfl ?_) | refine WL.step rfl (OP.decF (nw := true) rfl trivial (by omega) rfl rfl ?_) | refine WL.step rfl (OP.decNT (nw := true) rfl trivial (by omega) rfl rfl ?_) | refine WL.step rfl (OP.decNF (nw := true) rfl trivial (by omega) rfl rfl ?_) | refine WL.guardT rfl rfl rfl rfl (OP.decT (nw := true) rfl trivial (by omega) rfl rfl ?_) | refine WL.guardT rfl rfl rfl rfl (OP.decF (nw := true) rfl trivial (by omega) rfl rfl ?_) | (first
    | refine WC.seq ?_ | refine WC.region ?_ | refine WL.nil ?_ | with_reducible refine seqK.go ?_ | refine WC.block ?_ | refine WC.skip ?_ | refine WC.exit ?_ | refine WC.ret ?_
    | with_reducible refine seqK.exit ?_ | with_reducible refine seqK.ret ?_ | (with_reducible refine blockK.hit ?hb ?_; (case hb => rfl)) | (with_reducible refine blockK.miss ?hb ?_; (case hb => rfl)) | with_reducible refine blockK.normal ?_ | with_reducible refine blockK.ret ?_ | with_reducible refine loopK.exit ?_ | with_reducible refine loopK.ret ?_
    | refine WC.condT rfl ?_ | refine WC.condF rfl ?_
    | refine WL.step rfl (OP.pure (nw := true) rfl (by first | exact trivial | (simp only [Holds]; omega) | (simp [Holds]; done) | (simp [Holds]; omega)) rfl rfl ?_)
    | refine WL.step rfl (OP.pure (nw := false) rfl (by first | exact trivial | (simp only [Holds]; omega) | (simp [Holds]; done) | (simp [Holds]; omega)) rfl rfl ?_)
    | refine WL.step rfl (OP.pickT rfl rfl rfl rfl rfl ?_) | refine WL.step rfl (OP.pickF rfl rfl rfl rfl rfl ?_) | refine WL.guardT rfl rfl rfl rfl (OP.pickT rfl rfl rfl rfl rfl ?_) | refine WL.guardT rfl rfl rfl rfl (OP.pickF rfl rfl rfl rfl rfl ?_)
    | refine WL.guardT rfl rfl rfl rfl (OP.pure (nw := true) rfl (by first | exact trivial | (simp only [Holds]; omega) | (simp [Holds]; done) | (simp [Holds]; omega)) rfl rfl ?_)
    | refine WL.guardT rfl rfl rfl rfl (OP.pure (nw := false) rfl trivial rfl rfl ?_)
    | refine WL.guardT rfl rfl rfl rfl (OP.loadN rfl rfl rfl rfl (by repeat (first | exact HasNth.here rfl | apply HasNth.there)) rfl rfl ?_)
    | refine WL.guardT rfl rfl rfl rfl (OP.loadB rfl rfl rfl rfl rfl (by repeat (first | exact HasCut.here rfl | apply HasCut.there)) rfl rfl ?_)
    | refine WL.guardF rfl rfl rfl rfl rfl rfl ?_
    | refine WL.guarded (nw := true) rfl rfl rfl rfl rfl rfl rfl (by first | exact trivial | (simp only [Holds]; omega) | (simp [Holds]; done) | (simp [Holds]; omega)) ?_
    | refine WL.step rfl (OP.loadN rfl rfl rfl rfl (by repeat (first | exact HasNth.here rfl | apply HasNth.there)) rfl rfl ?_)
    | refine WL.step rfl (OP.loadB rfl rfl rfl rfl rfl (by repeat (first | exact HasCut.here rfl | apply HasCut.there)) rfl rfl ?_)
    | refine WL.step rfl (OP.store rfl rfl rfl rfl rfl rfl rfl (by repeat (first | exact UpdM.here rfl | apply UpdM.there)) rfl ?_)
    | refine WL.step rfl (OP.alloc rfl rfl rfl rfl rfl (fun _ => ?_))
    | refine WL.step rfl (OP.box rfl rfl rfl rfl rfl (fun _ => ?_))
    | refine WL.step rfl (OP.buildT rfl rfl rfl rfl ?_)
    | refine WL.step rfl (OP.sliceLit rfl rfl rfl rfl rfl rfl rfl rfl (fun _ => ?_))))
      refine WL.fact (Ent.ownLe (a := ax) (n := chx.length) (cap := capx) (T := 78) (size := 3) (cs := encL chx) (by repeat (first | exact List.Mem.head _ | apply List.Mem.tail))) (fun hcx => ?_)
      refine WL.step rfl (OP.callRT rfl rfl (at_ok p ax capx f chx mark hfl hvx hcx (by omega)) (hR (by repeat (first | exact List.Mem.head _ | apply List.Mem.tail)) (by repeat (first | exact List.Mem.head _ | apply List.Mem.tail))) rfl rfl ?_)
      rintro v E ⟨a3, c4, rfl, rfl⟩
      have hlA := listM_len (after f (ch.take (cnt mark ch)))
      have hlB := listM_len (after f (chx.take (cnt mark chx)))
      rw [after_length] at hlA hlB
      by_cases hlow : mark < om ∨ mark < lastM ch
      · have hs : listM (after f (ch.take (cnt mark ch))) = listM (after f (chx.take (cnt mark chx))) := congrArg listM (stays_low honex hlow).symm
        by_cases h1 : mark < om
        · repeat (first | refine WL.step rfl (OP.decT (nw := true) rfl trivial (by omega) rfl rfl ?_) | refine WL.step rfl (OP.decF (nw := true) rfl trivial (by omega) rfl rfl ?_) | refine WL.step rfl (OP.decNT (nw := true) rfl trivial (by omega) rfl rfl ?_) | refine WL.step rfl (OP.decNF (nw := true) rfl trivial (by omega) rfl rfl ?_) | refine WL.guardT rfl rfl rfl rfl (OP.decT (nw := true) rfl trivial (by omega) rfl rfl ?_) | refine WL.guardT rfl rfl rfl rfl (OP.decF (nw := true) rfl trivial (by omega) rfl rfl ?_) | (first
    | refine WC.seq ?_ | refine WC.region ?_ | refine WL.nil ?_ | with_reducible refine seqK.go ?_ | refine WC.block ?_ | refine WC.skip ?_ | refine WC.exit ?_ | refine WC.ret ?_
    | with_reducible refine seqK.exit ?_ | with_reducible refine seqK.ret ?_ | (with_reducible refine blockK.hit ?hb ?_; (case hb => rfl)) | (with_reducible refine blockK.miss ?hb ?_; (case hb => rfl)) | with_reducible refine blockK.normal ?_ | with_reducible refine blockK.ret ?_ | with_reducible refine loopK.exit ?_ | with_reducible refine loopK.ret ?_
    | refine WC.condT rfl ?_ | refine WC.condF rfl ?_
    | refine WL.step rfl (OP.pure (nw := true) rfl (by first | exact trivial | (simp only [Holds]; omega) | (simp [Holds]; done) | (simp [Holds]; omega)) rfl rfl ?_)
    | refine WL.step rfl (OP.pure (nw := false) rfl (by first | exact trivial | (simp only [Holds]; omega) | (simp [Holds]; done) | (simp [Holds]; omega)) rfl rfl ?_)
    | refine WL.step rfl (OP.pickT rfl rfl rfl rfl rfl ?_) | refine WL.step rfl (OP.pickF rfl rfl rfl rfl rfl ?_) | refine WL.guardT rfl rfl rfl rfl (OP.pickT rfl rfl rfl rfl rfl ?_) | refine WL.guardT rfl rfl rfl rfl (OP.pickF rfl rfl rfl rfl rfl ?_)
    | refine WL.guardT rfl rfl rfl rfl (OP.pure (nw := true) rfl (by first | exact trivial | (simp only [Holds]; omega) | (simp [Holds]; done) | (simp [Holds]; omega)) rfl rfl ?_)
    | refine WL.guardT rfl rfl rfl rfl (OP.pure (nw := false) rfl trivial rfl rfl ?_)
    | refine WL.guardT rfl rfl rfl rfl (OP.loadN rfl rfl rfl rfl (by repeat (first | exact HasNth.here rfl | apply HasNth.there)) rfl rfl ?_)
    | refine WL.guardT rfl rfl rfl rfl (OP.loadB rfl rfl rfl rfl rfl (by repeat (first | exact HasCut.here rfl | apply HasCut.there)) rfl rfl ?_)
    | refine WL.guardF rfl rfl rfl rfl rfl rfl ?_
    | refine WL.guarded (nw := true) rfl rfl rfl rfl rfl rfl rfl (by first | exact trivial | (simp only [Holds]; omega) | (simp [Holds]; done) | (simp [Holds]; omega)) ?_
    | refine WL.step rfl (OP.loadN rfl rfl rfl rfl (by repeat (first | exact HasNth.here rfl | apply HasNth.there)) rfl rfl ?_)
    | refine WL.step rfl (OP.loadB rfl rfl rfl rfl rfl (by repeat (first | exact HasCut.here rfl | apply HasCut.there)) rfl rfl ?_)
    | refine WL.step rfl (OP.store rfl rfl rfl rfl rfl rfl rfl (by repeat (first | exact UpdM.here rfl | apply UpdM.there)) rfl ?_)
    | refine WL.step rfl (OP.alloc rfl rfl rfl rfl rfl (fun _ => ?_))
    | refine WL.step rfl (OP.box rfl rfl rfl rfl rfl (fun _ => ?_))
    | refine WL.step rfl (OP.buildT rfl rfl rfl rfl ?_)
    | refine WL.step rfl (OP.sliceLit rfl rfl rfl rfl rfl rfl rfl rfl (fun _ => ?_))))
          refine WL.step rfl (OP.callRO rfl rfl (same_ro _ _ _ _ _ _ (listM (after f (ch.take (cnt mark ch)))) (listM (after f (chx.take (cnt mark chx)))) rfl rfl (by omega) (by omega)) (Ent.and (Ent.own (by repeat (first | exact List.Mem.head _ | apply List.Mem.tail))) (Ent.own (by repeat (first | exact List.Mem.head _ | apply List.Mem.tail)))) rfl rfl ?_)
          repeat (first | refine WL.step rfl (OP.decT (nw := true) rfl trivial (by omega) rfl rfl ?_) | refine WL.step rfl (OP.decF (nw := true) rfl trivial (by omega) rfl rfl ?_) | refine WL.step rfl (OP.decNT (nw := true) rfl trivial (by omega) rfl rfl ?_) | refine WL.step rfl (OP.decNF (nw := true) rfl trivial (by omega) rfl rfl ?_) | refine WL.guardT rfl rfl rfl rfl (OP.decT (nw := true) rfl trivial (by omega) rfl rfl ?_) | refine WL.guardT rfl rfl rfl rfl (OP.decF (nw := true) rfl trivial (by omega) rfl rfl ?_) | (first
    | refine WC.seq ?_ | refine WC.region ?_ | refine WL.nil ?_ | with_reducible refine seqK.go ?_ | refine WC.block ?_ | refine WC.skip ?_ | refine WC.exit ?_ | refine WC.ret ?_
    | with_reducible refine seqK.exit ?_ | with_reducible refine seqK.ret ?_ | (with_reducible refine blockK.hit ?hb ?_; (case hb => rfl)) | (with_reducible refine blockK.miss ?hb ?_; (case hb => rfl)) | with_reducible refine blockK.normal ?_ | with_reducible refine blockK.ret ?_ | with_reducible refine loopK.exit ?_ | with_reducible refine loopK.ret ?_
    | refine WC.condT rfl ?_ | refine WC.condF rfl ?_
    | refine WL.step rfl (OP.pure (nw := true) rfl (by first | exact trivial | (simp only [Holds]; omega) | (simp [Holds]; done) | (simp [Holds]; omega)) rfl rfl ?_)
    | refine WL.step rfl (OP.pure (nw := false) rfl (by first | exact trivial | (simp only [Holds]; omega) | (simp [Holds]; done) | (simp [Holds]; omega)) rfl rfl ?_)
    | refine WL.step rfl (OP.pickT rfl rfl rfl rfl rfl ?_) | refine WL.step rfl (OP.pickF rfl rfl rfl rfl rfl ?_) | refine WL.guardT rfl rfl rfl rfl (OP.pickT rfl rfl rfl rfl rfl ?_) | refine WL.guardT rfl rfl rfl rfl (OP.pickF rfl rfl rfl rfl rfl ?_)
    | refine WL.guardT rfl rfl rfl rfl (OP.pure (nw := true) rfl (by first | exact trivial | (simp only [Holds]; omega) | (simp [Holds]; done) | (simp [Holds]; omega)) rfl rfl ?_)
    | refine WL.guardT rfl rfl rfl rfl (OP.pure (nw := false) rfl trivial rfl rfl ?_)
    | refine WL.guardT rfl rfl rfl rfl (OP.loadN rfl rfl rfl rfl (by repeat (first | exact HasNth.here rfl | apply HasNth.there)) rfl rfl ?_)
    | refine WL.guardT rfl rfl rfl rfl (OP.loadB rfl rfl rfl rfl rfl (by repeat (first | exact HasCut.here rfl | apply HasCut.there)) rfl rfl ?_)
    | refine WL.guardF rfl rfl rfl rfl rfl rfl ?_
    | refine WL.guarded (nw := true) rfl rfl rfl rfl rfl rfl rfl (by first | exact trivial | (simp only [Holds]; omega) | (simp [Holds]; done) | (simp [Holds]; omega)) ?_
    | refine WL.step rfl (OP.loadN rfl rfl rfl rfl (by repeat (first | exact HasNth.here rfl | apply HasNth.there)) rfl rfl ?_)
    | refine WL.step rfl (OP.loadB rfl rfl rfl rfl rfl (by repeat (first | exact HasCut.here rfl | apply HasCut.there)) rfl rfl ?_)
    | refine WL.step rfl (OP.store rfl rfl rfl rfl rfl rfl rfl (by repeat (first | exact UpdM.here rfl | apply UpdM.there)) rfl ?_)
    | refine WL.step rfl (OP.alloc rfl rfl rfl rfl rfl (fun _ => ?_))
    | refine WL.step rfl (OP.box rfl rfl rfl rfl rfl (fun _ => ?_))
    | refine WL.step rfl (OP.buildT rfl rfl rfl rfl ?_)
    | refine WL.step rfl (OP.sliceLit rfl rfl rfl rfl rfl rfl rfl rfl (fun _ => ?_))))
          exact ret1 rfl ⟨by simp, (by repeat (first | exact List.Mem.head _ | apply List.Mem.tail))⟩
        · have h2 : mark < lastM ch := by omega
          repeat (first | refine WL.step rfl (OP.decT (nw := true) rfl trivial (by omega) rfl rfl ?_) | refine WL.step rfl (OP.decF (nw := true) rfl trivial (by omega) rfl rfl ?_) | refine WL.step rfl (OP.decNT (nw := true) rfl trivial (by omega) rfl rfl ?_) | refine WL.step rfl (OP.decNF (nw := true) rfl trivial (by omega) rfl rfl ?_) | refine WL.guardT rfl rfl rfl rfl (OP.decT (nw := true) rfl trivial (by omega) rfl rfl ?_) | refine WL.guardT rfl rfl rfl rfl (OP.decF (nw := true) rfl trivial (by omega) rfl rfl ?_) | (first
    | refine WC.seq ?_ | refine WC.region ?_ | refine WL.nil ?_ | with_reducible refine seqK.go ?_ | refine WC.block ?_ | refine WC.skip ?_ | refine WC.exit ?_ | refine WC.ret ?_
    | with_reducible refine seqK.exit ?_ | with_reducible refine seqK.ret ?_ | (with_reducible refine blockK.hit ?hb ?_; (case hb => rfl)) | (with_reducible refine blockK.miss ?hb ?_; (case hb => rfl)) | with_reducible refine blockK.normal ?_ | with_reducible refine blockK.ret ?_ | with_reducible refine loopK.exit ?_ | with_reducible refine loopK.ret ?_
    | refine WC.condT rfl ?_ | refine WC.condF rfl ?_
    | refine WL.step rfl (OP.pure (nw := true) rfl (by first | exact trivial | (simp only [Holds]; omega) | (simp [Holds]; done) | (simp [Holds]; omega)) rfl rfl ?_)
    | refine WL.step rfl (OP.pure (nw := false) rfl (by first | exact trivial | (simp only [Holds]; omega) | (simp [Holds]; done) | (simp [Holds]; omega)) rfl rfl ?_)
    | refine WL.step rfl (OP.pickT rfl rfl rfl rfl rfl ?_) | refine WL.step rfl (OP.pickF rfl rfl rfl rfl rfl ?_) | refine WL.guardT rfl rfl rfl rfl (OP.pickT rfl rfl rfl rfl rfl ?_) | refine WL.guardT rfl rfl rfl rfl (OP.pickF rfl rfl rfl rfl rfl ?_)
    | refine WL.guardT rfl rfl rfl rfl (OP.pure (nw := true) rfl (by first | exact trivial | (simp only [Holds]; omega) | (simp [Holds]; done) | (simp [Holds]; omega)) rfl rfl ?_)
    | refine WL.guardT rfl rfl rfl rfl (OP.pure (nw := false) rfl trivial rfl rfl ?_)
    | refine WL.guardT rfl rfl rfl rfl (OP.loadN rfl rfl rfl rfl (by repeat (first | exact HasNth.here rfl | apply HasNth.there)) rfl rfl ?_)
    | refine WL.guardT rfl rfl rfl rfl (OP.loadB rfl rfl rfl rfl rfl (by repeat (first | exact HasCut.here rfl | apply HasCut.there)) rfl rfl ?_)
    | refine WL.guardF rfl rfl rfl rfl rfl rfl ?_
    | refine WL.guarded (nw := true) rfl rfl rfl rfl rfl rfl rfl (by first | exact trivial | (simp only [Holds]; omega) | (simp [Holds]; done) | (simp [Holds]; omega)) ?_
    | refine WL.step rfl (OP.loadN rfl rfl rfl rfl (by repeat (first | exact HasNth.here rfl | apply HasNth.there)) rfl rfl ?_)
    | refine WL.step rfl (OP.loadB rfl rfl rfl rfl rfl (by repeat (first | exact HasCut.here rfl | apply HasCut.there)) rfl rfl ?_)
    | refine WL.step rfl (OP.store rfl rfl rfl rfl rfl rfl rfl (by repeat (first | exact UpdM.here rfl | apply UpdM.there)) rfl ?_)
    | refine WL.step rfl (OP.alloc rfl rfl rfl rfl rfl (fun _ => ?_))
    | refine WL.step rfl (OP.box rfl rfl rfl rfl rfl (fun _ => ?_))
    | refine WL.step rfl (OP.buildT rfl rfl rfl rfl ?_)
    | refine WL.step rfl (OP.sliceLit rfl rfl rfl rfl rfl rfl rfl rfl (fun _ => ?_))))
          refine WL.step rfl (OP.callRO rfl rfl (same_ro _ _ _ _ _ _ (listM (after f (ch.take (cnt mark ch)))) (listM (after f (chx.take (cnt mark chx)))) rfl rfl (by omega) (by omega)) (Ent.and (Ent.own (by repeat (first | exact List.Mem.head _ | apply List.Mem.tail))) (Ent.own (by repeat (first | exact List.Mem.head _ | apply List.Mem.tail)))) rfl rfl ?_)
          repeat (first | refine WL.step rfl (OP.decT (nw := true) rfl trivial (by omega) rfl rfl ?_) | refine WL.step rfl (OP.decF (nw := true) rfl trivial (by omega) rfl rfl ?_) | refine WL.step rfl (OP.decNT (nw := true) rfl trivial (by omega) rfl rfl ?_) | refine WL.step rfl (OP.decNF (nw := true) rfl trivial (by omega) rfl rfl ?_) | refine WL.guardT rfl rfl rfl rfl (OP.decT (nw := true) rfl trivial (by omega) rfl rfl ?_) | refine WL.guardT rfl rfl rfl rfl (OP.decF (nw := true) rfl trivial (by omega) rfl rfl ?_) | (first
    | refine WC.seq ?_ | refine WC.region ?_ | refine WL.nil ?_ | with_reducible refine seqK.go ?_ | refine WC.block ?_ | refine WC.skip ?_ | refine WC.exit ?_ | refine WC.ret ?_
    | with_reducible refine seqK.exit ?_ | with_reducible refine seqK.ret ?_ | (with_reducible refine blockK.hit ?hb ?_; (case hb => rfl)) | (with_reducible refine blockK.miss ?hb ?_; (case hb => rfl)) | with_reducible refine blockK.normal ?_ | with_reducible refine blockK.ret ?_ | with_reducible refine loopK.exit ?_ | with_reducible refine loopK.ret ?_
    | refine WC.condT rfl ?_ | refine WC.condF rfl ?_
    | refine WL.step rfl (OP.pure (nw := true) rfl (by first | exact trivial | (simp only [Holds]; omega) | (simp [Holds]; done) | (simp [Holds]; omega)) rfl rfl ?_)
    | refine WL.step rfl (OP.pure (nw := false) rfl (by first | exact trivial | (simp only [Holds]; omega) | (simp [Holds]; done) | (simp [Holds]; omega)) rfl rfl ?_)
    | refine WL.step rfl (OP.pickT rfl rfl rfl rfl rfl ?_) | refine WL.step rfl (OP.pickF rfl rfl rfl rfl rfl ?_) | refine WL.guardT rfl rfl rfl rfl (OP.pickT rfl rfl rfl rfl rfl ?_) | refine WL.guardT rfl rfl rfl rfl (OP.pickF rfl rfl rfl rfl rfl ?_)
    | refine WL.guardT rfl rfl rfl rfl (OP.pure (nw := true) rfl (by first | exact trivial | (simp only [Holds]; omega) | (simp [Holds]; done) | (simp [Holds]; omega)) rfl rfl ?_)
    | refine WL.guardT rfl rfl rfl rfl (OP.pure (nw := false) rfl trivial rfl rfl ?_)
    | refine WL.guardT rfl rfl rfl rfl (OP.loadN rfl rfl rfl rfl (by repeat (first | exact HasNth.here rfl | apply HasNth.there)) rfl rfl ?_)
    | refine WL.guardT rfl rfl rfl rfl (OP.loadB rfl rfl rfl rfl rfl (by repeat (first | exact HasCut.here rfl | apply HasCut.there)) rfl rfl ?_)
    | refine WL.guardF rfl rfl rfl rfl rfl rfl ?_
    | refine WL.guarded (nw := true) rfl rfl rfl rfl rfl rfl rfl (by first | exact trivial | (simp only [Holds]; omega) | (simp [Holds]; done) | (simp [Holds]; omega)) ?_
    | refine WL.step rfl (OP.loadN rfl rfl rfl rfl (by repeat (first | exact HasNth.here rfl | apply HasNth.there)) rfl rfl ?_)
    | refine WL.step rfl (OP.loadB rfl rfl rfl rfl rfl (by repeat (first | exact HasCut.here rfl | apply HasCut.there)) rfl rfl ?_)
    | refine WL.step rfl (OP.store rfl rfl rfl rfl rfl rfl rfl (by repeat (first | exact UpdM.here rfl | apply UpdM.there)) rfl ?_)
    | refine WL.step rfl (OP.alloc rfl rfl rfl rfl rfl (fun _ => ?_))
    | refine WL.step rfl (OP.box rfl rfl rfl rfl rfl (fun _ => ?_))
    | refine WL.step rfl (OP.buildT rfl rfl rfl rfl ?_)
    | refine WL.step rfl (OP.sliceLit rfl rfl rfl rfl rfl rfl rfl rfl (fun _ => ?_))))
          exact ret1 rfl ⟨by simp, (by repeat (first | exact List.Mem.head _ | apply List.Mem.tail))⟩
      · have h1 : ¬ mark < om := by omega
        have h2 : ¬ mark < lastM ch := by omega
        have hh := stays_high honex hfl hsrt h1 h2
        unfold atM at hh
        repeat (first | refine WL.step rfl (OP.decT (nw := true) rfl trivial (by omega) rfl rfl ?_) | refine WL.step rfl (OP.decF (nw := true) rfl trivial (by omega) rfl rfl ?_) | refine WL.step rfl (OP.decNT (nw := true) rfl trivial (by omega) rfl rfl ?_) | refine WL.step rfl (OP.decNF (nw := true) rfl trivial (by omega) rfl rfl ?_) | refine WL.guardT rfl rfl rfl rfl (OP.decT (nw := true) rfl trivial (by omega) rfl rfl ?_) | refine WL.guardT rfl rfl rfl rfl (OP.decF (nw := true) rfl trivial (by omega) rfl rfl ?_) | (first
    | refine WC.seq ?_ | refine WC.region ?_ | refine WL.nil ?_ | with_reducible refine seqK.go ?_ | refine WC.block ?_ | refine WC.skip ?_ | refine WC.exit ?_ | refine WC.ret ?_
    | with_reducible refine seqK.exit ?_ | with_reducible refine seqK.ret ?_ | (with_reducible refine blockK.hit ?hb ?_; (case hb => rfl)) | (with_reducible refine blockK.miss ?hb ?_; (case hb => rfl)) | with_reducible refine blockK.normal ?_ | with_reducible refine blockK.ret ?_ | with_reducible refine loopK.exit ?_ | with_reducible refine loopK.ret ?_
    | refine WC.condT rfl ?_ | refine WC.condF rfl ?_
    | refine WL.step rfl (OP.pure (nw := true) rfl (by first | exact trivial | (simp only [Holds]; omega) | (simp [Holds]; done) | (simp [Holds]; omega)) rfl rfl ?_)
    | refine WL.step rfl (OP.pure (nw := false) rfl (by first | exact trivial | (simp only [Holds]; omega) | (simp [Holds]; done) | (simp [Holds]; omega)) rfl rfl ?_)
    | refine WL.step rfl (OP.pickT rfl rfl rfl rfl rfl ?_) | refine WL.step rfl (OP.pickF rfl rfl rfl rfl rfl ?_) | refine WL.guardT rfl rfl rfl rfl (OP.pickT rfl rfl rfl rfl rfl ?_) | refine WL.guardT rfl rfl rfl rfl (OP.pickF rfl rfl rfl rfl rfl ?_)
    | refine WL.guardT rfl rfl rfl rfl (OP.pure (nw := true) rfl (by first | exact trivial | (simp only [Holds]; omega) | (simp [Holds]; done) | (simp [Holds]; omega)) rfl rfl ?_)
    | refine WL.guardT rfl rfl rfl rfl (OP.pure (nw := false) rfl trivial rfl rfl ?_)
    | refine WL.guardT rfl rfl rfl rfl (OP.loadN rfl rfl rfl rfl (by repeat (first | exact HasNth.here rfl | apply HasNth.there)) rfl rfl ?_)
    | refine WL.guardT rfl rfl rfl rfl (OP.loadB rfl rfl rfl rfl rfl (by repeat (first | exact HasCut.here rfl | apply HasCut.there)) rfl rfl ?_)
    | refine WL.guardF rfl rfl rfl rfl rfl rfl ?_
    | refine WL.guarded (nw := true) rfl rfl rfl rfl rfl rfl rfl (by first | exact trivial | (simp only [Holds]; omega) | (simp [Holds]; done) | (simp [Holds]; omega)) ?_
    | refine WL.step rfl (OP.loadN rfl rfl rfl rfl (by repeat (first | exact HasNth.here rfl | apply HasNth.there)) rfl rfl ?_)
    | refine WL.step rfl (OP.loadB rfl rfl rfl rfl rfl (by repeat (first | exact HasCut.here rfl | apply HasCut.there)) rfl rfl ?_)
    | refine WL.step rfl (OP.store rfl rfl rfl rfl rfl rfl rfl (by repeat (first | exact UpdM.here rfl | apply UpdM.there)) rfl ?_)
    | refine WL.step rfl (OP.alloc rfl rfl rfl rfl rfl (fun _ => ?_))
    | refine WL.step rfl (OP.box rfl rfl rfl rfl rfl (fun _ => ?_))
    | refine WL.step rfl (OP.buildT rfl rfl rfl rfl ?_)
    | refine WL.step rfl (OP.sliceLit rfl rfl rfl rfl rfl rfl rfl rfl (fun _ => ?_))))
        exact ret1 rfl ⟨rfl, (by repeat (first | exact List.Mem.head _ | apply List.Mem.tail))⟩
    · repeat (first | refine WL.step rfl (OP.decT (nw := true) rfl trivial (by omega) rfl rfl ?_) | refine WL.step rfl (OP.decF (nw := true) rfl trivial (by omega) rfl rfl ?_) | refine WL.step rfl (OP.decNT (nw := true) rfl trivial (by omega) rfl rfl ?_) | refine WL.step rfl (OP.decNF (nw := true) rfl trivial (by omega) rfl rfl ?_) | refine WL.guardT rfl rfl rfl rfl (OP.decT (nw := true) rfl trivial (by omega) rfl rfl ?_) | refine WL.guardT rfl rfl rfl rfl (OP.decF (nw := true) rfl trivial (by omega) rfl rfl ?_) | (first
    | refine WC.seq ?_ | refine WC.region ?_ | refine WL.nil ?_ | with_reducible refine seqK.go ?_ | refine WC.block ?_ | refine WC.skip ?_ | refine WC.exit ?_ | refine WC.ret ?_
    | with_reducible refine seqK.exit ?_ | with_reducible refine seqK.ret ?_ | (with_reducible refine blockK.hit ?hb ?_; (case hb => rfl)) | (with_reducible refine blockK.miss ?hb ?_; (case hb => rfl)) | with_reducible refine blockK.normal ?_ | with_reducible refine blockK.ret ?_ | with_reducible refine loopK.exit ?_ | with_reducible refine loopK.ret ?_
    | refine WC.condT rfl ?_ | refine WC.condF rfl ?_
    | refine WL.step rfl (OP.pure (nw := true) rfl (by first | exact trivial | (simp only [Holds]; omega) | (simp [Holds]; done) | (simp [Holds]; omega)) rfl rfl ?_)
    | refine WL.step rfl (OP.pure (nw := false) rfl (by first | exact trivial | (simp only [Holds]; omega) | (simp [Holds]; done) | (simp [Holds]; omega)) rfl rfl ?_)
    | refine WL.step rfl (OP.pickT rfl rfl rfl rfl rfl ?_) | refine WL.step rfl (OP.pickF rfl rfl rfl rfl rfl ?_) | refine WL.guardT rfl rfl rfl rfl (OP.pickT rfl rfl rfl rfl rfl ?_) | refine WL.guardT rfl rfl rfl rfl (OP.pickF rfl rfl rfl rfl rfl ?_)
    | refine WL.guardT rfl rfl rfl rfl (OP.pure (nw := true) rfl (by first | exact trivial | (simp only [Holds]; omega) | (simp [Holds]; done) | (simp [Holds]; omega)) rfl rfl ?_)
    | refine WL.guardT rfl rfl rfl rfl (OP.pure (nw := false) rfl trivial rfl rfl ?_)
    | refine WL.guardT rfl rfl rfl rfl (OP.loadN rfl rfl rfl rfl (by repeat (first | exact HasNth.here rfl | apply HasNth.there)) rfl rfl ?_)
    | refine WL.guardT rfl rfl rfl rfl (OP.loadB rfl rfl rfl rfl rfl (by repeat (first | exact HasCut.here rfl | apply HasCut.there)) rfl rfl ?_)
    | refine WL.guardF rfl rfl rfl rfl rfl rfl ?_
    | refine WL.guarded (nw := true) rfl rfl rfl rfl rfl rfl rfl (by first | exact trivial | (simp only [Holds]; omega) | (simp [Holds]; done) | (simp [Holds]; omega)) ?_
    | refine WL.step rfl (OP.loadN rfl rfl rfl rfl (by repeat (first | exact HasNth.here rfl | apply HasNth.there)) rfl rfl ?_)
    | refine WL.step rfl (OP.loadB rfl rfl rfl rfl rfl (by repeat (first | exact HasCut.here rfl | apply HasCut.there)) rfl rfl ?_)
    | refine WL.step rfl (OP.store rfl rfl rfl rfl rfl rfl rfl (by repeat (first | exact UpdM.here rfl | apply UpdM.there)) rfl ?_)
    | refine WL.step rfl (OP.alloc rfl rfl rfl rfl rfl (fun _ => ?_))
    | refine WL.step rfl (OP.box rfl rfl rfl rfl rfl (fun _ => ?_))
    | refine WL.step rfl (OP.buildT rfl rfl rfl rfl ?_)
    | refine WL.step rfl (OP.sliceLit rfl rfl rfl rfl rfl rfl rfl rfl (fun _ => ?_))))
      refine WL.fact (Ent.ownLe (a := ax) (n := chx.length) (cap := capx) (T := 78) (size := 3) (cs := encL chx) (by repeat (first | exact List.Mem.head _ | apply List.Mem.tail))) (fun hcx => ?_)
      refine WL.step rfl (OP.callRT rfl rfl (at_ok p ax capx f chx mark hfl hvx hcx (by omega)) (hR (by repeat (first | exact List.Mem.head _ | apply List.Mem.tail)) (by repeat (first | exact List.Mem.head _ | apply List.Mem.tail))) rfl rfl ?_)
      rintro v E ⟨a3, c4, rfl, rfl⟩
      have hlA := listM_len (after f (ch.take (cnt mark ch)))
      have hlB := listM_len (after f (chx.take (cnt mark chx)))
      rw [after_length] at hlA hlB
      by_cases hlow : mark < om ∨ mark < lastM ch
      · have hs : listM (after f (ch.take (cnt mark ch))) = listM (after f (chx.take (cnt mark chx))) := congrArg listM (stays_low honex hlow).symm
        by_cases h1 : mark < om
        · repeat (first | refine WL.step rfl (OP.decT (nw := true) rfl trivial (by omega) rfl rfl ?_) | refine WL.step rfl (OP.decF (nw := true) rfl trivial (by omega) rfl rfl ?_) | refine WL.step rfl (OP.decNT (nw := true) rfl trivial (by omega) rfl rfl ?_) | refine WL.step rfl (OP.decNF (nw := true) rfl trivial (by omega) rfl rfl ?_) | refine WL.guardT rfl rfl rfl rfl (OP.decT (nw := true) rfl trivial (by omega) rfl rfl ?_) | refine WL.guardT rfl rfl rfl rfl (OP.decF (nw := true) rfl trivial (by omega) rfl rfl ?_) | (first
    | refine WC.seq ?_ | refine WC.region ?_ | refine WL.nil ?_ | with_reducible refine seqK.go ?_ | refine WC.block ?_ | refine WC.skip ?_ | refine WC.exit ?_ | refine WC.ret ?_
    | with_reducible refine seqK.exit ?_ | with_reducible refine seqK.ret ?_ | (with_reducible refine blockK.hit ?hb ?_; (case hb => rfl)) | (with_reducible refine blockK.miss ?hb ?_; (case hb => rfl)) | with_reducible refine blockK.normal ?_ | with_reducible refine blockK.ret ?_ | with_reducible refine loopK.exit ?_ | with_reducible refine loopK.ret ?_
    | refine WC.condT rfl ?_ | refine WC.condF rfl ?_
    | refine WL.step rfl (OP.pure (nw := true) rfl (by first | exact trivial | (simp only [Holds]; omega) | (simp [Holds]; done) | (simp [Holds]; omega)) rfl rfl ?_)
    | refine WL.step rfl (OP.pure (nw := false) rfl (by first | exact trivial | (simp only [Holds]; omega) | (simp [Holds]; done) | (simp [Holds]; omega)) rfl rfl ?_)
    | refine WL.step rfl (OP.pickT rfl rfl rfl rfl rfl ?_) | refine WL.step rfl (OP.pickF rfl rfl rfl rfl rfl ?_) | refine WL.guardT rfl rfl rfl rfl (OP.pickT rfl rfl rfl rfl rfl ?_) | refine WL.guardT rfl rfl rfl rfl (OP.pickF rfl rfl rfl rfl rfl ?_)
    | refine WL.guardT rfl rfl rfl rfl (OP.pure (nw := true) rfl (by first | exact trivial | (simp only [Holds]; omega) | (simp [Holds]; done) | (simp [Holds]; omega)) rfl rfl ?_)
    | refine WL.guardT rfl rfl rfl rfl (OP.pure (nw := false) rfl trivial rfl rfl ?_)
    | refine WL.guardT rfl rfl rfl rfl (OP.loadN rfl rfl rfl rfl (by repeat (first | exact HasNth.here rfl | apply HasNth.there)) rfl rfl ?_)
    | refine WL.guardT rfl rfl rfl rfl (OP.loadB rfl rfl rfl rfl rfl (by repeat (first | exact HasCut.here rfl | apply HasCut.there)) rfl rfl ?_)
    | refine WL.guardF rfl rfl rfl rfl rfl rfl ?_
    | refine WL.guarded (nw := true) rfl rfl rfl rfl rfl rfl rfl (by first | exact trivial | (simp only [Holds]; omega) | (simp [Holds]; done) | (simp [Holds]; omega)) ?_
    | refine WL.step rfl (OP.loadN rfl rfl rfl rfl (by repeat (first | exact HasNth.here rfl | apply HasNth.there)) rfl rfl ?_)
    | refine WL.step rfl (OP.loadB rfl rfl rfl rfl rfl (by repeat (first | exact HasCut.here rfl | apply HasCut.there)) rfl rfl ?_)
    | refine WL.step rfl (OP.store rfl rfl rfl rfl rfl rfl rfl (by repeat (first | exact UpdM.here rfl | apply UpdM.there)) rfl ?_)
    | refine WL.step rfl (OP.alloc rfl rfl rfl rfl rfl (fun _ => ?_))
    | refine WL.step rfl (OP.box rfl rfl rfl rfl rfl (fun _ => ?_))
    | refine WL.step rfl (OP.buildT rfl rfl rfl rfl ?_)
    | refine WL.step rfl (OP.sliceLit rfl rfl rfl rfl rfl rfl rfl rfl (fun _ => ?_))))
          refine WL.step rfl (OP.callRO rfl rfl (same_ro _ _ _ _ _ _ (listM (after f (ch.take (cnt mark ch)))) (listM (after f (chx.take (cnt mark chx)))) rfl rfl (by omega) (by omega)) (Ent.and (Ent.own (by repeat (first | exact List.Mem.head _ | apply List.Mem.tail))) (Ent.own (by repeat (first | exact List.Mem.head _ | apply List.Mem.tail)))) rfl rfl ?_)
          repeat (first | refine WL.step rfl (OP.decT (nw := true) rfl trivial (by omega) rfl rfl ?_) | refine WL.step rfl (OP.decF (nw := true) rfl trivial (by omega) rfl rfl ?_) | refine WL.step rfl (OP.decNT (nw := true) rfl trivial (by omega) rfl rfl ?_) | refine WL.step rfl (OP.decNF (nw := true) rfl trivial (by omega) rfl rfl ?_) | refine WL.guardT rfl rfl rfl rfl (OP.decT (nw := true) rfl trivial (by omega) rfl rfl ?_) | refine WL.guardT rfl rfl rfl rfl (OP.decF (nw := true) rfl trivial (by omega) rfl rfl ?_) | (first
    | refine WC.seq ?_ | refine WC.region ?_ | refine WL.nil ?_ | with_reducible refine seqK.go ?_ | refine WC.block ?_ | refine WC.skip ?_ | refine WC.exit ?_ | refine WC.ret ?_
    | with_reducible refine seqK.exit ?_ | with_reducible refine seqK.ret ?_ | (with_reducible refine blockK.hit ?hb ?_; (case hb => rfl)) | (with_reducible refine blockK.miss ?hb ?_; (case hb => rfl)) | with_reducible refine blockK.normal ?_ | with_reducible refine blockK.ret ?_ | with_reducible refine loopK.exit ?_ | with_reducible refine loopK.ret ?_
    | refine WC.condT rfl ?_ | refine WC.condF rfl ?_
    | refine WL.step rfl (OP.pure (nw := true) rfl (by first | exact trivial | (simp only [Holds]; omega) | (simp [Holds]; done) | (simp [Holds]; omega)) rfl rfl ?_)
    | refine WL.step rfl (OP.pure (nw := false) rfl (by first | exact trivial | (simp only [Holds]; omega) | (simp [Holds]; done) | (simp [Holds]; omega)) rfl rfl ?_)
    | refine WL.step rfl (OP.pickT rfl rfl rfl rfl rfl ?_) | refine WL.step rfl (OP.pickF rfl rfl rfl rfl rfl ?_) | refine WL.guardT rfl rfl rfl rfl (OP.pickT rfl rfl rfl rfl rfl ?_) | refine WL.guardT rfl rfl rfl rfl (OP.pickF rfl rfl rfl rfl rfl ?_)
    | refine WL.guardT rfl rfl rfl rfl (OP.pure (nw := true) rfl (by first | exact trivial | (simp only [Holds]; omega) | (simp [Holds]; done) | (simp [Holds]; omega)) rfl rfl ?_)
    | refine WL.guardT rfl rfl rfl rfl (OP.pure (nw := false) rfl trivial rfl rfl ?_)
    | refine WL.guardT rfl rfl rfl rfl (OP.loadN rfl rfl rfl rfl (by repeat (first | exact HasNth.here rfl | apply HasNth.there)) rfl rfl ?_)
    | refine WL.guardT rfl rfl rfl rfl (OP.loadB rfl rfl rfl rfl rfl (by repeat (first | exact HasCut.here rfl | apply HasCut.there)) rfl rfl ?_)
    | refine WL.guardF rfl rfl rfl rfl rfl rfl ?_
    | refine WL.guarded (nw := true) rfl rfl rfl rfl rfl rfl rfl (by first | exact trivial | (simp only [Holds]; omega) | (simp [Holds]; done) | (simp [Holds]; omega)) ?_
    | refine WL.step rfl (OP.loadN rfl rfl rfl rfl (by repeat (first | exact HasNth.here rfl | apply HasNth.there)) rfl rfl ?_)
    | refine WL.step rfl (OP.loadB rfl rfl rfl rfl rfl (by repeat (first | exact HasCut.here rfl | apply HasCut.there)) rfl rfl ?_)
    | refine WL.step rfl (OP.store rfl rfl rfl rfl rfl rfl rfl (by repeat (first | exact UpdM.here rfl | apply UpdM.there)) rfl ?_)
    | refine WL.step rfl (OP.alloc rfl rfl rfl rfl rfl (fun _ => ?_))
    | refine WL.step rfl (OP.box rfl rfl rfl rfl rfl (fun _ => ?_))
    | refine WL.step rfl (OP.buildT rfl rfl rfl rfl ?_)
    | refine WL.step rfl (OP.sliceLit rfl rfl rfl rfl rfl rfl rfl rfl (fun _ => ?_))))
          exact ret1 rfl ⟨by simp, (by repeat (first | exact List.Mem.head _ | apply List.Mem.tail))⟩
        · have h2 : mark < lastM ch := by omega
          repeat (first | refine WL.step rfl (OP.decT (nw := true) rfl trivial (by omega) rfl rfl ?_) | refine WL.step rfl (OP.decF (nw := true) rfl trivial (by omega) rfl rfl ?_) | refine WL.step rfl (OP.decNT (nw := true) rfl trivial (by omega) rfl rfl ?_) | refine WL.step rfl (OP.decNF (nw := true) rfl trivial (by omega) rfl rfl ?_) | refine WL.guardT rfl rfl rfl rfl (OP.decT (nw := true) rfl trivial (by omega) rfl rfl ?_) | refine WL.guardT rfl rfl rfl rfl (OP.decF (nw := true) rfl trivial (by omega) rfl rfl ?_) | (first
    | refine WC.seq ?_ | refine WC.region ?_ | refine WL.nil ?_ | with_reducible refine seqK.go ?_ | refine WC.block ?_ | refine WC.skip ?_ | refine WC.exit ?_ | refine WC.ret ?_
    | with_reducible refine seqK.exit ?_ | with_reducible refine seqK.ret ?_ | (with_reducible refine blockK.hit ?hb ?_; (case hb => rfl)) | (with_reducible refine blockK.miss ?hb ?_; (case hb => rfl)) | with_reducible refine blockK.normal ?_ | with_reducible refine blockK.ret ?_ | with_reducible refine loopK.exit ?_ | with_reducible refine loopK.ret ?_
    | refine WC.condT rfl ?_ | refine WC.condF rfl ?_
    | refine WL.step rfl (OP.pure (nw := true) rfl (by first | exact trivial | (simp only [Holds]; omega) | (simp [Holds]; done) | (simp [Holds]; omega)) rfl rfl ?_)
    | refine WL.step rfl (OP.pure (nw := false) rfl (by first | exact trivial | (simp only [Holds]; omega) | (simp [Holds]; done) | (simp [Holds]; omega)) rfl rfl ?_)
    | refine WL.step rfl (OP.pickT rfl rfl rfl rfl rfl ?_) | refine WL.step rfl (OP.pickF rfl rfl rfl rfl rfl ?_) | refine WL.guardT rfl rfl rfl rfl (OP.pickT rfl rfl rfl rfl rfl ?_) | refine WL.guardT rfl rfl rfl rfl (OP.pickF rfl rfl rfl rfl rfl ?_)
    | refine WL.guardT rfl rfl rfl rfl (OP.pure (nw := true) rfl (by first | exact trivial | (simp only [Holds]; omega) | (simp [Holds]; done) | (simp [Holds]; omega)) rfl rfl ?_)
    | refine WL.guardT rfl rfl rfl rfl (OP.pure (nw := false) rfl trivial rfl rfl ?_)
    | refine WL.guardT rfl rfl rfl rfl (OP.loadN rfl rfl rfl rfl (by repeat (first | exact HasNth.here rfl | apply HasNth.there)) rfl rfl ?_)
    | refine WL.guardT rfl rfl rfl rfl (OP.loadB rfl rfl rfl rfl rfl (by repeat (first | exact HasCut.here rfl | apply HasCut.there)) rfl rfl ?_)
    | refine WL.guardF rfl rfl rfl rfl rfl rfl ?_
    | refine WL.guarded (nw := true) rfl rfl rfl rfl rfl rfl rfl (by first | exact trivial | (simp only [Holds]; omega) | (simp [Holds]; done) | (simp [Holds]; omega)) ?_
    | refine WL.step rfl (OP.loadN rfl rfl rfl rfl (by repeat (first | exact HasNth.here rfl | apply HasNth.there)) rfl rfl ?_)
    | refine WL.step rfl (OP.loadB rfl rfl rfl rfl rfl (by repeat (first | exact HasCut.here rfl | apply HasCut.there)) rfl rfl ?_)
    | refine WL.step rfl (OP.store rfl rfl rfl rfl rfl rfl rfl (by repeat (first | exact UpdM.here rfl | apply UpdM.there)) rfl ?_)
    | refine WL.step rfl (OP.alloc rfl rfl rfl rfl rfl (fun _ => ?_))
    | refine WL.step rfl (OP.box rfl rfl rfl rfl rfl (fun _ => ?_))
    | refine WL.step rfl (OP.buildT rfl rfl rfl rfl ?_)
    | refine WL.step rfl (OP.sliceLit rfl rfl rfl rfl rfl rfl rfl rfl (fun _ => ?_))))
          refine WL.step rfl (OP.callRO rfl rfl (same_ro _ _ _ _ _ _ (listM (after f (ch.take (cnt mark ch)))) (listM (after f (chx.take (cnt mark chx)))) rfl rfl (by omega) (by omega)) (Ent.and (Ent.own (by repeat (first | exact List.Mem.head _ | apply List.Mem.tail))) (Ent.own (by repeat (first | exact List.Mem.head _ | apply List.Mem.tail)))) rfl rfl ?_)
          repeat (first | refine WL.step rfl (OP.decT (nw := true) rfl trivial (by omega) rfl rfl ?_) | refine WL.step rfl (OP.decF (nw := true) rfl trivial (by omega) rfl rfl ?_) | refine WL.step rfl (OP.decNT (nw := true) rfl trivial (by omega) rfl rfl ?_) | refine WL.step rfl (OP.decNF (nw := true) rfl trivial (by omega) rfl rfl ?_) | refine WL.guardT rfl rfl rfl rfl (OP.decT (nw := true) rfl trivial (by omega) rfl rfl ?_) | refine WL.guardT rfl rfl rfl rfl (OP.decF (nw := true) rfl trivial (by omega) rfl rfl ?_) | (first
    | refine WC.seq ?_ | refine WC.region ?_ | refine WL.nil ?_ | with_reducible refine seqK.go ?_ | refine WC.block ?_ | refine WC.skip ?_ | refine WC.exit ?_ | refine WC.ret ?_
    | with_reducible refine seqK.exit ?_ | with_reducible refine seqK.ret ?_ | (with_reducible refine blockK.hit ?hb ?_; (case hb => rfl)) | (with_reducible refine blockK.miss ?hb ?_; (case hb => rfl)) | with_reducible refine blockK.normal ?_ | with_reducible refine blockK.ret ?_ | with_reducible refine loopK.exit ?_ | with_reducible refine loopK.ret ?_
    | refine WC.condT rfl ?_ | refine WC.condF rfl ?_
    | refine WL.step rfl (OP.pure (nw := true) rfl (by first | exact trivial | (simp only [Holds]; omega) | (simp [Holds]; done) | (simp [Holds]; omega)) rfl rfl ?_)
    | refine WL.step rfl (OP.pure (nw := false) rfl (by first | exact trivial | (simp only [Holds]; omega) | (simp [Holds]; done) | (simp [Holds]; omega)) rfl rfl ?_)
    | refine WL.step rfl (OP.pickT rfl rfl rfl rfl rfl ?_) | refine WL.step rfl (OP.pickF rfl rfl rfl rfl rfl ?_) | refine WL.guardT rfl rfl rfl rfl (OP.pickT rfl rfl rfl rfl rfl ?_) | refine WL.guardT rfl rfl rfl rfl (OP.pickF rfl rfl rfl rfl rfl ?_)
    | refine WL.guardT rfl rfl rfl rfl (OP.pure (nw := true) rfl (by first | exact trivial | (simp only [Holds]; omega) | (simp [Holds]; done) | (simp [Holds]; omega)) rfl rfl ?_)
    | refine WL.guardT rfl rfl rfl rfl (OP.pure (nw := false) rfl trivial rfl rfl ?_)
    | refine WL.guardT rfl rfl rfl rfl (OP.loadN rfl rfl rfl rfl (by repeat (first | exact HasNth.here rfl | apply HasNth.there)) rfl rfl ?_)
    | refine WL.guardT rfl rfl rfl rfl (OP.loadB rfl rfl rfl rfl rfl (by repeat (first | exact HasCut.here rfl | apply HasCut.there)) rfl rfl ?_)
    | refine WL.guardF rfl rfl rfl rfl rfl rfl ?_
    | refine WL.guarded (nw := true) rfl rfl rfl rfl rfl rfl rfl (by first | exact trivial | (simp only [Holds]; omega) | (simp [Holds]; done) | (simp [Holds]; omega)) ?_
    | refine WL.step rfl (OP.loadN rfl rfl rfl rfl (by repeat (first | exact HasNth.here rfl | apply HasNth.there)) rfl rfl ?_)
    | refine WL.step rfl (OP.loadB rfl rfl rfl rfl rfl (by repeat (first | exact HasCut.here rfl | apply HasCut.there)) rfl rfl ?_)
    | refine WL.step rfl (OP.store rfl rfl rfl rfl rfl rfl rfl (by repeat (first | exact UpdM.here rfl | apply UpdM.there)) rfl ?_)
    | refine WL.step rfl (OP.alloc rfl rfl rfl rfl rfl (fun _ => ?_))
    | refine WL.step rfl (OP.box rfl rfl rfl rfl rfl (fun _ => ?_))
    | refine WL.step rfl (OP.buildT rfl rfl rfl rfl ?_)
    | refine WL.step rfl (OP.sliceLit rfl rfl rfl rfl rfl rfl rfl rfl (fun _ => ?_))))
          exact ret1 rfl ⟨by simp, (by repeat (first | exact List.Mem.head _ | apply List.Mem.tail))⟩
      · have h1 : ¬ mark < om := by omega
        have h2 : ¬ mark < lastM ch := by omega
        have hh := stays_high honex hfl hsrt h1 h2
        unfold atM at hh
        repeat (first | refine WL.step rfl (OP.decT (nw := true) rfl trivial (by omega) rfl rfl ?_) | refine WL.step rfl (OP.decF (nw := true) rfl trivial (by omega) rfl rfl ?_) | refine WL.step rfl (OP.decNT (nw := true) rfl trivial (by omega) rfl rfl ?_) | refine WL.step rfl (OP.decNF (nw := true) rfl trivial (by omega) rfl rfl ?_) | refine WL.guardT rfl rfl rfl rfl (OP.decT (nw := true) rfl trivial (by omega) rfl rfl ?_) | refine WL.guardT rfl rfl rfl rfl (OP.decF (nw := true) rfl trivial (by omega) rfl rfl ?_) | (first
    | refine WC.seq ?_ | refine WC.region ?_ | refine WL.nil ?_ | with_reducible refine seqK.go ?_ | refine WC.block ?_ | refine WC.skip ?_ | refine WC.exit ?_ | refine WC.ret ?_
    | with_reducible refine seqK.exit ?_ | with_reducible refine seqK.ret ?_ | (with_reducible refine blockK.hit ?hb ?_; (case hb => rfl)) | (with_reducible refine blockK.miss ?hb ?_; (case hb => rfl)) | with_reducible refine blockK.normal ?_ | with_reducible refine blockK.ret ?_ | with_reducible refine loopK.exit ?_ | with_reducible refine loopK.ret ?_
    | refine WC.condT rfl ?_ | refine WC.condF rfl ?_
    | refine WL.step rfl (OP.pure (nw := true) rfl (by first | exact trivial | (simp only [Holds]; omega) | (simp [Holds]; done) | (simp [Holds]; omega)) rfl rfl ?_)
    | refine WL.step rfl (OP.pure (nw := false) rfl (by first | exact trivial | (simp only [Holds]; omega) | (simp [Holds]; done) | (simp [Holds]; omega)) rfl rfl ?_)
    | refine WL.step rfl (OP.pickT rfl rfl rfl rfl rfl ?_) | refine WL.step rfl (OP.pickF rfl rfl rfl rfl rfl ?_) | refine WL.guardT rfl rfl rfl rfl (OP.pickT rfl rfl rfl rfl rfl ?_) | refine WL.guardT rfl rfl rfl rfl (OP.pickF rfl rfl rfl rfl rfl ?_)
    | refine WL.guardT rfl rfl rfl rfl (OP.pure (nw := true) rfl (by first | exact trivial | (simp only [Holds]; omega) | (simp [Holds]; done) | (simp [Holds]; omega)) rfl rfl ?_)
    | refine WL.guardT rfl rfl rfl rfl (OP.pure (nw := false) rfl trivial rfl rfl ?_)
    | refine WL.guardT rfl rfl rfl rfl (OP.loadN rfl rfl rfl rfl (by repeat (first | exact HasNth.here rfl | apply HasNth.there)) rfl rfl ?_)
    | refine WL.guardT rfl rfl rfl rfl (OP.loadB rfl rfl rfl rfl rfl (by repeat (first | exact HasCut.here rfl | apply HasCut.there)) rfl rfl ?_)
    | refine WL.guardF rfl rfl rfl rfl rfl rfl ?_
    | refine WL.guarded (nw := true) rfl rfl rfl rfl rfl rfl rfl (by first | exact trivial | (simp only [Holds]; omega) | (simp [Holds]; done) | (simp [Holds]; omega)) ?_
    | refine WL.step rfl (OP.loadN rfl rfl rfl rfl (by repeat (first | exact HasNth.here rfl | apply HasNth.there)) rfl rfl ?_)
    | refine WL.step rfl (OP.loadB rfl rfl rfl rfl rfl (by repeat (first | exact HasCut.here rfl | apply HasCut.there)) rfl rfl ?_)
    | refine WL.step rfl (OP.store rfl rfl rfl rfl rfl rfl rfl (by repeat (first | exact UpdM.here rfl | apply UpdM.there)) rfl ?_)
    | refine WL.step rfl (OP.alloc rfl rfl rfl rfl rfl (fun _ => ?_))
    | refine WL.step rfl (OP.box rfl rfl rfl rfl rfl (fun _ => ?_))
    | refine WL.step rfl (OP.buildT rfl rfl rfl rfl ?_)
    | refine WL.step rfl (OP.sliceLit rfl rfl rfl rfl rfl rfl rfl rfl (fun _ => ?_))))
        exact ret1 rfl ⟨rfl, (by repeat (first | exact List.Mem.head _ | apply List.Mem.tail))⟩
  · obtain ⟨ax, hax⟩ : ∃ ax, ax = a' := ⟨_, rfl⟩
    obtain ⟨capx, hcapx⟩ : ∃ ax, ax = cap' := ⟨_, rfl⟩
    obtain ⟨chx, hchx⟩ : ∃ ax, ax = ch' := ⟨_, rfl⟩
    rw [← hax, ← hcapx, ← hchx]
    rw [← hchx] at hone hinv he1
    have honex := hone
    have hvx := hinv.1
    have hsx := hinv.2
    obtain ⟨rfl, _⟩ | ⟨⟨bb, rfl⟩, hsame, _⟩ := he1
    · repeat (first | refine WL.step rfl (OP.decT (nw := true) rfl trivial (by omega) rfl rfl ?_) | refine WL.step rfl (OP.decF (nw := true) rfl trivial (by omega) rfl rfl ?_) | refine WL.step rfl (OP.decNT (nw := true) rfl trivial (by omega) rfl rfl ?_) | refine WL.step rfl (OP.decNF (nw := true) rfl trivial (by omega) rfl rfl ?_) | refine WL.guardT rfl rfl rfl rfl (OP.decT (nw := true) rfl trivial (by omega) rfl rfl ?_) | refine WL.guardT rfl rfl rfl rfl (OP.decF (nw := true) rfl trivial (by omega) rfl rfl ?_) | (first
    | refine WC.seq ?_ | refine WC.region ?_ | refine WL.nil ?_ | with_reducible refine seqK.go ?_ | refine WC.block ?_ | refine WC.skip ?_ | refine WC.exit ?_ | refine WC.ret ?_
    | with_reducible refine seqK.exit ?_ | with_reducible refine seqK.ret ?_ | (with_reducible refine blockK.hit ?hb ?_; (case hb => rfl)) | (with_reducible refine blockK.miss ?hb ?_; (case hb => rfl)) | with_reducible refine blockK.normal ?_ | with_reducible refine blockK.ret ?_ | with_reducible refine loopK.exit ?_ | with_reducible refine loopK.ret ?_
    | refine WC.condT rfl ?_ | refine WC.condF rfl ?_
    | refine WL.step rfl (OP.pure (nw := true) rfl (by first | exact trivial | (simp only [Holds]; omega) | (simp [Holds]; done) | (simp [Holds]; omega)) rfl rfl ?_)
    | refine WL.step rfl (OP.pure (nw := false) rfl (by first | exact trivial | (simp only [Holds]; omega) | (simp [Holds]; done) | (simp [Holds]; omega)) rfl rfl ?_)
    | refine WL.step rfl (OP.pickT rfl rfl rfl rfl rfl ?_) | refine WL.step rfl (OP.pickF rfl rfl rfl rfl rfl ?_) | refine WL.guardT rfl rfl rfl rfl (OP.pickT rfl rfl rfl rfl rfl ?_) | refine WL.guardT rfl rfl rfl rfl (OP.pickF rfl rfl rfl rfl rfl ?_)
    | refine WL.guardT rfl rfl rfl rfl (OP.pure (nw := true) rfl (by first | exact trivial | (simp only [Holds]; omega) | (simp [Holds]; done) | (simp [Holds]; omega)) rfl rfl ?_)
    | refine WL.guardT rfl rfl rfl rfl (OP.pure (nw := false) rfl trivial rfl rfl ?_)
    | refine WL.guardT rfl rfl rfl rfl (OP.loadN rfl rfl rfl rfl (by repeat (first | exact HasNth.here rfl | apply HasNth.there)) rfl rfl ?_)
    | refine WL.guardT rfl rfl rfl rfl (OP.loadB rfl rfl rfl rfl rfl (by repeat (first | exact HasCut.here rfl | apply HasCut.there)) rfl rfl ?_)
    | refine WL.guardF rfl rfl rfl rfl rfl rfl ?_
    | refine WL.guarded (nw := true) rfl rfl rfl rfl rfl rfl rfl (by first | exact trivial | (simp only [Holds]; omega) | (simp [Holds]; done) | (simp [Holds]; omega)) ?_
    | refine WL.step rfl (OP.loadN rfl rfl rfl rfl (by repeat (first | exact HasNth.here rfl | apply HasNth.there)) rfl rfl ?_)
    | refine WL.step rfl (OP.loadB rfl rfl rfl rfl rfl (by repeat (first | exact HasCut.here rfl | apply HasCut.there)) rfl rfl ?_)
    | refine WL.step rfl (OP.store rfl rfl rfl rfl rfl rfl rfl (by repeat (first | exact UpdM.here rfl | apply UpdM.there)) rfl ?_)
    | refine WL.step rfl (OP.alloc rfl rfl rfl rfl rfl (fun _ => ?_))
    | refine WL.step rfl (OP.box rfl rfl rfl rfl rfl (fun _ => ?_))
    | refine WL.step rfl (OP.buildT rfl rfl rfl rfl ?_)
    | refine WL.step rfl (OP.sliceLit rfl rfl rfl rfl rfl rfl rfl rfl (fun _ => ?_))))
      refine WL.fact (Ent.ownLe (a := ax) (n := chx.length) (cap := capx) (T := 78) (size := 3) (cs := encL chx) (by repeat (first | exact List.Mem.head _ | apply List.Mem.tail))) (fun hcx => ?_)
      refine WL.step rfl (OP.callRT rfl rfl (at_ok p ax capx f chx mark hfl hvx hcx (by omega)) (hR (by repeat (first | exact List.Mem.head _ | apply List.Mem.tail)) (by repeat (first | exact List.Mem.head _ | apply List.Mem.tail))) rfl rfl ?_)
      rintro v E ⟨a3, c4, rfl, rfl⟩
      have hlA := listM_len (after f (ch.take (cnt mark ch)))
      have hlB := listM_len (after f (chx.take (cnt mark chx)))
      rw [after_length] at hlA hlB
      by_cases hlow : mark < om ∨ mark < lastM ch
      · have hs : listM (after f (ch.take (cnt mark ch))) = listM (after f (chx.take (cnt mark chx))) := congrArg listM (stays_low honex hlow).symm
        by_cases h1 : mark < om
        · repeat (first | refine WL.step rfl (OP.decT (nw := true) rfl trivial (by omega) rfl rfl ?_) | refine WL.step rfl (OP.decF (nw := true) rfl trivial (by omega) rfl rfl ?_) | refine WL.step rfl (OP.decNT (nw := true) rfl trivial (by omega) rfl rfl ?_) | refine WL.step rfl (OP.decNF (nw := true) rfl trivial (by omega) rfl rfl ?_) | refine WL.guardT rfl rfl rfl rfl (OP.decT (nw := true) rfl trivial (by omega) rfl rfl ?_) | refine WL.guardT rfl rfl rfl rfl (OP.decF (nw := true) rfl trivial (by omega) rfl rfl ?_) | (first
    | refine WC.seq ?_ | refine WC.region ?_ | refine WL.nil ?_ | with_reducible refine seqK.go ?_ | refine WC.block ?_ | refine WC.skip ?_ | refine WC.exit ?_ | refine WC.ret ?_
    | with_reducible refine seqK.exit ?_ | with_reducible refine seqK.ret ?_ | (with_reducible refine blockK.hit ?hb ?_; (case hb => rfl)) | (with_reducible refine blockK.miss ?hb ?_; (case hb => rfl)) | with_reducible refine blockK.normal ?_ | with_reducible refine blockK.ret ?_ | with_reducible refine loopK.exit ?_ | with_reducible refine loopK.ret ?_
    | refine WC.condT rfl ?_ | refine WC.condF rfl ?_
    | refine WL.step rfl (OP.pure (nw := true) rfl (by first | exact trivial | (simp only [Holds]; omega) | (simp [Holds]; done) | (simp [Holds]; omega)) rfl rfl ?_)
    | refine WL.step rfl (OP.pure (nw := false) rfl (by first | exact trivial | (simp only [Holds]; omega) | (simp [Holds]; done) | (simp [Holds]; omega)) rfl rfl ?_)
    | refine WL.step rfl (OP.pickT rfl rfl rfl rfl rfl ?_) | refine WL.step rfl (OP.pickF rfl rfl rfl rfl rfl ?_) | refine WL.guardT rfl rfl rfl rfl (OP.pickT rfl rfl rfl rfl rfl ?_) | refine WL.guardT rfl rfl rfl rfl (OP.pickF rfl rfl rfl rfl rfl ?_)
    | refine WL.guardT rfl rfl rfl rfl (OP.pure (nw := true) rfl (by first | exact trivial | (simp only [Holds]; omega) | (simp [Holds]; done) | (simp [Holds]; omega)) rfl rfl ?_)
    | refine WL.guardT rfl rfl rfl rfl (OP.pure (nw := false) rfl trivial rfl rfl ?_)
    | refine WL.guardT rfl rfl rfl rfl (OP.loadN rfl rfl rfl rfl (by repeat (first | exact HasNth.here rfl | apply HasNth.there)) rfl rfl ?_)
    | refine WL.guardT rfl rfl rfl rfl (OP.loadB rfl rfl rfl rfl rfl (by repeat (first | exact HasCut.here rfl | apply HasCut.there)) rfl rfl ?_)
    | refine WL.guardF rfl rfl rfl rfl rfl rfl ?_
    | refine WL.guarded (nw := true) rfl rfl rfl rfl rfl rfl rfl (by first | exact trivial | (simp only [Holds]; omega) | (simp [Holds]; done) | (simp [Holds]; omega)) ?_
    | refine WL.step rfl (OP.loadN rfl rfl rfl rfl (by repeat (first | exact HasNth.here rfl | apply HasNth.there)) rfl rfl ?_)
    | refine WL.step rfl (OP.loadB rfl rfl rfl rfl rfl (by repeat (first | exact HasCut.here rfl | apply HasCut.there)) rfl rfl ?_)
    | refine WL.step rfl (OP.store rfl rfl rfl rfl rfl rfl rfl (by repeat (first | exact UpdM.here rfl | apply UpdM.there)) rfl ?_)
    | refine WL.step rfl (OP.alloc rfl rfl rfl rfl rfl (fun _ => ?_))
    | refine WL.step rfl (OP.box rfl rfl rfl rfl rfl (fun _ => ?_))
    | refine WL.step rfl (OP.buildT rfl rfl rfl rfl ?_)
    | refine WL.step rfl (OP.sliceLit rfl rfl rfl rfl rfl rfl rfl rfl (fun _ => ?_))))
          refine WL.step rfl (OP.callRO rfl rfl (same_ro _ _ _ _ _ _ (listM (after f (ch.take (cnt mark ch)))) (listM (after f (chx.take (cnt mark chx)))) rfl rfl (by omega) (by omega)) (Ent.and (Ent.own (by repeat (first | exact List.Mem.head _ | apply List.Mem.tail))) (Ent.own (by repeat (first | exact List.Mem.head _ | apply List.Mem.tail)))) rfl rfl ?_)
          repeat (first | refine WL.step rfl (OP.decT (nw := true) rfl trivial (by omega) rfl rfl ?_) | refine WL.step rfl (OP.decF (nw := true) rfl trivial (by omega) rfl rfl ?_) | refine WL.step rfl (OP.decNT (nw := true) rfl trivial (by omega) rfl rfl ?_) | refine WL.step rfl (OP.decNF (nw := true) rfl trivial (by omega) rfl rfl ?_) | refine WL.guardT rfl rfl rfl rfl (OP.decT (nw := true) rfl trivial (by omega) rfl rfl ?_) | refine WL.guardT rfl rfl rfl rfl (OP.decF (nw := true) rfl trivial (by omega) rfl rfl ?_) | (first
    | refine WC.seq ?_ | refine WC.region ?_ | refine WL.nil ?_ | with_reducible refine seqK.go ?_ | refine WC.block ?_ | refine WC.skip ?_ | refine WC.exit ?_ | refine WC.ret ?_
    | with_reducible refine seqK.exit ?_ | with_reducible refine seqK.ret ?_ | (with_reducible refine blockK.hit ?hb ?_; (case hb => rfl)) | (with_reducible refine blockK.miss ?hb ?_; (case hb => rfl)) | with_reducible refine blockK.normal ?_ | with_reducible refine blockK.ret ?_ | with_reducible refine loopK.exit ?_ | with_reducible refine loopK.ret ?_
    | refine WC.condT rfl ?_ | refine WC.condF rfl ?_
    | refine WL.step rfl (OP.pure (nw := true) rfl (by first | exact trivial | (simp only [Holds]; omega) | (simp [Holds]; done) | (simp [Holds]; omega)) rfl rfl ?_)
    | refine WL.step rfl (OP.pure (nw := false) rfl (by first | exact trivial | (simp only [Holds]; omega) | (simp [Holds]; done) | (simp [Holds]; omega)) rfl rfl ?_)
    | refine WL.step rfl (OP.pickT rfl rfl rfl rfl rfl ?_) | refine WL.step rfl (OP.pickF rfl rfl rfl rfl rfl ?_) | refine WL.guardT rfl rfl rfl rfl (OP.pickT rfl rfl rfl rfl rfl ?_) | refine WL.guardT rfl rfl rfl rfl (OP.pickF rfl rfl rfl rfl rfl ?_)
    | refine WL.guardT rfl rfl rfl rfl (OP.pure (nw := true) rfl (by first | exact trivial | (simp only [Holds]; omega) | (simp [Holds]; done) | (simp [Holds]; omega)) rfl rfl ?_)
    | refine WL.guardT rfl rfl rfl rfl (OP.pure (nw := false) rfl trivial rfl rfl ?_)
    | refine WL.guardT rfl rfl rfl rfl (OP.loadN rfl rfl rfl rfl (by repeat (first | exact HasNth.here rfl | apply HasNth.there)) rfl rfl ?_)
    | refine WL.guardT rfl rfl rfl rfl (OP.loadB rfl rfl rfl rfl rfl (by repeat (first | exact HasCut.here rfl | apply HasCut.there)) rfl rfl ?_)
    | refine WL.guardF rfl rfl rfl rfl rfl rfl ?_
    | refine WL.guarded (nw := true) rfl rfl rfl rfl rfl rfl rfl (by first | exact trivial | (simp only [Holds]; omega) | (simp [Holds]; done) | (simp [Holds]; omega)) ?_
    | refine WL.step rfl (OP.loadN rfl rfl rfl rfl (by repeat (first | exact HasNth.here rfl | apply HasNth.there)) rfl rfl ?_)
    | refine WL.step rfl (OP.loadB rfl rfl rfl rfl rfl (by repeat (first | exact HasCut.here rfl | apply HasCut.there)) rfl rfl ?_)
    | refine WL.step rfl (OP.store rfl rfl rfl rfl rfl rfl rfl (by repeat (first | exact UpdM.here rfl | apply UpdM.there)) rfl ?_)
    | refine WL.step rfl (OP.alloc rfl rfl rfl rfl rfl (fun _ => ?_))
    | refine WL.step rfl (OP.box rfl rfl rfl rfl rfl (fun _ => ?_))
    | refine WL.step rfl (OP.buildT rfl rfl rfl rfl ?_)
    | refine WL.step rfl (OP.sliceLit rfl rfl rfl rfl rfl rfl rfl rfl (fun _ => ?_))))
          exact ret1 rfl ⟨by simp, (by repeat (first | exact List.Mem.head _ | apply List.Mem.tail))⟩
        · have h2 : mark < lastM ch := by omega
          repeat (first | refine WL.step rfl (OP.decT (nw := true) rfl trivial (by omega) rfl rfl ?_) | refine WL.step rfl (OP.decF (nw := true) rfl trivial (by omega) rfl rfl ?_) | refine WL.step rfl (OP.decNT (nw := true) rfl trivial (by omega) rfl rfl ?_) | refine WL.step rfl (OP.decNF (nw := true) rfl trivial (by omega) rfl rfl ?_) | refine WL.guardT rfl rfl rfl rfl (OP.decT (nw := true) rfl trivial (by omega) rfl rfl ?_) | refine WL.guardT rfl rfl rfl rfl (OP.decF (nw := true) rfl trivial (by omega) rfl rfl ?_) | (first
    | refine WC.seq ?_ | refine WC.region ?_ | refine WL.nil ?_ | with_reducible refine seqK.go ?_ | refine WC.block ?_ | refine WC.skip ?_ | refine WC.exit ?_ | refine WC.ret ?_
    | with_reducible refine seqK.exit ?_ | with_reducible refine seqK.ret ?_ | (with_reducible refine blockK.hit ?hb ?_; (case hb => rfl)) | (with_reducible refine blockK.miss ?hb ?_; (case hb => rfl)) | with_reducible refine blockK.normal ?_ | with_reducible refine blockK.ret ?_ | with_reducible refine loopK.exit ?_ | with_reducible refine loopK.ret ?_
    | refine WC.condT rfl ?_ | refine WC.condF rfl ?_
    | refine WL.step rfl (OP.pure (nw := true) rfl (by first | exact trivial | (simp only [Holds]; omega) | (simp [Holds]; done) | (simp [Holds]; omega)) rfl rfl ?_)
    | refine WL.step rfl (OP.pure (nw := false) rfl (by first | exact trivial | (simp only [Holds]; omega) | (simp [Holds]; done) | (simp [Holds]; omega)) rfl rfl ?_)
    | refine WL.step rfl (OP.pickT rfl rfl rfl rfl rfl ?_) | refine WL.step rfl (OP.pickF rfl rfl rfl rfl rfl ?_) | refine WL.guardT rfl rfl rfl rfl (OP.pickT rfl rfl rfl rfl rfl ?_) | refine WL.guardT rfl rfl rfl rfl (OP.pickF rfl rfl rfl rfl rfl ?_)
    | refine WL.guardT rfl rfl rfl rfl (OP.pure (nw := true) rfl (by first | exact trivial | (simp only [Holds]; omega) | (simp [Holds]; done) | (simp [Holds]; omega)) rfl rfl ?_)
    | refine WL.guardT rfl rfl rfl rfl (OP.pure (nw := false) rfl trivial rfl rfl ?_)
    | refine WL.guardT rfl rfl rfl rfl (OP.loadN rfl rfl rfl rfl (by repeat (first | exact HasNth.here rfl | apply HasNth.there)) rfl rfl ?_)
    | refine WL.guardT rfl rfl rfl rfl (OP.loadB rfl rfl rfl rfl rfl (by repeat (first | exact HasCut.here rfl | apply HasCut.there)) rfl rfl ?_)
    | refine WL.guardF rfl rfl rfl rfl rfl rfl ?_
    | refine WL.guarded (nw := true) rfl rfl rfl rfl rfl rfl rfl (by first | exact trivial | (simp only [Holds]; omega) | (simp [Holds]; done) | (simp [Holds]; omega)) ?_
    | refine WL.step rfl (OP.loadN rfl rfl rfl rfl (by repeat (first | exact HasNth.here rfl | apply HasNth.there)) rfl rfl ?_)
    | refine WL.step rfl (OP.loadB rfl rfl rfl rfl rfl (by repeat (first | exact HasCut.here rfl | apply HasCut.there)) rfl rfl ?_)
    | refine WL.step rfl (OP.store rfl rfl rfl rfl rfl rfl rfl (by repeat (first | exact UpdM.here rfl | apply UpdM.there)) rfl ?_)
    | refine WL.step rfl (OP.alloc rfl rfl rfl rfl rfl (fun _ => ?_))
    | refine WL.step rfl (OP.box rfl rfl rfl rfl rfl (fun _ => ?_))
    | refine WL.step rfl (OP.buildT rfl rfl rfl rfl ?_)
    | refine WL.step rfl (OP.sliceLit rfl rfl rfl rfl rfl rfl rfl rfl (fun _ => ?_))))
          refine WL.step rfl (OP.callRO rfl rfl (same_ro _ _ _ _ _ _ (listM (after f (ch.take (cnt mark ch)))) (listM (after f (chx.take (cnt mark chx)))) rfl rfl (by omega) (by omega)) (Ent.and (Ent.own (by repeat (first | exact List.Mem.head _ | apply List.Mem.tail))) (Ent.own (by repeat (first | exact List.Mem.head _ | apply List.Mem.tail)))) rfl rfl ?_)
          repeat (first | refine WL.step rfl (OP.decT (nw := true) rfl trivial (by omega) rfl rfl ?_) | refine WL.step rfl (OP.decF (nw := true) rfl trivial (by omega) rfl rfl ?_) | refine WL.step rfl (OP.decNT (nw := true) rfl trivial (by omega) rfl rfl ?_) | refine WL.step rfl (OP.decNF (nw := true) rfl trivial (by omega) rfl rfl ?_) | refine WL.guardT rfl rfl rfl rfl (OP.decT (nw := true) rfl trivial (by omega) rfl rfl ?_) | refine WL.guardT rfl rfl rfl rfl (OP.decF (nw := true) rfl trivial (by omega) rfl rfl ?_) | (first
    | refine WC.seq ?_ | refine WC.region ?_ | refine WL.nil ?_ | with_reducible refine seqK.go ?_ | refine WC.block ?_ | refine WC.skip ?_ | refine WC.exit ?_ | refine WC.ret ?_
    | with_reducible refine seqK.exit ?_ | with_reducible refine seqK.ret ?_ | (with_reducible refine blockK.hit ?hb ?_; (case hb => rfl)) | (with_reducible refine blockK.miss ?hb ?_; (case hb => rfl)) | with_reducible refine blockK.normal ?_ | with_reducible refine blockK.ret ?_ | with_reducible refine loopK.exit ?_ | with_reducible refine loopK.ret ?_
    | refine WC.condT rfl ?_ | refine WC.condF rfl ?_
    | refine WL.step rfl (OP.pure (nw := true) rfl (by first | exact trivial | (simp only [Holds]; omega) | (simp [Holds]; done) | (simp [Holds]; omega)) rfl rfl ?_)
    | refine WL.step rfl (OP.pure (nw := false) rfl (by first | exact trivial | (simp only [Holds]; omega) | (simp [Holds]; done) | (simp [Holds]; omega)) rfl rfl ?_)
    | refine WL.step rfl (OP.pickT rfl rfl rfl rfl rfl ?_) | refine WL.step rfl (OP.pickF rfl rfl rfl rfl rfl ?_) | refine WL.guardT rfl rfl rfl rfl (OP.pickT rfl rfl rfl rfl rfl ?_) | refine WL.guardT rfl rfl rfl rfl (OP.pickF rfl rfl rfl rfl rfl ?_)
    | refine WL.guardT rfl rfl rfl rfl (OP.pure (nw := true) rfl (by first | exact trivial | (simp only [Holds]; omega) | (simp [Holds]; done) | (simp [Holds]; omega)) rfl rfl ?_)
    | refine WL.guardT rfl rfl rfl rfl (OP.pure (nw := false) rfl trivial rfl rfl ?_)
    | refine WL.guardT rfl rfl rfl rfl (OP.loadN rfl rfl rfl rfl (by repeat (first | exact HasNth.here rfl | apply HasNth.there)) rfl rfl ?_)
    | refine WL.guardT rfl rfl rfl rfl (OP.loadB rfl rfl rfl rfl rfl (by repeat (first | exact HasCut.here rfl | apply HasCut.there)) rfl rfl ?_)
    | refine WL.guardF rfl rfl rfl rfl rfl rfl ?_
    | refine WL.guarded (nw := true) rfl rfl rfl rfl rfl rfl rfl (by first | exact trivial | (simp only [Holds]; omega) | (simp [Holds]; done) | (simp [Holds]; omega)) ?_
    | refine WL.step rfl (OP.loadN rfl rfl rfl rfl (by repeat (first | exact HasNth.here rfl | apply HasNth.there)) rfl rfl ?_)
    | refine WL.step rfl (OP.loadB rfl rfl rfl rfl rfl (by repeat (first | exact HasCut.here rfl | apply HasCut.there)) rfl rfl ?_)
    | refine WL.step rfl (OP.store rfl rfl rfl rfl rfl rfl rfl (by repeat (first | exact UpdM.here rfl | apply UpdM.there)) rfl ?_)
    | refine WL.step rfl (OP.alloc rfl rfl rfl rfl rfl (fun _ => ?_))
    | refine WL.step rfl (OP.box rfl rfl rfl rfl rfl (fun _ => ?_))
    | refine WL.step rfl (OP.buildT rfl rfl rfl rfl ?_)
    | refine WL.step rfl (OP.sliceLit rfl rfl rfl rfl rfl rfl rfl rfl (fun _ => ?_))))
          exact ret1 rfl ⟨by simp, (by repeat (first | exact List.Mem.head _ | apply List.Mem.tail))⟩
      · have h1 : ¬ mark < om := by omega
        have h2 : ¬ mark < lastM ch := by omega
        have hh := stays_high honex hfl hsrt h1 h2
        unfold atM at hh
        repeat (first | refine WL.step rfl (OP.decT (nw := true) rfl trivial (by omega) rfl rfl ?_) | refine WL.step rfl (OP.decF (nw := true) rfl trivial (by omega) rfl rfl ?_) | refine WL.step rfl (OP.decNT (nw := true) rfl trivial (by omega) rfl rfl ?_) | refine WL.step rfl (OP.decNF (nw := true) rfl trivial (by omega) rfl rfl ?_) | refine WL.guardT rfl rfl rfl rfl (OP.decT (nw := true) rfl trivial (by omega) rfl rfl ?_) | refine WL.guardT rfl rfl rfl rfl (OP.decF (nw := true) rfl trivial (by omega) rfl rfl ?_) | (first
    | refine WC.seq ?_ | refine WC.region ?_ | refine WL.nil ?_ | with_reducible refine seqK.go ?_ | refine WC.block ?_ | refine WC.skip ?_ | refine WC.exit ?_ | refine WC.ret ?_
    | with_reducible refine seqK.exit ?_ | with_reducible refine seqK.ret ?_ | (with_reducible refine blockK.hit ?hb ?_; (case hb => rfl)) | (with_reducible refine blockK.miss ?hb ?_; (case hb => rfl)) | with_reducible refine blockK.normal ?_ | with_reducible refine blockK.ret ?_ | with_reducible refine loopK.exit ?_ | with_reducible refine loopK.ret ?_
    | refine WC.condT rfl ?_ | refine WC.condF rfl ?_
    | refine WL.step rfl (OP.pure (nw := true) rfl (by first | exact trivial | (simp only [Holds]; omega) | (simp [Holds]; done) | (simp [Holds]; omega)) rfl rfl ?_)
    | refine WL.step rfl (OP.pure (nw := false) rfl (by first | exact trivial | (simp only [Holds]; omega) | (simp [Holds]; done) | (simp [Holds]; omega)) rfl rfl ?_)
    | refine WL.step rfl (OP.pickT rfl rfl rfl rfl rfl ?_) | refine WL.step rfl (OP.pickF rfl rfl rfl rfl rfl ?_) | refine WL.guardT rfl rfl rfl rfl (OP.pickT rfl rfl rfl rfl rfl ?_) | refine WL.guardT rfl rfl rfl rfl (OP.pickF rfl rfl rfl rfl rfl ?_)
    | refine WL.guardT rfl rfl rfl rfl (OP.pure (nw := true) rfl (by first | exact trivial | (simp only [Holds]; omega) | (simp [Holds]; done) | (simp [Holds]; omega)) rfl rfl ?_)
    | refine WL.guardT rfl rfl rfl rfl (OP.pure (nw := false) rfl trivial rfl rfl ?_)
    | refine WL.guardT rfl rfl rfl rfl (OP.loadN rfl rfl rfl rfl (by repeat (first | exact HasNth.here rfl | apply HasNth.there)) rfl rfl ?_)
    | refine WL.guardT rfl rfl rfl rfl (OP.loadB rfl rfl rfl rfl rfl (by repeat (first | exact HasCut.here rfl | apply HasCut.there)) rfl rfl ?_)
    | refine WL.guardF rfl rfl rfl rfl rfl rfl ?_
    | refine WL.guarded (nw := true) rfl rfl rfl rfl rfl rfl rfl (by first | exact trivial | (simp only [Holds]; omega) | (simp [Holds]; done) | (simp [Holds]; omega)) ?_
    | refine WL.step rfl (OP.loadN rfl rfl rfl rfl (by repeat (first | exact HasNth.here rfl | apply HasNth.there)) rfl rfl ?_)
    | refine WL.step rfl (OP.loadB rfl rfl rfl rfl rfl (by repeat (first | exact HasCut.here rfl | apply HasCut.there)) rfl rfl ?_)
    | refine WL.step rfl (OP.store rfl rfl rfl rfl rfl rfl rfl (by repeat (first | exact UpdM.here rfl | apply UpdM.there)) rfl ?_)
    | refine WL.step rfl (OP.alloc rfl rfl rfl rfl rfl (fun _ => ?_))
    | refine WL.step rfl (OP.box rfl rfl rfl rfl rfl (fun _ => ?_))
    | refine WL.step rfl (OP.buildT rfl rfl rfl rfl ?_)
    | refine WL.step rfl (OP.sliceLit rfl rfl rfl rfl rfl rfl rfl rfl (fun _ => ?_))))
        exact ret1 rfl ⟨rfl, (by repeat (first | exact List.Mem.head _ | apply List.Mem.tail))⟩
    · repeat (first | refine WL.step rfl (OP.decT (nw := true) rfl trivial (by omega) rfl rfl ?_) | refine WL.step rfl (OP.decF (nw := true) rfl trivial (by omega) rfl rfl ?_) | refine WL.step rfl (OP.decNT (nw := true) rfl trivial (by omega) rfl rfl ?_) | refine WL.step rfl (OP.decNF (nw := true) rfl trivial (by omega) rfl rfl ?_) | refine WL.guardT rfl rfl rfl rfl (OP.decT (nw := true) rfl trivial (by omega) rfl rfl ?_) | refine WL.guardT rfl rfl rfl rfl (OP.decF (nw := true) rfl trivial (by omega) rfl rfl ?_) | (first
    | refine WC.seq ?_ | refine WC.region ?_ | refine WL.nil ?_ | with_reducible refine seqK.go ?_ | refine WC.block ?_ | refine WC.skip ?_ | refine WC.exit ?_ | refine WC.ret ?_
    | with_reducible refine seqK.exit ?_ | with_reducible refine seqK.ret ?_ | (with_reducible refine blockK.hit ?hb ?_; (case hb => rfl)) | (with_reducible refine blockK.miss ?hb ?_; (case hb => rfl)) | with_reducible refine blockK.normal ?_ | with_reducible refine blockK.ret ?_ | with_reducible refine loopK.exit ?_ | with_reducible refine loopK.ret ?_
    | refine WC.condT rfl ?_ | refine WC.condF rfl ?_
    | refine WL.step rfl (OP.pure (nw := true) rfl (by first | exact trivial | (simp only [Holds]; omega) | (simp [Holds]; done) | (simp [Holds]; omega)) rfl rfl ?_)
    | refine WL.step rfl (OP.pure (nw := false) rfl (by first | exact trivial | (simp only [Holds]; omega) | (simp [Holds]; done) | (simp [Holds]; omega)) rfl rfl ?_)
    | refine WL.step rfl (OP.pickT rfl rfl rfl rfl rfl ?_) | refine WL.step rfl (OP.pickF rfl rfl rfl rfl rfl ?_) | refine WL.guardT rfl rfl rfl rfl (OP.pickT rfl rfl rfl rfl rfl ?_) | refine WL.guardT rfl rfl rfl rfl (OP.pickF rfl rfl rfl rfl rfl ?_)
    | refine WL.guardT rfl rfl rfl rfl (OP.pure (nw := true) rfl (by first | exact trivial | (simp only [Holds]; omega) | (simp [Holds]; done) | (simp [Holds]; omega)) rfl rfl ?_)
    | refine WL.guardT rfl rfl rfl rfl (OP.pure (nw := false) rfl trivial rfl rfl ?_)
    | refine WL.guardT rfl rfl rfl rfl (OP.loadN rfl rfl rfl rfl (by repeat (first | exact HasNth.here rfl | apply HasNth.there)) rfl rfl ?_)
    | refine WL.guardT rfl rfl rfl rfl (OP.loadB rfl rfl rfl rfl rfl (by repeat (first | exact HasCut.here rfl | apply HasCut.there)) rfl rfl ?_)
    | refine WL.guardF rfl rfl rfl rfl rfl rfl ?_
    | refine WL.guarded (nw := true) rfl rfl rfl rfl rfl rfl rfl (by first | exact trivial | (simp only [Holds]; omega) | (simp [Holds]; done) | (simp [Holds]; omega)) ?_
    | refine WL.step rfl (OP.loadN rfl rfl rfl rfl (by repeat (first | exact HasNth.here rfl | apply HasNth.there)) rfl rfl ?_)
    | refine WL.step rfl (OP.loadB rfl rfl rfl rfl rfl (by repeat (first | exact HasCut.here rfl | apply HasCut.there)) rfl rfl ?_)
    | refine WL.step rfl (OP.store rfl rfl rfl rfl rfl rfl rfl (by repeat (first | exact UpdM.here rfl | apply UpdM.there)) rfl ?_)
    | refine WL.step rfl (OP.alloc rfl rfl rfl rfl rfl (fun _ => ?_))
    | refine WL.step rfl (OP.box rfl rfl rfl rfl rfl (fun _ => ?_))
    | refine WL.step rfl (OP.buildT rfl rfl rfl rfl ?_)
    | refine WL.step rfl (OP.sliceLit rfl rfl rfl rfl rfl rfl rfl rfl (fun _ => ?_))))
      refine WL.fact (Ent.ownLe (a := ax) (n := chx.length) (cap := capx) (T := 78) (size := 3) (cs := encL chx) (by repeat (first | exact List.Mem.head _ | apply List.Mem.tail))) (fun hcx => ?_)
      refine WL.step rfl (OP.callRT rfl rfl (at_ok p ax capx f chx mark hfl hvx hcx (by omega)) (hR (by repeat (first | exact List.Mem.head _ | apply List.Mem.tail)) (by repeat (first | exact List.Mem.head _ | apply List.Mem.tail))) rfl rfl ?_)
      rintro v E ⟨a3, c4, rfl, rfl⟩
      have hlA := listM_len (after f (ch.take (cnt mark ch)))
      have hlB := listM_len (after f (chx.take (cnt mark chx)))
      rw [after_length] at hlA hlB
      by_cases hlow : mark < om ∨ mark < lastM ch
      · have hs : listM (after f (ch.take (cnt mark ch))) = listM (after f (chx.take (cnt mark chx))) := congrArg listM (stays_low honex hlow).symm
        by_cases h1 : mark < om
        · repeat (first | refine WL.step rfl (OP.decT (nw := true) rfl trivial (by omega) rfl rfl ?_) | refine WL.step rfl (OP.decF (nw := true) rfl trivial (by omega) rfl rfl ?_) | refine WL.step rfl (OP.decNT (nw := true) rfl trivial (by omega) rfl rfl ?_) | refine WL.step rfl (OP.decNF (nw := true) rfl trivial (by omega) rfl rfl ?_) | refine WL.guardT rfl rfl rfl rfl (OP.decT (nw := true) rfl trivial (by omega) rfl rfl ?_) | refine WL.guardT rfl rfl rfl rfl (OP.decF (nw := true) rfl trivial (by omega) rfl rfl ?_) | (first
    | refine WC.seq ?_ | refine WC.region ?_ | refine WL.nil ?_ | with_reducible refine seqK.go ?_ | refine WC.block ?_ | refine WC.skip ?_ | refine WC.exit ?_ | refine WC.ret ?_
    | with_reducible refine seqK.exit ?_ | with_reducible refine seqK.ret ?_ | (with_reducible refine blockK.hit ?hb ?_; (case hb => rfl)) | (with_reducible refine blockK.miss ?hb ?_; (case hb => rfl)) | with_reducible refine blockK.normal ?_ | with_reducible refine blockK.ret ?_ | with_reducible refine loopK.exit ?_ | with_reducible refine loopK.ret ?_
    | refine WC.condT rfl ?_ | refine WC.condF rfl ?_
    | refine WL.step rfl (OP.pure (nw := true) rfl (by first | exact trivial | (simp only [Holds]; omega) | (simp [Holds]; done) | (simp [Holds]; omega)) rfl rfl ?_)
    | refine WL.step rfl (OP.pure (nw := false) rfl (by first | exact trivial | (simp only [Holds]; omega) | (simp [Holds]; done) | (simp [Holds]; omega)) rfl rfl ?_)
    | refine WL.step rfl (OP.pickT rfl rfl rfl rfl rfl ?_) | refine WL.step rfl (OP.pickF rfl rfl rfl rfl rfl ?_) | refine WL.guardT rfl rfl rfl rfl (OP.pickT rfl rfl rfl rfl rfl ?_) | refine WL.guardT rfl rfl rfl rfl (OP.pickF rfl rfl rfl rfl rfl ?_)
    | refine WL.guardT rfl rfl rfl rfl (OP.pure (nw := true) rfl (by first | exact trivial | (simp only [Holds]; omega) | (simp [Holds]; done) | (simp [Holds]; omega)) rfl rfl ?_)
    | refine WL.guardT rfl rfl rfl rfl (OP.pure (nw := false) rfl trivial rfl rfl ?_)
    | refine WL.guardT rfl rfl rfl rfl (OP.loadN rfl rfl rfl rfl (by repeat (first | exact HasNth.here rfl | apply HasNth.there)) rfl rfl ?_)
    | refine WL.guardT rfl rfl rfl rfl (OP.loadB rfl rfl rfl rfl rfl (by repeat (first | exact HasCut.here rfl | apply HasCut.there)) rfl rfl ?_)
    | refine WL.guardF rfl rfl rfl rfl rfl rfl ?_
    | refine WL.guarded (nw := true) rfl rfl rfl rfl rfl rfl rfl (by first | exact trivial | (simp only [Holds]; omega) | (simp [Holds]; done) | (simp [Holds]; omega)) ?_
    | refine WL.step rfl (OP.loadN rfl rfl rfl rfl (by repeat (first | exact HasNth.here rfl | apply HasNth.there)) rfl rfl ?_)
    | refine WL.step rfl (OP.loadB rfl rfl rfl rfl rfl (by repeat (first | exact HasCut.here rfl | apply HasCut.there)) rfl rfl ?_)
    | refine WL.step rfl (OP.store rfl rfl rfl rfl rfl rfl rfl (by repeat (first | exact UpdM.here rfl | apply UpdM.there)) rfl ?_)
    | refine WL.step rfl (OP.alloc rfl rfl rfl rfl rfl (fun _ => ?_))
    | refine WL.step rfl (OP.box rfl rfl rfl rfl rfl (fun _ => ?_))
    | refine WL.step rfl (OP.buildT rfl rfl rfl rfl ?_)
    | refine WL.step rfl (OP.sliceLit rfl rfl rfl rfl rfl rfl rfl rfl (fun _ => ?_))))
          refine WL.step rfl (OP.callRO rfl rfl (same_ro _ _ _ _ _ _ (listM (after f (ch.take (cnt mark ch)))) (listM (after f (chx.take (cnt mark chx)))) rfl rfl (by omega) (by omega)) (Ent.and (Ent.own (by repeat (first | exact List.Mem.head _ | apply List.Mem.tail))) (Ent.own (by repeat (first | exact List.Mem.head _ | apply List.Mem.tail)))) rfl rfl ?_)
          repeat (first | refine WL.step rfl (OP.decT (nw := true) rfl trivial (by omega) rfl rfl ?_) | refine WL.step rfl (OP.decF (nw := true) rfl trivial (by omega) rfl rfl ?_) | refine WL.step rfl (OP.decNT (nw := true) rfl trivial (by omega) rfl rfl ?_) | refine WL.step rfl (OP.decNF (nw := true) rfl trivial (by omega) rfl rfl ?_) | refine WL.guardT rfl rfl rfl rfl (OP.decT (nw := true) rfl trivial (by omega) rfl rfl ?_) | refine WL.guardT rfl rfl rfl rfl (OP.decF (nw := true) rfl trivial (by omega) rfl rfl ?_) | (first
    | refine WC.seq ?_ | refine WC.region ?_ | refine WL.nil ?_ | with_reducible refine seqK.go ?_ | refine WC.block ?_ | refine WC.skip ?_ | refine WC.exit ?_ | refine WC.ret ?_
    | with_reducible refine seqK.exit ?_ | with_reducible refine seqK.ret ?_ | (with_reducible refine blockK.hit ?hb ?_; (case hb => rfl)) | (with_reducible refine blockK.miss ?hb ?_; (case hb => rfl)) | with_reducible refine blockK.normal ?_ | with_reducible refine blockK.ret ?_ | with_reducible refine loopK.exit ?_ | with_reducible refine loopK.ret ?_
    | refine WC.condT rfl ?_ | refine WC.condF rfl ?_
    | refine WL.step rfl (OP.pure (nw := true) rfl (by first | exact trivial | (simp only [Holds]; omega) | (simp [Holds]; done) | (simp [Holds]; omega)) rfl rfl ?_)
    | refine WL.step rfl (OP.pure (nw := false) rfl (by first | exact trivial | (simp only [Holds]; omega) | (simp [Holds]; done) | (simp [Holds]; omega)) rfl rfl ?_)
    | refine WL.step rfl (OP.pickT rfl rfl rfl rfl rfl ?_) | refine WL.step rfl (OP.pickF rfl rfl rfl rfl rfl ?_) | refine WL.guardT rfl rfl rfl rfl (OP.pickT rfl rfl rfl rfl rfl ?_) | refine WL.guardT rfl rfl rfl rfl (OP.pickF rfl rfl rfl rfl rfl ?_)
    | refine WL.guardT rfl rfl rfl rfl (OP.pure (nw := true) rfl (by first | exact trivial | (simp only [Holds]; omega) | (simp [Holds]; done) | (simp [Holds]; omega)) rfl rfl ?_)
    | refine WL.guardT rfl rfl rfl rfl (OP.pure (nw := false) rfl trivial rfl rfl ?_)
    | refine WL.guardT rfl rfl rfl rfl (OP.loadN rfl rfl rfl rfl (by repeat (first | exact HasNth.here rfl | apply HasNth.there)) rfl rfl ?_)
    | refine WL.guardT rfl rfl rfl rfl (OP.loadB rfl rfl rfl rfl rfl (by repeat (first | exact HasCut.here rfl | apply HasCut.there)) rfl rfl ?_)
    | refine WL.guardF rfl rfl rfl rfl rfl rfl ?_
    | refine WL.guarded (nw := true) rfl rfl rfl rfl rfl rfl rfl (by first | exact trivial | (simp only [Holds]; omega) | (simp [Holds]; done) | (simp [Holds]; omega)) ?_
    | refine WL.step rfl (OP.loadN rfl rfl rfl rfl (by repeat (first | exact HasNth.here rfl | apply HasNth.there)) rfl rfl ?_)
    | refine WL.step rfl (OP.loadB rfl rfl rfl rfl rfl (by repeat (first | exact HasCut.here rfl | apply HasCut.there)) rfl rfl ?_)
    | refine WL.step rfl (OP.store rfl rfl rfl rfl rfl rfl rfl (by repeat (first | exact UpdM.here rfl | apply UpdM.there)) rfl ?_)
    | refine WL.step rfl (OP.alloc rfl rfl rfl rfl rfl (fun _ => ?_))
    | refine WL.step rfl (OP.box rfl rfl rfl rfl rfl (fun _ => ?_))
    | refine WL.step rfl (OP.buildT rfl rfl rfl rfl ?_)
    | refine WL.step rfl (OP.sliceLit rfl rfl rfl rfl rfl rfl rfl rfl (fun _ => ?_))))
          exact ret1 rfl ⟨by simp, (by repeat (first | exact List.Mem.head _ | apply List.Mem.tail))⟩
        · have h2 : mark < lastM ch := by omega
          repeat (first | refine WL.step rfl (OP.decT (nw := true) rfl trivial (by omega) rfl rfl ?_) | refine WL.step rfl (OP.decF (nw := true) rfl trivial (by omega) rfl rfl ?_) | refine WL.step rfl (OP.decNT (nw := true) rfl trivial (by omega) rfl rfl ?_) | refine WL.step rfl (OP.decNF (nw := true) rfl trivial (by omega) rfl rfl ?_) | refine WL.guardT rfl rfl rfl rfl (OP.decT (nw := true) rfl trivial (by omega) rfl rfl ?_) | refine WL.guardT rfl rfl rfl rfl (OP.decF (nw := true) rfl trivial (by omega) rfl rfl ?_) | (first
    | refine WC.seq ?_ | refine WC.region ?_ | refine WL.nil ?_ | with_reducible refine seqK.go ?_ | refine WC.block ?_ | refine WC.skip ?_ | refine WC.exit ?_ | refine WC.ret ?_
    | with_reducible refine seqK.exit ?_ | with_reducible refine seqK.ret ?_ | (with_reducible refine blockK.hit ?hb ?_; (case hb => rfl)) | (with_reducible refine blockK.miss ?hb ?_; (case hb => rfl)) | with_reducible refine blockK.normal ?_ | with_reducible refine blockK.ret ?_ | with_reducible refine loopK.exit ?_ | with_reducible refine loopK.ret ?_
    | refine WC.condT rfl ?_ | refine WC.condF rfl ?_
    | refine WL.step rfl (OP.pure (nw := true) rfl (by first | exact trivial | (simp only [Holds]; omega) | (simp [Holds]; done) | (simp [Holds]; omega)) rfl rfl ?_)
    | refine WL.step rfl (OP.pure (nw := false) rfl (by first | exact trivial | (simp only [Holds]; omega) | (simp [Holds]; done) | (simp [Holds]; omega)) rfl rfl ?_)
    | refine WL.step rfl (OP.pickT rfl rfl rfl rfl rfl ?_) | refine WL.step rfl (OP.pickF rfl rfl rfl rfl rfl ?_) | refine WL.guardT rfl rfl rfl rfl (OP.pickT rfl rfl rfl rfl rfl ?_) | refine WL.guardT rfl rfl rfl rfl (OP.pickF rfl rfl rfl rfl rfl ?_)
    | refine WL.guardT rfl rfl rfl rfl (OP.pure (nw := true) rfl (by first | exact trivial | (simp only [Holds]; omega) | (simp [Holds]; done) | (simp [Holds]; omega)) rfl rfl ?_)
    | refine WL.guardT rfl rfl rfl rfl (OP.pure (nw := false) rfl trivial rfl rfl ?_)
    | refine WL.guardT rfl rfl rfl rfl (OP.loadN rfl rfl rfl rfl (by repeat (first | exact HasNth.here rfl | apply HasNth.there)) rfl rfl ?_)
    | refine WL.guardT rfl rfl rfl rfl (OP.loadB rfl rfl rfl rfl rfl (by repeat (first | exact HasCut.here rfl | apply HasCut.there)) rfl rfl ?_)
    | refine WL.guardF rfl rfl rfl rfl rfl rfl ?_
    | refine WL.guarded (nw := true) rfl rfl rfl rfl rfl rfl rfl (by first | exact trivial | (simp only [Holds]; omega) | (simp [Holds]; done) | (simp [Holds]; omega)) ?_
    | refine WL.step rfl (OP.loadN rfl rfl rfl rfl (by repeat (first | exact HasNth.here rfl | apply HasNth.there)) rfl rfl ?_)
    | refine WL.step rfl (OP.loadB rfl rfl rfl rfl rfl (by repeat (first | exact HasCut.here rfl | apply HasCut.there)) rfl rfl ?_)
    | refine WL.step rfl (OP.store rfl rfl rfl rfl rfl rfl rfl (by repeat (first | exact UpdM.here rfl | apply UpdM.there)) rfl ?_)
    | refine WL.step rfl (OP.alloc rfl rfl rfl rfl rfl (fun _ => ?_))
    | refine WL.step rfl (OP.box rfl rfl rfl rfl rfl (fun _ => ?_))
    | refine WL.step rfl (OP.buildT rfl rfl rfl rfl ?_)
    | refine WL.step rfl (OP.sliceLit rfl rfl rfl rfl rfl rfl rfl rfl (fun _ => ?_))))
          refine WL.step rfl (OP.callRO rfl rfl (same_ro _ _ _ _ _ _ (listM (after f (ch.take (cnt mark ch)))) (listM (after f (chx.take (cnt mark chx)))) rfl rfl (by omega) (by omega)) (Ent.and (Ent.own (by repeat (first | exact List.Mem.head _ | apply List.Mem.tail))) (Ent.own (by repeat (first | exact List.Mem.head _ | apply List.Mem.tail)))) rfl rfl ?_)
          repeat (first | refine WL.step rfl (OP.decT (nw := true) rfl trivial (by omega) rfl rfl ?_) | refine WL.step rfl (OP.decF (nw := true) rfl trivial (by omega) rfl rfl ?_) | refine WL.step rfl (OP.decNT (nw := true) rfl trivial (by omega) rfl rfl ?_) | refine WL.step rfl (OP.decNF (nw := true) rfl trivial (by omega) rfl rfl ?_) | refine WL.guardT rfl rfl rfl rfl (OP.decT (nw := true) rfl trivial (by omega) rfl rfl ?_) | refine WL.guardT rfl rfl rfl rfl (OP.decF (nw := true) rfl trivial (by omega) rfl rfl ?_) | (first
    | refine WC.seq ?_ | refine WC.region ?_ | refine WL.nil ?_ | with_reducible refine seqK.go ?_ | refine WC.block ?_ | refine WC.skip ?_ | refine WC.exit ?_ | refine WC.ret ?_
    | with_reducible refine seqK.exit ?_ | with_reducible refine seqK.ret ?_ | (with_reducible refine blockK.hit ?hb ?_; (case hb => rfl)) | (with_reducible refine blockK.miss ?hb ?_; (case hb => rfl)) | with_reducible refine blockK.normal ?_ | with_reducible refine blockK.ret ?_ | with_reducible refine loopK.exit ?_ | with_reducible refine loopK.ret ?_
    | refine WC.condT rfl ?_ | refine WC.condF rfl ?_
    | refine WL.step rfl (OP.pure (nw := true) rfl (by first | exact trivial | (simp only [Holds]; omega) | (simp [Holds]; done) | (simp [Holds]; omega)) rfl rfl ?_)
    | refine WL.step rfl (OP.pure (nw := false) rfl (by first | exact trivial | (simp only [Holds]; omega) | (simp [Holds]; done) | (simp [Holds]; omega)) rfl rfl ?_)
    | refine WL.step rfl (OP.pickT rfl rfl rfl rfl rfl ?_) | refine WL.step rfl (OP.pickF rfl rfl rfl rfl rfl ?_) | refine WL.guardT rfl rfl rfl rfl (OP.pickT rfl rfl rfl rfl rfl ?_) | refine WL.guardT rfl rfl rfl rfl (OP.pickF rfl rfl rfl rfl rfl ?_)
    | refine WL.guardT rfl rfl rfl rfl (OP.pure (nw := true) rfl (by first | exact trivial | (simp only [Holds]; omega) | (simp [Holds]; done) | (simp [Holds]; omega)) rfl rfl ?_)
    | refine WL.guardT rfl rfl rfl rfl (OP.pure (nw := false) rfl trivial rfl rfl ?_)
    | refine WL.guardT rfl rfl rfl rfl (OP.loadN rfl rfl rfl rfl (by repeat (first | exact HasNth.here rfl | apply HasNth.there)) rfl rfl ?_)
    | refine WL.guardT rfl rfl rfl rfl (OP.loadB rfl rfl rfl rfl rfl (by repeat (first | exact HasCut.here rfl | apply HasCut.there)) rfl rfl ?_)
    | refine WL.guardF rfl rfl rfl rfl rfl rfl ?_
    | refine WL.guarded (nw := true) rfl rfl rfl rfl rfl rfl rfl (by first | exact trivial | (simp only [Holds]; omega) | (simp [Holds]; done) | (simp [Holds]; omega)) ?_
    | refine WL.step rfl (OP.loadN rfl rfl rfl rfl (by repeat (first | exact HasNth.here rfl | apply HasNth.there)) rfl rfl ?_)
    | refine WL.step rfl (OP.loadB rfl rfl rfl rfl rfl (by repeat (first | exact HasCut.here rfl | apply HasCut.there)) rfl rfl ?_)
    | refine WL.step rfl (OP.store rfl rfl rfl rfl rfl rfl rfl (by repeat (first | exact UpdM.here rfl | apply UpdM.there)) rfl ?_)
    | refine WL.step rfl (OP.alloc rfl rfl rfl rfl rfl (fun _ => ?_))
    | refine WL.step rfl (OP.box rfl rfl rfl rfl rfl (fun _ => ?_))
    | refine WL.step rfl (OP.buildT rfl rfl rfl rfl ?_)
    | refine WL.step rfl (OP.sliceLit rfl rfl rfl rfl rfl rfl rfl rfl (fun _ => ?_))))
          exact ret1 rfl ⟨by simp, (by repeat (first | exact List.Mem.head _ | apply List.Mem.tail))⟩
      · have h1 : ¬ mark < om := by omega
        have h2 : ¬ mark < lastM ch := by omega
        have hh := stays_high honex hfl hsrt h1 h2
        unfold atM at hh
        repeat (first | refine WL.step rfl (OP.decT (nw := true) rfl trivial (by omega) rfl rfl ?_) | refine WL.step rfl (OP.decF (nw := true) rfl trivial (by omega) rfl rfl ?_) | refine WL.step rfl (OP.decNT (nw := true) rfl trivial (by omega) rfl rfl ?_) | refine WL.step rfl (OP.decNF (nw := true) rfl trivial (by omega) rfl rfl ?_) | refine WL.guardT rfl rfl rfl rfl (OP.decT (nw := true) rfl trivial (by omega) rfl rfl ?_) | refine WL.guardT rfl rfl rfl rfl (OP.decF (nw := true) rfl trivial (by omega) rfl rfl ?_) | (first
    | refine WC.seq ?_ | refine WC.region ?_ | refine WL.nil ?_ | with_reducible refine seqK.go ?_ | refine WC.block ?_ | refine WC.skip ?_ | refine WC.exit ?_ | refine WC.ret ?_
    | with_reducible refine seqK.exit ?_ | with_reducible refine seqK.ret ?_ | (with_reducible refine blockK.hit ?hb ?_; (case hb => rfl)) | (with_reducible refine blockK.miss ?hb ?_; (case hb => rfl)) | with_reducible refine blockK.normal ?_ | with_reducible refine blockK.ret ?_ | with_reducible refine loopK.exit ?_ | with_reducible refine loopK.ret ?_
    | refine WC.condT rfl ?_ | refine WC.condF rfl ?_
    | refine WL.step rfl (OP.pure (nw := true) rfl (by first | exact trivial | (simp only [Holds]; omega) | (simp [Holds]; done) | (simp [Holds]; omega)) rfl rfl ?_)
    | refine WL.step rfl (OP.pure (nw := false) rfl (by first | exact trivial | (simp only [Holds]; omega) | (simp [Holds]; done) | (simp [Holds]; omega)) rfl rfl ?_)
    | refine WL.step rfl (OP.pickT rfl rfl rfl rfl rfl ?_) | refine WL.step rfl (OP.pickF rfl rfl rfl rfl rfl ?_) | refine WL.guardT rfl rfl rfl rfl (OP.pickT rfl rfl rfl rfl rfl ?_) | refine WL.guardT rfl rfl rfl rfl (OP.pickF rfl rfl rfl rfl rfl ?_)
    | refine WL.guardT rfl rfl rfl rfl (OP.pure (nw := true) rfl (by first | exact trivial | (simp only [Holds]; omega) | (simp [Holds]; done) | (simp [Holds]; omega)) rfl rfl ?_)
    | refine WL.guardT rfl rfl rfl rfl (OP.pure (nw := false) rfl trivial rfl rfl ?_)
    | refine WL.guardT rfl rfl rfl rfl (OP.loadN rfl rfl rfl rfl (by repeat (first | exact HasNth.here rfl | apply HasNth.there)) rfl rfl ?_)
    | refine WL.guardT rfl rfl rfl rfl (OP.loadB rfl rfl rfl rfl rfl (by repeat (first | exact HasCut.here rfl | apply HasCut.there)) rfl rfl ?_)
    | refine WL.guardF rfl rfl rfl rfl rfl rfl ?_
    | refine WL.guarded (nw := true) rfl rfl rfl rfl rfl rfl rfl (by first | exact trivial | (simp only [Holds]; omega) | (simp [Holds]; done) | (simp [Holds]; omega)) ?_
    | refine WL.step rfl (OP.loadN rfl rfl rfl rfl (by repeat (first | exact HasNth.here rfl | apply HasNth.there)) rfl rfl ?_)
    | refine WL.step rfl (OP.loadB rfl rfl rfl rfl rfl (by repeat (first | exact HasCut.here rfl | apply HasCut.there)) rfl rfl ?_)
    | refine WL.step rfl (OP.store rfl rfl rfl rfl rfl rfl rfl (by repeat (first | exact UpdM.here rfl | apply UpdM.there)) rfl ?_)
    | refine WL.step rfl (OP.alloc rfl rfl rfl rfl rfl (fun _ => ?_))
    | refine WL.step rfl (OP.box rfl rfl rfl rfl rfl (fun _ => ?_))
    | refine WL.step rfl (OP.buildT rfl rfl rfl rfl ?_)
    | refine WL.step rfl (OP.sliceLit rfl rfl rfl rfl rfl rfl rfl rfl (fun _ => ?_))))
        refine WL.guardT rfl rfl rfl rfl (OP.callRO rfl rfl (same_ro _ _ _ _ _ _ (listM (after f (chx.take (cnt mark chx)))) (listM (after f (ch.take (cnt mark ch)))) rfl rfl (by omega) (by omega)) (Ent.and (Ent.own (by repeat (first | exact List.Mem.head _ | apply List.Mem.tail))) (Ent.own (by repeat (first | exact List.Mem.head _ | apply List.Mem.tail)))) rfl rfl ?_)
        repeat (first | refine WL.step rfl (OP.decT (nw := true) rfl trivial (by omega) rfl rfl ?_) | refine WL.step rfl (OP.decF (nw := true) rfl trivial (by omega) rfl rfl ?_) | refine WL.step rfl (OP.decNT (nw := true) rfl trivial (by omega) rfl rfl ?_) | refine WL.step rfl (OP.decNF (nw := true) rfl trivial (by omega) rfl rfl ?_) | refine WL.guardT rfl rfl rfl rfl (OP.decT (nw := true) rfl trivial (by omega) rfl rfl ?_) | refine WL.guardT rfl rfl rfl rfl (OP.decF (nw := true) rfl trivial (by omega) rfl rfl ?_) | (first
    | refine WC.seq ?_ | refine WC.region ?_ | refine WL.nil ?_ | with_reducible refine seqK.go ?_ | refine WC.block ?_ | refine WC.skip ?_ | refine WC.exit ?_ | refine WC.ret ?_
    | with_reducible refine seqK.exit ?_ | with_reducible refine seqK.ret ?_ | (with_reducible refine blockK.hit ?hb ?_; (case hb => rfl)) | (with_reducible refine blockK.miss ?hb ?_; (case hb => rfl)) | with_reducible refine blockK.normal ?_ | with_reducible refine blockK.ret ?_ | with_reducible refine loopK.exit ?_ | with_reducible refine loopK.ret ?_
    | refine WC.condT rfl ?_ | refine WC.condF rfl ?_
    | refine WL.step rfl (OP.pure (nw := true) rfl (by first | exact trivial | (simp only [Holds]; omega) | (simp [Holds]; done) | (simp [Holds]; omega)) rfl rfl ?_)
    | refine WL.step rfl (OP.pure (nw := false) rfl (by first | exact trivial | (simp only [Holds]; omega) | (simp [Holds]; done) | (simp [Holds]; omega)) rfl rfl ?_)
    | refine WL.step rfl (OP.pickT rfl rfl rfl rfl rfl ?_) | refine WL.step rfl (OP.pickF rfl rfl rfl rfl rfl ?_) | refine WL.guardT rfl rfl rfl rfl (OP.pickT rfl rfl rfl rfl rfl ?_) | refine WL.guardT rfl rfl rfl rfl (OP.pickF rfl rfl rfl rfl rfl ?_)
    | refine WL.guardT rfl rfl rfl rfl (OP.pure (nw := true) rfl (by first | exact trivial | (simp only [Holds]; omega) | (simp [Holds]; done) | (simp [Holds]; omega)) rfl rfl ?_)
    | refine WL.guardT rfl rfl rfl rfl (OP.pure (nw := false) rfl trivial rfl rfl ?_)
    | refine WL.guardT rfl rfl rfl rfl (OP.loadN rfl rfl rfl rfl (by repeat (first | exact HasNth.here rfl | apply HasNth.there)) rfl rfl ?_)
    | refine WL.guardT rfl rfl rfl rfl (OP.loadB rfl rfl rfl rfl rfl (by repeat (first | exact HasCut.here rfl | apply HasCut.there)) rfl rfl ?_)
    | refine WL.guardF rfl rfl rfl rfl rfl rfl ?_
    | refine WL.guarded (nw := true) rfl rfl rfl rfl rfl rfl rfl (by first | exact trivial | (simp only [Holds]; omega) | (simp [Holds]; done) | (simp [Holds]; omega)) ?_
    | refine WL.step rfl (OP.loadN rfl rfl rfl rfl (by repeat (first | exact HasNth.here rfl | apply HasNth.there)) rfl rfl ?_)
    | refine WL.step rfl (OP.loadB rfl rfl rfl rfl rfl (by repeat (first | exact HasCut.here rfl | apply HasCut.there)) rfl rfl ?_)
    | refine WL.step rfl (OP.store rfl rfl rfl rfl rfl rfl rfl (by repeat (first | exact UpdM.here rfl | apply UpdM.there)) rfl ?_)
    | refine WL.step rfl (OP.alloc rfl rfl rfl rfl rfl (fun _ => ?_))
    | refine WL.step rfl (OP.box rfl rfl rfl rfl rfl (fun _ => ?_))
    | refine WL.step rfl (OP.buildT rfl rfl rfl rfl ?_)
    | refine WL.step rfl (OP.sliceLit rfl rfl rfl rfl rfl rfl rfl rfl (fun _ => ?_))))
        exact ret1 rfl ⟨by simp [hsame], (by repeat (first | exact List.Mem.head _ | apply List.Mem.tail))⟩
end Go.Proofs.Ytkoakmaihcheaaa
