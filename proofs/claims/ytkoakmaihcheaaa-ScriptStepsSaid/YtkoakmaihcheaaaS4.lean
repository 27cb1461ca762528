/- Contracts of functions of the given program, and plain laws on what they compute: parts of the proofs of laws. -/
import Derived.Test.YtkoakmaihcheaaaS3

namespace Go.Proofs.Ytkoakmaihcheaaa
open Go Go.GL

theorem one_len (s : RS) : (one s).2.1.length ≤ s.1.length := by
  obtain ⟨l, o⟩ := s
  cases l <;> simp [one]
theorem dataM_len (s : RS) : (dataM s).2.1.length ≤ s.1.length := by
  have := one_len s
  unfold dataM
  split
  · exact this
  · simp only [List.length_drop]; omega
theorem stepM_len (k p : Int) (s : RS) : (stepM k p s).2.1.length ≤ s.1.length := by
  have h1 := one_len s
  have h2 := one_len (one s).2
  have h3 := dataM_len (one (one s).2).2
  unfold stepM
  repeat (split; · dsimp only; omega)
  exact Nat.le_refl _
/-- the steps of bytes -/
def decM (acc : List St) (l : List UInt8) : List St :=
  match l with
  | [] => acc
  | c :: t => if (c.toNat : Int) < 1 ∨ 17 < (c.toNat : Int) then decM acc t
    else if (stepM c.toNat acc.length (t, false)).2.2 = true then acc
    else decM (acc ++ [(stepM c.toNat acc.length (t, false)).1]) (stepM c.toNat acc.length (t, false)).2.1
termination_by l.length
decreasing_by
  · simp
  · have := stepM_len c.toNat acc.length (t, false); simp only [List.length_cons]; dsimp only at this; omega
theorem decM_nil (acc : List St) : decM acc [] = acc := by rw [decM]
theorem decM_cons (acc : List St) (c : UInt8) (t : List UInt8) : decM acc (c :: t) = if (c.toNat : Int) < 1 ∨ 17 < (c.toNat : Int) then decM acc t
    else if (stepM c.toNat acc.length (t, false)).2.2 = true then acc
    else decM (acc ++ [(stepM c.toNat acc.length (t, false)).1]) (stepM c.toNat acc.length (t, false)).2.1 := by rw [decM]
def StepsOf (T : TypeId) (l : List St) (v : Value) (E : List Assn) : Prop := ∃ a cap, v = .slice a l.length cap ∧ E = [ownS a l.length cap T 7 (l.flatMap encSt)]
theorem encSt_all (x : St) : allOne (encSt x) = true := rfl

set_option maxHeartbeats 4000000 in
set_option maxRecDepth 10000 in
theorem decode_ok (a : Option Addr) (n c : Nat) (l : List UInt8) (hn : n = l.length) (hc : n ≤ c) (hs : n < 1000000) :
    RT G 10 [.slice a n c] (readS a n 1 (l.map byteV)) (StepsOf 31 (decM [] ((l.take 1024).drop 1))) := by
  refine RT.enter Try.func10 rfl (by decide) rfl Try.ntmps10 rfl (fun A hu hA => ?_)
  repeat (first
    | refine WC.seq ?_ | refine WC.region ?_ | refine WL.nil ?_ | with_reducible refine seqK.go ?_ | refine WC.block ?_ | refine WC.skip ?_ | refine WC.exit ?_ | refine WC.ret ?_
    | with_reducible refine seqK.exit ?_ | with_reducible refine seqK.ret ?_ | (with_reducible refine blockK.hit ?hb ?_; (case hb => rfl)) | (with_reducible refine blockK.miss ?hb ?_; (case hb => rfl)) | with_reducible refine blockK.normal ?_ | with_reducible refine blockK.ret ?_ | with_reducible refine loopK.exit ?_ | with_reducible refine loopK.ret ?_
    | refine WC.condT rfl ?_ | refine WC.condF rfl ?_
    | refine WL.step rfl (OP.pure (nw := true) rfl (by first | exact trivial | (simp only [Holds]; omega) | (simp [Holds]; done) | (simp [Holds]; omega)) rfl rfl ?_)
    | refine WL.step rfl (OP.pure (nw := false) rfl (by first | exact trivial | (simp only [Holds]; omega) | (simp [Holds]; done) | (simp [Holds]; omega)) rfl rfl ?_)
    | refine WL.step rfl (OP.pickT rfl rfl rfl rfl rfl ?_) | refine WL.step rfl (OP.pickF rfl rfl rfl rfl rfl ?_) | refine WL.guardT rfl rfl rfl rfl (OP.pickT rfl rfl rfl rfl rfl ?_) | refine WL.guardT rfl rfl rfl rfl (OP.pickF rfl rfl rfl rfl rfl ?_)
    | refine WL.guardT rfl rfl rfl rfl (OP.pure (nw := true) rfl (by first | exact trivial | (simp only [Holds]; omega) | (simp [Holds]; done) | (simp [Holds]; omega)) rfl rfl ?_)
    | refine WL.guardT rfl rfl rfl rfl (OP.pure (nw := false) rfl trivial rfl rfl ?_)
    | refine WL.guardT rfl rfl rfl rfl (OP.loadN rfl rfl rfl rfl (by repeat (first | exact HasNth.here rfl | apply HasNth.there)) rfl rfl ?_)
    | refine WL.guardT rfl rfl rfl rfl (OP.loadB rfl rfl rfl rfl rfl (by repeat (first | exact HasCut.here rfl | apply HasCut.there)) rfl rfl ?_)
    | refine WL.guardF rfl rfl rfl rfl rfl rfl ?_
    | refine WL.guarded (nw := true) rfl rfl rfl rfl rfl rfl rfl (by first | exact trivial | (simp only [Holds]; omega) | (simp [Holds]; done) | (simp [Holds]; omega)) ?_
    | refine WL.step rfl (OP.loadN rfl rfl rfl rfl (by repeat (first | exact HasNth.here rfl | apply HasNth.there)) rfl rfl ?_)
    | refine WL.step rfl (OP.loadB rfl rfl rfl rfl rfl (by repeat (first | exact HasCut.here rfl | apply HasCut.there)) rfl rfl ?_)
    | refine WL.step rfl (OP.store rfl rfl rfl rfl rfl rfl rfl (by repeat (first | exact UpdM.here rfl | apply UpdM.there)) rfl ?_)
    | refine WL.step rfl (OP.alloc rfl rfl rfl rfl rfl (fun _ => ?_))
    | refine WL.step rfl (OP.box rfl rfl rfl rfl rfl (fun _ => ?_))
    | refine WL.step rfl (OP.buildT rfl rfl rfl rfl ?_)
    | refine WL.step rfl (OP.sliceLit rfl rfl rfl rfl rfl rfl rfl rfl (fun _ => ?_)))
  have hmin : (if (1024 : Int) < (n : Int) then (1024 : Int) else (n : Int)) = ((min n 1024 : Nat) : Int) := by split <;> omega
  rw [hmin]
  repeat (first
    | refine WC.seq ?_ | refine WC.region ?_ | refine WL.nil ?_ | with_reducible refine seqK.go ?_ | refine WC.block ?_ | refine WC.skip ?_ | refine WC.exit ?_ | refine WC.ret ?_
    | with_reducible refine seqK.exit ?_ | with_reducible refine seqK.ret ?_ | (with_reducible refine blockK.hit ?hb ?_; (case hb => rfl)) | (with_reducible refine blockK.miss ?hb ?_; (case hb => rfl)) | with_reducible refine blockK.normal ?_ | with_reducible refine blockK.ret ?_ | with_reducible refine loopK.exit ?_ | with_reducible refine loopK.ret ?_
    | refine WC.condT rfl ?_ | refine WC.condF rfl ?_
    | refine WL.step rfl (OP.pure (nw := true) rfl (by first | exact trivial | (simp only [Holds]; omega) | (simp [Holds]; done) | (simp [Holds]; omega)) rfl rfl ?_)
    | refine WL.step rfl (OP.pure (nw := false) rfl (by first | exact trivial | (simp only [Holds]; omega) | (simp [Holds]; done) | (simp [Holds]; omega)) rfl rfl ?_)
    | refine WL.step rfl (OP.pickT rfl rfl rfl rfl rfl ?_) | refine WL.step rfl (OP.pickF rfl rfl rfl rfl rfl ?_) | refine WL.guardT rfl rfl rfl rfl (OP.pickT rfl rfl rfl rfl rfl ?_) | refine WL.guardT rfl rfl rfl rfl (OP.pickF rfl rfl rfl rfl rfl ?_)
    | refine WL.guardT rfl rfl rfl rfl (OP.pure (nw := true) rfl (by first | exact trivial | (simp only [Holds]; omega) | (simp [Holds]; done) | (simp [Holds]; omega)) rfl rfl ?_)
    | refine WL.guardT rfl rfl rfl rfl (OP.pure (nw := false) rfl trivial rfl rfl ?_)
    | refine WL.guardT rfl rfl rfl rfl (OP.loadN rfl rfl rfl rfl (by repeat (first | exact HasNth.here rfl | apply HasNth.there)) rfl rfl ?_)
    | refine WL.guardT rfl rfl rfl rfl (OP.loadB rfl rfl rfl rfl rfl (by repeat (first | exact HasCut.here rfl | apply HasCut.there)) rfl rfl ?_)
    | refine WL.guardF rfl rfl rfl rfl rfl rfl ?_
    | refine WL.guarded (nw := true) rfl rfl rfl rfl rfl rfl rfl (by first | exact trivial | (simp only [Holds]; omega) | (simp [Holds]; done) | (simp [Holds]; omega)) ?_
    | refine WL.step rfl (OP.loadN rfl rfl rfl rfl (by repeat (first | exact HasNth.here rfl | apply HasNth.there)) rfl rfl ?_)
    | refine WL.step rfl (OP.loadB rfl rfl rfl rfl rfl (by repeat (first | exact HasCut.here rfl | apply HasCut.there)) rfl rfl ?_)
    | refine WL.step rfl (OP.store rfl rfl rfl rfl rfl rfl rfl (by repeat (first | exact UpdM.here rfl | apply UpdM.there)) rfl ?_)
    | refine WL.step rfl (OP.alloc rfl rfl rfl rfl rfl (fun _ => ?_))
    | refine WL.step rfl (OP.box rfl rfl rfl rfl rfl (fun _ => ?_))
    | refine WL.step rfl (OP.buildT rfl rfl rfl rfl ?_)
    | refine WL.step rfl (OP.sliceLit rfl rfl rfl rfl rfl rfl rfl rfl (fun _ => ?_)))
  rw [Int.toNat_natCast]
  have hmin2 : (if ((min n 1024 : Nat) : Int) < (1 : Int) then ((min n 1024 : Nat) : Int) else (1 : Int)) = ((min 1 (min n 1024) : Nat) : Int) := by split <;> omega
  rw [hmin2]
  repeat (first
    | refine WC.seq ?_ | refine WC.region ?_ | refine WL.nil ?_ | with_reducible refine seqK.go ?_ | refine WC.block ?_ | refine WC.skip ?_ | refine WC.exit ?_ | refine WC.ret ?_
    | with_reducible refine seqK.exit ?_ | with_reducible refine seqK.ret ?_ | (with_reducible refine blockK.hit ?hb ?_; (case hb => rfl)) | (with_reducible refine blockK.miss ?hb ?_; (case hb => rfl)) | with_reducible refine blockK.normal ?_ | with_reducible refine blockK.ret ?_ | with_reducible refine loopK.exit ?_ | with_reducible refine loopK.ret ?_
    | refine WC.condT rfl ?_ | refine WC.condF rfl ?_
    | refine WL.step rfl (OP.pure (nw := true) rfl (by first | exact trivial | (simp only [Holds]; omega) | (simp [Holds]; done) | (simp [Holds]; omega)) rfl rfl ?_)
    | refine WL.step rfl (OP.pure (nw := false) rfl (by first | exact trivial | (simp only [Holds]; omega) | (simp [Holds]; done) | (simp [Holds]; omega)) rfl rfl ?_)
    | refine WL.step rfl (OP.pickT rfl rfl rfl rfl rfl ?_) | refine WL.step rfl (OP.pickF rfl rfl rfl rfl rfl ?_) | refine WL.guardT rfl rfl rfl rfl (OP.pickT rfl rfl rfl rfl rfl ?_) | refine WL.guardT rfl rfl rfl rfl (OP.pickF rfl rfl rfl rfl rfl ?_)
    | refine WL.guardT rfl rfl rfl rfl (OP.pure (nw := true) rfl (by first | exact trivial | (simp only [Holds]; omega) | (simp [Holds]; done) | (simp [Holds]; omega)) rfl rfl ?_)
    | refine WL.guardT rfl rfl rfl rfl (OP.pure (nw := false) rfl trivial rfl rfl ?_)
    | refine WL.guardT rfl rfl rfl rfl (OP.loadN rfl rfl rfl rfl (by repeat (first | exact HasNth.here rfl | apply HasNth.there)) rfl rfl ?_)
    | refine WL.guardT rfl rfl rfl rfl (OP.loadB rfl rfl rfl rfl rfl (by repeat (first | exact HasCut.here rfl | apply HasCut.there)) rfl rfl ?_)
    | refine WL.guardF rfl rfl rfl rfl rfl rfl ?_
    | refine WL.guarded (nw := true) rfl rfl rfl rfl rfl rfl rfl (by first | exact trivial | (simp only [Holds]; omega) | (simp [Holds]; done) | (simp [Holds]; omega)) ?_
    | refine WL.step rfl (OP.loadN rfl rfl rfl rfl (by repeat (first | exact HasNth.here rfl | apply HasNth.there)) rfl rfl ?_)
    | refine WL.step rfl (OP.loadB rfl rfl rfl rfl rfl (by repeat (first | exact HasCut.here rfl | apply HasCut.there)) rfl rfl ?_)
    | refine WL.step rfl (OP.store rfl rfl rfl rfl rfl rfl rfl (by repeat (first | exact UpdM.here rfl | apply UpdM.there)) rfl ?_)
    | refine WL.step rfl (OP.alloc rfl rfl rfl rfl rfl (fun _ => ?_))
    | refine WL.step rfl (OP.box rfl rfl rfl rfl rfl (fun _ => ?_))
    | refine WL.step rfl (OP.buildT rfl rfl rfl rfl ?_)
    | refine WL.step rfl (OP.sliceLit rfl rfl rfl rfl rfl rfl rfl rfl (fun _ => ?_)))
  rename_i r
  rw [Int.toNat_natCast]
  refine WC.imp (Imp.nilS 31 7) ?_
  refine WC.loop (σ := Value × Nat × Option Addr × Nat × List St × List UInt8) (fun s => Bytes A s.2.2.2.2.2 s.1 ∧ s.2.1 = s.2.2.2.2.1.length ∧ decM s.2.2.2.2.1 s.2.2.2.2.2 = decM [] ((l.take 1024).drop 1) ∧ s.2.1 + s.2.2.2.2.2.length ≤ 1024)
    (fun s => [(3, .val (.pointer (some ⟨r, 0, none⟩))), (4, .val (.slice s.2.2.1 s.2.1 s.2.2.2.1))])
    (fun s => [blk r [s.1, .bool false] 63, ownS s.2.2.1 s.2.1 s.2.2.2.1 31 7 (s.2.2.2.2.1.flatMap encSt), A]) (fun s => s.2.2.2.2.2.length)
    (.slice (cutA a c (min 1 (min n 1024)) 1) (min n 1024 - min 1 (min n 1024)) (c - min 1 (min n 1024)), 0, none, 0, [], (l.take 1024).drop 1) ⟨?_, rfl, rfl, ?_⟩ ⟨rfl, rfl, trivial⟩ (Imp.sub (by repeat (first | exact Picks.nil _ | apply Picks.cons | exact Pick.here _ _ | apply Pick.there))) ?_
  · refine ⟨_, _, _, rfl, ?_, ?_, fun h hh => ?_⟩
    · simp only [List.length_drop, List.length_take]; omega
    · omega
    · have h1 := readS_take (m := min n 1024) (hA h hh) (by omega)
      have h2 := readS_cut (i := min 1 (min n 1024)) h1 (by omega) (cap := c) (by omega)
      have e : ((l.map byteV).take (min n 1024 * 1)).drop (min 1 (min n 1024) * 1) = ((l.take 1024).drop 1).map byteV := by
        rw [Nat.mul_one, Nat.mul_one, List.map_drop, List.map_take]
        have e1 : (l.map byteV).take (min n 1024) = (l.map byteV).take 1024 := by
          by_cases hx : n ≤ 1024
          · rw [Nat.min_eq_left hx, List.take_of_length_le (by simp; omega), List.take_of_length_le (by simp; omega)]
          · rw [Nat.min_eq_right (by omega)]
        rw [e1]
        by_cases h0 : n = 0
        · have : l = [] := List.length_eq_zero_iff.1 (by omega)
          subst this
          simp
        · rw [show min 1 (min n 1024) = 1 by omega]
      rw [e] at h2
      exact h2
  · simp only [List.length_drop, List.length_take]; omega
  rintro ⟨v, n', a', cap', acc, rest⟩ ⟨hv, hacc, hdec, hle⟩
  dsimp only at hv hacc hdec hle ⊢
  cases rest with
  | nil =>
    obtain ⟨a1, n1, c1, rfl, hn1, hc1, hr1⟩ := hv
    have hn1 : n1 = 0 := hn1
    subst hn1
    repeat (first | refine WL.step rfl (OP.decT (nw := true) rfl trivial (by omega) rfl rfl ?_) | refine WL.step rfl (OP.decF (nw := true) rfl trivial (by omega) rfl rfl ?_) | refine WL.step rfl (OP.decNT (nw := true) rfl trivial (by omega) rfl rfl ?_) | refine WL.step rfl (OP.decNF (nw := true) rfl trivial (by omega) rfl rfl ?_) | refine WL.guardT rfl rfl rfl rfl (OP.decT (nw := true) rfl trivial (by omega) rfl rfl ?_) | refine WL.guardT rfl rfl rfl rfl (OP.decF (nw := true) rfl trivial (by omega) rfl rfl ?_) | (first
    | refine WC.seq ?_ | refine WC.region ?_ | refine WL.nil ?_ | with_reducible refine seqK.go ?_ | refine WC.block ?_ | refine WC.skip ?_ | refine WC.exit ?_ | refine WC.ret ?_
    | with_reducible refine seqK.exit ?_ | with_reducible refine seqK.ret ?_ | (with_reducible refine blockK.hit ?hb ?_; (case hb => rfl)) | (with_reducible refine blockK.miss ?hb ?_; (case hb => rfl)) | with_reducible refine blockK.normal ?_ | with_reducible refine blockK.ret ?_ | with_reducible refine loopK.exit ?_ | with_reducible refine loopK.ret ?_
    | refine WC.condT rfl ?_ | refine WC.condF rfl ?_
    | refine WL.step rfl (OP.pure (nw := true) rfl (by first | exact trivial | (simp only [Holds]; omega) | (simp [Holds]; done) | (simp [Holds]; omega)) rfl rfl ?_)
    | refine WL.step rfl (OP.pure (nw := false) rfl (by first | exact trivial | (simp only [Holds]; omega) | (simp [Holds]; done) | (simp [Holds]; omega)) rfl rfl ?_)
    | refine WL.step rfl (OP.pickT rfl rfl rfl rfl rfl ?_) | refine WL.step rfl (OP.pickF rfl rfl rfl rfl rfl ?_) | refine WL.guardT rfl rfl rfl rfl (OP.pickT rfl rfl rfl rfl rfl ?_) | refine WL.guardT rfl rfl rfl rfl (OP.pickF rfl rfl rfl rfl rfl ?_)
    | refine WL.guardT rfl rfl rfl rfl (OP.pure (nw := true) rfl (by first | exact trivial | (simp only [Holds]; omega) | (simp [Holds]; done) | (simp [Holds]; omega)) rfl rfl ?_)
    | refine WL.guardT rfl rfl rfl rfl (OP.pure (nw := false) rfl trivial rfl rfl ?_)
    | refine WL.guardT rfl rfl rfl rfl (OP.loadN rfl rfl rfl rfl (by repeat (first | exact HasNth.here rfl | apply HasNth.there)) rfl rfl ?_)
    | refine WL.guardT rfl rfl rfl rfl (OP.loadB rfl rfl rfl rfl rfl (by repeat (first | exact HasCut.here rfl | apply HasCut.there)) rfl rfl ?_)
    | refine WL.guardF rfl rfl rfl rfl rfl rfl ?_
    | refine WL.guarded (nw := true) rfl rfl rfl rfl rfl rfl rfl (by first | exact trivial | (simp only [Holds]; omega) | (simp [Holds]; done) | (simp [Holds]; omega)) ?_
    | refine WL.step rfl (OP.loadN rfl rfl rfl rfl (by repeat (first | exact HasNth.here rfl | apply HasNth.there)) rfl rfl ?_)
    | refine WL.step rfl (OP.loadB rfl rfl rfl rfl rfl (by repeat (first | exact HasCut.here rfl | apply HasCut.there)) rfl rfl ?_)
    | refine WL.step rfl (OP.store rfl rfl rfl rfl rfl rfl rfl (by repeat (first | exact UpdM.here rfl | apply UpdM.there)) rfl ?_)
    | refine WL.step rfl (OP.alloc rfl rfl rfl rfl rfl (fun _ => ?_))
    | refine WL.step rfl (OP.box rfl rfl rfl rfl rfl (fun _ => ?_))
    | refine WL.step rfl (OP.buildT rfl rfl rfl rfl ?_)
    | refine WL.step rfl (OP.sliceLit rfl rfl rfl rfl rfl rfl rfl rfl (fun _ => ?_))))
    rw [decM_nil] at hdec
    subst hacc
    exact ret1 rfl ⟨[_], ⟨a', cap', by rw [← hdec], by rw [← hdec]⟩, (Imp.sub (by repeat (first | exact Picks.nil _ | apply Picks.cons | exact Pick.here _ _ | apply Pick.there)))⟩
  | cons x t =>
    have hx8 : x.toNat < 256 := x.toNat_lt
    have hone := one_ok r v (x :: t, false) A hu hv
    have hpos : 0 < (x :: t).length := by simp
    rw [decM_cons] at hdec
    simp only [List.length_cons] at hle
    obtain ⟨a1, n1, c1, rfl, hn1, hc1, hr1⟩ := hv
    repeat (first | refine WL.step rfl (OP.decT (nw := true) rfl trivial (by omega) rfl rfl ?_) | refine WL.step rfl (OP.decF (nw := true) rfl trivial (by omega) rfl rfl ?_) | refine WL.step rfl (OP.decNT (nw := true) rfl trivial (by omega) rfl rfl ?_) | refine WL.step rfl (OP.decNF (nw := true) rfl trivial (by omega) rfl rfl ?_) | refine WL.guardT rfl rfl rfl rfl (OP.decT (nw := true) rfl trivial (by omega) rfl rfl ?_) | refine WL.guardT rfl rfl rfl rfl (OP.decF (nw := true) rfl trivial (by omega) rfl rfl ?_) | (first
    | refine WC.seq ?_ | refine WC.region ?_ | refine WL.nil ?_ | with_reducible refine seqK.go ?_ | refine WC.block ?_ | refine WC.skip ?_ | refine WC.exit ?_ | refine WC.ret ?_
    | with_reducible refine seqK.exit ?_ | with_reducible refine seqK.ret ?_ | (with_reducible refine blockK.hit ?hb ?_; (case hb => rfl)) | (with_reducible refine blockK.miss ?hb ?_; (case hb => rfl)) | with_reducible refine blockK.normal ?_ | with_reducible refine blockK.ret ?_ | with_reducible refine loopK.exit ?_ | with_reducible refine loopK.ret ?_
    | refine WC.condT rfl ?_ | refine WC.condF rfl ?_
    | refine WL.step rfl (OP.pure (nw := true) rfl (by first | exact trivial | (simp only [Holds]; omega) | (simp [Holds]; done) | (simp [Holds]; omega)) rfl rfl ?_)
    | refine WL.step rfl (OP.pure (nw := false) rfl (by first | exact trivial | (simp only [Holds]; omega) | (simp [Holds]; done) | (simp [Holds]; omega)) rfl rfl ?_)
    | refine WL.step rfl (OP.pickT rfl rfl rfl rfl rfl ?_) | refine WL.step rfl (OP.pickF rfl rfl rfl rfl rfl ?_) | refine WL.guardT rfl rfl rfl rfl (OP.pickT rfl rfl rfl rfl rfl ?_) | refine WL.guardT rfl rfl rfl rfl (OP.pickF rfl rfl rfl rfl rfl ?_)
    | refine WL.guardT rfl rfl rfl rfl (OP.pure (nw := true) rfl (by first | exact trivial | (simp only [Holds]; omega) | (simp [Holds]; done) | (simp [Holds]; omega)) rfl rfl ?_)
    | refine WL.guardT rfl rfl rfl rfl (OP.pure (nw := false) rfl trivial rfl rfl ?_)
    | refine WL.guardT rfl rfl rfl rfl (OP.loadN rfl rfl rfl rfl (by repeat (first | exact HasNth.here rfl | apply HasNth.there)) rfl rfl ?_)
    | refine WL.guardT rfl rfl rfl rfl (OP.loadB rfl rfl rfl rfl rfl (by repeat (first | exact HasCut.here rfl | apply HasCut.there)) rfl rfl ?_)
    | refine WL.guardF rfl rfl rfl rfl rfl rfl ?_
    | refine WL.guarded (nw := true) rfl rfl rfl rfl rfl rfl rfl (by first | exact trivial | (simp only [Holds]; omega) | (simp [Holds]; done) | (simp [Holds]; omega)) ?_
    | refine WL.step rfl (OP.loadN rfl rfl rfl rfl (by repeat (first | exact HasNth.here rfl | apply HasNth.there)) rfl rfl ?_)
    | refine WL.step rfl (OP.loadB rfl rfl rfl rfl rfl (by repeat (first | exact HasCut.here rfl | apply HasCut.there)) rfl rfl ?_)
    | refine WL.step rfl (OP.store rfl rfl rfl rfl rfl rfl rfl (by repeat (first | exact UpdM.here rfl | apply UpdM.there)) rfl ?_)
    | refine WL.step rfl (OP.alloc rfl rfl rfl rfl rfl (fun _ => ?_))
    | refine WL.step rfl (OP.box rfl rfl rfl rfl rfl (fun _ => ?_))
    | refine WL.step rfl (OP.buildT rfl rfl rfl rfl ?_)
    | refine WL.step rfl (OP.sliceLit rfl rfl rfl rfl rfl rfl rfl rfl (fun _ => ?_))))
    refine WL.step rfl (OP.call (pre := [blk r [.slice a1 n1 c1, .bool false] 63, A]) rfl rfl hone (Picks.imp (by repeat (first | exact Picks.nil _ | apply Picks.cons | exact Pick.here _ _ | apply Pick.there))) rfl rfl ?_)
    rintro _ _ ⟨rfl, v', hv', rfl⟩
    dsimp only [one] at hv' ⊢
    by_cases hk : (x.toNat : Int) < 1 ∨ 17 < (x.toNat : Int)
    · rw [if_pos hk] at hdec
      by_cases hk1 : (x.toNat : Int) < 1
      · repeat (first | refine WL.step rfl (OP.decT (nw := true) rfl trivial (by omega) rfl rfl ?_) | refine WL.step rfl (OP.decF (nw := true) rfl trivial (by omega) rfl rfl ?_) | refine WL.step rfl (OP.decNT (nw := true) rfl trivial (by omega) rfl rfl ?_) | refine WL.step rfl (OP.decNF (nw := true) rfl trivial (by omega) rfl rfl ?_) | refine WL.guardT rfl rfl rfl rfl (OP.decT (nw := true) rfl trivial (by omega) rfl rfl ?_) | refine WL.guardT rfl rfl rfl rfl (OP.decF (nw := true) rfl trivial (by omega) rfl rfl ?_) | (first
    | refine WC.seq ?_ | refine WC.region ?_ | refine WL.nil ?_ | with_reducible refine seqK.go ?_ | refine WC.block ?_ | refine WC.skip ?_ | refine WC.exit ?_ | refine WC.ret ?_
    | with_reducible refine seqK.exit ?_ | with_reducible refine seqK.ret ?_ | (with_reducible refine blockK.hit ?hb ?_; (case hb => rfl)) | (with_reducible refine blockK.miss ?hb ?_; (case hb => rfl)) | with_reducible refine blockK.normal ?_ | with_reducible refine blockK.ret ?_ | with_reducible refine loopK.exit ?_ | with_reducible refine loopK.ret ?_
    | refine WC.condT rfl ?_ | refine WC.condF rfl ?_
    | refine WL.step rfl (OP.pure (nw := true) rfl (by first | exact trivial | (simp only [Holds]; omega) | (simp [Holds]; done) | (simp [Holds]; omega)) rfl rfl ?_)
    | refine WL.step rfl (OP.pure (nw := false) rfl (by first | exact trivial | (simp only [Holds]; omega) | (simp [Holds]; done) | (simp [Holds]; omega)) rfl rfl ?_)
    | refine WL.step rfl (OP.pickT rfl rfl rfl rfl rfl ?_) | refine WL.step rfl (OP.pickF rfl rfl rfl rfl rfl ?_) | refine WL.guardT rfl rfl rfl rfl (OP.pickT rfl rfl rfl rfl rfl ?_) | refine WL.guardT rfl rfl rfl rfl (OP.pickF rfl rfl rfl rfl rfl ?_)
    | refine WL.guardT rfl rfl rfl rfl (OP.pure (nw := true) rfl (by first | exact trivial | (simp only [Holds]; omega) | (simp [Holds]; done) | (simp [Holds]; omega)) rfl rfl ?_)
    | refine WL.guardT rfl rfl rfl rfl (OP.pure (nw := false) rfl trivial rfl rfl ?_)
    | refine WL.guardT rfl rfl rfl rfl (OP.loadN rfl rfl rfl rfl (by repeat (first | exact HasNth.here rfl | apply HasNth.there)) rfl rfl ?_)
    | refine WL.guardT rfl rfl rfl rfl (OP.loadB rfl rfl rfl rfl rfl (by repeat (first | exact HasCut.here rfl | apply HasCut.there)) rfl rfl ?_)
    | refine WL.guardF rfl rfl rfl rfl rfl rfl ?_
    | refine WL.guarded (nw := true) rfl rfl rfl rfl rfl rfl rfl (by first | exact trivial | (simp only [Holds]; omega) | (simp [Holds]; done) | (simp [Holds]; omega)) ?_
    | refine WL.step rfl (OP.loadN rfl rfl rfl rfl (by repeat (first | exact HasNth.here rfl | apply HasNth.there)) rfl rfl ?_)
    | refine WL.step rfl (OP.loadB rfl rfl rfl rfl rfl (by repeat (first | exact HasCut.here rfl | apply HasCut.there)) rfl rfl ?_)
    | refine WL.step rfl (OP.store rfl rfl rfl rfl rfl rfl rfl (by repeat (first | exact UpdM.here rfl | apply UpdM.there)) rfl ?_)
    | refine WL.step rfl (OP.alloc rfl rfl rfl rfl rfl (fun _ => ?_))
    | refine WL.step rfl (OP.box rfl rfl rfl rfl rfl (fun _ => ?_))
    | refine WL.step rfl (OP.buildT rfl rfl rfl rfl ?_)
    | refine WL.step rfl (OP.sliceLit rfl rfl rfl rfl rfl rfl rfl rfl (fun _ => ?_))))
        exact ⟨(v', n', a', cap', acc, t), ⟨hv', hacc, hdec, by dsimp only; omega⟩, by simp, ⟨rfl, rfl, trivial⟩, (Imp.sub (by repeat (first | exact Picks.nil _ | apply Picks.cons | exact Pick.here _ _ | apply Pick.there)))⟩
      · have hk2 : 17 < (x.toNat : Int) := by omega
        repeat (first | refine WL.step rfl (OP.decT (nw := true) rfl trivial (by omega) rfl rfl ?_) | refine WL.step rfl (OP.decF (nw := true) rfl trivial (by omega) rfl rfl ?_) | refine WL.step rfl (OP.decNT (nw := true) rfl trivial (by omega) rfl rfl ?_) | refine WL.step rfl (OP.decNF (nw := true) rfl trivial (by omega) rfl rfl ?_) | refine WL.guardT rfl rfl rfl rfl (OP.decT (nw := true) rfl trivial (by omega) rfl rfl ?_) | refine WL.guardT rfl rfl rfl rfl (OP.decF (nw := true) rfl trivial (by omega) rfl rfl ?_) | (first
    | refine WC.seq ?_ | refine WC.region ?_ | refine WL.nil ?_ | with_reducible refine seqK.go ?_ | refine WC.block ?_ | refine WC.skip ?_ | refine WC.exit ?_ | refine WC.ret ?_
    | with_reducible refine seqK.exit ?_ | with_reducible refine seqK.ret ?_ | (with_reducible refine blockK.hit ?hb ?_; (case hb => rfl)) | (with_reducible refine blockK.miss ?hb ?_; (case hb => rfl)) | with_reducible refine blockK.normal ?_ | with_reducible refine blockK.ret ?_ | with_reducible refine loopK.exit ?_ | with_reducible refine loopK.ret ?_
    | refine WC.condT rfl ?_ | refine WC.condF rfl ?_
    | refine WL.step rfl (OP.pure (nw := true) rfl (by first | exact trivial | (simp only [Holds]; omega) | (simp [Holds]; done) | (simp [Holds]; omega)) rfl rfl ?_)
    | refine WL.step rfl (OP.pure (nw := false) rfl (by first | exact trivial | (simp only [Holds]; omega) | (simp [Holds]; done) | (simp [Holds]; omega)) rfl rfl ?_)
    | refine WL.step rfl (OP.pickT rfl rfl rfl rfl rfl ?_) | refine WL.step rfl (OP.pickF rfl rfl rfl rfl rfl ?_) | refine WL.guardT rfl rfl rfl rfl (OP.pickT rfl rfl rfl rfl rfl ?_) | refine WL.guardT rfl rfl rfl rfl (OP.pickF rfl rfl rfl rfl rfl ?_)
    | refine WL.guardT rfl rfl rfl rfl (OP.pure (nw := true) rfl (by first | exact trivial | (simp only [Holds]; omega) | (simp [Holds]; done) | (simp [Holds]; omega)) rfl rfl ?_)
    | refine WL.guardT rfl rfl rfl rfl (OP.pure (nw := false) rfl trivial rfl rfl ?_)
    | refine WL.guardT rfl rfl rfl rfl (OP.loadN rfl rfl rfl rfl (by repeat (first | exact HasNth.here rfl | apply HasNth.there)) rfl rfl ?_)
    | refine WL.guardT rfl rfl rfl rfl (OP.loadB rfl rfl rfl rfl rfl (by repeat (first | exact HasCut.here rfl | apply HasCut.there)) rfl rfl ?_)
    | refine WL.guardF rfl rfl rfl rfl rfl rfl ?_
    | refine WL.guarded (nw := true) rfl rfl rfl rfl rfl rfl rfl (by first | exact trivial | (simp only [Holds]; omega) | (simp [Holds]; done) | (simp [Holds]; omega)) ?_
    | refine WL.step rfl (OP.loadN rfl rfl rfl rfl (by repeat (first | exact HasNth.here rfl | apply HasNth.there)) rfl rfl ?_)
    | refine WL.step rfl (OP.loadB rfl rfl rfl rfl rfl (by repeat (first | exact HasCut.here rfl | apply HasCut.there)) rfl rfl ?_)
    | refine WL.step rfl (OP.store rfl rfl rfl rfl rfl rfl rfl (by repeat (first | exact UpdM.here rfl | apply UpdM.there)) rfl ?_)
    | refine WL.step rfl (OP.alloc rfl rfl rfl rfl rfl (fun _ => ?_))
    | refine WL.step rfl (OP.box rfl rfl rfl rfl rfl (fun _ => ?_))
    | refine WL.step rfl (OP.buildT rfl rfl rfl rfl ?_)
    | refine WL.step rfl (OP.sliceLit rfl rfl rfl rfl rfl rfl rfl rfl (fun _ => ?_))))
        exact ⟨(v', n', a', cap', acc, t), ⟨hv', hacc, hdec, by dsimp only; omega⟩, by simp, ⟨rfl, rfl, trivial⟩, (Imp.sub (by repeat (first | exact Picks.nil _ | apply Picks.cons | exact Pick.here _ _ | apply Pick.there)))⟩
    · rw [if_neg hk] at hdec
      have hk1 : ¬ (x.toNat : Int) < 1 := by omega
      have hk2 : ¬ 17 < (x.toNat : Int) := by omega
      have hstep := step_ok r v' (t, false) A hu hv' x.toNat n' (by omega)
      have hlen := stepM_len x.toNat n' (t, false)
      rw [← hacc] at hdec
      generalize stepM x.toNat n' (t, false) = y at *
      obtain ⟨st, l2, o2⟩ := y
      dsimp only at hlen hdec hstep
      repeat (first | refine WL.step rfl (OP.decT (nw := true) rfl trivial (by omega) rfl rfl ?_) | refine WL.step rfl (OP.decF (nw := true) rfl trivial (by omega) rfl rfl ?_) | refine WL.step rfl (OP.decNT (nw := true) rfl trivial (by omega) rfl rfl ?_) | refine WL.step rfl (OP.decNF (nw := true) rfl trivial (by omega) rfl rfl ?_) | refine WL.guardT rfl rfl rfl rfl (OP.decT (nw := true) rfl trivial (by omega) rfl rfl ?_) | refine WL.guardT rfl rfl rfl rfl (OP.decF (nw := true) rfl trivial (by omega) rfl rfl ?_) | (first
    | refine WC.seq ?_ | refine WC.region ?_ | refine WL.nil ?_ | with_reducible refine seqK.go ?_ | refine WC.block ?_ | refine WC.skip ?_ | refine WC.exit ?_ | refine WC.ret ?_
    | with_reducible refine seqK.exit ?_ | with_reducible refine seqK.ret ?_ | (with_reducible refine blockK.hit ?hb ?_; (case hb => rfl)) | (with_reducible refine blockK.miss ?hb ?_; (case hb => rfl)) | with_reducible refine blockK.normal ?_ | with_reducible refine blockK.ret ?_ | with_reducible refine loopK.exit ?_ | with_reducible refine loopK.ret ?_
    | refine WC.condT rfl ?_ | refine WC.condF rfl ?_
    | refine WL.step rfl (OP.pure (nw := true) rfl (by first | exact trivial | (simp only [Holds]; omega) | (simp [Holds]; done) | (simp [Holds]; omega)) rfl rfl ?_)
    | refine WL.step rfl (OP.pure (nw := false) rfl (by first | exact trivial | (simp only [Holds]; omega) | (simp [Holds]; done) | (simp [Holds]; omega)) rfl rfl ?_)
    | refine WL.step rfl (OP.pickT rfl rfl rfl rfl rfl ?_) | refine WL.step rfl (OP.pickF rfl rfl rfl rfl rfl ?_) | refine WL.guardT rfl rfl rfl rfl (OP.pickT rfl rfl rfl rfl rfl ?_) | refine WL.guardT rfl rfl rfl rfl (OP.pickF rfl rfl rfl rfl rfl ?_)
    | refine WL.guardT rfl rfl rfl rfl (OP.pure (nw := true) rfl (by first | exact trivial | (simp only [Holds]; omega) | (simp [Holds]; done) | (simp [Holds]; omega)) rfl rfl ?_)
    | refine WL.guardT rfl rfl rfl rfl (OP.pure (nw := false) rfl trivial rfl rfl ?_)
    | refine WL.guardT rfl rfl rfl rfl (OP.loadN rfl rfl rfl rfl (by repeat (first | exact HasNth.here rfl | apply HasNth.there)) rfl rfl ?_)
    | refine WL.guardT rfl rfl rfl rfl (OP.loadB rfl rfl rfl rfl rfl (by repeat (first | exact HasCut.here rfl | apply HasCut.there)) rfl rfl ?_)
    | refine WL.guardF rfl rfl rfl rfl rfl rfl ?_
    | refine WL.guarded (nw := true) rfl rfl rfl rfl rfl rfl rfl (by first | exact trivial | (simp only [Holds]; omega) | (simp [Holds]; done) | (simp [Holds]; omega)) ?_
    | refine WL.step rfl (OP.loadN rfl rfl rfl rfl (by repeat (first | exact HasNth.here rfl | apply HasNth.there)) rfl rfl ?_)
    | refine WL.step rfl (OP.loadB rfl rfl rfl rfl rfl (by repeat (first | exact HasCut.here rfl | apply HasCut.there)) rfl rfl ?_)
    | refine WL.step rfl (OP.store rfl rfl rfl rfl rfl rfl rfl (by repeat (first | exact UpdM.here rfl | apply UpdM.there)) rfl ?_)
    | refine WL.step rfl (OP.alloc rfl rfl rfl rfl rfl (fun _ => ?_))
    | refine WL.step rfl (OP.box rfl rfl rfl rfl rfl (fun _ => ?_))
    | refine WL.step rfl (OP.buildT rfl rfl rfl rfl ?_)
    | refine WL.step rfl (OP.sliceLit rfl rfl rfl rfl rfl rfl rfl rfl (fun _ => ?_))))
      refine WL.step rfl (OP.call (pre := [blk r [v', .bool false] 63, A]) rfl rfl hstep (Picks.imp (by repeat (first | exact Picks.nil _ | apply Picks.cons | exact Pick.here _ _ | apply Pick.there))) rfl rfl ?_)
      rintro _ _ ⟨rfl, v2, hv2, rfl⟩
      dsimp only at hv2 ⊢
      cases o2
      · rw [if_neg (by simp)] at hdec
        repeat (first | refine WL.step rfl (OP.decT (nw := true) rfl trivial (by omega) rfl rfl ?_) | refine WL.step rfl (OP.decF (nw := true) rfl trivial (by omega) rfl rfl ?_) | refine WL.step rfl (OP.decNT (nw := true) rfl trivial (by omega) rfl rfl ?_) | refine WL.step rfl (OP.decNF (nw := true) rfl trivial (by omega) rfl rfl ?_) | refine WL.guardT rfl rfl rfl rfl (OP.decT (nw := true) rfl trivial (by omega) rfl rfl ?_) | refine WL.guardT rfl rfl rfl rfl (OP.decF (nw := true) rfl trivial (by omega) rfl rfl ?_) | (first
    | refine WC.seq ?_ | refine WC.region ?_ | refine WL.nil ?_ | with_reducible refine seqK.go ?_ | refine WC.block ?_ | refine WC.skip ?_ | refine WC.exit ?_ | refine WC.ret ?_
    | with_reducible refine seqK.exit ?_ | with_reducible refine seqK.ret ?_ | (with_reducible refine blockK.hit ?hb ?_; (case hb => rfl)) | (with_reducible refine blockK.miss ?hb ?_; (case hb => rfl)) | with_reducible refine blockK.normal ?_ | with_reducible refine blockK.ret ?_ | with_reducible refine loopK.exit ?_ | with_reducible refine loopK.ret ?_
    | refine WC.condT rfl ?_ | refine WC.condF rfl ?_
    | refine WL.step rfl (OP.pure (nw := true) rfl (by first | exact trivial | (simp only [Holds]; omega) | (simp [Holds]; done) | (simp [Holds]; omega)) rfl rfl ?_)
    | refine WL.step rfl (OP.pure (nw := false) rfl (by first | exact trivial | (simp only [Holds]; omega) | (simp [Holds]; done) | (simp [Holds]; omega)) rfl rfl ?_)
    | refine WL.step rfl (OP.pickT rfl rfl rfl rfl rfl ?_) | refine WL.step rfl (OP.pickF rfl rfl rfl rfl rfl ?_) | refine WL.guardT rfl rfl rfl rfl (OP.pickT rfl rfl rfl rfl rfl ?_) | refine WL.guardT rfl rfl rfl rfl (OP.pickF rfl rfl rfl rfl rfl ?_)
    | refine WL.guardT rfl rfl rfl rfl (OP.pure (nw := true) rfl (by first | exact trivial | (simp only [Holds]; omega) | (simp [Holds]; done) | (simp [Holds]; omega)) rfl rfl ?_)
    | refine WL.guardT rfl rfl rfl rfl (OP.pure (nw := false) rfl trivial rfl rfl ?_)
    | refine WL.guardT rfl rfl rfl rfl (OP.loadN rfl rfl rfl rfl (by repeat (first | exact HasNth.here rfl | apply HasNth.there)) rfl rfl ?_)
    | refine WL.guardT rfl rfl rfl rfl (OP.loadB rfl rfl rfl rfl rfl (by repeat (first | exact HasCut.here rfl | apply HasCut.there)) rfl rfl ?_)
    | refine WL.guardF rfl rfl rfl rfl rfl rfl ?_
    | refine WL.guarded (nw := true) rfl rfl rfl rfl rfl rfl rfl (by first | exact trivial | (simp only [Holds]; omega) | (simp [Holds]; done) | (simp [Holds]; omega)) ?_
    | refine WL.step rfl (OP.loadN rfl rfl rfl rfl (by repeat (first | exact HasNth.here rfl | apply HasNth.there)) rfl rfl ?_)
    | refine WL.step rfl (OP.loadB rfl rfl rfl rfl rfl (by repeat (first | exact HasCut.here rfl | apply HasCut.there)) rfl rfl ?_)
    | refine WL.step rfl (OP.store rfl rfl rfl rfl rfl rfl rfl (by repeat (first | exact UpdM.here rfl | apply UpdM.there)) rfl ?_)
    | refine WL.step rfl (OP.alloc rfl rfl rfl rfl rfl (fun _ => ?_))
    | refine WL.step rfl (OP.box rfl rfl rfl rfl rfl (fun _ => ?_))
    | refine WL.step rfl (OP.buildT rfl rfl rfl rfl ?_)
    | refine WL.step rfl (OP.sliceLit rfl rfl rfl rfl rfl rfl rfl rfl (fun _ => ?_))))
        refine WL.step rfl (OP.append rfl rfl rfl rfl rfl rfl rfl rfl rfl (Pick.imp (by repeat (first | exact Pick.here _ _ | apply Pick.there))) (Ent.own (by repeat (first | exact List.Mem.head _ | apply List.Mem.tail))) rfl (by omega) (by omega) rfl rfl (fun a2 cap2 => ?_))
        repeat (first | refine WL.step rfl (OP.decT (nw := true) rfl trivial (by omega) rfl rfl ?_) | refine WL.step rfl (OP.decF (nw := true) rfl trivial (by omega) rfl rfl ?_) | refine WL.step rfl (OP.decNT (nw := true) rfl trivial (by omega) rfl rfl ?_) | refine WL.step rfl (OP.decNF (nw := true) rfl trivial (by omega) rfl rfl ?_) | refine WL.guardT rfl rfl rfl rfl (OP.decT (nw := true) rfl trivial (by omega) rfl rfl ?_) | refine WL.guardT rfl rfl rfl rfl (OP.decF (nw := true) rfl trivial (by omega) rfl rfl ?_) | (first
    | refine WC.seq ?_ | refine WC.region ?_ | refine WL.nil ?_ | with_reducible refine seqK.go ?_ | refine WC.block ?_ | refine WC.skip ?_ | refine WC.exit ?_ | refine WC.ret ?_
    | with_reducible refine seqK.exit ?_ | with_reducible refine seqK.ret ?_ | (with_reducible refine blockK.hit ?hb ?_; (case hb => rfl)) | (with_reducible refine blockK.miss ?hb ?_; (case hb => rfl)) | with_reducible refine blockK.normal ?_ | with_reducible refine blockK.ret ?_ | with_reducible refine loopK.exit ?_ | with_reducible refine loopK.ret ?_
    | refine WC.condT rfl ?_ | refine WC.condF rfl ?_
    | refine WL.step rfl (OP.pure (nw := true) rfl (by first | exact trivial | (simp only [Holds]; omega) | (simp [Holds]; done) | (simp [Holds]; omega)) rfl rfl ?_)
    | refine WL.step rfl (OP.pure (nw := false) rfl (by first | exact trivial | (simp only [Holds]; omega) | (simp [Holds]; done) | (simp [Holds]; omega)) rfl rfl ?_)
    | refine WL.step rfl (OP.pickT rfl rfl rfl rfl rfl ?_) | refine WL.step rfl (OP.pickF rfl rfl rfl rfl rfl ?_) | refine WL.guardT rfl rfl rfl rfl (OP.pickT rfl rfl rfl rfl rfl ?_) | refine WL.guardT rfl rfl rfl rfl (OP.pickF rfl rfl rfl rfl rfl ?_)
    | refine WL.guardT rfl rfl rfl rfl (OP.pure (nw := true) rfl (by first | exact trivial | (simp only [Holds]; omega) | (simp [Holds]; done) | (simp [Holds]; omega)) rfl rfl ?_)
    | refine WL.guardT rfl rfl rfl rfl (OP.pure (nw := false) rfl trivial rfl rfl ?_)
    | refine WL.guardT rfl rfl rfl rfl (OP.loadN rfl rfl rfl rfl (by repeat (first | exact HasNth.here rfl | apply HasNth.there)) rfl rfl ?_)
    | refine WL.guardT rfl rfl rfl rfl (OP.loadB rfl rfl rfl rfl rfl (by repeat (first | exact HasCut.here rfl | apply HasCut.there)) rfl rfl ?_)
    | refine WL.guardF rfl rfl rfl rfl rfl rfl ?_
    | refine WL.guarded (nw := true) rfl rfl rfl rfl rfl rfl rfl (by first | exact trivial | (simp only [Holds]; omega) | (simp [Holds]; done) | (simp [Holds]; omega)) ?_
    | refine WL.step rfl (OP.loadN rfl rfl rfl rfl (by repeat (first | exact HasNth.here rfl | apply HasNth.there)) rfl rfl ?_)
    | refine WL.step rfl (OP.loadB rfl rfl rfl rfl rfl (by repeat (first | exact HasCut.here rfl | apply HasCut.there)) rfl rfl ?_)
    | refine WL.step rfl (OP.store rfl rfl rfl rfl rfl rfl rfl (by repeat (first | exact UpdM.here rfl | apply UpdM.there)) rfl ?_)
    | refine WL.step rfl (OP.alloc rfl rfl rfl rfl rfl (fun _ => ?_))
    | refine WL.step rfl (OP.box rfl rfl rfl rfl rfl (fun _ => ?_))
    | refine WL.step rfl (OP.buildT rfl rfl rfl rfl ?_)
    | refine WL.step rfl (OP.sliceLit rfl rfl rfl rfl rfl rfl rfl rfl (fun _ => ?_))))
        exact ⟨(v2, n' + 1, a2, cap2, acc ++ [st], l2), ⟨hv2, by simp [hacc], hdec, by dsimp only; omega⟩, by simp only [List.length_cons]; omega, ⟨rfl, rfl, trivial⟩, by rw [List.flatMap_append]; exact (Imp.sub (by repeat (first | exact Picks.nil _ | apply Picks.cons | exact Pick.here _ _ | apply Pick.there)))⟩
      · rw [if_pos rfl] at hdec
        repeat (first | refine WL.step rfl (OP.decT (nw := true) rfl trivial (by omega) rfl rfl ?_) | refine WL.step rfl (OP.decF (nw := true) rfl trivial (by omega) rfl rfl ?_) | refine WL.step rfl (OP.decNT (nw := true) rfl trivial (by omega) rfl rfl ?_) | refine WL.step rfl (OP.decNF (nw := true) rfl trivial (by omega) rfl rfl ?_) | refine WL.guardT rfl rfl rfl rfl (OP.decT (nw := true) rfl trivial (by omega) rfl rfl ?_) | refine WL.guardT rfl rfl rfl rfl (OP.decF (nw := true) rfl trivial (by omega) rfl rfl ?_) | (first
    | refine WC.seq ?_ | refine WC.region ?_ | refine WL.nil ?_ | with_reducible refine seqK.go ?_ | refine WC.block ?_ | refine WC.skip ?_ | refine WC.exit ?_ | refine WC.ret ?_
    | with_reducible refine seqK.exit ?_ | with_reducible refine seqK.ret ?_ | (with_reducible refine blockK.hit ?hb ?_; (case hb => rfl)) | (with_reducible refine blockK.miss ?hb ?_; (case hb => rfl)) | with_reducible refine blockK.normal ?_ | with_reducible refine blockK.ret ?_ | with_reducible refine loopK.exit ?_ | with_reducible refine loopK.ret ?_
    | refine WC.condT rfl ?_ | refine WC.condF rfl ?_
    | refine WL.step rfl (OP.pure (nw := true) rfl (by first | exact trivial | (simp only [Holds]; omega) | (simp [Holds]; done) | (simp [Holds]; omega)) rfl rfl ?_)
    | refine WL.step rfl (OP.pure (nw := false) rfl (by first | exact trivial | (simp only [Holds]; omega) | (simp [Holds]; done) | (simp [Holds]; omega)) rfl rfl ?_)
    | refine WL.step rfl (OP.pickT rfl rfl rfl rfl rfl ?_) | refine WL.step rfl (OP.pickF rfl rfl rfl rfl rfl ?_) | refine WL.guardT rfl rfl rfl rfl (OP.pickT rfl rfl rfl rfl rfl ?_) | refine WL.guardT rfl rfl rfl rfl (OP.pickF rfl rfl rfl rfl rfl ?_)
    | refine WL.guardT rfl rfl rfl rfl (OP.pure (nw := true) rfl (by first | exact trivial | (simp only [Holds]; omega) | (simp [Holds]; done) | (simp [Holds]; omega)) rfl rfl ?_)
    | refine WL.guardT rfl rfl rfl rfl (OP.pure (nw := false) rfl trivial rfl rfl ?_)
    | refine WL.guardT rfl rfl rfl rfl (OP.loadN rfl rfl rfl rfl (by repeat (first | exact HasNth.here rfl | apply HasNth.there)) rfl rfl ?_)
    | refine WL.guardT rfl rfl rfl rfl (OP.loadB rfl rfl rfl rfl rfl (by repeat (first | exact HasCut.here rfl | apply HasCut.there)) rfl rfl ?_)
    | refine WL.guardF rfl rfl rfl rfl rfl rfl ?_
    | refine WL.guarded (nw := true) rfl rfl rfl rfl rfl rfl rfl (by first | exact trivial | (simp only [Holds]; omega) | (simp [Holds]; done) | (simp [Holds]; omega)) ?_
    | refine WL.step rfl (OP.loadN rfl rfl rfl rfl (by repeat (first | exact HasNth.here rfl | apply HasNth.there)) rfl rfl ?_)
    | refine WL.step rfl (OP.loadB rfl rfl rfl rfl rfl (by repeat (first | exact HasCut.here rfl | apply HasCut.there)) rfl rfl ?_)
    | refine WL.step rfl (OP.store rfl rfl rfl rfl rfl rfl rfl (by repeat (first | exact UpdM.here rfl | apply UpdM.there)) rfl ?_)
    | refine WL.step rfl (OP.alloc rfl rfl rfl rfl rfl (fun _ => ?_))
    | refine WL.step rfl (OP.box rfl rfl rfl rfl rfl (fun _ => ?_))
    | refine WL.step rfl (OP.buildT rfl rfl rfl rfl ?_)
    | refine WL.step rfl (OP.sliceLit rfl rfl rfl rfl rfl rfl rfl rfl (fun _ => ?_))))
        subst hacc
        exact ret1 rfl ⟨[_], ⟨a', cap', by rw [← hdec], by rw [← hdec]⟩, (Imp.sub (by repeat (first | exact Picks.nil _ | apply Picks.cons | exact Pick.here _ _ | apply Pick.there)))⟩
end Go.Proofs.Ytkoakmaihcheaaa
