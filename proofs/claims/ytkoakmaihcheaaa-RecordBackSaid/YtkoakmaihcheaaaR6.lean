/- Contracts of functions of the given program, and plain laws on what they compute: parts of the proofs of laws. -/
import Derived.Test.YtkoakmaihcheaaaR5
import Derived.Test.YtkoakmaihcheaaaGLq

namespace Go.Proofs.Ytkoakmaihcheaaa
open Go Go.GL

theorem ofNat_toNat {n : Nat} (h : n < 256) : (UInt8.ofNat n).toNat = n := by rw [UInt8.toNat_ofNat']; omega
theorem numB_inj : ∀ (k n m : Nat) (a b : List UInt8), n ≤ k → numB n ++ a = numB m ++ b → n = m ∧ a = b := by
  intro k
  induction k with
  | zero =>
    intro n m a b hn h
    obtain rfl : n = 0 := by omega
    rw [numB_lt (by omega)] at h
    by_cases hm : m < 128
    · rw [numB_lt hm, List.singleton_append, List.singleton_append, List.cons.injEq] at h
      have := congrArg UInt8.toNat h.1
      rw [ofNat_toNat (by omega), ofNat_toNat (by omega)] at this
      exact ⟨this, h.2⟩
    · rw [numB_ge hm, List.singleton_append, List.cons_append, List.cons.injEq] at h
      have := congrArg UInt8.toNat h.1
      rw [ofNat_toNat (by omega), ofNat_toNat (by omega)] at this
      omega
  | succ k ih =>
    intro n m a b hn h
    by_cases hn' : n < 128
    · rw [numB_lt hn'] at h
      by_cases hm : m < 128
      · rw [numB_lt hm, List.singleton_append, List.singleton_append, List.cons.injEq] at h
        have := congrArg UInt8.toNat h.1
        rw [ofNat_toNat (by omega), ofNat_toNat (by omega)] at this
        exact ⟨this, h.2⟩
      · rw [numB_ge hm, List.singleton_append, List.cons_append, List.cons.injEq] at h
        have := congrArg UInt8.toNat h.1
        rw [ofNat_toNat (by omega), ofNat_toNat (by omega)] at this
        omega
    · rw [numB_ge hn'] at h
      by_cases hm : m < 128
      · rw [numB_lt hm, List.singleton_append, List.cons_append, List.cons.injEq] at h
        have := congrArg UInt8.toNat h.1
        rw [ofNat_toNat (by omega), ofNat_toNat (by omega)] at this
        omega
      · rw [numB_ge hm, List.cons_append, List.cons_append, List.cons.injEq] at h
        have h1 := congrArg UInt8.toNat h.1
        rw [ofNat_toNat (by omega), ofNat_toNat (by omega)] at h1
        have h2 := ih (n / 128) (m / 128) a b (by omega) h.2
        exact ⟨by omega, h2.2⟩
theorem clamp_inj {x y : Int} (hx : 0 ≤ x ∧ x ≤ widest) (hy : 0 ≤ y ∧ y ≤ widest) (h : clampN x = clampN y) : x = y := by unfold clampN at h; omega
theorem body_inj {g o : Int} {r s : Rec} {a b : List UInt8} (hr : RightR r) (hs : RightR s) (hg : 0 ≤ g ∧ g ≤ widest) (ho : 0 ≤ o ∧ o ≤ widest) (h : bodyM g r ++ a = bodyM o s ++ b) : g = o ∧ r = s := by
  obtain ⟨s1, k1, b1, d1, n1⟩ := r
  obtain ⟨s2, k2, b2, d2, n2⟩ := s
  obtain ⟨hs1, hc1⟩ := hr
  obtain ⟨hs2, hc2⟩ := hs
  have hw : (8 : Int) ≤ widest := by decide
  dsimp only at hs1 hs2 hc1 hc2
  unfold bodyM at h
  dsimp only at h
  simp only [List.append_assoc] at h
  obtain ⟨e1, h1⟩ := numB_inj _ _ _ _ _ (Nat.le_refl _) h
  obtain ⟨e2, h2⟩ := numB_inj _ _ _ _ _ (Nat.le_refl _) h1
  obtain ⟨e3, h3⟩ := numB_inj _ _ _ _ _ (Nat.le_refl _) h2
  clear h h1 h2
  have e1 := clamp_inj hg ho e1
  have e2 := clamp_inj (by omega) (by omega) e2
  have e3 := clamp_inj (by omega) (by omega) e3
  subst e1 e2 e3
  refine ⟨rfl, ?_⟩
  by_cases hk : k1 = 1
  · rw [if_pos hk, if_pos hk] at h3
    simp only [List.append_assoc] at h3
    obtain ⟨e4, h4⟩ := numB_inj _ _ _ _ _ (Nat.le_refl _) h3
    have e4 := clamp_inj (by omega) (by omega) e4
    unfold textB at h4
    simp only [List.append_assoc] at h4
    obtain ⟨e5, h5⟩ := numB_inj _ _ _ _ _ (Nat.le_refl _) h4
    have l1 : d1.data.toList.length = d1.size := Array.length_toList
    have l2 : d2.data.toList.length = d2.size := Array.length_toList
    have e6 := List.append_inj_left h5 (by rw [l1, l2, e5])
    have e7 : d1 = d2 := by rw [← ba_data d1, e6, ba_data]
    subst e4 e7
    have : n1 = n2 := by omega
    rw [this]
  · rw [if_neg hk, if_neg hk] at h3
    obtain ⟨e4, _⟩ := numB_inj _ _ _ _ _ (Nat.le_refl _) h3
    have hc1 := hc1.resolve_right (fun x => hk x.1)
    have hc2 := hc2.resolve_right (fun x => hk x.1)
    have e4 := clamp_inj (by omega) (by omega) e4
    rw [e4, hc1.2.2.2, hc2.2.2.2, hc1.2.2.1, hc2.2.2.1]
theorem sector_inj {g o : Int} {r s : Rec} (hr : RightR r) (hs : RightR s) (hg : 0 ≤ g ∧ g ≤ widest) (ho : 0 ≤ o ∧ o ≤ widest) (h : sectorM (bodyM g r) = sectorM (bodyM o s)) : g = o ∧ r = s := by
  unfold sectorM at h
  have h1 := List.append_inj_left h (by rw [padM_len (bodyM_len hr), padM_len (bodyM_len hs)])
  unfold padM at h1
  exact body_inj hr hs hg ho h1
set_option maxRecDepth 10000 in
theorem few_ro (r : Rec) : RO G 23 [.agg (encR r).toArray] (fun _ => True) (.bool (decide ((r.2.2.2.1.size : Int) < 2000))) := by
  refine RO.enter Try.func23 rfl (by decide) rfl Try.ntmps23 rfl (fun A hu hA => ?_) (fun _ _ _ h => h)
  repeat (first
    | refine WC.seq ?_ | refine WC.region ?_ | refine WL.nil ?_ | with_reducible refine seqK.go ?_ | refine WC.block ?_ | refine WC.skip ?_ | refine WC.exit ?_ | refine WC.ret ?_
    | with_reducible refine seqK.exit ?_ | with_reducible refine seqK.ret ?_ | (with_reducible refine blockK.hit ?hb ?_; (case hb => rfl)) | (with_reducible refine blockK.miss ?hb ?_; (case hb => rfl)) | with_reducible refine blockK.normal ?_ | with_reducible refine blockK.ret ?_ | with_reducible refine loopK.exit ?_ | with_reducible refine loopK.ret ?_
    | refine WC.condT rfl ?_ | refine WC.condF rfl ?_
    | refine WL.step rfl (OP.pure (nw := true) rfl (by first | exact trivial | (simp only [Holds]; omega) | (simp [Holds]; done) | (simp [Holds]; omega)) rfl rfl ?_)
    | refine WL.step rfl (OP.pure (nw := false) rfl (by first | exact trivial | (simp only [Holds]; omega) | (simp [Holds]; done) | (simp [Holds]; omega)) rfl rfl ?_)
    | refine WL.step rfl (OP.pickT rfl rfl rfl rfl rfl ?_) | refine WL.step rfl (OP.pickF rfl rfl rfl rfl rfl ?_) | refine WL.guardT rfl rfl rfl rfl (OP.pickT rfl rfl rfl rfl rfl ?_) | refine WL.guardT rfl rfl rfl rfl (OP.pickF rfl rfl rfl rfl rfl ?_)
    | refine WL.guardT rfl rfl rfl rfl (OP.pure (nw := true) rfl (by first | exact trivial | (simp only [Holds]; omega) | (simp [Holds]; done) | (simp [Holds]; omega)) rfl rfl ?_)
    | refine WL.guardT rfl rfl rfl rfl (OP.pure (nw := false) rfl trivial rfl rfl ?_)
    | refine WL.guardT rfl rfl rfl rfl (OP.loadN rfl rfl rfl rfl (by repeat (first | exact HasNth.here rfl | apply HasNth.there)) rfl rfl ?_)
    | refine WL.guardT rfl rfl rfl rfl (OP.loadB rfl rfl rfl rfl rfl (by repeat (first | exact HasCut.here rfl | apply HasCut.there)) rfl rfl ?_)
    | refine WL.guardF rfl rfl rfl rfl rfl rfl ?_
    | refine WL.guardU rfl rfl rfl rfl rfl rfl ?_
    | refine WL.guarded (nw := true) rfl rfl rfl rfl rfl rfl rfl (by first | exact trivial | (simp only [Holds]; omega) | (simp [Holds]; done) | (simp [Holds]; omega)) ?_
    | refine WL.step rfl (OP.loadN rfl rfl rfl rfl (by repeat (first | exact HasNth.here rfl | apply HasNth.there)) rfl rfl ?_)
    | refine WL.step rfl (OP.loadB rfl rfl rfl rfl rfl (by repeat (first | exact HasCut.here rfl | apply HasCut.there)) rfl rfl ?_)
    | refine WL.step rfl (OP.store rfl rfl rfl rfl rfl rfl rfl (by repeat (first | exact UpdM.here rfl | apply UpdM.there)) rfl ?_)
    | refine WL.step rfl (OP.alloc rfl rfl rfl rfl rfl (fun _ => ?_))
    | refine WL.step rfl (OP.box rfl rfl rfl rfl rfl (fun _ => ?_))
    | refine WL.step rfl (OP.buildT rfl rfl rfl rfl ?_)
    | refine WL.step rfl (OP.sliceLit rfl rfl rfl rfl rfl rfl rfl rfl (fun _ => ?_))
    | refine WL.step rfl (OP.capS rfl rfl rfl rfl rfl rfl ?_))
  exact ret1 rfl ⟨rfl, (by repeat (first | exact List.Mem.head _ | apply List.Mem.tail))⟩
theorem body_awake : bodyM 2 (1, 2, 0, ⟨#[]⟩, 7) = [2, 1, 2, 7] := by
  unfold bodyM
  dsimp only
  rw [if_neg (by decide), show clampN 2 = 2 from rfl, show clampN 1 = 1 from rfl, show clampN 7 = 7 from rfl, numB_lt (by decide), numB_lt (by decide), numB_lt (by decide)]
  rfl
set_option maxHeartbeats 1000000 in
set_option maxRecDepth 10000 in
theorem rawake_ro : RO G 22 [] (fun _ => True) (.bool true) := by
  refine RO.enter Try.func22 rfl (by decide) rfl Try.ntmps22 rfl (fun A hu hA => ?_) (fun _ _ _ h => h)
  repeat (first
    | refine WC.seq ?_ | refine WC.region ?_ | refine WL.nil ?_ | with_reducible refine seqK.go ?_ | refine WC.block ?_ | refine WC.skip ?_ | refine WC.exit ?_ | refine WC.ret ?_
    | with_reducible refine seqK.exit ?_ | with_reducible refine seqK.ret ?_ | (with_reducible refine blockK.hit ?hb ?_; (case hb => rfl)) | (with_reducible refine blockK.miss ?hb ?_; (case hb => rfl)) | with_reducible refine blockK.normal ?_ | with_reducible refine blockK.ret ?_ | with_reducible refine loopK.exit ?_ | with_reducible refine loopK.ret ?_
    | refine WC.condT rfl ?_ | refine WC.condF rfl ?_
    | refine WL.step rfl (OP.pure (nw := true) rfl (by first | exact trivial | (simp only [Holds]; omega) | (simp [Holds]; done) | (simp [Holds]; omega)) rfl rfl ?_)
    | refine WL.step rfl (OP.pure (nw := false) rfl (by first | exact trivial | (simp only [Holds]; omega) | (simp [Holds]; done) | (simp [Holds]; omega)) rfl rfl ?_)
    | refine WL.step rfl (OP.pickT rfl rfl rfl rfl rfl ?_) | refine WL.step rfl (OP.pickF rfl rfl rfl rfl rfl ?_) | refine WL.guardT rfl rfl rfl rfl (OP.pickT rfl rfl rfl rfl rfl ?_) | refine WL.guardT rfl rfl rfl rfl (OP.pickF rfl rfl rfl rfl rfl ?_)
    | refine WL.guardT rfl rfl rfl rfl (OP.pure (nw := true) rfl (by first | exact trivial | (simp only [Holds]; omega) | (simp [Holds]; done) | (simp [Holds]; omega)) rfl rfl ?_)
    | refine WL.guardT rfl rfl rfl rfl (OP.pure (nw := false) rfl trivial rfl rfl ?_)
    | refine WL.guardT rfl rfl rfl rfl (OP.loadN rfl rfl rfl rfl (by repeat (first | exact HasNth.here rfl | apply HasNth.there)) rfl rfl ?_)
    | refine WL.guardT rfl rfl rfl rfl (OP.loadB rfl rfl rfl rfl rfl (by repeat (first | exact HasCut.here rfl | apply HasCut.there)) rfl rfl ?_)
    | refine WL.guardF rfl rfl rfl rfl rfl rfl ?_
    | refine WL.guardU rfl rfl rfl rfl rfl rfl ?_
    | refine WL.guarded (nw := true) rfl rfl rfl rfl rfl rfl rfl (by first | exact trivial | (simp only [Holds]; omega) | (simp [Holds]; done) | (simp [Holds]; omega)) ?_
    | refine WL.step rfl (OP.loadN rfl rfl rfl rfl (by repeat (first | exact HasNth.here rfl | apply HasNth.there)) rfl rfl ?_)
    | refine WL.step rfl (OP.loadB rfl rfl rfl rfl rfl (by repeat (first | exact HasCut.here rfl | apply HasCut.there)) rfl rfl ?_)
    | refine WL.step rfl (OP.store rfl rfl rfl rfl rfl rfl rfl (by repeat (first | exact UpdM.here rfl | apply UpdM.there)) rfl ?_)
    | refine WL.step rfl (OP.alloc rfl rfl rfl rfl rfl (fun _ => ?_))
    | refine WL.step rfl (OP.box rfl rfl rfl rfl rfl (fun _ => ?_))
    | refine WL.step rfl (OP.buildT rfl rfl rfl rfl ?_)
    | refine WL.step rfl (OP.sliceLit rfl rfl rfl rfl rfl rfl rfl rfl (fun _ => ?_))
    | refine WL.step rfl (OP.capS rfl rfl rfl rfl rfl rfl ?_))
  refine WL.step rfl (OP.callRT rfl rfl (encode_ok 2 (1, 2, 0, ⟨#[]⟩, 7) (by decide)) (fun _ _ => trivial) rfl rfl ?_)
  rintro v E hE
  unfold EncPost at hE
  rw [if_pos ⟨⟨by decide, .inl ⟨rfl, by decide, rfl, rfl⟩⟩, by decide⟩, body_awake] at hE
  obtain ⟨v1, rfl, a, cap, rfl, rfl⟩ := hE
  have hlen : (sectorM [2, 1, 2, 7]).length = 64 := sectorM_len (by decide)
  have g0 : ((sectorM [2, 1, 2, 7]).map byteV)[0]? = some (.int .u8 2) := rfl
  have g3 : ((sectorM [2, 1, 2, 7]).map byteV)[3]? = some (.int .u8 7) := rfl
  generalize sectorM [2, 1, 2, 7] = l at *
  rw [hlen]
  refine WL.fact (Ent.some (Ent.own (a := a) (n := 64) (cap := cap) (T := 5) (size := 1) (cs := l.map byteV) (by repeat (first | exact List.Mem.head _ | apply List.Mem.tail))) (by decide)) ?_
  rintro ⟨b2, off2, rfl⟩
  repeat (first | refine WL.step rfl (OP.decT (nw := true) rfl trivial (by first | omega | assumption) rfl rfl ?_) | refine WL.step rfl (OP.decF (nw := true) rfl trivial (by first | omega | assumption) rfl rfl ?_) | refine WL.step rfl (OP.decNT (nw := true) rfl trivial (by first | omega | assumption) rfl rfl ?_) | refine WL.step rfl (OP.decNF (nw := true) rfl trivial (by first | omega | assumption) rfl rfl ?_) | refine WL.guardT rfl rfl rfl rfl (OP.decT (nw := true) rfl trivial (by first | omega | assumption) rfl rfl ?_) | refine WL.guardT rfl rfl rfl rfl (OP.decF (nw := true) rfl trivial (by first | omega | assumption) rfl rfl ?_) | (first
    | refine WC.seq ?_ | refine WC.region ?_ | refine WL.nil ?_ | with_reducible refine seqK.go ?_ | refine WC.block ?_ | refine WC.skip ?_ | refine WC.exit ?_ | refine WC.ret ?_
    | with_reducible refine seqK.exit ?_ | with_reducible refine seqK.ret ?_ | (with_reducible refine blockK.hit ?hb ?_; (case hb => rfl)) | (with_reducible refine blockK.miss ?hb ?_; (case hb => rfl)) | with_reducible refine blockK.normal ?_ | with_reducible refine blockK.ret ?_ | with_reducible refine loopK.exit ?_ | with_reducible refine loopK.ret ?_
    | refine WC.condT rfl ?_ | refine WC.condF rfl ?_
    | refine WL.step rfl (OP.pure (nw := true) rfl (by first | exact trivial | (simp only [Holds]; omega) | (simp [Holds]; done) | (simp [Holds]; omega)) rfl rfl ?_)
    | refine WL.step rfl (OP.pure (nw := false) rfl (by first | exact trivial | (simp only [Holds]; omega) | (simp [Holds]; done) | (simp [Holds]; omega)) rfl rfl ?_)
    | refine WL.step rfl (OP.pickT rfl rfl rfl rfl rfl ?_) | refine WL.step rfl (OP.pickF rfl rfl rfl rfl rfl ?_) | refine WL.guardT rfl rfl rfl rfl (OP.pickT rfl rfl rfl rfl rfl ?_) | refine WL.guardT rfl rfl rfl rfl (OP.pickF rfl rfl rfl rfl rfl ?_)
    | refine WL.guardT rfl rfl rfl rfl (OP.pure (nw := true) rfl (by first | exact trivial | (simp only [Holds]; omega) | (simp [Holds]; done) | (simp [Holds]; omega)) rfl rfl ?_)
    | refine WL.guardT rfl rfl rfl rfl (OP.pure (nw := false) rfl trivial rfl rfl ?_)
    | refine WL.guardT rfl rfl rfl rfl (OP.loadN rfl rfl rfl rfl (by repeat (first | exact HasNth.here rfl | apply HasNth.there)) rfl rfl ?_)
    | refine WL.guardT rfl rfl rfl rfl (OP.loadB rfl rfl rfl rfl rfl (by repeat (first | exact HasCut.here rfl | apply HasCut.there)) rfl rfl ?_)
    | refine WL.guardF rfl rfl rfl rfl rfl rfl ?_
    | refine WL.guardU rfl rfl rfl rfl rfl rfl ?_
    | refine WL.guarded (nw := true) rfl rfl rfl rfl rfl rfl rfl (by first | exact trivial | (simp only [Holds]; omega) | (simp [Holds]; done) | (simp [Holds]; omega)) ?_
    | refine WL.step rfl (OP.loadN rfl rfl rfl rfl (by repeat (first | exact HasNth.here rfl | apply HasNth.there)) rfl rfl ?_)
    | refine WL.step rfl (OP.loadB rfl rfl rfl rfl rfl (by repeat (first | exact HasCut.here rfl | apply HasCut.there)) rfl rfl ?_)
    | refine WL.step rfl (OP.store rfl rfl rfl rfl rfl rfl rfl (by repeat (first | exact UpdM.here rfl | apply UpdM.there)) rfl ?_)
    | refine WL.step rfl (OP.alloc rfl rfl rfl rfl rfl (fun _ => ?_))
    | refine WL.step rfl (OP.box rfl rfl rfl rfl rfl (fun _ => ?_))
    | refine WL.step rfl (OP.buildT rfl rfl rfl rfl ?_)
    | refine WL.step rfl (OP.sliceLit rfl rfl rfl rfl rfl rfl rfl rfl (fun _ => ?_))
    | refine WL.step rfl (OP.capS rfl rfl rfl rfl rfl rfl ?_)))
  refine WL.guardT rfl rfl rfl rfl (OP.load1 (v := .int .u8 2) rfl rfl rfl rfl (Ent.elem (i := 0) (Ent.own (T := 5) (by repeat (first | exact List.Mem.head _ | apply List.Mem.tail))) rfl g0) rfl rfl ?_)
  repeat (first | refine WL.step rfl (OP.decT (nw := true) rfl trivial (by first | omega | assumption) rfl rfl ?_) | refine WL.step rfl (OP.decF (nw := true) rfl trivial (by first | omega | assumption) rfl rfl ?_) | refine WL.step rfl (OP.decNT (nw := true) rfl trivial (by first | omega | assumption) rfl rfl ?_) | refine WL.step rfl (OP.decNF (nw := true) rfl trivial (by first | omega | assumption) rfl rfl ?_) | refine WL.guardT rfl rfl rfl rfl (OP.decT (nw := true) rfl trivial (by first | omega | assumption) rfl rfl ?_) | refine WL.guardT rfl rfl rfl rfl (OP.decF (nw := true) rfl trivial (by first | omega | assumption) rfl rfl ?_) | (first
    | refine WC.seq ?_ | refine WC.region ?_ | refine WL.nil ?_ | with_reducible refine seqK.go ?_ | refine WC.block ?_ | refine WC.skip ?_ | refine WC.exit ?_ | refine WC.ret ?_
    | with_reducible refine seqK.exit ?_ | with_reducible refine seqK.ret ?_ | (with_reducible refine blockK.hit ?hb ?_; (case hb => rfl)) | (with_reducible refine blockK.miss ?hb ?_; (case hb => rfl)) | with_reducible refine blockK.normal ?_ | with_reducible refine blockK.ret ?_ | with_reducible refine loopK.exit ?_ | with_reducible refine loopK.ret ?_
    | refine WC.condT rfl ?_ | refine WC.condF rfl ?_
    | refine WL.step rfl (OP.pure (nw := true) rfl (by first | exact trivial | (simp only [Holds]; omega) | (simp [Holds]; done) | (simp [Holds]; omega)) rfl rfl ?_)
    | refine WL.step rfl (OP.pure (nw := false) rfl (by first | exact trivial | (simp only [Holds]; omega) | (simp [Holds]; done) | (simp [Holds]; omega)) rfl rfl ?_)
    | refine WL.step rfl (OP.pickT rfl rfl rfl rfl rfl ?_) | refine WL.step rfl (OP.pickF rfl rfl rfl rfl rfl ?_) | refine WL.guardT rfl rfl rfl rfl (OP.pickT rfl rfl rfl rfl rfl ?_) | refine WL.guardT rfl rfl rfl rfl (OP.pickF rfl rfl rfl rfl rfl ?_)
    | refine WL.guardT rfl rfl rfl rfl (OP.pure (nw := true) rfl (by first | exact trivial | (simp only [Holds]; omega) | (simp [Holds]; done) | (simp [Holds]; omega)) rfl rfl ?_)
    | refine WL.guardT rfl rfl rfl rfl (OP.pure (nw := false) rfl trivial rfl rfl ?_)
    | refine WL.guardT rfl rfl rfl rfl (OP.loadN rfl rfl rfl rfl (by repeat (first | exact HasNth.here rfl | apply HasNth.there)) rfl rfl ?_)
    | refine WL.guardT rfl rfl rfl rfl (OP.loadB rfl rfl rfl rfl rfl (by repeat (first | exact HasCut.here rfl | apply HasCut.there)) rfl rfl ?_)
    | refine WL.guardF rfl rfl rfl rfl rfl rfl ?_
    | refine WL.guardU rfl rfl rfl rfl rfl rfl ?_
    | refine WL.guarded (nw := true) rfl rfl rfl rfl rfl rfl rfl (by first | exact trivial | (simp only [Holds]; omega) | (simp [Holds]; done) | (simp [Holds]; omega)) ?_
    | refine WL.step rfl (OP.loadN rfl rfl rfl rfl (by repeat (first | exact HasNth.here rfl | apply HasNth.there)) rfl rfl ?_)
    | refine WL.step rfl (OP.loadB rfl rfl rfl rfl rfl (by repeat (first | exact HasCut.here rfl | apply HasCut.there)) rfl rfl ?_)
    | refine WL.step rfl (OP.store rfl rfl rfl rfl rfl rfl rfl (by repeat (first | exact UpdM.here rfl | apply UpdM.there)) rfl ?_)
    | refine WL.step rfl (OP.alloc rfl rfl rfl rfl rfl (fun _ => ?_))
    | refine WL.step rfl (OP.box rfl rfl rfl rfl rfl (fun _ => ?_))
    | refine WL.step rfl (OP.buildT rfl rfl rfl rfl ?_)
    | refine WL.step rfl (OP.sliceLit rfl rfl rfl rfl rfl rfl rfl rfl (fun _ => ?_))
    | refine WL.step rfl (OP.capS rfl rfl rfl rfl rfl rfl ?_)))
  refine WL.guardT rfl rfl rfl rfl (OP.load1 (v := .int .u8 7) rfl rfl rfl rfl (Ent.elem (i := 3) (Ent.own (T := 5) (by repeat (first | exact List.Mem.head _ | apply List.Mem.tail))) rfl g3) rfl rfl ?_)
  repeat (first | refine WL.step rfl (OP.decT (nw := true) rfl trivial (by first | omega | assumption) rfl rfl ?_) | refine WL.step rfl (OP.decF (nw := true) rfl trivial (by first | omega | assumption) rfl rfl ?_) | refine WL.step rfl (OP.decNT (nw := true) rfl trivial (by first | omega | assumption) rfl rfl ?_) | refine WL.step rfl (OP.decNF (nw := true) rfl trivial (by first | omega | assumption) rfl rfl ?_) | refine WL.guardT rfl rfl rfl rfl (OP.decT (nw := true) rfl trivial (by first | omega | assumption) rfl rfl ?_) | refine WL.guardT rfl rfl rfl rfl (OP.decF (nw := true) rfl trivial (by first | omega | assumption) rfl rfl ?_) | (first
    | refine WC.seq ?_ | refine WC.region ?_ | refine WL.nil ?_ | with_reducible refine seqK.go ?_ | refine WC.block ?_ | refine WC.skip ?_ | refine WC.exit ?_ | refine WC.ret ?_
    | with_reducible refine seqK.exit ?_ | with_reducible refine seqK.ret ?_ | (with_reducible refine blockK.hit ?hb ?_; (case hb => rfl)) | (with_reducible refine blockK.miss ?hb ?_; (case hb => rfl)) | with_reducible refine blockK.normal ?_ | with_reducible refine blockK.ret ?_ | with_reducible refine loopK.exit ?_ | with_reducible refine loopK.ret ?_
    | refine WC.condT rfl ?_ | refine WC.condF rfl ?_
    | refine WL.step rfl (OP.pure (nw := true) rfl (by first | exact trivial | (simp only [Holds]; omega) | (simp [Holds]; done) | (simp [Holds]; omega)) rfl rfl ?_)
    | refine WL.step rfl (OP.pure (nw := false) rfl (by first | exact trivial | (simp only [Holds]; omega) | (simp [Holds]; done) | (simp [Holds]; omega)) rfl rfl ?_)
    | refine WL.step rfl (OP.pickT rfl rfl rfl rfl rfl ?_) | refine WL.step rfl (OP.pickF rfl rfl rfl rfl rfl ?_) | refine WL.guardT rfl rfl rfl rfl (OP.pickT rfl rfl rfl rfl rfl ?_) | refine WL.guardT rfl rfl rfl rfl (OP.pickF rfl rfl rfl rfl rfl ?_)
    | refine WL.guardT rfl rfl rfl rfl (OP.pure (nw := true) rfl (by first | exact trivial | (simp only [Holds]; omega) | (simp [Holds]; done) | (simp [Holds]; omega)) rfl rfl ?_)
    | refine WL.guardT rfl rfl rfl rfl (OP.pure (nw := false) rfl trivial rfl rfl ?_)
    | refine WL.guardT rfl rfl rfl rfl (OP.loadN rfl rfl rfl rfl (by repeat (first | exact HasNth.here rfl | apply HasNth.there)) rfl rfl ?_)
    | refine WL.guardT rfl rfl rfl rfl (OP.loadB rfl rfl rfl rfl rfl (by repeat (first | exact HasCut.here rfl | apply HasCut.there)) rfl rfl ?_)
    | refine WL.guardF rfl rfl rfl rfl rfl rfl ?_
    | refine WL.guardU rfl rfl rfl rfl rfl rfl ?_
    | refine WL.guarded (nw := true) rfl rfl rfl rfl rfl rfl rfl (by first | exact trivial | (simp only [Holds]; omega) | (simp [Holds]; done) | (simp [Holds]; omega)) ?_
    | refine WL.step rfl (OP.loadN rfl rfl rfl rfl (by repeat (first | exact HasNth.here rfl | apply HasNth.there)) rfl rfl ?_)
    | refine WL.step rfl (OP.loadB rfl rfl rfl rfl rfl (by repeat (first | exact HasCut.here rfl | apply HasCut.there)) rfl rfl ?_)
    | refine WL.step rfl (OP.store rfl rfl rfl rfl rfl rfl rfl (by repeat (first | exact UpdM.here rfl | apply UpdM.there)) rfl ?_)
    | refine WL.step rfl (OP.alloc rfl rfl rfl rfl rfl (fun _ => ?_))
    | refine WL.step rfl (OP.box rfl rfl rfl rfl rfl (fun _ => ?_))
    | refine WL.step rfl (OP.buildT rfl rfl rfl rfl ?_)
    | refine WL.step rfl (OP.sliceLit rfl rfl rfl rfl rfl rfl rfl rfl (fun _ => ?_))
    | refine WL.step rfl (OP.capS rfl rfl rfl rfl rfl rfl ?_)))
  exact ret1 rfl ⟨rfl, (by repeat (first | exact List.Mem.head _ | apply List.Mem.tail))⟩
end Go.Proofs.Ytkoakmaihcheaaa
