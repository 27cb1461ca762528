/- Contracts of functions of the given program, and plain laws: parts of the proofs of laws. -/
import Derived.Test.YtleajkobmhhacaaGreatDoorZCQ4
import Derived.Test.YtleajkobmhhacaaGreatDoorZCQ16
import Derived.Test.YtleajkobmhhacaaGreatDoorZCQ10
import Derived.Test.YtleajkobmhhacaaGreatDoorZCQ3
/- Contracts of functions of the given program, and plain laws on what they compute: parts of the proofs of laws. -/

namespace Go.Proofs.YtleajkobmhhacaaGreatDoor
open Go Go.GL

abbrev opT : TypeId := 45
abbrev ccT : TypeId := 60
set_option maxHeartbeats 64000000 in
set_option maxRecDepth 10000 in
theorem cplays_ro (ring : Int) (a : Option Addr) (n c : Nat) (fl : List Int) (a1 : Option Addr) (n1 c1 : Nat) (ops : List POp) (mark : Int) (hr8 : 0 ≤ ring ∧ ring ≤ 255) (hn : n = fl.length) (hn1 : n1 = ops.length) (hk : ∀ o ∈ ops, 0 ≤ o.2.2.2.2.2 ∧ o.2.2.2.2.2 < 18446744073709551616) :
    RO G 3 [.int .u8 ring, .slice a n c, .slice a1 n1 c1, .int .i64 mark] (fun h => ErrT h ∧ readS a n 1 (fl.map vI) h ∧ readS a1 n1 8 (ops.flatMap encPo) h) (.bool true) := by
  refine RO.enter Tryz.func3 rfl (by decide) rfl Tryz.ntmps3 rfl (fun A hu hA' => ?_) (up_and up_ErrT (up_and (up_readS _ _ _ _) (up_readS _ _ _ _)))
  have hA : ∀ h, A h → readS a n 1 (fl.map vI) h := fun h x => (hA' h x).2.1
  have hT : ∀ {L}, A ∈ L → Ent L ErrT := fun m => Ent.mem m hu fun k x => (hA' k x).1
  have hE1 : ∀ {L}, A ∈ L → Ent L (readS a1 n1 8 (ops.flatMap encPo)) := fun m => Ent.mem m hu fun k x => (hA' k x).2.2
  have hce : ∀ {L} {ch : Chain} {cd : Int}, chainR ch cd ∈ L → A ∈ L → Ent L (chainE ch cd) := fun m1 m2 => Ent.and (hT m2) (Ent.mem m1 (up_chainR _ _) (fun _ x => x))
  have hww : widest = 1152921504606846975 := rfl
  obtain ⟨r, hr, hr30⟩ : ∃ r : Nat, ring % 30 = r ∧ r < 30 := ⟨(ring % 30).toNat, by omega, by omega⟩
  repeat (first | refine GD ?_ | refine NW fun _ => ?_)
  refine WL.step rfl (OP.callRO rfl rfl cawake_ro (fun _ _ => trivial) rfl rfl ?_)
  by_cases h150 : 150 < n1
  · repeat (first | refine GD ?_ | refine NW fun _ => ?_)
    refine WL.step rfl (OP.callRO rfl rfl cawake_ro (fun _ _ => trivial) rfl rfl ?_)
    repeat (first | refine GD ?_ | refine NW fun _ => ?_)
    exact ret1 rfl ⟨rfl, MM⟩
  by_cases h10 : 10 < n
  · repeat (first | refine GD ?_ | refine NW fun _ => ?_)
    refine WL.step rfl (OP.callRO rfl rfl cawake_ro (fun _ _ => trivial) rfl rfl ?_)
    repeat (first | refine GD ?_ | refine NW fun _ => ?_)
    exact ret1 rfl ⟨rfl, MM⟩
  have hlen22 : (Dsk.new 22).S.length = 22 := by decide
  repeat (first | refine GD ?_ | refine NW fun _ => ?_)
  refine WL.step rfl (OP.callRT rfl rfl (dnew_rt 22) (fun _ _ => trivial) rfl rfl ?_)
  rintro _ _ ⟨q, rfl, rfl⟩
  repeat (first | refine GD ?_ | refine NW fun _ => ?_)
  refine WL.step rfl (OP.callRT rfl rfl (rdnew_rt 22 (by decide)) (fun _ _ => trivial) rfl rfl ?_)
  rintro _ _ ⟨w, rfl, rfl⟩
  repeat (first | refine GD ?_ | refine NW fun _ => ?_)
  rw [hr]
  have hJr : ∀ J2 D2, openM (Dsk.new 22) (r : Int) = .ok (J2, D2) → J2.rng ∧ ∀ x ∈ J2.held, RightR x.2 := fun J2 D2 h => by
    have hb : ¬ ((r : Int) < 1 ∨ 512 < (r : Int) ∨ ((Dsk.new 22).S.length : Int) < 2 + r) := fun hb => by
      unfold openM at h
      rw [if_pos hb] at h
      cases h
    obtain ⟨J, D, ho, _, _, _, _, I⟩ := CInv.fresh (n := 22) (ring := r) (by omega) (by omega) (by rw [hlen22] at hb; omega) (by decide) (l := []) (f := f0) rfl
    have ho' : openM (Dsk.new 22) (r : Int) = .ok (J, D) := ho
    rw [ho'] at h; cases h; exact ⟨I.jr (by omega), I.J.right⟩
  have hop := copen_ok q r (a, n, c) (Dsk.new 22) A hu fl hA (show n < 1000000 by omega) (Dsk.new_ok 22) (by decide) (by omega) hJr
  have hrop := qnopen_ok w r (a, n, c) (Dsk.new 22) A hu fl hA (show n < 1000000 by omega) (Dsk.new_ok 22) (by decide) (by omega) hJr
  unfold OpenCo at hop
  unfold QOpenCo at hrop
  cases hoc : openC (Dsk.new 22) (r : Int) fl with
  | error lc =>
    obtain ⟨le, ce⟩ := lc
    obtain ⟨⟨l', rfl, hl'⟩, hce0⟩ := open_er hoc
    rw [hoc] at hop hrop
    refine WL.step rfl (OP.call (pre := [dsk q (Dsk.new 22), A]) rfl rfl hop PS rfl rfl ?_)
    rintro _ _ ⟨e, E, hE, rfl, rfl⟩
    obtain ⟨y, ch, hc1, rfl, rfl⟩ := isEr_one hE (by simp)
    repeat (first | refine GD ?_ | refine NW fun _ => ?_)
    refine WL.step rfl (OP.call (pre := [rdsk w (Dsk.new 22), A]) rfl rfl hrop PS rfl rfl ?_)
    rintro _ _ ⟨_, rfl, rfl⟩
    have hcl : (y :: ch).length < 1000 := by have := congrArg List.length hc1; rw [List.length_map] at this; rw [this]; simp only [List.length_cons]; omega
    have hpl := cplace_err (y :: ch) ce 0 l' hc1 hcl hce0
    dsimp only [valOf] at hpl
    repeat (first | refine GD ?_ | refine NW fun _ => ?_)
    refine WL.step rfl (OP.callRO rfl rfl hpl (hce MM MM) rfl rfl ?_)
    repeat (first | refine GD ?_ | refine NW fun _ => ?_)
    exact ret1 rfl ⟨rfl, MM⟩
  | ok C0 =>
  obtain ⟨f, hnw, P0⟩ : ∃ f, newM fl f0 = .ok f ∧ PlayI 0 f r C0 [] := by
    have h := hoc
    unfold openC at h
    cases hnw : newM fl f0 with
    | error vc => rw [hnw] at h; cases h
    | ok f =>
      rw [hnw] at h
      dsimp only at h
      have hb : ¬ ((r : Int) < 1 ∨ 512 < (r : Int) ∨ ((Dsk.new 22).S.length : Int) < 2 + r) := fun hb => by
        unfold openM at h
        rw [if_pos hb] at h
        cases h
      obtain ⟨J, D, ho, hr', hh, hoc', hst, I0⟩ := CInv.fresh (n := 22) (ring := r) (by omega) (by omega) (by rw [hlen22] at hb; omega) (by decide) hnw
      have hoc2 : openC (Dsk.new 22) (r : Int) fl = .ok ⟨J, D, f, [], rnd0, 0, 0⟩ := hoc'
      rw [hoc] at hoc2
      cases hoc2
      exact ⟨f, rfl, I0, rfl, hr', Nat.zero_le _⟩
  rw [hoc] at hop hrop
  refine WL.step rfl (OP.call (pre := [dsk q (Dsk.new 22), A]) rfl rfl hop PS rfl rfl ?_)
  rintro _ _ ⟨p, g, rfl, rfl⟩
  repeat (first | refine GD ?_ | refine NW fun _ => ?_)
  refine WL.step rfl (OP.call (pre := [rdsk w (Dsk.new 22), A]) rfl rfl hrop PS rfl rfl ?_)
  rintro _ _ ⟨nd, rfl, rfl⟩
  repeat (first | refine GD ?_ | refine NW fun _ => ?_)
  refine WL.step rfl (OP.callRO rfl rfl (cplace_nil 0) (fun _ _ => trivial) rfl rfl ?_)
  repeat (first | refine GD ?_ | refine NW fun _ => ?_)
  refine WL.step rfl (OP.callRO rfl rfl (cgroup_ro p q g (a, n, c) C0) (Ent.at (up_crdA _ _ _ _ _) MM) rfl rfl ?_)
  repeat (first | refine GD ?_ | refine NW fun _ => ?_)
  refine WC.imp (Imp.nilS cqT 3) ?_
  refine WC.loop (σ := Nat × Crd × List Cmd × Option Addr × Nat) (fun s => s.1 ≤ n1 ∧ PlayI s.1 f r s.2.1 s.2.2.1)
    (fun s => [(2, .val (.slice a1 n1 c1)), (3, .val (.int .i64 mark)), (10, .val (.pointer (some ⟨q, 0, none⟩))), (11, .val (.pointer (some ⟨w, 0, none⟩))), (12, .val (.pointer (some ⟨p, 0, none⟩))), (14, .val (.pointer (some ⟨nd, 0, none⟩))), (16, .val (.pointer (some ⟨g, 0, none⟩))), (17, .val (.slice s.2.2.2.1 s.2.2.1.length s.2.2.2.2)), (91, .val (.int .i64 n1)), (92, .val (.int .i64 s.1))])
    (fun s => [ownS s.2.2.2.1 s.2.2.1.length s.2.2.2.2 cqT 3 (s.2.2.1.flatMap encCmd), crdA p q g (a, n, c) s.2.1, dsk q s.2.1.D, nodA nd w (a, n, c) s.2.1, rdsk w s.2.1.D, A]) (fun s => n1 - s.1)
    (0, C0, [], none, 0) ⟨Nat.zero_le _, P0⟩ ⟨rfl, rfl, rfl, rfl, rfl, rfl, rfl, rfl, rfl, rfl, trivial⟩ II ?_
  clear P0 hoc hop hrop hJr
  clear C0
  rintro ⟨k, C, told, ta, tc⟩ ⟨hk1, P⟩
  dsimp only at hk1 P ⊢
  by_cases hlt : k < n1
  rotate_left
  · have I := P.I.J
    have hI64 := fun i h => Dsk.cur_64 I.dok (i := i) h
    have hfw := I.few
    have hdok := I.dok
    have h1024 := I.dok.few
    generalize C.D = D at *
    repeat (first | refine GD ?_ | refine NW fun _ => ?_)
    refine WL.step rfl (OP.callRO rfl rfl (dlen_ro q D) (Ent.at (up_dsk _ _) MM) rfl rfl ?_)
    repeat (first | refine GD ?_ | refine NW fun _ => ?_)
    refine WC.loop (σ := Nat) (fun i => i ≤ D.S.length)
      (fun i => [(10, .val (.pointer (some ⟨q, 0, none⟩))), (11, .val (.pointer (some ⟨w, 0, none⟩))), (286, .val (.int .i64 D.S.length)), (287, .val (.int .i64 i))])
      (fun i => [dsk q D, rdsk w D, A]) (fun i => D.S.length - i) 0 (Nat.zero_le _) ⟨rfl, rfl, rfl, rfl, trivial⟩ II ?_
    rintro i hi1
    by_cases hil : i < D.S.length
    rotate_left
    · repeat (first | refine GD ?_ | refine NW fun _ => ?_)
      exact ret1 rfl ⟨rfl, MM⟩
    have hrd := dread_rt q D i hdok (by omega)
    unfold DReadPost at hrd
    rw [Int.toNat_natCast] at hrd
    have hrr := rdread_ro w D i (by omega)
    unfold RRdV at hrr
    rw [if_pos (by omega), Int.toNat_natCast] at hrr
    have h64 := hI64 i hil
    generalize D.cur i = l0 at *
    repeat (first | refine GD ?_ | refine NW fun _ => ?_)
    refine WL.step rfl (OP.callRT rfl rfl hrd (Ent.at (up_dsk _ _) MM) rfl rfl ?_)
    intro v E hE'
    rw [if_pos (by omega)] at hE'
    obtain ⟨br, rfl, rfl⟩ := hE'
    repeat (first | refine GD ?_ | refine NW fun _ => ?_)
    refine WL.step rfl (OP.callRO rfl rfl hrr (Ent.at (up_rdsk _ _) MM) rfl rfl ?_)
    repeat (first | refine GD ?_ | refine NW fun _ => ?_)
    refine WL.step rfl (OP.toStr (sv := ba l0) rfl rfl rfl rfl rfl rfl rfl rfl (by rw [strCells_ba]; exact Ent.at (up_readS _ _ _ _) MM) rfl rfl ?_)
    generalize ba l0 = bb at *
    repeat (first | refine GD ?_ | refine NW fun _ => ?_)
    rw [decide_eq_true (rfl : bb = bb)]
    repeat (first | refine GD ?_ | refine NW fun _ => ?_)
    exact ⟨i + 1, by omega, by omega, ⟨rfl, rfl, rfl, rfl, trivial⟩, II⟩
  have hlk : k < ops.length := by omega
  refine WC.fact (Ent.some (hE1 MM) (by omega)) ?_
  rintro ⟨b, off, rfl⟩
  have hkk := hk ops[k] (List.getElem_mem hlk)
  have her : ∀ {L}, A ∈ L → Ent L (cellsAt b (off + k * 8) (encPo ops[k])) := fun m => Ent.elA encPo_len (hE1 m) hlk
  generalize ops[k] = o at *
  obtain ⟨kd, vol, ⟨ck, cv, cn⟩, inn, tld, keep⟩ := o
  dsimp only at hkk
  have hring := P.ring
  have hlast := P.I.last
  have hnum := P.I.num
  have htl := P.told
  repeat (first | refine GD ?_ | refine NW fun _ => ?_)
  refine WL.step rfl (OP.loadA (l := encPo (kd, vol, (ck, cv, cn), inn, tld, keep)) rfl rfl rfl rfl (her MM) rfl rfl rfl ?_)
  rw [show encPo (kd, vol, (ck, cv, cn), inn, tld, keep) = [.int .i64 kd, .int .i64 vol, .int .i64 ck, .int .i64 cv, .int .i64 cn, .bool inn, .bool tld, .int .u64 keep] from rfl]
  refine WL.meet3 (Meet (fun s : Cmd × List Cmd × Option Addr × Nat × Nat × Nat => s.2.1.length ≤ told.length)
    (fun s => [(2, .val (.slice (some ⟨b, off, none⟩) n1 c1)), (3, .val (.int .i64 mark)), (10, .val (.pointer (some ⟨q, 0, none⟩))), (11, .val (.pointer (some ⟨w, 0, none⟩))), (12, .val (.pointer (some ⟨p, 0, none⟩))), (14, .val (.pointer (some ⟨nd, 0, none⟩))), (16, .val (.pointer (some ⟨g, 0, none⟩))), (17, .val (.slice s.2.2.1 s.2.1.length s.2.2.2.1)), (21, .val (.slice none 0 0)), (19, .val (.pointer (some ⟨s.2.2.2.2.1, 0, none⟩))), (20, .val (.pointer (some ⟨s.2.2.2.2.2, 0, none⟩))), (91, .val (.int .i64 n1)), (92, .val (.int .i64 k))])
    (fun s => [blk s.2.2.2.2.1 [.int .i64 kd, .int .i64 vol, .int .i64 ck, .int .i64 cv, .int .i64 cn, .bool inn, .bool tld, .int .u64 keep] opT, blk s.2.2.2.2.2 [.int .i64 s.1.1, .int .i64 s.1.2.1, .int .i64 s.1.2.2] cqT, ownS s.2.2.1 s.2.1.length s.2.2.2.1 cqT 3 (s.2.1.flatMap encCmd), crdA p q g (a, n, c) C, dsk q C.D, nodA nd w (a, n, c) C, rdsk w C.D, A])) ?_ (Meet.go ?_)
  · cases tld with
    | false =>
      repeat (first | refine GD ?_ | refine NW fun _ => ?_)
      rename_i bo bc
      exact (show Meet _ _ _ _ _ from ⟨((ck, cv, cn), told, ta, tc, bo, bc), Nat.le_refl _, ⟨rfl, rfl, rfl, rfl, rfl, rfl, rfl, rfl, rfl, rfl, rfl, rfl, rfl, trivial⟩, II⟩)
    | true =>
      cases told with
      | nil =>
        repeat (first | refine GD ?_ | refine NW fun _ => ?_)
        rename_i bo bc
        exact (show Meet _ _ _ _ _ from ⟨((ck, cv, cn), ([] : List Cmd), ta, tc, bo, bc), Nat.le_refl _, ⟨rfl, rfl, rfl, rfl, rfl, rfl, rfl, rfl, rfl, rfl, rfl, rfl, rfl, trivial⟩, II⟩)
      | cons cm rr =>
        obtain ⟨m1, m2, m3⟩ := cm
        have hclen : ((m1, m2, m3) :: rr).length = rr.length + 1 := rfl
        refine WL.fact (Ent.some (Ent.own (a := ta) (n := ((m1, m2, m3) :: rr).length) (cap := tc) (T := cqT) (size := 3) (cs := ((m1, m2, m3) :: rr).flatMap encCmd) MM) (by simp)) ?_
        rintro ⟨ob, oo, rfl⟩
        refine WL.fact (Ent.ownLe (a := some ⟨ob, oo, none⟩) (n := ((m1, m2, m3) :: rr).length) (cap := tc) (T := cqT) (size := 3) (cs := ((m1, m2, m3) :: rr).flatMap encCmd) MM) (fun hcap => ?_)
        rw [hclen] at *
        have hpos : 0 < ((rr.length + 1 : Nat) : Int) := by omega
        repeat (first | refine GD ?_ | refine NW fun _ => ?_)
        refine WL.step rfl (OP.loadA (l := encCmd (m1, m2, m3)) rfl rfl rfl rfl (Ent.elA (f := encCmd) encCmd_len (k := 0) (l := (m1, m2, m3) :: rr) (Ent.own (T := cqT) MM) (by simp)) rfl rfl rfl ?_)
        rw [show encCmd (m1, m2, m3) = [.int .i64 m1, .int .i64 m2, .int .i64 m3] from rfl]
        repeat (first | refine GD ?_ | refine NW fun _ => ?_)
        rename_i bo bc
        exact (show Meet _ _ _ _ _ from ⟨((m1, m2, m3), rr, cutA (some ⟨ob, oo, none⟩) tc 1 3, tc - 1, bo, bc), Nat.le_succ _, ⟨rfl, rfl, rfl, rfl, rfl, rfl, rfl, rfl, rfl, rfl, rfl, rfl, rfl, trivial⟩, Imp.trans (show Imp _ (ownS (some ⟨ob, oo, none⟩) (rr.length + 1) tc cqT 3 (((m1, m2, m3) :: rr).flatMap encCmd) :: _) from P1) (Imp.trans (Imp.ownCut (cap' := tc) (l := 1) (by omega) hcap (Nat.le_refl _)) II)⟩)
  rintro ⟨⟨c0, c1', c2⟩, told2, ta2, tc2, bo, bc⟩ ht2
  dsimp only at ht2 ⊢
  have htl2 : told2.length ≤ 8 * (k + 1) := Nat.le_trans ht2 htl
  clear htl ht2
  refine WC.seq (WC.region ?_)
  refine WL.meet (Meet (fun s : PSt => PlayI (k + 1) f r s.1 (s.2.1 ++ s.2.2.2.2.1))
    (fun s => [(2, .val (.slice (some ⟨b, off, none⟩) n1 c1)), (3, .val (.int .i64 mark)), (10, .val (.pointer (some ⟨q, 0, none⟩))), (11, .val (.pointer (some ⟨w, 0, none⟩))), (12, .val (.pointer (some ⟨p, 0, none⟩))), (14, .val (.pointer (some ⟨nd, 0, none⟩))), (16, .val (.pointer (some ⟨g, 0, none⟩))), (17, .val (.slice s.2.2.1 s.2.1.length s.2.2.2.1)), (21, .val (.slice s.2.2.2.2.2.1 s.2.2.2.2.1.length s.2.2.2.2.2.2)), (22, .val (.bool true)), (91, .val (.int .i64 n1)), (92, .val (.int .i64 k))])
    (fun s => [ownS s.2.2.2.2.2.1 s.2.2.2.2.1.length s.2.2.2.2.2.2 cqT 3 (s.2.2.2.2.1.flatMap encCmd), ownS s.2.2.1 s.2.1.length s.2.2.2.1 cqT 3 (s.2.1.flatMap encCmd), crdA p q g (a, n, c) s.1, dsk q s.1.D, nodA nd w (a, n, c) s.1, rdsk w s.1.D, A])) ?_ (Meet.go ?_)
  rotate_left
  · rintro ⟨C2, told3, ta3, tc3, bl, ab, cb⟩ P2
    dsimp only at P2 ⊢
    clear her hE1 hkk hring hlast hnum htl2 P hr hA' hce hT hlk
    have I2 := P2.I
    have hla2 := I2.last
    have hnu2 := I2.num
    have htl3 := P2.told
    rw [List.length_append] at htl3
    have h4 : (listM (atM mark C2.f C2.ch)).length ≤ 4 := by
      have := listM_len (atM mark C2.f C2.ch)
      rw [atM_length, I2.f4] at this
      exact this
    have hgt := gat_rt g C2.f C2.ch mark I2.f4 I2.vols I2.few
    have hqt := fun gq => qgat_rt gq C2.f C2.ch mark I2.f4 I2.inc I2.vols I2.few
    have hls := glast_ro g C2.f C2.ch I2.f4 I2.few
    have hqls := fun gq => qglast_ro gq C2.f C2.ch I2.f4 I2.few
    generalize listM (atM mark C2.f C2.ch) = mm at *
    repeat (first | refine GD ?_ | refine NW fun _ => ?_)
    refine WL.step rfl (OP.append rfl rfl rfl rfl rfl rfl rfl rfl rfl (show Imp _ (ownS ta3 told3.length tc3 cqT 3 (told3.flatMap encCmd) :: _) from P1) (Ent.own MM) (cmd_ones _) (by omega) (by omega) rfl rfl (fun a' cap' => ?_))
    rw [← List.length_append, ← List.flatMap_append]
    generalize told3 ++ bl = told4 at *
    repeat (first | refine GD ?_ | refine NW fun _ => ?_)
    refine WL.step rfl (OP.callRO rfl rfl (crounds_ro p q g (a, n, c) C2) (Ent.at (up_crdA _ _ _ _ _) MM) rfl rfl ?_)
    refine WL.open (Ls := nodL nd w (a, n, c) C2) (show Imp _ (nodA nd w (a, n, c) C2 :: _) from P1) (fun x => ?_)
    have hfold := fun N => nodFold nd w (a, n, c) C2 x (N := N)
    obtain ⟨jq, gq, rq⟩ := x
    unfold nodL
    unfold nodC at *
    dsimp only [List.cons_append, List.nil_append] at hfold ⊢
    have hqt := hqt gq
    have hqls := hqls gq
    repeat (first | refine GD ?_ | refine NW fun _ => ?_)
    refine RD 58 58 (_) ?_
    refine WP 0 ?_
    refine WP 1 ?_
    refine WP 2 ?_
    refine WP 3 ?_
    refine WP 4 ?_
    refine WP 5 ?_
    refine WP 6 ?_
    refine VV 7 ?_
    refine WP 8 ?_
    rw [decide_eq_true rfl]
    refine WP 9 ?_
    refine WP 10 ?_
    refine WP 11 ?_
    refine WP 12 ?_
    refine WP 13 ?_
    refine WP 14 ?_
    refine VV 15 ?_
    refine WP 16 ?_
    refine WP 17 ?_
    refine VG 18 rfl (Quiet.load (v := .int .i64 C2.R.number) rfl rfl rfl (.inl ⟨rfl, qrnd_at (i := 0) (R := C2.R) MM (fun _ => rfl)⟩)) ?_
    refine WP 19 ?_
    rw [decide_eq_true rfl]
    refine WP 20 ?_
    refine WP 21 ?_
    refine WP 22 ?_
    refine WP 23 ?_
    refine WP 24 ?_
    refine WP 25 ?_
    refine VV 26 ?_
    refine WP 27 ?_
    rw [decide_eq_true rfl]
    refine WP 28 ?_
    refine WP 29 ?_
    refine WP 30 ?_
    refine WP 32 ?_
    refine WH.onlyG (q := true) 31 rfl rfl rfl rfl rfl rfl rfl (by kernel_rfl) rfl (.inl rfl) (fun _ => OP.callRO rfl rfl (cgroup_ro p q g (a, n, c) C2) (Ent.at (up_crdA _ _ _ _ _) MM) rfl rfl ⟨fun _ => II, ?_⟩) (fun h => nomatch h)
    refine WH.onlyG (q := true) 33 rfl rfl rfl rfl rfl rfl rfl (by kernel_rfl) rfl (.inl rfl) (fun _ => OP.ptrNe rfl rfl rfl rfl rfl rfl rfl rfl rfl ⟨fun _ => II, ?_⟩) (fun h => nomatch h)
    refine WP 34 ?_
    refine WP 35 ?_
    refine WP 36 ?_
    refine WP 37 ?_
    refine WP 39 ?_
    refine WP 40 ?_
    refine WP 41 ?_
    refine VV 42 ?_
    refine WP 43 ?_
    refine WH.onlyG (q := true) 38 rfl rfl rfl rfl rfl rfl rfl (by kernel_rfl) rfl (.inl rfl) (fun _ => OP.callRT rfl rfl hgt (crd_grp (C := C2) (p := p) (q := q) (fv := (a, n, c)) MM) rfl rfl (fun x3 E3 hE3 => ?_)) (fun h => nomatch h)
    obtain ⟨aO, cO, rfl, rfl⟩ := hE3
    refine ⟨fun _ => II, ?_⟩
    refine WH.onlyG (q := true) 44 rfl rfl rfl rfl rfl rfl rfl (by kernel_rfl) rfl (.inl rfl) (fun _ => OP.callRT rfl rfl hqt (Ent.at (up_qgrp _ _ _) MM) rfl rfl (fun x3 E3 hE3 => ?_)) (fun h => nomatch h)
    obtain ⟨aP, cP, rfl, rfl⟩ := hE3
    refine ⟨fun _ => II, ?_⟩
    refine WH.onlyG (q := true) 45 rfl rfl rfl rfl rfl rfl rfl (by kernel_rfl) rfl (.inl rfl) (fun _ => OP.callRO rfl rfl (csame_ro aO aP mm.length cO mm.length cP mm mm rfl rfl (by omega)) (Ent.and (Ent.own (T := 3) (cap := cO) MM) (Ent.own (T := 3) (cap := cP) MM)) rfl rfl ⟨fun _ => II, ?_⟩) (fun h => nomatch h)
    rw [decide_eq_true (rfl : mm = mm)]
    refine WP 46 ?_
    refine WP 47 ?_
    refine WP 48 ?_
    refine WP 49 ?_
    refine WP 51 ?_
    refine WP 52 ?_
    refine WP 53 ?_
    refine VV 54 ?_
    refine WH.onlyG (q := true) 50 rfl rfl rfl rfl rfl rfl rfl (by kernel_rfl) rfl (.inl rfl) (fun _ => OP.callRO rfl rfl (hls) (crd_grp (C := C2) (p := p) (q := q) (fv := (a, n, c)) MM) rfl rfl ⟨fun _ => II, ?_⟩) (fun h => nomatch h)
    refine WH.onlyG (q := true) 55 rfl rfl rfl rfl rfl rfl rfl (by kernel_rfl) rfl (.inl rfl) (fun _ => OP.callRO rfl rfl (hqls) (Ent.at (up_qgrp _ _ _) MM) rfl rfl ⟨fun _ => II, ?_⟩) (fun h => nomatch h)
    refine WP 56 ?_
    rw [decide_eq_true rfl]
    refine WP 57 ?_
    refine DN ?_
    repeat (first | refine GD ?_ | refine NW fun _ => ?_)
    exact ⟨(k + 1, C2, told4, a', cap'), ⟨by dsimp only; omega, ⟨P2.I, P2.f, P2.ring, P2.told⟩⟩, by dsimp only; omega, ⟨rfl, rfl, rfl, rfl, rfl, rfl, rfl, rfl, rfl, rfl, trivial⟩, Imp.trans II (Imp.trans (hfold [ownS a' told4.length cap' cqT 3 (told4.flatMap encCmd), crdA p q g (a, n, c) C2, dsk q C2.D, rdsk w C2.D, A]) II)⟩
  have hm4 : (C.mem (C.last + 1)).length ≤ 4 := by
    have := listM_len (atM (C.last + 1) C.f C.ch)
    rw [atM_length, P.I.f4] at this
    exact this
  have hPe : PlayI (k + 1) f r C (told2 ++ ([] : List Cmd)) := ⟨P.I.mono (by omega), P.f, P.ring, by rw [List.append_nil]; omega⟩
  by_cases k1 : kd = 1
  · subst k1
    have hcb := cbegin_ok p q g (a, n, c) C _ P.I (by omega)
    have hqb := qnbegin_ok nd w (a, n, c) C _ P.I (by omega)
    unfold BeginCo at hcb
    unfold QBeginCo at hqb
    repeat (first | refine GD ?_ | refine NW fun _ => ?_)
    refine WL.step rfl (OP.load1 (v := .int .i64 C.last) rfl rfl rfl rfl (nod_at (i := 6) (C := C) (q := w) (fv := (a, n, c)) MM (fun _ => rfl)) rfl rfl ?_)
    repeat (first | refine GD ?_ | refine NW fun _ => ?_)
    cases hbg : beginC C with
    | error lc =>
      obtain ⟨le, ce⟩ := lc
      obtain ⟨⟨l', rfl, hl'⟩, hce0⟩ := begin_er hbg
      rw [hbg] at hcb hqb
      refine WL.step rfl (OP.call (pre := [crdA p q g _ _, dsk q C.D]) rfl rfl hcb PS rfl rfl ?_)
      rintro _ _ ⟨e, E, hE, rfl, rfl⟩
      obtain ⟨y, ch, hc1, rfl, rfl⟩ := isEr_one hE (by simp)
      have hcl : (y :: ch).length < 1000 := by have := congrArg List.length hc1; rw [List.length_map] at this; rw [this]; simp only [List.length_cons]; omega
      have hpl := cplace_err (y :: ch) ce (C.last + 1) l' hc1 hcl hce0
      dsimp only [valOf] at hpl
      repeat (first | refine GD ?_ | refine NW fun _ => ?_)
      refine WL.step rfl (OP.call (pre := [nodA nd w _ _, rdsk w C.D]) rfl rfl hqb PS rfl rfl ?_)
      rintro _ _ ⟨rfl, rfl⟩
      refine WL.imp (Imp.trans (Imp.nilS ccT 3) (Imp.nilS cqT 3)) ?_
      repeat (first | refine GD ?_ | refine NW fun _ => ?_)
      refine WL.guardT rfl rfl rfl rfl (OP.callRT rfl rfl (clist_rt none (([] : List Cmd)).length 0 ([] : List Cmd) rfl (by decide)) (Ent.own (T := ccT) (cap := 0) MM) rfl rfl ?_)
      rintro _ _ ⟨za, zc, rfl, rfl⟩
      repeat (first | refine GD ?_ | refine NW fun _ => ?_)
      refine WL.guardT rfl rfl rfl rfl (OP.callRO rfl rfl (cqsame_ro za none (([] : List Cmd)).length zc (([] : List Cmd)).length 0 ([] : List Cmd) rfl rfl (by decide)) (Ent.and (Ent.own (T := cqT) (cap := zc) MM) (Ent.own (T := cqT) (cap := 0) MM)) rfl rfl ?_)
      repeat (first | refine GD ?_ | refine NW fun _ => ?_)
      refine WL.guardT rfl rfl rfl rfl (OP.callRO rfl rfl hpl (hce MM MM) rfl rfl ?_)
      repeat (first | refine GD ?_ | refine NW fun _ => ?_)
      exact (show Meet _ _ _ _ _ from ⟨(C, told2, ta2, tc2, ([] : List Cmd), none, 0), hPe, ⟨rfl, rfl, rfl, rfl, rfl, rfl, rfl, rfl, rfl, rfl, rfl, rfl, trivial⟩, II⟩)
    | ok x =>
      obtain ⟨⟨nb, l⟩, C1⟩ := x
      obtain ⟨I1, hnb, hl1, hch1, hf1, -, -, hr1, -, -, -, hll, -⟩ := P.I.begin (by omega) hbg
      have hl4 : l.length ≤ 4 := by rw [hll, List.length_map, hnb]; exact hm4
      have hP1 : PlayI (k + 1) f r C1 (told2 ++ l) := ⟨I1.mono (by omega), hf1.trans P.f, hr1.trans P.ring, by rw [List.length_append]; omega⟩
      rw [hbg] at hcb hqb
      refine WL.step rfl (OP.call (pre := [crdA p q g _ _, dsk q C.D]) rfl rfl hcb PS rfl rfl ?_)
      rintro _ _ ⟨_, _, ⟨xa, xc, rfl, rfl⟩, rfl, rfl⟩
      repeat (first | refine GD ?_ | refine NW fun _ => ?_)
      refine WL.step rfl (OP.call (pre := [nodA nd w _ _, rdsk w C.D]) rfl rfl hqb PS rfl rfl ?_)
      rintro _ _ ⟨_, _, ⟨ya, yc, rfl, rfl⟩, rfl, rfl⟩
      clear hll
      repeat (first | refine GD ?_ | refine NW fun _ => ?_)
      refine WL.guardT rfl rfl rfl rfl (OP.callRT rfl rfl (clist_rt xa (l).length xc l rfl (by omega)) (Ent.own (T := ccT) (cap := xc) MM) rfl rfl ?_)
      rintro _ _ ⟨za, zc, rfl, rfl⟩
      repeat (first | refine GD ?_ | refine NW fun _ => ?_)
      refine WL.guardT rfl rfl rfl rfl (OP.callRO rfl rfl (cqsame_ro za ya (l).length zc (l).length yc l rfl rfl (by omega)) (Ent.and (Ent.own (T := cqT) (cap := zc) MM) (Ent.own (T := cqT) (cap := yc) MM)) rfl rfl ?_)
      repeat (first | refine GD ?_ | refine NW fun _ => ?_)
      refine WL.guardT rfl rfl rfl rfl (OP.callRO rfl rfl (cplace_nil (C.last + 1)) (fun _ _ => trivial) rfl rfl ?_)
      repeat (first | refine GD ?_ | refine NW fun _ => ?_)
      exact (show Meet _ _ _ _ _ from ⟨(C1, told2, ta2, tc2, l, ya, yc), hP1, ⟨rfl, rfl, rfl, rfl, rfl, rfl, rfl, rfl, rfl, rfl, rfl, rfl, trivial⟩, II⟩)
  by_cases k2 : kd = 2
  · subst k2
    have hca := canswer_ok p q g (a, n, c) C _ (c0, c1', c2) P.I (by have := P.I.R.vl; omega)
    have hqa := qnanswer_ok nd w (a, n, c) C _ (c0, c1', c2) P.I
    unfold AnswerCo at hca
    unfold QAnswerCo at hqa
    rw [show encCmd (c0, c1', c2) = [.int .i64 c0, .int .i64 c1', .int .i64 c2] from rfl] at hca hqa
    repeat (first | refine GD ?_ | refine NW fun _ => ?_)
    cases han : answerC C (c0, c1', c2) with
    | error lc =>
      obtain ⟨le, ce⟩ := lc
      obtain ⟨⟨l', rfl, hl'⟩, hce0⟩ := answer_er han
      rw [han] at hca hqa
      refine WL.step rfl (OP.call (pre := [crdA p q g _ C, dsk q C.D]) rfl rfl hca PS rfl rfl ?_)
      rintro _ _ ⟨e, E, hE, rfl, rfl⟩
      obtain ⟨y, ch, hc1, rfl, rfl⟩ := isEr_one hE (by simp)
      have hcl : (y :: ch).length < 1000 := by have := congrArg List.length hc1; rw [List.length_map] at this; rw [this]; simp only [List.length_cons]; omega
      have hpl := cplace_err (y :: ch) ce c2 l' hc1 hcl hce0
      dsimp only [valOf] at hpl
      repeat (first | refine GD ?_ | refine NW fun _ => ?_)
      refine WL.step rfl (OP.call (pre := [nodA nd w _ C, rdsk w C.D]) rfl rfl hqa PS rfl rfl ?_)
      rintro _ _ ⟨rfl, rfl⟩
      refine WL.imp (Imp.trans (Imp.nilS ccT 3) (Imp.nilS cqT 3)) ?_
      repeat (first | refine GD ?_ | refine NW fun _ => ?_)
      refine WL.step rfl (OP.callRT rfl rfl (clist_rt none (([] : List Cmd)).length 0 ([] : List Cmd) rfl (by decide)) (Ent.own (T := ccT) (cap := 0) MM) rfl rfl ?_)
      rintro _ _ ⟨za, zc, rfl, rfl⟩
      repeat (first | refine GD ?_ | refine NW fun _ => ?_)
      refine WL.step rfl (OP.callRO rfl rfl (cqsame_ro za none (([] : List Cmd)).length zc (([] : List Cmd)).length 0 ([] : List Cmd) rfl rfl (by decide)) (Ent.and (Ent.own (T := cqT) (cap := zc) MM) (Ent.own (T := cqT) (cap := 0) MM)) rfl rfl ?_)
      repeat (first | refine GD ?_ | refine NW fun _ => ?_)
      refine WL.guardT rfl rfl rfl rfl (OP.callRO rfl rfl hpl (hce MM MM) rfl rfl ?_)
      repeat (first | refine GD ?_ | refine NW fun _ => ?_)
      exact (show Meet _ _ _ _ _ from ⟨(C, told2, ta2, tc2, ([] : List Cmd), none, 0), hPe, ⟨rfl, rfl, rfl, rfl, rfl, rfl, rfl, rfl, rfl, rfl, rfl, rfl, trivial⟩, II⟩)
    | ok x =>
      obtain ⟨l, C1⟩ := x
      rw [han] at hca hqa
      obtain ⟨I1, e1, e2, e3, e4, e5⟩ := P.I.answer han
      have hl4 : l.length ≤ 4 := by
        unfold answerC at han
        split at han
        · cases han
        · rename_i l2 R2 hR
          cases han
          exact answer_few P.I.R hR
      have hP1 : PlayI (k + 1) f r C1 (told2 ++ l) := ⟨I1.mono (by omega), e3.trans P.f, by rw [e4]; exact P.ring, by rw [List.length_append]; omega⟩
      refine WL.step rfl (OP.call (pre := [crdA p q g _ C, dsk q C.D]) rfl rfl hca PS rfl rfl ?_)
      rintro _ _ ⟨_, _, ⟨xa, xc, rfl, rfl⟩, rfl, rfl⟩
      repeat (first | refine GD ?_ | refine NW fun _ => ?_)
      refine WL.step rfl (OP.call (pre := [nodA nd w _ C, rdsk w C.D]) rfl rfl hqa PS rfl rfl ?_)
      rintro _ _ ⟨_, _, ⟨ya, yc, rfl, rfl⟩, rfl, rfl⟩
      repeat (first | refine GD ?_ | refine NW fun _ => ?_)
      refine WL.step rfl (OP.callRT rfl rfl (clist_rt xa (l).length xc l rfl (by omega)) (Ent.own (T := ccT) (cap := xc) MM) rfl rfl ?_)
      rintro _ _ ⟨za, zc, rfl, rfl⟩
      repeat (first | refine GD ?_ | refine NW fun _ => ?_)
      refine WL.step rfl (OP.callRO rfl rfl (cqsame_ro za ya (l).length zc (l).length yc l rfl rfl (by omega)) (Ent.and (Ent.own (T := cqT) (cap := zc) MM) (Ent.own (T := cqT) (cap := yc) MM)) rfl rfl ?_)
      repeat (first | refine GD ?_ | refine NW fun _ => ?_)
      refine WL.guardT rfl rfl rfl rfl (OP.callRO rfl rfl (cplace_nil c2) (fun _ _ => trivial) rfl rfl ?_)
      repeat (first | refine GD ?_ | refine NW fun _ => ?_)
      exact (show Meet _ _ _ _ _ from ⟨(C1, told2, ta2, tc2, l, ya, yc), hP1, ⟨rfl, rfl, rfl, rfl, rfl, rfl, rfl, rfl, rfl, rfl, rfl, rfl, trivial⟩, II⟩)
  by_cases k3 : kd = 3
  · subst k3
    have htk := ctick_ok p q g (a, n, c) C _ P.I (by have := P.I.R.vl; omega)
    have hqk := fun rq => qtick_ok rq C.R (by have := P.I.R.vl; omega) P.I.R.left (fun h => (P.I.R.vols h).2)
    have hl4 : (tickC C).1.length ≤ 4 := tick_few P.I.R
    have hP1 : PlayI (k + 1) f r (tickC C).2 (told2 ++ (tickC C).1) := ⟨P.I.tick.mono (by omega), P.f, P.ring, by rw [List.length_append]; omega⟩
    repeat (first | refine GD ?_ | refine NW fun _ => ?_)
    refine WL.step rfl (OP.call (pre := [crdA p q g _ C]) rfl rfl htk PS rfl rfl ?_)
    rintro _ _ ⟨_, ⟨xa, xc, rfl, rfl⟩, rfl⟩
    refine WL.open (Ls := nodL nd w (a, n, c) C) (show Imp _ (nodA nd w (a, n, c) C :: _) from P1) (fun x => ?_)
    obtain ⟨jq, gq, rq⟩ := x
    have hfold : ∀ N, Imp (blk nd (nodC w (a, n, c) C (jq, gq, rq)) nqT :: rjrn jq w C.J :: qgrp gq C.f C.ch :: qrnd rq (tickR C.R).2 :: N) (nodA nd w (a, n, c) (tickC C).2 :: N) := fun N => nodFold nd w (a, n, c) (tickC C).2 (jq, gq, rq)
    unfold nodL
    unfold nodC at *
    dsimp only [List.cons_append, List.nil_append] at hfold ⊢
    have hqk := hqk rq
    rw [show (tickR C.R).1 = (tickC C).1 from rfl] at hqk
    repeat (first | refine GD ?_ | refine NW fun _ => ?_)
    refine WL.step rfl (OP.call (pre := [qrnd rq C.R]) rfl rfl hqk PS rfl rfl ?_)
    rintro _ _ ⟨_, ⟨ya, yc, rfl, rfl⟩, rfl⟩
    repeat (first | refine GD ?_ | refine NW fun _ => ?_)
    refine WL.step rfl (OP.callRT rfl rfl (clist_rt xa ((tickC C).1).length xc (tickC C).1 rfl (by omega)) (Ent.own (T := ccT) (cap := xc) MM) rfl rfl ?_)
    rintro _ _ ⟨za, zc, rfl, rfl⟩
    repeat (first | refine GD ?_ | refine NW fun _ => ?_)
    refine WL.step rfl (OP.callRO rfl rfl (cqsame_ro za ya ((tickC C).1).length zc ((tickC C).1).length yc (tickC C).1 rfl rfl (by omega)) (Ent.and (Ent.own (T := cqT) (cap := zc) MM) (Ent.own (T := cqT) (cap := yc) MM)) rfl rfl ?_)
    repeat (first | refine GD ?_ | refine NW fun _ => ?_)
    exact (show Meet _ _ _ _ _ from ⟨((tickC C).2, told2, ta2, tc2, (tickC C).1, ya, yc), hP1, ⟨rfl, rfl, rfl, rfl, rfl, rfl, rfl, rfl, rfl, rfl, rfl, rfl, trivial⟩,
      (show Imp _ [ownS ya (tickC C).1.length yc cqT 3 ((tickC C).1.flatMap encCmd), ownS ta2 told2.length tc2 cqT 3 (told2.flatMap encCmd), crdA p q g (a, n, c) (tickC C).2, dsk q C.D, nodA nd w (a, n, c) (tickC C).2, rdsk w C.D, A] from Imp.trans II (Imp.trans (hfold [ownS ya (tickC C).1.length yc cqT 3 ((tickC C).1.flatMap encCmd), ownS ta2 told2.length tc2 cqT 3 (told2.flatMap encCmd), crdA p q g (a, n, c) (tickC C).2, dsk q C.D, rdsk w C.D, A]) II))⟩)
  by_cases k4 : kd = 4
  · subst k4
    have hcg := cchg_ok p q g (a, n, c) C _ vol inn P.I (by omega)
    have hqg := qnchange_ok nd w (a, n, c) C _ vol inn P.I (by omega)
    unfold ChangeCo at hcg
    unfold QChangeCo at hqg
    repeat (first | refine GD ?_ | refine NW fun _ => ?_)
    cases hcd : changeC C vol inn with
    | error lc =>
      obtain ⟨le, ce⟩ := lc
      obtain ⟨⟨l', rfl, hl'⟩, hce0⟩ := change_er hcd
      rw [hcd] at hcg hqg
      refine RD 16 16 ([blk bo [.int .i64 4, .int .i64 vol, .int .i64 ck, .int .i64 cv, .int .i64 cn, .bool inn, .bool tld, .int .u64 keep] opT, A]) ?_
      refine WP 0 ?_
      refine WP 1 ?_
      refine VV 2 ?_
      refine WP 3 ?_
      refine VV 4 ?_
      refine WP 6 ?_
      refine VV 7 ?_
      refine WP 8 ?_
      refine WP 9 ?_
      refine VV 10 ?_
      refine WP 11 ?_
      refine VV 12 ?_
      refine WH.only 5 rfl rfl (by kernel_rfl) rfl (OP.call (pre := [crdA p q g _ C, dsk q C.D]) rfl rfl hcg PS rfl rfl (fun v M hM => ?_))
      obtain ⟨E, hE, rfl⟩ := hM
      obtain ⟨y, ch, hc1, rfl, rfl⟩ := isEr_one hE (by simp)
      have hcl : (y :: ch).length < 1000 := by have := congrArg List.length hc1; rw [List.length_map] at this; rw [this]; simp only [List.length_cons]; omega
      have hpl := cplace_err (y :: ch) ce vol l' hc1 hcl hce0
      dsimp only [valOf] at hpl
      refine ⟨fun _ => II, ?_⟩
      refine WH.only 13 rfl rfl (by kernel_rfl) rfl (OP.call (pre := [nodA nd w _ C, rdsk w C.D]) rfl rfl hqg PS rfl rfl (fun v M hM => ?_))
      obtain ⟨rfl, rfl⟩ := hM
      refine ⟨fun _ => II, ?_⟩
      refine WH.only 14 rfl rfl (by kernel_rfl) rfl (OP.callRO rfl rfl (hpl) (hce MM MM) rfl rfl ⟨fun _ => II, ?_⟩)
      refine WP 15 ?_
      refine DN ?_
      repeat (first | refine GD ?_ | refine NW fun _ => ?_)
      exact (show Meet _ _ _ _ _ from ⟨(C, told2, ta2, tc2, ([] : List Cmd), none, 0), hPe, ⟨rfl, rfl, rfl, rfl, rfl, rfl, rfl, rfl, rfl, rfl, rfl, rfl, trivial⟩, Imp.trans (Imp.nilS cqT 3) II⟩)
    | ok C1 =>
      obtain ⟨I1, hl1, hf1, _, _, _, hch1, hr1, _⟩ := P.I.change (by omega) hcd
      have hP1 : PlayI (k + 1) f r C1 (told2 ++ ([] : List Cmd)) := ⟨I1.mono (by omega), hf1.trans P.f, hr1.trans P.ring, by rw [List.append_nil]; omega⟩
      rw [hcd] at hcg hqg
      refine RD 16 16 ([blk bo [.int .i64 4, .int .i64 vol, .int .i64 ck, .int .i64 cv, .int .i64 cn, .bool inn, .bool tld, .int .u64 keep] opT, A]) ?_
      refine WP 0 ?_
      refine WP 1 ?_
      refine VV 2 ?_
      refine WP 3 ?_
      refine VV 4 ?_
      refine WP 6 ?_
      refine VV 7 ?_
      refine WP 8 ?_
      refine WP 9 ?_
      refine VV 10 ?_
      refine WP 11 ?_
      refine VV 12 ?_
      refine WH.only 5 rfl rfl (by kernel_rfl) rfl (OP.call (pre := [crdA p q g _ C, dsk q C.D]) rfl rfl hcg PS rfl rfl (fun v M hM => ?_))
      obtain ⟨rfl, rfl⟩ := hM
      refine ⟨fun _ => II, ?_⟩
      refine WH.only 13 rfl rfl (by kernel_rfl) rfl (OP.call (pre := [nodA nd w _ C, rdsk w C.D]) rfl rfl hqg PS rfl rfl (fun v M hM => ?_))
      obtain ⟨rfl, rfl⟩ := hM
      refine ⟨fun _ => II, ?_⟩
      refine WH.only 14 rfl rfl (by kernel_rfl) rfl (OP.callRO rfl rfl (cplace_nil vol) (fun _ _ => trivial) rfl rfl ⟨fun _ => II, ?_⟩)
      refine WP 15 ?_
      refine DN ?_
      repeat (first | refine GD ?_ | refine NW fun _ => ?_)
      exact (show Meet _ _ _ _ _ from ⟨(C1, told2, ta2, tc2, ([] : List Cmd), none, 0), hP1, ⟨rfl, rfl, rfl, rfl, rfl, rfl, rfl, rfl, rfl, rfl, rfl, rfl, trivial⟩, Imp.trans (Imp.nilS cqT 3) II⟩)
  by_cases k5 : kd = 5
  · subst k5
    have hcr := ccrash_ok p q g (a, n, c) C _ P.I (by omega) keep hkk A hu fl hA (show n < 1000000 by omega) (by rw [P.f]; exact hnw)
    have hqr := qncrash_ok nd w (a, n, c) C _ P.I (by omega) keep hkk A hu fl hA (show n < 1000000 by omega) (by rw [P.f]; exact hnw)
    repeat (first | refine GD ?_ | refine NW fun _ => ?_)
    refine RD 10 10 ([blk bo [.int .i64 5, .int .i64 vol, .int .i64 ck, .int .i64 cv, .int .i64 cn, .bool inn, .bool tld, .int .u64 keep] opT, A]) ?_
    refine WP 0 ?_
    refine WP 1 ?_
    refine VV 2 ?_
    refine WP 4 ?_
    refine WP 5 ?_
    refine VV 6 ?_
    refine WH.only 3 rfl rfl (by kernel_rfl) rfl (OP.call (pre := [crdA p q g _ C, dsk q C.D, A]) rfl rfl hcr PS rfl rfl (fun v M hM => ?_))
    obtain ⟨rfl, J', D', ho, er, eh, _, I2, rfl⟩ := hM
    refine ⟨fun _ => II, ?_⟩
    refine WH.only 7 rfl rfl (by kernel_rfl) rfl (OP.call (pre := [nodA nd w _ C, rdsk w C.D, A]) rfl rfl hqr PS rfl rfl (fun v M hM => ?_))
    obtain ⟨rfl, J2, D2, ho2, rfl⟩ := hM
    obtain ⟨e1, e2⟩ : J2 = J' ∧ D2 = D' := by rw [ho] at ho2; cases ho2; exact ⟨rfl, rfl⟩
    rw [e1, e2]
    refine ⟨fun _ => II, ?_⟩
    refine WH.only 8 rfl rfl (by kernel_rfl) rfl (OP.callRO rfl rfl (cplace_nil 0) (fun _ _ => trivial) rfl rfl ⟨fun _ => II, ?_⟩)
    refine WP 9 ?_
    refine DN ?_
    repeat (first | refine GD ?_ | refine NW fun _ => ?_)
    have hP1 : PlayI (k + 1) f r { C with J := J', D := D', R := rnd0, marked := 0 } (([] : List Cmd) ++ ([] : List Cmd)) := ⟨I2.mono (by omega), P.f, er.trans P.ring, Nat.zero_le _⟩
    exact (show Meet _ _ _ _ _ from ⟨({ C with J := J', D := D', R := rnd0, marked := 0 }, ([] : List Cmd), none, 0, ([] : List Cmd), none, 0), hP1, ⟨rfl, rfl, rfl, rfl, rfl, rfl, rfl, rfl, rfl, rfl, rfl, rfl, trivial⟩,
      (show Imp _ [ownS none 0 0 cqT 3 [], ownS none 0 0 cqT 3 [], crdA p q g (a, n, c) { C with J := J', D := D', R := rnd0, marked := 0 }, dsk q D', nodA nd w (a, n, c) { C with J := J', D := D', R := rnd0, marked := 0 }, rdsk w D', A] from Imp.trans (Imp.nilS cqT 3) (Imp.trans (Imp.nilS cqT 3) II))⟩)
  repeat (first | refine GD ?_ | refine NW fun _ => ?_)
  refine (show Meet _ _ _ _ _ from ⟨(C, told2, ta2, tc2, ([] : List Cmd), none, 0), ⟨P.I.mono (by omega), P.f, P.ring, by show (told2 ++ ([] : List Cmd)).length ≤ _; rw [List.append_nil]; omega⟩, ⟨rfl, rfl, rfl, rfl, rfl, rfl, rfl, rfl, rfl, rfl, rfl, rfl, trivial⟩, Imp.trans (Imp.nilS cqT 3) II⟩)
end Go.Proofs.YtleajkobmhhacaaGreatDoor
/- Contracts of functions of the given program, and plain laws on what they compute: parts of the proofs of laws. -/

namespace Go.Proofs.YtleajkobmhhacaaGreatDoor
open Go Go.GL

theorem pop_of {x : List Value} (h : LfsOk [.int .i64, .int .i64, .int .i64, .int .i64, .int .i64, .bool, .bool, .int .u64] x) : ∃ o : POp, x = encPo o ∧ (0 ≤ o.2.2.2.2.2 ∧ o.2.2.2.2.2 < 18446744073709551616) := by
  obtain ⟨k, s, rfl, _, h⟩ := h.int
  obtain ⟨v, s, rfl, _, h⟩ := h.int
  obtain ⟨c1, s, rfl, _, h⟩ := h.int
  obtain ⟨c2, s, rfl, _, h⟩ := h.int
  obtain ⟨c3, s, rfl, _, h⟩ := h.int
  obtain ⟨b1, s1, rfl, hb1⟩ := h.bool
  obtain ⟨b2, s2, rfl, hb2⟩ := hb1.bool
  obtain ⟨kp, s3, rfl, w, hb3⟩ := hb2.int
  rw [hb3.nil]
  have := wf_u64 w
  exact ⟨(k, v, (c1, c2, c3), b1, b2, kp), rfl, by dsimp only; omega⟩
end Go.Proofs.YtleajkobmhhacaaGreatDoor
