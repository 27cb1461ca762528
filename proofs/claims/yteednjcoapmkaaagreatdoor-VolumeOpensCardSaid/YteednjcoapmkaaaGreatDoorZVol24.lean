/- Contracts of functions of the given program, and plain laws: parts of the proofs of laws. -/
import Derived.Test.YteednjcoapmkaaaGreatDoorZVol7
import Derived.Test.YteednjcoapmkaaaGreatDoorZVol21
import Derived.Test.YteednjcoapmkaaaGreatDoorZVol22
import Derived.Test.YteednjcoapmkaaaGreatDoorZVol23
import Derived.Test.YteednjcoapmkaaaGreatDoorZVol12
/- Contracts of functions of the given program, and plain laws on what they compute: parts of the proofs of laws. -/

namespace Go.Proofs.YteednjcoapmkaaaGreatDoor
open Go Go.GL

/-! the program's volume and the document's -/
theorem dloose_ro (p : Nat) (D : Dsk) : RO G 27 [.pointer (some ⟨p, 0, none⟩)] (dsk p D) (.int .i64 D.W.length) := by
  refine RO.enterEx Tryz.func27 rfl (by decide) rfl Tryz.ntmps27 rfl (fun y A hu hA => ?_)
  have hE : ∀ {L}, A ∈ L → Ent L (cellsAt p 0 [.slice y.1 D.S.length y.2.1, .slice y.2.2.1 D.W.length y.2.2.2]) := fun m => Ent.of hu hA m (Ent.whole (List.Mem.head _))
  repeat (first | refine GD ?_ | refine NW fun _ => ?_)
  refine WL.step rfl (OP.load1 (v := .slice y.2.2.1 D.W.length y.2.2.2) rfl rfl rfl rfl (Ent.one (i := 1) (hE MM) rfl) rfl rfl ?_)
  repeat (first | refine GD ?_ | refine NW fun _ => ?_)
  exact ret1 rfl ⟨rfl, MM⟩
theorem recs_flat' (l : List Held) : l.flatMap (fun x => encR x.2) = (l.map Prod.snd).flatMap encR := by rw [List.flatMap_map]
theorem rvolFoldX (v p : Nat) (V : Vol) (y : Nat × Option Addr × Nat × Option Addr × Nat) {N : List Assn} : Imp
    (blk v (rvolC p y.1 V.J.ring V.laid) 84 :: blk y.1 [.pointer (some ⟨p, 0, none⟩), .int .i64 V.J.ring, .int .i64 V.J.hd.turn, .int .i64 V.J.hd.first, .int .i64 V.J.hd.gen, .int .i64 V.J.hd.low, .slice y.2.1 V.J.held.length y.2.2.1, .slice y.2.2.2.1 V.J.held.length y.2.2.2.2] 59 ::
      ownS y.2.1 V.J.held.length y.2.2.1 42 5 (V.J.held.flatMap (fun x => encR x.2)) :: ownS y.2.2.2.1 V.J.held.length y.2.2.2.2 3 1 (V.J.held.map genC) :: N) (rvol v p V :: N) := Imp.fold (Ls := rvolL v p V) y
theorem appM_err {J : Jrn} {D : Dsk} {r : Rec} {c : Int} (h : appendM J D r = .error c) : c ≠ 0 := by
  unfold appendM at h
  split at h
  · cases h; decide
  · split at h <;> cases h; decide
theorem appV_err {V : Vol} {D : Dsk} {a : Int} {r : Rec} {l : List (ByteArray × Int)} {c : Int} (h : appV V D a r = .error (l, c)) : (∃ s, l = (volTx, a) :: s ∧ s.length < 100) ∧ c ≠ 0 := by
  unfold appV at h
  split at h
  · cases h
  · rename_i c' hq
    cases h
    refine ⟨⟨_, rfl, ?_⟩, appM_err hq⟩
    unfold appEr
    split <;> simp
theorem writeV_err {V : Vol} {D : Dsk} {b : Int} {d : ByteArray} {l : List (ByteArray × Int)} {c : Int} (h : writeV V D b d = .error (l, c)) : (∃ s, l = (volTx, b) :: s ∧ s.length < 100) ∧ c ≠ 0 := by
  unfold writeV at h
  split at h
  · cases h; exact ⟨⟨[], rfl, by decide⟩, by decide⟩
  · split at h
    · cases h; exact ⟨⟨[], rfl, by decide⟩, by decide⟩
    · exact appV_err h
theorem readV_err {V : Vol} {b : Int} {l : List (ByteArray × Int)} {c : Int} (h : readV V b = .error (l, c)) : (∃ s, l = (volTx, b) :: s ∧ s.length < 100) ∧ c ≠ 0 := by
  unfold readV at h
  split at h
  · cases h; exact ⟨⟨[], rfl, by decide⟩, by decide⟩
  · cases h
theorem ckV_err {V : Vol} {D : Dsk} {u : Int} {l : List (ByteArray × Int)} {c : Int} (h : ckV V D u = .error (l, c)) : (∃ s, l = (volTx, u) :: s ∧ s.length < 100) ∧ c ≠ 0 := by
  unfold ckV at h
  split at h
  · cases h; exact ⟨⟨[], rfl, by decide⟩, by decide⟩
  · obtain ⟨J', D', htr, _⟩ := trimM_ok (D := layV V D) (uptoV_le V.J.held u)
    rw [htr] at h
    cases h
theorem chain_len {ch : Chain} {x : ByteArray × Int} {s : List (ByteArray × Int)} (h : ch.map Prod.snd = x :: s) (hs : s.length < 100) : ch.length < 1000 := by
  have := congrArg List.length h
  simp at this
  omega
set_option maxHeartbeats 64000000 in
set_option maxRecDepth 10000 in
theorem vplays_ro (r : UInt8) (a : Option Addr) (n c : Nat) (l : List VOp) (hn : n = l.length) (hk : ∀ o ∈ l, 0 ≤ o.2.2.2 ∧ o.2.2.2 < 18446744073709551616) :
    RO G 5 [.int .u8 (r.toNat : Int), .slice a n c] (fun h => ErrT h ∧ readS a n 4 (l.flatMap encO) h) (.bool true) := by
  refine RO.enter Tryz.func5 rfl (by decide) rfl Tryz.ntmps5 rfl (fun A hu hA => ?_) (up_and up_ErrT (up_readS _ _ _ _))
  have hT : ∀ {L}, A ∈ L → Ent L ErrT := fun m => Ent.mem m hu fun k x => (hA k x).1
  have hE : ∀ {L}, A ∈ L → Ent L (readS a n 4 (l.flatMap encO)) := fun m => Ent.mem m hu fun k x => (hA k x).2
  have hce : ∀ {L} {ch : Chain} {c : Int}, chainR ch c ∈ L → A ∈ L → Ent L (chainE ch c) := fun m1 m2 => Ent.and (hT m2) (Ent.mem m1 (up_chainR _ _) (fun _ x => x))
  have hw : widest = 1152921504606846975 := rfl
  have hr8 := r.toNat_lt
  repeat (first | refine GO ?_ | refine NW fun _ => ?_)
  refine WL.step rfl (OP.callRO rfl rfl vawake_ro (fun _ _ => trivial) rfl rfl ?_)
  repeat (first | refine GD ?_ | refine NW fun _ => ?_)
  refine WL.guardT rfl rfl rfl rfl (OP.callRO rfl rfl (vfew_ro a n c l hn) (hE MM) rfl rfl ?_)
  cases hf : fewV l
  · repeat (first | refine GD ?_ | refine NW fun _ => ?_)
    refine WL.step rfl (OP.callRO rfl rfl vawake_ro (fun _ _ => trivial) rfl rfl ?_)
    repeat (first | refine GD ?_ | refine NW fun _ => ?_)
    exact ret1 rfl ⟨rfl, MM⟩
  unfold fewV at hf
  rw [Bool.and_eq_true] at hf
  have h80 := of_decide_eq_true hf.1
  have hd : ∀ o ∈ l, o.2.2.1.size ≤ 100 := fun o ho => of_decide_eq_true (List.all_eq_true.1 hf.2 o ho)
  obtain ⟨N, hN, hN1, hN2⟩ : ∃ N : Nat, 1 + (r.toNat : Int) % 12 = N ∧ 1 ≤ N ∧ N ≤ 12 := ⟨1 + r.toNat % 12, by omega, by omega, by omega⟩
  obtain ⟨ho, I0⟩ := VInv.fresh (n := 10 + N) (ring := N) hN1 (by omega) (Nat.le_refl _) (by omega)
  repeat (first | refine GD ?_ | refine NW fun _ => ?_)
  rw [hN]
  refine WL.step rfl (OP.callRO rfl rfl (vsectors_ro N (by omega)) (fun _ _ => trivial) rfl rfl ?_)
  rw [show 2 + (N : Int) + 8 = ((10 + N : Nat) : Int) by omega]
  refine WL.step rfl (OP.callRT rfl rfl (dnew_rt ((10 + N : Nat) : Int)) (fun _ _ => trivial) rfl rfl ?_)
  rintro _ _ ⟨p, rfl, rfl⟩
  repeat (first | refine GD ?_ | refine NW fun _ => ?_)
  rw [show 10 + (N : Int) = ((10 + N : Nat) : Int) by omega]
  refine WL.step rfl (OP.callRT rfl rfl (rdnew_rt ((10 + N : Nat) : Int) (by omega)) (fun _ _ => trivial) rfl rfl ?_)
  rintro _ _ ⟨q, rfl, rfl⟩
  have hop := vopen_ok p (Dsk.new ((10 + N : Nat) : Int)) N (Dsk.new_ok _) (by show (0 : Nat) < 10000; decide) (by omega)
  have hrop := rvopen_ok q (Dsk.new ((10 + N : Nat) : Int)) N (Dsk.new_ok _) (by show (0 : Nat) < 10000; decide) (by omega)
  unfold OpenVP at hop
  unfold ROpenVP at hrop
  rw [ho] at hop hrop
  repeat (first | refine GD ?_ | refine NW fun _ => ?_)
  refine WL.step rfl (OP.call (pre := [dsk p (Dsk.new ((10 + N : Nat) : Int))]) rfl rfl hop PS rfl rfl ?_)
  rintro x M ⟨v, rfl, rfl⟩
  repeat (first | refine GD ?_ | refine NW fun _ => ?_)
  refine WL.step rfl (OP.call (pre := [rdsk q (Dsk.new ((10 + N : Nat) : Int))]) rfl rfl hrop PS rfl rfl ?_)
  rintro x M ⟨rv, rfl, rfl⟩
  clear hop hrop
  generalize saveM (Dsk.new ((10 + N : Nat) : Int)) ⟨1, 1, 1, 0⟩ = D0 at *
  generalize hV0 : (⟨⟨N, ⟨1, 1, 1, 0⟩, []⟩, List.replicate 8 plc0, List.replicate 8 plc0⟩ : Vol) = V0 at *
  have hring0 : V0.J.ring = N := by rw [← hV0]
  repeat (first | refine GD ?_ | refine NW fun _ => ?_)
  refine WC.loop (σ := Nat × (Nat × Nat) × Vol × Dsk × Nat × Int) (fun z => z.1 ≤ n ∧ VInv z.2.2.1 z.2.2.2.1 z.2.2.2.2.1 z.2.2.2.2.2 ∧ z.2.2.2.2.2 ≤ 3 + 2 * z.1 ∧ z.2.2.1.J.ring = N)
    (fun z => [(1, .val (.slice a n c)), (5, .val (.int .i64 N)), (6, .val (.pointer (some ⟨p, 0, none⟩))), (7, .val (.pointer (some ⟨q, 0, none⟩))), (8, .val (.pointer (some ⟨z.2.1.1, 0, none⟩))), (10, .val (.pointer (some ⟨z.2.1.2, 0, none⟩))), (73, .val (.int .i64 n)), (74, .val (.int .i64 z.1))])
    (fun z => [vol z.2.1.1 p z.2.2.1, dsk p z.2.2.2.1, rvol z.2.1.2 q z.2.2.1, rdsk q z.2.2.2.1, A]) (fun z => n - z.1) (0, (v, rv), V0, D0, 0, 3) ⟨Nat.zero_le _, I0, (by show (3 : Int) ≤ 3 + 2 * ((0 : Nat) : Int); decide), hring0⟩ ⟨rfl, rfl, rfl, rfl, rfl, rfl, rfl, rfl, trivial⟩ II ?_
  clear I0 ho hV0 hring0
  clear V0 D0
  rintro ⟨k, ⟨v, rv⟩, V, D, f, B⟩ ⟨hk1, I, hB, hring⟩
  dsimp only at hk1 I hB hring ⊢
  have hr0 := I.rng (by omega)
  have hJl : V.J.held.length ≤ 512 := by have := hr0.J.2; have := hr0.J.1; omega
  have hrb : ∀ x ∈ V.J.held, x.2.2.1 = 1 → 0 ≤ x.2.2.2.1 ∧ x.2.2.2.1 < 8 := fun x hx => right_block (I.j.right x hx)
  by_cases hlt : k < n
  rotate_left
  · have hI64 := fun i h => Dsk.cur_64 I.j.dok (i := i) h
    have hfw := I.j.few
    have hdok := I.j.dok
    have h1024 := I.j.dok.few
    repeat (first | refine GD ?_ | refine NW fun _ => ?_)
    refine WC.loop (σ := Nat) (fun i => i ≤ 8)
      (fun i => [(6, .val (.pointer (some ⟨p, 0, none⟩))), (7, .val (.pointer (some ⟨q, 0, none⟩))), (8, .val (.pointer (some ⟨v, 0, none⟩))), (10, .val (.pointer (some ⟨rv, 0, none⟩))), (248, .val (.int .i64 i))])
      (fun i => [vol v p V, dsk p D, rvol rv q V, rdsk q D, A]) (fun i => 8 - i) 0 (Nat.zero_le _) ⟨rfl, rfl, rfl, rfl, rfl, trivial⟩ II ?_
    rintro i8 hi8
    by_cases hil8 : i8 < 8
    · have hrd := vread_rt v p V i8 hr0
      have hrr := rvread_ro rv q V i8 hr0.l8 hJl hrb I.blks
      unfold VReadPost at hrd
      unfold RVReadV at hrr
      have hrv : readV V i8 = .ok (V.blks.getD i8 plc0).2 := by unfold readV; rw [if_neg (by omega), Int.toNat_natCast]
      rw [hrv] at hrd hrr
      generalize (V.blks.getD i8 plc0).2 = t at *
      repeat (first | refine GD ?_ | refine NW fun _ => ?_)
      refine WL.step rfl (OP.callRT rfl rfl hrd (Ent.at (up_vol _ _ _) MM) rfl rfl ?_)
      rintro _ _ ⟨rfl, rfl⟩
      repeat (first | refine GD ?_ | refine NW fun _ => ?_)
      refine WL.step rfl (OP.callRO rfl rfl hrr (Ent.at (up_rvol _ _ _) MM) rfl rfl ?_)
      repeat (first | refine GD ?_ | refine NW fun _ => ?_)
      rw [decide_eq_true (rfl : t = t)]
      repeat (first | refine GD ?_ | refine NW fun _ => ?_)
      exact ⟨i8 + 1, by omega, by omega, ⟨rfl, rfl, rfl, rfl, rfl, trivial⟩, II⟩
    repeat (first | refine GD ?_ | refine NW fun _ => ?_)
    refine WL.step rfl (OP.callRO rfl rfl (dlen_ro p D) (Ent.at (up_dsk _ _) MM) rfl rfl ?_)
    repeat (first | refine GD ?_ | refine NW fun _ => ?_)
    refine WC.loop (σ := Nat) (fun i => i ≤ D.S.length)
      (fun i => [(6, .val (.pointer (some ⟨p, 0, none⟩))), (7, .val (.pointer (some ⟨q, 0, none⟩))), (268, .val (.int .i64 D.S.length)), (269, .val (.int .i64 i))])
      (fun i => [dsk p D, rdsk q D, A]) (fun i => D.S.length - i) 0 (Nat.zero_le _) ⟨rfl, rfl, rfl, rfl, trivial⟩ II ?_
    rintro i hi1
    by_cases hil : i < D.S.length
    rotate_left
    · repeat (first | refine GD ?_ | refine NW fun _ => ?_)
      exact ret1 rfl ⟨rfl, MM⟩
    have hrd := dread_rt p D i hdok (by omega)
    unfold DReadPost at hrd
    rw [Int.toNat_natCast] at hrd
    have hrr := rdread_ro q D i (by omega)
    unfold RRdV at hrr
    rw [if_pos (by omega), Int.toNat_natCast] at hrr
    have h64 := hI64 i hil
    generalize D.cur i = l0 at *
    repeat (first | refine GD ?_ | refine NW fun _ => ?_)
    refine WL.step rfl (OP.callRT rfl rfl hrd (Ent.at (up_dsk _ _) MM) rfl rfl ?_)
    intro v E hE'
    rw [if_pos (by omega)] at hE'
    obtain ⟨br, rfl, rfl⟩ := hE'
    repeat (first | refine GD ?_ | refine NW fun _ => ?_)
    refine WL.step rfl (OP.callRO rfl rfl hrr (Ent.at (up_rdsk _ _) MM) rfl rfl ?_)
    repeat (first | refine GD ?_ | refine NW fun _ => ?_)
    refine WL.step rfl (OP.toStr (sv := ba l0) rfl rfl rfl rfl rfl rfl rfl rfl (by rw [strCells_ba]; exact Ent.at (up_readS _ _ _ _) MM) rfl rfl ?_)
    generalize ba l0 = bb at *
    repeat (first | refine GD ?_ | refine NW fun _ => ?_)
    rw [decide_eq_true (rfl : bb = bb)]
    repeat (first | refine GD ?_ | refine NW fun _ => ?_)
    exact ⟨i + 1, by omega, by omega, ⟨rfl, rfl, rfl, rfl, trivial⟩, II⟩
  have hlk : k < l.length := by omega
  have hod := hd l[k] (List.getElem_mem hlk)
  have hok := hk l[k] (List.getElem_mem hlk)
  refine WC.fact (Ent.some (hE MM) (by omega)) ?_
  rintro ⟨b, off, rfl⟩
  have hel : ∀ {L}, A ∈ L → Ent L (cellsAt b (off + k * 4) (encO l[k])) := fun m => Ent.elA encO_len (hE m) hlk
  generalize l[k] = o at *
  obtain ⟨kind, num, data, keep⟩ := o
  dsimp only at hod hok
  rw [show encO (kind, num, data, keep) = [.int .i64 kind, .int .i64 num, .string data, .int .u64 keep] from rfl] at hel
  repeat (first | refine GD ?_ | refine NW fun _ => ?_)
  refine WL.step rfl (OP.loadA (l := [.int .i64 kind, .int .i64 num, .string data, .int .u64 keep]) rfl rfl rfl rfl (hel MM) rfl rfl rfl ?_)
  have hBw : B + 2 ≤ widest := by omega
  by_cases k1 : kind = 1
  · subst k1
    have hap := vwrite_ok v p V D num data hr0 I.len I.j.few (by omega)
    have hra := rvwrite_ok rv q V D num data hr0.J I.len I.j.few
    unfold AppVP at hap
    unfold RAppVP at hra
    have hnb0 : 0 ≤ V.J.next ∧ V.J.next ≤ 4000000000000000000 := by have := I.j.hdr; have := I.j.bound; unfold Jrn.next; omega
    cases hq : writeV V D num data with
    | error y =>
      obtain ⟨ye, c⟩ := y
      rw [hq] at hap hra
      obtain ⟨⟨s, rfl, hs⟩, hc0⟩ := writeV_err hq
      repeat (first | refine GD ?_ | refine NW fun _ => ?_)
      refine WL.step rfl (OP.call (pre := [vol v p V, dsk p D]) rfl rfl hap PS rfl rfl ?_)
      rintro x M ⟨e, E, ⟨ch, hch, rfl, rfl⟩, rfl, rfl⟩
      repeat (first | refine GD ?_ | refine NW fun _ => ?_)
      refine WL.step rfl (OP.call (pre := [rvol rv q V, rdsk q D]) rfl rfl hra PS rfl rfl ?_)
      rintro x M ⟨rfl, rfl⟩
      repeat (first | refine GD ?_ | refine NW fun _ => ?_)
      refine WL.guardT rfl rfl rfl rfl (OP.callRO rfl rfl (vplace_err ch c num s hch (chain_len hch hs) hc0) (hce MM MM) rfl rfl ?_)
      repeat (first | refine GD ?_ | refine NW fun _ => ?_)
      have hrg := (I).rng (by omega)
      have hfw := (I).j.few
      have hln : V.J.held.length ≤ 512 := by have := hrg.J.2; have := hrg.J.1; omega
      have hpos : 0 ≤ V.J.next ∧ V.J.next ≤ 4000000000000000000 := by have := (I).j.hdr; have := (I).j.bound; unfold Jrn.next; omega
      refine WC.open (Ls := rvolL rv q V) P1 (fun y => ?_)
      unfold rvolL rjrnL
      dsimp only [List.cons_append, List.nil_append]
      refine WC.open (Ls := rdskL q D) P1 (fun z => ?_)
      unfold rdskL
      dsimp only [List.cons_append, List.nil_append]
      refine RD 31 31 (_) ?_
      refine WP 0 ?_
      refine WP 2 ?_
      refine WP 3 ?_
      refine WP 4 ?_
      refine VV 5 ?_
      refine WP 6 ?_
      refine WP 7 ?_
      refine VV 8 ?_
      refine WH.only 1 rfl rfl (by kernel_rfl) rfl (OP.callRT rfl rfl (vrecords_rt v p V hrg) (Ent.at (up_vol _ _ _) MM) rfl rfl (fun v E hE' => ?_))
      obtain ⟨a4, cap4, rfl, rfl⟩ := hE'
      refine ⟨fun _ => II, ?_⟩
      refine WH.only 9 rfl rfl (by kernel_rfl) rfl (OP.callRO rfl rfl (jsame_ro a4 y.2.1 V.J.held.length cap4 V.J.held.length y.2.2.1 (V.J.held.map Prod.snd) (V.J.held.map Prod.snd) (by simp) (by simp) (by omega)) (Ent.and (by rw [← recs_flat']; exact Ent.own (T := 42) MM) (by rw [← recs_flat']; exact Ent.own (T := 42) MM)) rfl rfl ⟨fun _ => II, ?_⟩)
      rw [decide_eq_true rfl]
      refine WP 10 ?_
      refine WP 11 ?_
      refine WP 12 ?_
      refine WP 14 ?_
      refine WP 15 ?_
      refine WP 16 ?_
      refine VV 17 ?_
      refine WH.onlyG (q := true) 13 rfl rfl rfl rfl rfl rfl rfl (by kernel_rfl) rfl (.inl rfl) (fun _ => OP.callRO rfl rfl (vnext_ro v p V hrg) (Ent.at (up_vol _ _ _) MM) rfl rfl ⟨fun _ => II, ?_⟩) (fun h => nomatch h)
      refine WH.onlyG (q := true) 18 rfl rfl rfl rfl rfl rfl rfl (by kernel_rfl) rfl (.inl rfl) (fun _ => OP.callRO rfl rfl (rnext_ro y.1 q V.J hrg.J) (Ent.exI y.2 (by unfold rjrnL; exact II)) rfl rfl ⟨fun _ => II, ?_⟩) (fun h => nomatch h)
      refine WP 19 ?_
      rw [decide_eq_true rfl]
      refine WP 20 ?_
      refine WP 21 ?_
      refine WP 22 ?_
      refine WP 24 ?_
      refine WP 25 ?_
      refine WP 26 ?_
      refine VV 27 ?_
      refine WP 28 ?_
      refine WH.onlyG (q := true) 23 rfl rfl rfl rfl rfl rfl rfl (by kernel_rfl) rfl (.inl rfl) (fun _ => OP.callRO rfl rfl (dloose_ro p D) (Ent.at (up_dsk _ _) MM) rfl rfl ⟨fun _ => II, ?_⟩) (fun h => nomatch h)
      refine WP 29 ?_
      rw [decide_eq_true rfl]
      refine WP 30 ?_
      refine DN ?_
      repeat (first | refine GD ?_ | refine NW fun _ => ?_)
      exact ⟨(k + 1, (v, rv), V, D, f, B), ⟨by dsimp only; omega, I, by dsimp only; omega, hring⟩, by dsimp only; omega, ⟨rfl, rfl, rfl, rfl, rfl, rfl, rfl, rfl, trivial⟩, Imp.trans II ((rvolFoldX rv q V y).trans ((Imp.cons (rdskFold q D z (N := [vol v p V, dsk p D, A]))).trans II))⟩
    | ok y =>
      obtain ⟨V2, D2⟩ := y
      rw [hq] at hap hra
      obtain ⟨I2, hr2⟩ : VInv V2 D2 f (B + 2) ∧ V2.J.ring = N := by
        unfold writeV at hq
        split at hq
        · cases hq
        · split at hq
          · cases hq
          · exact ⟨(I.append hq).1, (I.append hq).2.1.trans hring⟩
      repeat (first | refine GD ?_ | refine NW fun _ => ?_)
      refine WL.step rfl (OP.call (pre := [vol v p V, dsk p D]) rfl rfl hap PS rfl rfl ?_)
      rintro x M ⟨rfl, rfl⟩
      repeat (first | refine GD ?_ | refine NW fun _ => ?_)
      refine WL.step rfl (OP.call (pre := [rvol rv q V, rdsk q D]) rfl rfl hra PS rfl rfl ?_)
      rintro x M ⟨rfl, rfl⟩
      repeat (first | refine GD ?_ | refine NW fun _ => ?_)
      refine WL.guardT rfl rfl rfl rfl (OP.callRO rfl rfl (vplace_nil num) (fun _ _ => trivial) rfl rfl ?_)
      repeat (first | refine GD ?_ | refine NW fun _ => ?_)
      have hrg := (I2).rng (by omega)
      have hfw := (I2).j.few
      have hln : V2.J.held.length ≤ 512 := by have := hrg.J.2; have := hrg.J.1; omega
      have hpos : 0 ≤ V2.J.next ∧ V2.J.next ≤ 4000000000000000000 := by have := (I2).j.hdr; have := (I2).j.bound; unfold Jrn.next; omega
      refine WC.open (Ls := rvolL rv q V2) P1 (fun y => ?_)
      unfold rvolL rjrnL
      dsimp only [List.cons_append, List.nil_append]
      refine WC.open (Ls := rdskL q D2) P1 (fun z => ?_)
      unfold rdskL
      dsimp only [List.cons_append, List.nil_append]
      refine RD 31 31 (_) ?_
      refine WP 0 ?_
      refine WP 2 ?_
      refine WP 3 ?_
      refine WP 4 ?_
      refine VV 5 ?_
      refine WP 6 ?_
      refine WP 7 ?_
      refine VV 8 ?_
      refine WH.only 1 rfl rfl (by kernel_rfl) rfl (OP.callRT rfl rfl (vrecords_rt v p V2 hrg) (Ent.at (up_vol _ _ _) MM) rfl rfl (fun v E hE' => ?_))
      obtain ⟨a4, cap4, rfl, rfl⟩ := hE'
      refine ⟨fun _ => II, ?_⟩
      refine WH.only 9 rfl rfl (by kernel_rfl) rfl (OP.callRO rfl rfl (jsame_ro a4 y.2.1 V2.J.held.length cap4 V2.J.held.length y.2.2.1 (V2.J.held.map Prod.snd) (V2.J.held.map Prod.snd) (by simp) (by simp) (by omega)) (Ent.and (by rw [← recs_flat']; exact Ent.own (T := 42) MM) (by rw [← recs_flat']; exact Ent.own (T := 42) MM)) rfl rfl ⟨fun _ => II, ?_⟩)
      rw [decide_eq_true rfl]
      refine WP 10 ?_
      refine WP 11 ?_
      refine WP 12 ?_
      refine WP 14 ?_
      refine WP 15 ?_
      refine WP 16 ?_
      refine VV 17 ?_
      refine WH.onlyG (q := true) 13 rfl rfl rfl rfl rfl rfl rfl (by kernel_rfl) rfl (.inl rfl) (fun _ => OP.callRO rfl rfl (vnext_ro v p V2 hrg) (Ent.at (up_vol _ _ _) MM) rfl rfl ⟨fun _ => II, ?_⟩) (fun h => nomatch h)
      refine WH.onlyG (q := true) 18 rfl rfl rfl rfl rfl rfl rfl (by kernel_rfl) rfl (.inl rfl) (fun _ => OP.callRO rfl rfl (rnext_ro y.1 q V2.J hrg.J) (Ent.exI y.2 (by unfold rjrnL; exact II)) rfl rfl ⟨fun _ => II, ?_⟩) (fun h => nomatch h)
      refine WP 19 ?_
      rw [decide_eq_true rfl]
      refine WP 20 ?_
      refine WP 21 ?_
      refine WP 22 ?_
      refine WP 24 ?_
      refine WP 25 ?_
      refine WP 26 ?_
      refine VV 27 ?_
      refine WP 28 ?_
      refine WH.onlyG (q := true) 23 rfl rfl rfl rfl rfl rfl rfl (by kernel_rfl) rfl (.inl rfl) (fun _ => OP.callRO rfl rfl (dloose_ro p D2) (Ent.at (up_dsk _ _) MM) rfl rfl ⟨fun _ => II, ?_⟩) (fun h => nomatch h)
      refine WP 29 ?_
      rw [decide_eq_true rfl]
      refine WP 30 ?_
      refine DN ?_
      repeat (first | refine GD ?_ | refine NW fun _ => ?_)
      exact ⟨(k + 1, (v, rv), V2, D2, f, B + 2), ⟨by dsimp only; omega, I2, by dsimp only; omega, hr2⟩, by dsimp only; omega, ⟨rfl, rfl, rfl, rfl, rfl, rfl, rfl, rfl, trivial⟩, Imp.trans II ((rvolFoldX rv q V2 y).trans ((Imp.cons (rdskFold q D2 z (N := [vol v p V2, dsk p D2, A]))).trans II))⟩
  by_cases k2 : kind = 2
  · subst k2
    have hap := vmark_ok v p V D num hr0 I.len I.j.few
    have hra := rvmark_ok rv q V D num hr0.J I.len I.j.few
    unfold AppVP at hap
    unfold RAppVP at hra
    have hnb0 : 0 ≤ V.J.next ∧ V.J.next ≤ 4000000000000000000 := by have := I.j.hdr; have := I.j.bound; unfold Jrn.next; omega
    cases hq : markV V D num with
    | error y =>
      obtain ⟨ye, c⟩ := y
      rw [hq] at hap hra
      obtain ⟨⟨s, rfl, hs⟩, hc0⟩ := appV_err (show appV V D num (0, 2, 0, ⟨#[]⟩, num) = _ from hq)
      repeat (first | refine GD ?_ | refine NW fun _ => ?_)
      refine WL.step rfl (OP.call (pre := [vol v p V, dsk p D]) rfl rfl hap PS rfl rfl ?_)
      rintro x M ⟨e, E, ⟨ch, hch, rfl, rfl⟩, rfl, rfl⟩
      repeat (first | refine GD ?_ | refine NW fun _ => ?_)
      refine WL.step rfl (OP.call (pre := [rvol rv q V, rdsk q D]) rfl rfl hra PS rfl rfl ?_)
      rintro x M ⟨rfl, rfl⟩
      repeat (first | refine GD ?_ | refine NW fun _ => ?_)
      refine WL.guardT rfl rfl rfl rfl (OP.callRO rfl rfl (vplace_err ch c num s hch (chain_len hch hs) hc0) (hce MM MM) rfl rfl ?_)
      repeat (first | refine GD ?_ | refine NW fun _ => ?_)
      have hrg := (I).rng (by omega)
      have hfw := (I).j.few
      have hln : V.J.held.length ≤ 512 := by have := hrg.J.2; have := hrg.J.1; omega
      have hpos : 0 ≤ V.J.next ∧ V.J.next ≤ 4000000000000000000 := by have := (I).j.hdr; have := (I).j.bound; unfold Jrn.next; omega
      refine WC.open (Ls := rvolL rv q V) P1 (fun y => ?_)
      unfold rvolL rjrnL
      dsimp only [List.cons_append, List.nil_append]
      refine WC.open (Ls := rdskL q D) P1 (fun z => ?_)
      unfold rdskL
      dsimp only [List.cons_append, List.nil_append]
      refine RD 31 31 (_) ?_
      refine WP 0 ?_
      refine WP 2 ?_
      refine WP 3 ?_
      refine WP 4 ?_
      refine VV 5 ?_
      refine WP 6 ?_
      refine WP 7 ?_
      refine VV 8 ?_
      refine WH.only 1 rfl rfl (by kernel_rfl) rfl (OP.callRT rfl rfl (vrecords_rt v p V hrg) (Ent.at (up_vol _ _ _) MM) rfl rfl (fun v E hE' => ?_))
      obtain ⟨a4, cap4, rfl, rfl⟩ := hE'
      refine ⟨fun _ => II, ?_⟩
      refine WH.only 9 rfl rfl (by kernel_rfl) rfl (OP.callRO rfl rfl (jsame_ro a4 y.2.1 V.J.held.length cap4 V.J.held.length y.2.2.1 (V.J.held.map Prod.snd) (V.J.held.map Prod.snd) (by simp) (by simp) (by omega)) (Ent.and (by rw [← recs_flat']; exact Ent.own (T := 42) MM) (by rw [← recs_flat']; exact Ent.own (T := 42) MM)) rfl rfl ⟨fun _ => II, ?_⟩)
      rw [decide_eq_true rfl]
      refine WP 10 ?_
      refine WP 11 ?_
      refine WP 12 ?_
      refine WP 14 ?_
      refine WP 15 ?_
      refine WP 16 ?_
      refine VV 17 ?_
      refine WH.onlyG (q := true) 13 rfl rfl rfl rfl rfl rfl rfl (by kernel_rfl) rfl (.inl rfl) (fun _ => OP.callRO rfl rfl (vnext_ro v p V hrg) (Ent.at (up_vol _ _ _) MM) rfl rfl ⟨fun _ => II, ?_⟩) (fun h => nomatch h)
      refine WH.onlyG (q := true) 18 rfl rfl rfl rfl rfl rfl rfl (by kernel_rfl) rfl (.inl rfl) (fun _ => OP.callRO rfl rfl (rnext_ro y.1 q V.J hrg.J) (Ent.exI y.2 (by unfold rjrnL; exact II)) rfl rfl ⟨fun _ => II, ?_⟩) (fun h => nomatch h)
      refine WP 19 ?_
      rw [decide_eq_true rfl]
      refine WP 20 ?_
      refine WP 21 ?_
      refine WP 22 ?_
      refine WP 24 ?_
      refine WP 25 ?_
      refine WP 26 ?_
      refine VV 27 ?_
      refine WP 28 ?_
      refine WH.onlyG (q := true) 23 rfl rfl rfl rfl rfl rfl rfl (by kernel_rfl) rfl (.inl rfl) (fun _ => OP.callRO rfl rfl (dloose_ro p D) (Ent.at (up_dsk _ _) MM) rfl rfl ⟨fun _ => II, ?_⟩) (fun h => nomatch h)
      refine WP 29 ?_
      rw [decide_eq_true rfl]
      refine WP 30 ?_
      refine DN ?_
      repeat (first | refine GD ?_ | refine NW fun _ => ?_)
      exact ⟨(k + 1, (v, rv), V, D, f, B), ⟨by dsimp only; omega, I, by dsimp only; omega, hring⟩, by dsimp only; omega, ⟨rfl, rfl, rfl, rfl, rfl, rfl, rfl, rfl, trivial⟩, Imp.trans II ((rvolFoldX rv q V y).trans ((Imp.cons (rdskFold q D z (N := [vol v p V, dsk p D, A]))).trans II))⟩
    | ok y =>
      obtain ⟨V2, D2⟩ := y
      rw [hq] at hap hra
      obtain ⟨I2, hr2⟩ : VInv V2 D2 f (B + 2) ∧ V2.J.ring = N := ⟨(I.append (show appV V D num (0, 2, 0, ⟨#[]⟩, num) = _ from hq)).1, (I.append (show appV V D num (0, 2, 0, ⟨#[]⟩, num) = _ from hq)).2.1.trans hring⟩
      repeat (first | refine GD ?_ | refine NW fun _ => ?_)
      refine WL.step rfl (OP.call (pre := [vol v p V, dsk p D]) rfl rfl hap PS rfl rfl ?_)
      rintro x M ⟨rfl, rfl⟩
      repeat (first | refine GD ?_ | refine NW fun _ => ?_)
      refine WL.step rfl (OP.call (pre := [rvol rv q V, rdsk q D]) rfl rfl hra PS rfl rfl ?_)
      rintro x M ⟨rfl, rfl⟩
      repeat (first | refine GD ?_ | refine NW fun _ => ?_)
      refine WL.guardT rfl rfl rfl rfl (OP.callRO rfl rfl (vplace_nil num) (fun _ _ => trivial) rfl rfl ?_)
      repeat (first | refine GD ?_ | refine NW fun _ => ?_)
      have hrg := (I2).rng (by omega)
      have hfw := (I2).j.few
      have hln : V2.J.held.length ≤ 512 := by have := hrg.J.2; have := hrg.J.1; omega
      have hpos : 0 ≤ V2.J.next ∧ V2.J.next ≤ 4000000000000000000 := by have := (I2).j.hdr; have := (I2).j.bound; unfold Jrn.next; omega
      refine WC.open (Ls := rvolL rv q V2) P1 (fun y => ?_)
      unfold rvolL rjrnL
      dsimp only [List.cons_append, List.nil_append]
      refine WC.open (Ls := rdskL q D2) P1 (fun z => ?_)
      unfold rdskL
      dsimp only [List.cons_append, List.nil_append]
      refine RD 31 31 (_) ?_
      refine WP 0 ?_
      refine WP 2 ?_
      refine WP 3 ?_
      refine WP 4 ?_
      refine VV 5 ?_
      refine WP 6 ?_
      refine WP 7 ?_
      refine VV 8 ?_
      refine WH.only 1 rfl rfl (by kernel_rfl) rfl (OP.callRT rfl rfl (vrecords_rt v p V2 hrg) (Ent.at (up_vol _ _ _) MM) rfl rfl (fun v E hE' => ?_))
      obtain ⟨a4, cap4, rfl, rfl⟩ := hE'
      refine ⟨fun _ => II, ?_⟩
      refine WH.only 9 rfl rfl (by kernel_rfl) rfl (OP.callRO rfl rfl (jsame_ro a4 y.2.1 V2.J.held.length cap4 V2.J.held.length y.2.2.1 (V2.J.held.map Prod.snd) (V2.J.held.map Prod.snd) (by simp) (by simp) (by omega)) (Ent.and (by rw [← recs_flat']; exact Ent.own (T := 42) MM) (by rw [← recs_flat']; exact Ent.own (T := 42) MM)) rfl rfl ⟨fun _ => II, ?_⟩)
      rw [decide_eq_true rfl]
      refine WP 10 ?_
      refine WP 11 ?_
      refine WP 12 ?_
      refine WP 14 ?_
      refine WP 15 ?_
      refine WP 16 ?_
      refine VV 17 ?_
      refine WH.onlyG (q := true) 13 rfl rfl rfl rfl rfl rfl rfl (by kernel_rfl) rfl (.inl rfl) (fun _ => OP.callRO rfl rfl (vnext_ro v p V2 hrg) (Ent.at (up_vol _ _ _) MM) rfl rfl ⟨fun _ => II, ?_⟩) (fun h => nomatch h)
      refine WH.onlyG (q := true) 18 rfl rfl rfl rfl rfl rfl rfl (by kernel_rfl) rfl (.inl rfl) (fun _ => OP.callRO rfl rfl (rnext_ro y.1 q V2.J hrg.J) (Ent.exI y.2 (by unfold rjrnL; exact II)) rfl rfl ⟨fun _ => II, ?_⟩) (fun h => nomatch h)
      refine WP 19 ?_
      rw [decide_eq_true rfl]
      refine WP 20 ?_
      refine WP 21 ?_
      refine WP 22 ?_
      refine WP 24 ?_
      refine WP 25 ?_
      refine WP 26 ?_
      refine VV 27 ?_
      refine WP 28 ?_
      refine WH.onlyG (q := true) 23 rfl rfl rfl rfl rfl rfl rfl (by kernel_rfl) rfl (.inl rfl) (fun _ => OP.callRO rfl rfl (dloose_ro p D2) (Ent.at (up_dsk _ _) MM) rfl rfl ⟨fun _ => II, ?_⟩) (fun h => nomatch h)
      refine WP 29 ?_
      rw [decide_eq_true rfl]
      refine WP 30 ?_
      refine DN ?_
      repeat (first | refine GD ?_ | refine NW fun _ => ?_)
      exact ⟨(k + 1, (v, rv), V2, D2, f, B + 2), ⟨by dsimp only; omega, I2, by dsimp only; omega, hr2⟩, by dsimp only; omega, ⟨rfl, rfl, rfl, rfl, rfl, rfl, rfl, rfl, trivial⟩, Imp.trans II ((rvolFoldX rv q V2 y).trans ((Imp.cons (rdskFold q D2 z (N := [vol v p V2, dsk p D2, A]))).trans II))⟩
  by_cases k3 : kind = 3
  · subst k3
    have hrd := vread_rt v p V num hr0
    have hrr := rvread_ro rv q V num hr0.l8 hJl hrb I.blks
    unfold VReadPost at hrd
    unfold RVReadV at hrr
    cases hq : readV V num with
    | error y =>
      obtain ⟨ye, c⟩ := y
      rw [hq] at hrd hrr
      obtain ⟨⟨s, rfl, hs⟩, hc0⟩ := readV_err hq
      repeat (first | refine GD ?_ | refine NW fun _ => ?_)
      refine WL.step rfl (OP.callRT rfl rfl hrd (Ent.at (up_vol _ _ _) MM) rfl rfl ?_)
      rintro x M ⟨e, ⟨ch, hch, rfl, rfl⟩, rfl⟩
      repeat (first | refine GD ?_ | refine NW fun _ => ?_)
      refine WL.step rfl (OP.callRO rfl rfl hrr (Ent.at (up_rvol _ _ _) MM) rfl rfl ?_)
      repeat (first | refine GD ?_ | refine NW fun _ => ?_)
      refine WL.guardT rfl rfl rfl rfl (OP.callRO rfl rfl (vplace_err ch c num s hch (chain_len hch hs) hc0) (hce MM MM) rfl rfl ?_)
      repeat (first | refine GD ?_ | refine NW fun _ => ?_)
      have hrg := (I).rng (by omega)
      have hfw := (I).j.few
      have hln : V.J.held.length ≤ 512 := by have := hrg.J.2; have := hrg.J.1; omega
      have hpos : 0 ≤ V.J.next ∧ V.J.next ≤ 4000000000000000000 := by have := (I).j.hdr; have := (I).j.bound; unfold Jrn.next; omega
      refine WC.open (Ls := rvolL rv q V) P1 (fun y => ?_)
      unfold rvolL rjrnL
      dsimp only [List.cons_append, List.nil_append]
      refine WC.open (Ls := rdskL q D) P1 (fun z => ?_)
      unfold rdskL
      dsimp only [List.cons_append, List.nil_append]
      refine RD 31 31 (_) ?_
      refine WP 0 ?_
      refine WP 2 ?_
      refine WP 3 ?_
      refine WP 4 ?_
      refine VV 5 ?_
      refine WP 6 ?_
      refine WP 7 ?_
      refine VV 8 ?_
      refine WH.only 1 rfl rfl (by kernel_rfl) rfl (OP.callRT rfl rfl (vrecords_rt v p V hrg) (Ent.at (up_vol _ _ _) MM) rfl rfl (fun v E hE' => ?_))
      obtain ⟨a4, cap4, rfl, rfl⟩ := hE'
      refine ⟨fun _ => II, ?_⟩
      refine WH.only 9 rfl rfl (by kernel_rfl) rfl (OP.callRO rfl rfl (jsame_ro a4 y.2.1 V.J.held.length cap4 V.J.held.length y.2.2.1 (V.J.held.map Prod.snd) (V.J.held.map Prod.snd) (by simp) (by simp) (by omega)) (Ent.and (by rw [← recs_flat']; exact Ent.own (T := 42) MM) (by rw [← recs_flat']; exact Ent.own (T := 42) MM)) rfl rfl ⟨fun _ => II, ?_⟩)
      rw [decide_eq_true rfl]
      refine WP 10 ?_
      refine WP 11 ?_
      refine WP 12 ?_
      refine WP 14 ?_
      refine WP 15 ?_
      refine WP 16 ?_
      refine VV 17 ?_
      refine WH.onlyG (q := true) 13 rfl rfl rfl rfl rfl rfl rfl (by kernel_rfl) rfl (.inl rfl) (fun _ => OP.callRO rfl rfl (vnext_ro v p V hrg) (Ent.at (up_vol _ _ _) MM) rfl rfl ⟨fun _ => II, ?_⟩) (fun h => nomatch h)
      refine WH.onlyG (q := true) 18 rfl rfl rfl rfl rfl rfl rfl (by kernel_rfl) rfl (.inl rfl) (fun _ => OP.callRO rfl rfl (rnext_ro y.1 q V.J hrg.J) (Ent.exI y.2 (by unfold rjrnL; exact II)) rfl rfl ⟨fun _ => II, ?_⟩) (fun h => nomatch h)
      refine WP 19 ?_
      rw [decide_eq_true rfl]
      refine WP 20 ?_
      refine WP 21 ?_
      refine WP 22 ?_
      refine WP 24 ?_
      refine WP 25 ?_
      refine WP 26 ?_
      refine VV 27 ?_
      refine WP 28 ?_
      refine WH.onlyG (q := true) 23 rfl rfl rfl rfl rfl rfl rfl (by kernel_rfl) rfl (.inl rfl) (fun _ => OP.callRO rfl rfl (dloose_ro p D) (Ent.at (up_dsk _ _) MM) rfl rfl ⟨fun _ => II, ?_⟩) (fun h => nomatch h)
      refine WP 29 ?_
      rw [decide_eq_true rfl]
      refine WP 30 ?_
      refine DN ?_
      repeat (first | refine GD ?_ | refine NW fun _ => ?_)
      exact ⟨(k + 1, (v, rv), V, D, f, B), ⟨by dsimp only; omega, I, by dsimp only; omega, hring⟩, by dsimp only; omega, ⟨rfl, rfl, rfl, rfl, rfl, rfl, rfl, rfl, trivial⟩, Imp.trans II ((rvolFoldX rv q V y).trans ((Imp.cons (rdskFold q D z (N := [vol v p V, dsk p D, A]))).trans II))⟩
    | ok t =>
      rw [hq] at hrd hrr
      have htt : t = t := rfl
      repeat (first | refine GD ?_ | refine NW fun _ => ?_)
      refine WL.step rfl (OP.callRT rfl rfl hrd (Ent.at (up_vol _ _ _) MM) rfl rfl ?_)
      rintro x M ⟨rfl, rfl⟩
      repeat (first | refine GD ?_ | refine NW fun _ => ?_)
      refine WL.step rfl (OP.callRO rfl rfl hrr (Ent.at (up_rvol _ _ _) MM) rfl rfl ?_)
      repeat (first | refine GD ?_ | refine NW fun _ => ?_)
      refine WL.guardT rfl rfl rfl rfl (OP.callRO rfl rfl (vplace_nil num) (fun _ _ => trivial) rfl rfl ?_)
      repeat (first | refine GD ?_ | refine NW fun _ => ?_)
      have hrg := (I).rng (by omega)
      have hfw := (I).j.few
      have hln : V.J.held.length ≤ 512 := by have := hrg.J.2; have := hrg.J.1; omega
      have hpos : 0 ≤ V.J.next ∧ V.J.next ≤ 4000000000000000000 := by have := (I).j.hdr; have := (I).j.bound; unfold Jrn.next; omega
      refine WC.open (Ls := rvolL rv q V) P1 (fun y => ?_)
      unfold rvolL rjrnL
      dsimp only [List.cons_append, List.nil_append]
      refine WC.open (Ls := rdskL q D) P1 (fun z => ?_)
      unfold rdskL
      dsimp only [List.cons_append, List.nil_append]
      refine RD 31 31 (_) ?_
      refine WP 0 ?_
      refine WP 2 ?_
      refine WP 3 ?_
      refine WP 4 ?_
      refine VV 5 ?_
      refine WP 6 ?_
      refine WP 7 ?_
      refine VV 8 ?_
      refine WH.only 1 rfl rfl (by kernel_rfl) rfl (OP.callRT rfl rfl (vrecords_rt v p V hrg) (Ent.at (up_vol _ _ _) MM) rfl rfl (fun v E hE' => ?_))
      obtain ⟨a4, cap4, rfl, rfl⟩ := hE'
      refine ⟨fun _ => II, ?_⟩
      refine WH.only 9 rfl rfl (by kernel_rfl) rfl (OP.callRO rfl rfl (jsame_ro a4 y.2.1 V.J.held.length cap4 V.J.held.length y.2.2.1 (V.J.held.map Prod.snd) (V.J.held.map Prod.snd) (by simp) (by simp) (by omega)) (Ent.and (by rw [← recs_flat']; exact Ent.own (T := 42) MM) (by rw [← recs_flat']; exact Ent.own (T := 42) MM)) rfl rfl ⟨fun _ => II, ?_⟩)
      rw [decide_eq_true rfl]
      refine WP 10 ?_
      refine WP 11 ?_
      refine WP 12 ?_
      refine WP 14 ?_
      refine WP 15 ?_
      refine WP 16 ?_
      refine VV 17 ?_
      refine WH.onlyG (q := true) 13 rfl rfl rfl rfl rfl rfl rfl (by kernel_rfl) rfl (.inl rfl) (fun _ => OP.callRO rfl rfl (vnext_ro v p V hrg) (Ent.at (up_vol _ _ _) MM) rfl rfl ⟨fun _ => II, ?_⟩) (fun h => nomatch h)
      refine WH.onlyG (q := true) 18 rfl rfl rfl rfl rfl rfl rfl (by kernel_rfl) rfl (.inl rfl) (fun _ => OP.callRO rfl rfl (rnext_ro y.1 q V.J hrg.J) (Ent.exI y.2 (by unfold rjrnL; exact II)) rfl rfl ⟨fun _ => II, ?_⟩) (fun h => nomatch h)
      refine WP 19 ?_
      rw [decide_eq_true rfl]
      refine WP 20 ?_
      refine WP 21 ?_
      refine WP 22 ?_
      refine WP 24 ?_
      refine WP 25 ?_
      refine WP 26 ?_
      refine VV 27 ?_
      refine WP 28 ?_
      refine WH.onlyG (q := true) 23 rfl rfl rfl rfl rfl rfl rfl (by kernel_rfl) rfl (.inl rfl) (fun _ => OP.callRO rfl rfl (dloose_ro p D) (Ent.at (up_dsk _ _) MM) rfl rfl ⟨fun _ => II, ?_⟩) (fun h => nomatch h)
      refine WP 29 ?_
      rw [decide_eq_true rfl]
      refine WP 30 ?_
      refine DN ?_
      repeat (first | refine GD ?_ | refine NW fun _ => ?_)
      exact ⟨(k + 1, (v, rv), V, D, f, B), ⟨by dsimp only; omega, I, by dsimp only; omega, hring⟩, by dsimp only; omega, ⟨rfl, rfl, rfl, rfl, rfl, rfl, rfl, rfl, trivial⟩, Imp.trans II ((rvolFoldX rv q V y).trans ((Imp.cons (rdskFold q D z (N := [vol v p V, dsk p D, A]))).trans II))⟩
  by_cases k4 : kind = 4
  · subst k4
    have I2 := I.flush hBw
    repeat (first | refine GD ?_ | refine NW fun _ => ?_)
    refine WL.step rfl (OP.call (pre := [vol v p V, dsk p D]) rfl rfl (vflush_ok v p V D I.j.dok I.j.few) PS rfl rfl ?_)
    rintro _ _ ⟨rfl, rfl⟩
    repeat (first | refine GD ?_ | refine NW fun _ => ?_)
    refine WL.step rfl (OP.call (pre := [rdsk q D]) rfl rfl (rdflush_ok q D I.j.dok (by have := I.j.few; omega)) PS rfl rfl ?_)
    rintro _ _ ⟨rfl, rfl⟩
    generalize D.flush = D2 at *
    repeat (first | refine GD ?_ | refine NW fun _ => ?_)
    have hrg := (I2).rng (by omega)
    have hfw := (I2).j.few
    have hln : V.J.held.length ≤ 512 := by have := hrg.J.2; have := hrg.J.1; omega
    have hpos : 0 ≤ V.J.next ∧ V.J.next ≤ 4000000000000000000 := by have := (I2).j.hdr; have := (I2).j.bound; unfold Jrn.next; omega
    refine WC.open (Ls := rvolL rv q V) P1 (fun y => ?_)
    unfold rvolL rjrnL
    dsimp only [List.cons_append, List.nil_append]
    refine WC.open (Ls := rdskL q D2) P1 (fun z => ?_)
    unfold rdskL
    dsimp only [List.cons_append, List.nil_append]
    refine RD 31 31 (_) ?_
    refine WP 0 ?_
    refine WP 2 ?_
    refine WP 3 ?_
    refine WP 4 ?_
    refine VV 5 ?_
    refine WP 6 ?_
    refine WP 7 ?_
    refine VV 8 ?_
    refine WH.only 1 rfl rfl (by kernel_rfl) rfl (OP.callRT rfl rfl (vrecords_rt v p V hrg) (Ent.at (up_vol _ _ _) MM) rfl rfl (fun v E hE' => ?_))
    obtain ⟨a4, cap4, rfl, rfl⟩ := hE'
    refine ⟨fun _ => II, ?_⟩
    refine WH.only 9 rfl rfl (by kernel_rfl) rfl (OP.callRO rfl rfl (jsame_ro a4 y.2.1 V.J.held.length cap4 V.J.held.length y.2.2.1 (V.J.held.map Prod.snd) (V.J.held.map Prod.snd) (by simp) (by simp) (by omega)) (Ent.and (by rw [← recs_flat']; exact Ent.own (T := 42) MM) (by rw [← recs_flat']; exact Ent.own (T := 42) MM)) rfl rfl ⟨fun _ => II, ?_⟩)
    rw [decide_eq_true rfl]
    refine WP 10 ?_
    refine WP 11 ?_
    refine WP 12 ?_
    refine WP 14 ?_
    refine WP 15 ?_
    refine WP 16 ?_
    refine VV 17 ?_
    refine WH.onlyG (q := true) 13 rfl rfl rfl rfl rfl rfl rfl (by kernel_rfl) rfl (.inl rfl) (fun _ => OP.callRO rfl rfl (vnext_ro v p V hrg) (Ent.at (up_vol _ _ _) MM) rfl rfl ⟨fun _ => II, ?_⟩) (fun h => nomatch h)
    refine WH.onlyG (q := true) 18 rfl rfl rfl rfl rfl rfl rfl (by kernel_rfl) rfl (.inl rfl) (fun _ => OP.callRO rfl rfl (rnext_ro y.1 q V.J hrg.J) (Ent.exI y.2 (by unfold rjrnL; exact II)) rfl rfl ⟨fun _ => II, ?_⟩) (fun h => nomatch h)
    refine WP 19 ?_
    rw [decide_eq_true rfl]
    refine WP 20 ?_
    refine WP 21 ?_
    refine WP 22 ?_
    refine WP 24 ?_
    refine WP 25 ?_
    refine WP 26 ?_
    refine VV 27 ?_
    refine WP 28 ?_
    refine WH.onlyG (q := true) 23 rfl rfl rfl rfl rfl rfl rfl (by kernel_rfl) rfl (.inl rfl) (fun _ => OP.callRO rfl rfl (dloose_ro p D2) (Ent.at (up_dsk _ _) MM) rfl rfl ⟨fun _ => II, ?_⟩) (fun h => nomatch h)
    refine WP 29 ?_
    rw [decide_eq_true rfl]
    refine WP 30 ?_
    refine DN ?_
    repeat (first | refine GD ?_ | refine NW fun _ => ?_)
    exact ⟨(k + 1, (v, rv), V, D2, V.J.held.length, B), ⟨by dsimp only; omega, I2, by dsimp only; omega, hring⟩, by dsimp only; omega, ⟨rfl, rfl, rfl, rfl, rfl, rfl, rfl, rfl, trivial⟩, Imp.trans II ((rvolFoldX rv q V y).trans ((Imp.cons (rdskFold q D2 z (N := [vol v p V, dsk p D2, A]))).trans II))⟩
  by_cases k5 : kind = 5
  · subst k5
    have hw9 : D.W.length < 9000 := by have := I.j.wlen; omega
    have hck := vcheck_ok v p V D num hr0 I.j.dok I.len hw9
    have hrk := rvcheck_ok rv q V D num hr0 I.blks hrb I.j.seq I.j.dok I.len hw9
    unfold CkVP at hck
    unfold RCkVP at hrk
    repeat (first | refine GD ?_ | refine NW fun _ => ?_)
    rename_i x13
    cases hq : ckV V D num with
    | error y =>
      obtain ⟨ye, c⟩ := y
      rw [hq] at hck hrk
      obtain ⟨⟨s, rfl, hs⟩, hc0⟩ := ckV_err hq
      refine RD 12 12 ([blk x13 [.int .i64 5, .int .i64 num, .string data, .int .u64 keep] 89, A]) ?_
      refine WP 0 ?_
      refine WP 1 ?_
      refine VV 2 ?_
      refine WP 4 ?_
      refine VV 5 ?_
      refine WP 6 ?_
      refine WP 7 ?_
      refine VV 8 ?_
      refine WH.only 3 rfl rfl (by kernel_rfl) rfl (OP.call (pre := [vol v p V, dsk p D]) rfl rfl hck PS rfl rfl (fun x M hM => ?_))
      obtain ⟨E, ⟨ch, hch, rfl, rfl⟩, rfl⟩ := hM
      refine ⟨fun _ => II, ?_⟩
      refine WH.only 9 rfl rfl (by kernel_rfl) rfl (OP.call (pre := [rvol rv q V, rdsk q D]) rfl rfl hrk PS rfl rfl (fun x M hM => ?_))
      obtain ⟨rfl, rfl⟩ := hM
      refine ⟨fun _ => II, ?_⟩
      refine WH.only 10 rfl rfl (by kernel_rfl) rfl (OP.callRO rfl rfl (vplace_err ch c num s hch (chain_len hch hs) hc0) (hce MM MM) rfl rfl ⟨fun _ => II, ?_⟩)
      refine WP 11 ?_
      refine DN ?_
      repeat (first | refine GD ?_ | refine NW fun _ => ?_)
      have hrg := (I).rng (by omega)
      have hfw := (I).j.few
      have hln : V.J.held.length ≤ 512 := by have := hrg.J.2; have := hrg.J.1; omega
      have hpos : 0 ≤ V.J.next ∧ V.J.next ≤ 4000000000000000000 := by have := (I).j.hdr; have := (I).j.bound; unfold Jrn.next; omega
      refine WC.open (Ls := rvolL rv q V) P1 (fun y => ?_)
      unfold rvolL rjrnL
      dsimp only [List.cons_append, List.nil_append]
      refine WC.open (Ls := rdskL q D) P1 (fun z => ?_)
      unfold rdskL
      dsimp only [List.cons_append, List.nil_append]
      refine RD 31 31 (_) ?_
      refine WP 0 ?_
      refine WP 2 ?_
      refine WP 3 ?_
      refine WP 4 ?_
      refine VV 5 ?_
      refine WP 6 ?_
      refine WP 7 ?_
      refine VV 8 ?_
      refine WH.only 1 rfl rfl (by kernel_rfl) rfl (OP.callRT rfl rfl (vrecords_rt v p V hrg) (Ent.at (up_vol _ _ _) MM) rfl rfl (fun v E hE' => ?_))
      obtain ⟨a4, cap4, rfl, rfl⟩ := hE'
      refine ⟨fun _ => II, ?_⟩
      refine WH.only 9 rfl rfl (by kernel_rfl) rfl (OP.callRO rfl rfl (jsame_ro a4 y.2.1 V.J.held.length cap4 V.J.held.length y.2.2.1 (V.J.held.map Prod.snd) (V.J.held.map Prod.snd) (by simp) (by simp) (by omega)) (Ent.and (by rw [← recs_flat']; exact Ent.own (T := 42) MM) (by rw [← recs_flat']; exact Ent.own (T := 42) MM)) rfl rfl ⟨fun _ => II, ?_⟩)
      rw [decide_eq_true rfl]
      refine WP 10 ?_
      refine WP 11 ?_
      refine WP 12 ?_
      refine WP 14 ?_
      refine WP 15 ?_
      refine WP 16 ?_
      refine VV 17 ?_
      refine WH.onlyG (q := true) 13 rfl rfl rfl rfl rfl rfl rfl (by kernel_rfl) rfl (.inl rfl) (fun _ => OP.callRO rfl rfl (vnext_ro v p V hrg) (Ent.at (up_vol _ _ _) MM) rfl rfl ⟨fun _ => II, ?_⟩) (fun h => nomatch h)
      refine WH.onlyG (q := true) 18 rfl rfl rfl rfl rfl rfl rfl (by kernel_rfl) rfl (.inl rfl) (fun _ => OP.callRO rfl rfl (rnext_ro y.1 q V.J hrg.J) (Ent.exI y.2 (by unfold rjrnL; exact II)) rfl rfl ⟨fun _ => II, ?_⟩) (fun h => nomatch h)
      refine WP 19 ?_
      rw [decide_eq_true rfl]
      refine WP 20 ?_
      refine WP 21 ?_
      refine WP 22 ?_
      refine WP 24 ?_
      refine WP 25 ?_
      refine WP 26 ?_
      refine VV 27 ?_
      refine WP 28 ?_
      refine WH.onlyG (q := true) 23 rfl rfl rfl rfl rfl rfl rfl (by kernel_rfl) rfl (.inl rfl) (fun _ => OP.callRO rfl rfl (dloose_ro p D) (Ent.at (up_dsk _ _) MM) rfl rfl ⟨fun _ => II, ?_⟩) (fun h => nomatch h)
      refine WP 29 ?_
      rw [decide_eq_true rfl]
      refine WP 30 ?_
      refine DN ?_
      repeat (first | refine GD ?_ | refine NW fun _ => ?_)
      exact ⟨(k + 1, (v, rv), V, D, f, B), ⟨by dsimp only; omega, I, by dsimp only; omega, hring⟩, by dsimp only; omega, ⟨rfl, rfl, rfl, rfl, rfl, rfl, rfl, rfl, trivial⟩, Imp.trans II ((rvolFoldX rv q V y).trans ((Imp.cons (rdskFold q D z (N := [vol v p V, dsk p D, A]))).trans II))⟩
    | ok y =>
      obtain ⟨V2, D2⟩ := y
      rw [hq] at hck hrk
      obtain ⟨I2, _, hr2, _⟩ := I.ck hBw hq
      have hr3 := hr2.trans hring
      refine RD 12 12 ([blk x13 [.int .i64 5, .int .i64 num, .string data, .int .u64 keep] 89, A]) ?_
      refine WP 0 ?_
      refine WP 1 ?_
      refine VV 2 ?_
      refine WP 4 ?_
      refine VV 5 ?_
      refine WP 6 ?_
      refine WP 7 ?_
      refine VV 8 ?_
      refine WH.only 3 rfl rfl (by kernel_rfl) rfl (OP.call (pre := [vol v p V, dsk p D]) rfl rfl hck PS rfl rfl (fun x M hM => ?_))
      obtain ⟨rfl, rfl⟩ := hM
      refine ⟨fun _ => II, ?_⟩
      refine WH.only 9 rfl rfl (by kernel_rfl) rfl (OP.call (pre := [rvol rv q V, rdsk q D]) rfl rfl hrk PS rfl rfl (fun x M hM => ?_))
      obtain ⟨rfl, rfl⟩ := hM
      refine ⟨fun _ => II, ?_⟩
      refine WH.only 10 rfl rfl (by kernel_rfl) rfl (OP.callRO rfl rfl (vplace_nil num) (fun _ _ => trivial) rfl rfl ⟨fun _ => II, ?_⟩)
      refine WP 11 ?_
      refine DN ?_
      repeat (first | refine GD ?_ | refine NW fun _ => ?_)
      have hrg := (I2).rng (by omega)
      have hfw := (I2).j.few
      have hln : V2.J.held.length ≤ 512 := by have := hrg.J.2; have := hrg.J.1; omega
      have hpos : 0 ≤ V2.J.next ∧ V2.J.next ≤ 4000000000000000000 := by have := (I2).j.hdr; have := (I2).j.bound; unfold Jrn.next; omega
      refine WC.open (Ls := rvolL rv q V2) P1 (fun y => ?_)
      unfold rvolL rjrnL
      dsimp only [List.cons_append, List.nil_append]
      refine WC.open (Ls := rdskL q D2) P1 (fun z => ?_)
      unfold rdskL
      dsimp only [List.cons_append, List.nil_append]
      refine RD 31 31 (_) ?_
      refine WP 0 ?_
      refine WP 2 ?_
      refine WP 3 ?_
      refine WP 4 ?_
      refine VV 5 ?_
      refine WP 6 ?_
      refine WP 7 ?_
      refine VV 8 ?_
      refine WH.only 1 rfl rfl (by kernel_rfl) rfl (OP.callRT rfl rfl (vrecords_rt v p V2 hrg) (Ent.at (up_vol _ _ _) MM) rfl rfl (fun v E hE' => ?_))
      obtain ⟨a4, cap4, rfl, rfl⟩ := hE'
      refine ⟨fun _ => II, ?_⟩
      refine WH.only 9 rfl rfl (by kernel_rfl) rfl (OP.callRO rfl rfl (jsame_ro a4 y.2.1 V2.J.held.length cap4 V2.J.held.length y.2.2.1 (V2.J.held.map Prod.snd) (V2.J.held.map Prod.snd) (by simp) (by simp) (by omega)) (Ent.and (by rw [← recs_flat']; exact Ent.own (T := 42) MM) (by rw [← recs_flat']; exact Ent.own (T := 42) MM)) rfl rfl ⟨fun _ => II, ?_⟩)
      rw [decide_eq_true rfl]
      refine WP 10 ?_
      refine WP 11 ?_
      refine WP 12 ?_
      refine WP 14 ?_
      refine WP 15 ?_
      refine WP 16 ?_
      refine VV 17 ?_
      refine WH.onlyG (q := true) 13 rfl rfl rfl rfl rfl rfl rfl (by kernel_rfl) rfl (.inl rfl) (fun _ => OP.callRO rfl rfl (vnext_ro v p V2 hrg) (Ent.at (up_vol _ _ _) MM) rfl rfl ⟨fun _ => II, ?_⟩) (fun h => nomatch h)
      refine WH.onlyG (q := true) 18 rfl rfl rfl rfl rfl rfl rfl (by kernel_rfl) rfl (.inl rfl) (fun _ => OP.callRO rfl rfl (rnext_ro y.1 q V2.J hrg.J) (Ent.exI y.2 (by unfold rjrnL; exact II)) rfl rfl ⟨fun _ => II, ?_⟩) (fun h => nomatch h)
      refine WP 19 ?_
      rw [decide_eq_true rfl]
      refine WP 20 ?_
      refine WP 21 ?_
      refine WP 22 ?_
      refine WP 24 ?_
      refine WP 25 ?_
      refine WP 26 ?_
      refine VV 27 ?_
      refine WP 28 ?_
      refine WH.onlyG (q := true) 23 rfl rfl rfl rfl rfl rfl rfl (by kernel_rfl) rfl (.inl rfl) (fun _ => OP.callRO rfl rfl (dloose_ro p D2) (Ent.at (up_dsk _ _) MM) rfl rfl ⟨fun _ => II, ?_⟩) (fun h => nomatch h)
      refine WP 29 ?_
      rw [decide_eq_true rfl]
      refine WP 30 ?_
      refine DN ?_
      repeat (first | refine GD ?_ | refine NW fun _ => ?_)
      exact ⟨(k + 1, (v, rv), V2, D2, V2.J.held.length, B + 2), ⟨by dsimp only; omega, I2, by dsimp only; omega, hr3⟩, by dsimp only; omega, ⟨rfl, rfl, rfl, rfl, rfl, rfl, rfl, rfl, trivial⟩, Imp.trans II ((rvolFoldX rv q V2 y).trans ((Imp.cons (rdskFold q D2 z (N := [vol v p V2, dsk p D2, A]))).trans II))⟩
  by_cases k6 : kind = 6
  rotate_left
  · repeat (first | refine GD ?_ | refine NW fun _ => ?_)
    have hrg := (I).rng (by omega)
    have hfw := (I).j.few
    have hln : V.J.held.length ≤ 512 := by have := hrg.J.2; have := hrg.J.1; omega
    have hpos : 0 ≤ V.J.next ∧ V.J.next ≤ 4000000000000000000 := by have := (I).j.hdr; have := (I).j.bound; unfold Jrn.next; omega
    refine WC.open (Ls := rvolL rv q V) P1 (fun y => ?_)
    unfold rvolL rjrnL
    dsimp only [List.cons_append, List.nil_append]
    refine WC.open (Ls := rdskL q D) P1 (fun z => ?_)
    unfold rdskL
    dsimp only [List.cons_append, List.nil_append]
    refine RD 31 31 (_) ?_
    refine WP 0 ?_
    refine WP 2 ?_
    refine WP 3 ?_
    refine WP 4 ?_
    refine VV 5 ?_
    refine WP 6 ?_
    refine WP 7 ?_
    refine VV 8 ?_
    refine WH.only 1 rfl rfl (by kernel_rfl) rfl (OP.callRT rfl rfl (vrecords_rt v p V hrg) (Ent.at (up_vol _ _ _) MM) rfl rfl (fun v E hE' => ?_))
    obtain ⟨a4, cap4, rfl, rfl⟩ := hE'
    refine ⟨fun _ => II, ?_⟩
    refine WH.only 9 rfl rfl (by kernel_rfl) rfl (OP.callRO rfl rfl (jsame_ro a4 y.2.1 V.J.held.length cap4 V.J.held.length y.2.2.1 (V.J.held.map Prod.snd) (V.J.held.map Prod.snd) (by simp) (by simp) (by omega)) (Ent.and (by rw [← recs_flat']; exact Ent.own (T := 42) MM) (by rw [← recs_flat']; exact Ent.own (T := 42) MM)) rfl rfl ⟨fun _ => II, ?_⟩)
    rw [decide_eq_true rfl]
    refine WP 10 ?_
    refine WP 11 ?_
    refine WP 12 ?_
    refine WP 14 ?_
    refine WP 15 ?_
    refine WP 16 ?_
    refine VV 17 ?_
    refine WH.onlyG (q := true) 13 rfl rfl rfl rfl rfl rfl rfl (by kernel_rfl) rfl (.inl rfl) (fun _ => OP.callRO rfl rfl (vnext_ro v p V hrg) (Ent.at (up_vol _ _ _) MM) rfl rfl ⟨fun _ => II, ?_⟩) (fun h => nomatch h)
    refine WH.onlyG (q := true) 18 rfl rfl rfl rfl rfl rfl rfl (by kernel_rfl) rfl (.inl rfl) (fun _ => OP.callRO rfl rfl (rnext_ro y.1 q V.J hrg.J) (Ent.exI y.2 (by unfold rjrnL; exact II)) rfl rfl ⟨fun _ => II, ?_⟩) (fun h => nomatch h)
    refine WP 19 ?_
    rw [decide_eq_true rfl]
    refine WP 20 ?_
    refine WP 21 ?_
    refine WP 22 ?_
    refine WP 24 ?_
    refine WP 25 ?_
    refine WP 26 ?_
    refine VV 27 ?_
    refine WP 28 ?_
    refine WH.onlyG (q := true) 23 rfl rfl rfl rfl rfl rfl rfl (by kernel_rfl) rfl (.inl rfl) (fun _ => OP.callRO rfl rfl (dloose_ro p D) (Ent.at (up_dsk _ _) MM) rfl rfl ⟨fun _ => II, ?_⟩) (fun h => nomatch h)
    refine WP 29 ?_
    rw [decide_eq_true rfl]
    refine WP 30 ?_
    refine DN ?_
    repeat (first | refine GD ?_ | refine NW fun _ => ?_)
    exact ⟨(k + 1, (v, rv), V, D, f, B), ⟨by dsimp only; omega, I, by dsimp only; omega, hring⟩, by dsimp only; omega, ⟨rfl, rfl, rfl, rfl, rfl, rfl, rfl, rfl, trivial⟩, Imp.trans II ((rvolFoldX rv q V y).trans ((Imp.cons (rdskFold q D z (N := [vol v p V, dsk p D, A]))).trans II))⟩
  subst k6
  obtain ⟨pq, V3, D3, _, _, ho2, I2, hr2, _, _⟩ := I.crash hBw (keeps keep)
  rw [hring] at ho2
  have e3 := hr2.trans hring
  have hD2 : (D.crash keep).ok := Dsk.settle_ok I.j.dok _
  have hop := vopen_ok p (D.crash keep) N hD2 (by show (0 : Nat) < 10000; decide) (by omega)
  have hrop := rvopen_ok q (D.crash keep) N hD2 (by show (0 : Nat) < 10000; decide) (by omega)
  unfold OpenVP at hop
  unfold ROpenVP at hrop
  rw [show openV (D.crash keep) N = _ from ho2] at hop hrop
  have hcr := dcrash_ok p D keep hok I.j.dok (by have := I.j.few; omega)
  have hrcr := rdcrash_ok q D keep hok I.j.dok (by have := I.j.few; omega)
  generalize D.crash keep = DC at *
  repeat (first | refine GD ?_ | refine NW fun _ => ?_)
  refine WL.step rfl (OP.call (pre := [dsk p D]) rfl rfl hcr PS rfl rfl ?_)
  rintro _ _ ⟨rfl, rfl⟩
  repeat (first | refine GD ?_ | refine NW fun _ => ?_)
  refine WL.step rfl (OP.call (pre := [rdsk q D]) rfl rfl hrcr PS rfl rfl ?_)
  rintro _ _ ⟨rfl, rfl⟩
  repeat (first | refine GD ?_ | refine NW fun _ => ?_)
  refine WL.step rfl (OP.call (pre := [dsk p DC]) rfl rfl hop PS rfl rfl ?_)
  rintro x M ⟨v3, rfl, rfl⟩
  repeat (first | refine GD ?_ | refine NW fun _ => ?_)
  refine WL.step rfl (OP.call (pre := [rdsk q DC]) rfl rfl hrop PS rfl rfl ?_)
  rintro x M ⟨rv3, rfl, rfl⟩
  repeat (first | refine GD ?_ | refine NW fun _ => ?_)
  have hrg := (I2).rng (by omega)
  have hfw := (I2).j.few
  have hln : V3.J.held.length ≤ 512 := by have := hrg.J.2; have := hrg.J.1; omega
  have hpos : 0 ≤ V3.J.next ∧ V3.J.next ≤ 4000000000000000000 := by have := (I2).j.hdr; have := (I2).j.bound; unfold Jrn.next; omega
  refine WC.open (Ls := rvolL rv3 q V3) P1 (fun y => ?_)
  unfold rvolL rjrnL
  dsimp only [List.cons_append, List.nil_append]
  refine WC.open (Ls := rdskL q D3) P1 (fun z => ?_)
  unfold rdskL
  dsimp only [List.cons_append, List.nil_append]
  refine RD 31 31 (_) ?_
  refine WP 0 ?_
  refine WP 2 ?_
  refine WP 3 ?_
  refine WP 4 ?_
  refine VV 5 ?_
  refine WP 6 ?_
  refine WP 7 ?_
  refine VV 8 ?_
  refine WH.only 1 rfl rfl (by kernel_rfl) rfl (OP.callRT rfl rfl (vrecords_rt v3 p V3 hrg) (Ent.at (up_vol _ _ _) MM) rfl rfl (fun v E hE' => ?_))
  obtain ⟨a4, cap4, rfl, rfl⟩ := hE'
  refine ⟨fun _ => II, ?_⟩
  refine WH.only 9 rfl rfl (by kernel_rfl) rfl (OP.callRO rfl rfl (jsame_ro a4 y.2.1 V3.J.held.length cap4 V3.J.held.length y.2.2.1 (V3.J.held.map Prod.snd) (V3.J.held.map Prod.snd) (by simp) (by simp) (by omega)) (Ent.and (by rw [← recs_flat']; exact Ent.own (T := 42) MM) (by rw [← recs_flat']; exact Ent.own (T := 42) MM)) rfl rfl ⟨fun _ => II, ?_⟩)
  rw [decide_eq_true rfl]
  refine WP 10 ?_
  refine WP 11 ?_
  refine WP 12 ?_
  refine WP 14 ?_
  refine WP 15 ?_
  refine WP 16 ?_
  refine VV 17 ?_
  refine WH.onlyG (q := true) 13 rfl rfl rfl rfl rfl rfl rfl (by kernel_rfl) rfl (.inl rfl) (fun _ => OP.callRO rfl rfl (vnext_ro v3 p V3 hrg) (Ent.at (up_vol _ _ _) MM) rfl rfl ⟨fun _ => II, ?_⟩) (fun h => nomatch h)
  refine WH.onlyG (q := true) 18 rfl rfl rfl rfl rfl rfl rfl (by kernel_rfl) rfl (.inl rfl) (fun _ => OP.callRO rfl rfl (rnext_ro y.1 q V3.J hrg.J) (Ent.exI y.2 (by unfold rjrnL; exact II)) rfl rfl ⟨fun _ => II, ?_⟩) (fun h => nomatch h)
  refine WP 19 ?_
  rw [decide_eq_true rfl]
  refine WP 20 ?_
  refine WP 21 ?_
  refine WP 22 ?_
  refine WP 24 ?_
  refine WP 25 ?_
  refine WP 26 ?_
  refine VV 27 ?_
  refine WP 28 ?_
  refine WH.onlyG (q := true) 23 rfl rfl rfl rfl rfl rfl rfl (by kernel_rfl) rfl (.inl rfl) (fun _ => OP.callRO rfl rfl (dloose_ro p D3) (Ent.at (up_dsk _ _) MM) rfl rfl ⟨fun _ => II, ?_⟩) (fun h => nomatch h)
  refine WP 29 ?_
  rw [decide_eq_true rfl]
  refine WP 30 ?_
  refine DN ?_
  repeat (first | refine GD ?_ | refine NW fun _ => ?_)
  exact ⟨(k + 1, (v3, rv3), V3, D3, pq, B + 2), ⟨by dsimp only; omega, I2, by dsimp only; omega, e3⟩, by dsimp only; omega, ⟨rfl, rfl, rfl, rfl, rfl, rfl, rfl, rfl, trivial⟩, Imp.trans II ((rvolFoldX rv3 q V3 y).trans ((Imp.cons (rdskFold q D3 z (N := [vol v3 p V3, dsk p D3, A]))).trans II))⟩
end Go.Proofs.YteednjcoapmkaaaGreatDoor
