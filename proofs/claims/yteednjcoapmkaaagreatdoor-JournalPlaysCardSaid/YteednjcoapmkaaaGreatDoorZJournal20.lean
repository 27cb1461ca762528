/- Contracts of functions of the given program, and plain laws: parts of the proofs of laws. -/
import Derived.Test.YteednjcoapmkaaaGreatDoorZJournal7
import Derived.Test.YteednjcoapmkaaaGreatDoorZJournal17
import Derived.Test.YteednjcoapmkaaaGreatDoorZJournal19
/- Contracts of functions of the given program, and plain laws on what they compute: parts of the proofs of laws. -/

namespace Go.Proofs.YteednjcoapmkaaaGreatDoor
open Go Go.GL

theorem dloose_ro (p : Nat) (D : Dsk) : RO G 27 [.pointer (some ⟨p, 0, none⟩)] (dsk p D) (.int .i64 D.W.length) := by
  refine RO.enterEx Tryz.func27 rfl (by decide) rfl Tryz.ntmps27 rfl (fun x A hu hA => ?_)
  have hE : ∀ {L}, A ∈ L → Ent L (cellsAt p 0 [.slice x.1 D.S.length x.2.1, .slice x.2.2.1 D.W.length x.2.2.2]) := fun m => Ent.of hu hA m (Ent.whole (List.Mem.head _))
  repeat (first | refine GD ?_ | refine NW fun _ => ?_)
  refine WL.step rfl (OP.load1 (v := .slice x.2.2.1 D.W.length x.2.2.2) rfl rfl rfl rfl (Ent.one (i := 1) (hE MM) rfl) rfl rfl ?_)
  repeat (first | refine GD ?_ | refine NW fun _ => ?_)
  exact ret1 rfl ⟨rfl, MM⟩
theorem recs_flat' (l : List Held) : l.flatMap (fun x => encR x.2) = (l.map Prod.snd).flatMap encR := by rw [List.flatMap_map]
/-- do both journals tell the same, and is the same loose -/
def JBoth (j p jr q : Nat) (J : Jrn) (D : Dsk) : List Assn := [jrn j p J, dsk p D, rjrn jr q J, rdsk q D]
theorem appEr_first (J : Jrn) (c : Int) : firstV (firstC jrnT (appEr J c)) = .tuple #[.int .i64 J.next, .bool true] := by unfold appEr; split <;> rfl
theorem appendM_err {J : Jrn} {D : Dsk} {r : Rec} {c : Int} (h : appendM J D r = .error c) : c = 6 ∨ c = 1 := by
  unfold appendM at h
  split at h
  · cases h; exact .inl rfl
  · split at h
    · cases h
    · cases h; exact .inr rfl
theorem trimM_err {J : Jrn} {D : Dsk} {k c : Int} (h : trimM J D k = .error c) : c = 1 := by
  unfold trimM at h
  split at h
  · cases h; rfl
  · split at h <;> cases h
set_option maxHeartbeats 32000000 in
set_option maxRecDepth 10000 in
theorem jplays_ro (s r : UInt8) (a : Option Addr) (n c : Nat) (l : List JOp) (hn : n = l.length) (hi : ∀ o ∈ l, -9223372036854775808 ≤ o.2.1 ∧ o.2.1 ≤ 9223372036854775807) (hk : ∀ o ∈ l, 0 ≤ o.2.2.2 ∧ o.2.2.2 < 18446744073709551616) :
    RO G 3 [.int .u8 (s.toNat : Int), .int .u8 (r.toNat : Int), .slice a n c] (fun h => ErrT h ∧ readS a n 8 (l.flatMap encJ) h) (.bool true) := by
  refine RO.enter Tryz.func3 rfl (by decide) rfl Tryz.ntmps3 rfl (fun A hu hA => ?_) (up_and up_ErrT (up_readS _ _ _ _))
  have hT : ∀ {L}, A ∈ L → Ent L ErrT := fun m => Ent.mem m hu fun k x => (hA k x).1
  have hE : ∀ {L}, A ∈ L → Ent L (readS a n 8 (l.flatMap encJ)) := fun m => Ent.mem m hu fun k x => (hA k x).2
  have hw : widest = 1152921504606846975 := rfl
  have hs8 := s.toNat_lt
  have hr8 := r.toNat_lt
  repeat (first | refine GO ?_ | refine NW fun _ => ?_)
  refine WL.step rfl (OP.callRO rfl rfl jawake_ro (fun _ _ => trivial) rfl rfl ?_)
  repeat (first | refine GD ?_ | refine NW fun _ => ?_)
  refine WL.guardT rfl rfl rfl rfl (OP.callRO rfl rfl (jfew_ro a n c l hn) (hE MM) rfl rfl ?_)
  cases hf : fewB l
  · repeat (first | refine GD ?_ | refine NW fun _ => ?_)
    refine WL.step rfl (OP.callRO rfl rfl jawake_ro (fun _ _ => trivial) rfl rfl ?_)
    repeat (first | refine GD ?_ | refine NW fun _ => ?_)
    exact ret1 rfl ⟨rfl, MM⟩
  unfold fewB at hf
  rw [Bool.and_eq_true] at hf
  have h80 := of_decide_eq_true hf.1
  have hd : ∀ o ∈ l, o.2.2.1.2.2.2.1.size ≤ 300 := fun o ho => of_decide_eq_true (List.all_eq_true.1 hf.2 o ho)
  obtain ⟨S, hS, hS1⟩ : ∃ S : Nat, (s.toNat : Int) % 20 = S ∧ S < 20 := ⟨s.toNat % 20, by omega, by omega⟩
  obtain ⟨N, hN, hN1⟩ : ∃ N : Nat, (r.toNat : Int) % 20 = N ∧ N < 20 := ⟨r.toNat % 20, by omega, by omega⟩
  have hlen : (Dsk.new (S : Int)).S.length = S := by unfold Dsk.new; rw [List.length_replicate]; omega
  repeat (first | refine GD ?_ | refine NW fun _ => ?_)
  rw [hS]
  refine WL.step rfl (OP.callRT rfl rfl (dnew_rt S) (fun _ _ => trivial) rfl rfl ?_)
  rintro _ _ ⟨p, rfl, rfl⟩
  repeat (first | refine GD ?_ | refine NW fun _ => ?_)
  rw [hS]
  refine WL.step rfl (OP.callRT rfl rfl (rdnew_rt S (by omega)) (fun _ _ => trivial) rfl rfl ?_)
  rintro _ _ ⟨q, rfl, rfl⟩
  repeat (first | refine GD ?_ | refine NW fun _ => ?_)
  have hop := jopen_ok p (Dsk.new S) N (Dsk.new_ok _) (by show (0 : Nat) < 10000; decide) (by omega)
  have hrop := ropen_ok q (Dsk.new S) N (Dsk.new_ok _) (by show (0 : Nat) < 10000; decide) (by omega)
  unfold OpenJ at hop
  unfold ROpenJ at hrop
  rw [hN]
  by_cases hbad : N < 1 ∨ S < 2 + N
  · have ho : openM (Dsk.new S) N = .error 1 := by unfold openM; rw [if_pos (by rw [hlen]; omega)]
    rw [ho] at hop hrop
    refine WL.step rfl (OP.call (pre := [dsk p (Dsk.new S)]) rfl rfl hop PS rfl rfl ?_)
    rintro v M ⟨e, E, ⟨ch, hch, rfl, rfl⟩, rfl, rfl⟩
    repeat (first | refine GD ?_ | refine NW fun _ => ?_)
    rw [hN]
    refine WL.step rfl (OP.call (pre := [rdsk q (Dsk.new S)]) rfl rfl hrop PS rfl rfl ?_)
    rintro v M ⟨rfl, rfl⟩
    have hcl : ch.length < 1000 := by have := congrArg List.length hch; simp at this; omega
    have hfc := firstC_ro ch 1 jrnT hcl
    rw [hch] at hfc
    have hfv : firstV (firstC jrnT [(jrnT, (N : Int))]) = .tuple #[.int .i64 N, .bool true] := rfl
    rw [hfv] at hfc
    have hcc := codeC ch 1
    have hce : ∀ {L}, chainR ch 1 ∈ L → A ∈ L → Ent L (chainE ch 1) := fun m1 m2 => Ent.and (hT m2) (Ent.mem m1 (up_chainR _ _) (fun _ x => x))
    repeat (first | refine GD ?_ | refine NW fun _ => ?_)
    refine WL.step rfl (OP.callRO rfl rfl hfc (hce MM MM) rfl rfl ?_)
    repeat (first | refine GD ?_ | refine NW fun _ => ?_)
    refine WL.step rfl (OP.callRO rfl rfl hcc (hce MM MM) rfl rfl ?_)
    repeat (first | refine GD ?_ | refine NW fun _ => ?_)
    exact ret1 rfl ⟨rfl, MM⟩
  obtain ⟨ho, I0⟩ := JInv.fresh (n := S) (ring := N) (by omega) (by omega) (by omega) (by omega)
  rw [ho] at hop hrop
  refine WL.step rfl (OP.call (pre := [dsk p (Dsk.new S)]) rfl rfl hop PS rfl rfl ?_)
  rintro v M ⟨j, rfl, rfl⟩
  repeat (first | refine GD ?_ | refine NW fun _ => ?_)
  rw [hN]
  refine WL.step rfl (OP.call (pre := [rdsk q (Dsk.new S)]) rfl rfl hrop PS rfl rfl ?_)
  rintro v M ⟨jr, rfl, rfl⟩
  generalize saveM (Dsk.new S) ⟨1, 1, 1, 0⟩ = D0 at *
  generalize hJ0 : (⟨N, ⟨1, 1, 1, 0⟩, []⟩ : Jrn) = J0 at *
  have hring0 : J0.ring = N := by rw [← hJ0]
  clear hop hrop
  repeat (first | refine GD ?_ | refine NW fun _ => ?_)
  refine WL.step rfl (OP.callRO rfl rfl (first_nil _) (fun _ _ => trivial) rfl rfl ?_)
  repeat (first | refine GD ?_ | refine NW fun _ => ?_)
  refine WL.step rfl (OP.callRO rfl rfl code_nil (fun _ _ => trivial) rfl rfl ?_)
  repeat (first | refine GD ?_ | refine NW fun _ => ?_)
  refine WC.loop (σ := Nat × (Nat × Nat) × Jrn × Dsk × Nat × Int) (fun z => z.1 ≤ n ∧ JInv z.2.2.1 z.2.2.2.1 z.2.2.2.2.1 z.2.2.2.2.2 ∧ z.2.2.2.2.2 ≤ 3 + 2 * z.1 ∧ z.2.2.1.ring = N)
    (fun z => [(1, .val (.int .u8 (r.toNat : Int))), (2, .val (.slice a n c)), (7, .val (.pointer (some ⟨p, 0, none⟩))), (8, .val (.pointer (some ⟨q, 0, none⟩))), (9, .val (.pointer (some ⟨z.2.1.1, 0, none⟩))), (11, .val (.pointer (some ⟨z.2.1.2, 0, none⟩))), (95, .val (.int .i64 n)), (96, .val (.int .i64 z.1))])
    (fun z => [jrn z.2.1.1 p z.2.2.1, dsk p z.2.2.2.1, rjrn z.2.1.2 q z.2.2.1, rdsk q z.2.2.2.1, A]) (fun z => n - z.1) (0, (j, jr), J0, D0, 0, 3) ⟨Nat.zero_le _, I0, (by show (3 : Int) ≤ 3 + 2 * ((0 : Nat) : Int); decide), hring0⟩ ⟨rfl, rfl, rfl, rfl, rfl, rfl, rfl, rfl, trivial⟩ II ?_
  clear I0 ho hJ0 hring0
  clear J0 D0
  rintro ⟨k, ⟨j, jr⟩, J, D, f, B⟩ ⟨hk1, I, hB, hring⟩
  dsimp only at hk1 I hB hring ⊢
  by_cases hlt : k < n
  rotate_left
  · have hI64 := fun i h => Dsk.cur_64 I.dok (i := i) h
    have hfw := I.few
    have hdok := I.dok
    have h1024 := I.dok.few
    repeat (first | refine GD ?_ | refine NW fun _ => ?_)
    refine WL.step rfl (OP.callRO rfl rfl (dlen_ro p D) (Ent.at (up_dsk _ _) MM) rfl rfl ?_)
    repeat (first | refine GD ?_ | refine NW fun _ => ?_)
    refine WC.loop (σ := Nat) (fun i => i ≤ D.S.length)
      (fun i => [(7, .val (.pointer (some ⟨p, 0, none⟩))), (8, .val (.pointer (some ⟨q, 0, none⟩))), (258, .val (.int .i64 D.S.length)), (259, .val (.int .i64 i))])
      (fun i => [dsk p D, rdsk q D, A]) (fun i => D.S.length - i) 0 (Nat.zero_le _) ⟨rfl, rfl, rfl, rfl, trivial⟩ II ?_
    rintro i hi1
    by_cases hil : i < D.S.length
    rotate_left
    · repeat (first | refine GD ?_ | refine NW fun _ => ?_)
      exact ret1 rfl ⟨rfl, MM⟩
    have hrd := dread_rt p D i hdok (by omega)
    unfold DReadPost at hrd
    rw [Int.toNat_natCast] at hrd
    have hrr := rdread_ro q D i (by omega)
    unfold RRdV at hrr
    rw [if_pos (by omega), Int.toNat_natCast] at hrr
    have h64 := hI64 i hil
    generalize D.cur i = l0 at *
    repeat (first | refine GD ?_ | refine NW fun _ => ?_)
    refine WL.step rfl (OP.callRT rfl rfl hrd (Ent.at (up_dsk _ _) MM) rfl rfl ?_)
    intro v E hE'
    rw [if_pos (by omega)] at hE'
    obtain ⟨br, rfl, rfl⟩ := hE'
    repeat (first | refine GD ?_ | refine NW fun _ => ?_)
    refine WL.step rfl (OP.callRO rfl rfl hrr (Ent.at (up_rdsk _ _) MM) rfl rfl ?_)
    repeat (first | refine GD ?_ | refine NW fun _ => ?_)
    refine WL.step rfl (OP.toStr (sv := ba l0) rfl rfl rfl rfl rfl rfl rfl rfl (by rw [strCells_ba]; exact Ent.at (up_readS _ _ _ _) MM) rfl rfl ?_)
    generalize ba l0 = bb at *
    repeat (first | refine GD ?_ | refine NW fun _ => ?_)
    rw [decide_eq_true (rfl : bb = bb)]
    repeat (first | refine GD ?_ | refine NW fun _ => ?_)
    exact ⟨i + 1, by omega, by omega, ⟨rfl, rfl, rfl, rfl, trivial⟩, II⟩
  have hlk : k < l.length := by omega
  have hod := hd l[k] (List.getElem_mem hlk)
  have hok := hk l[k] (List.getElem_mem hlk)
  have hoi := hi l[k] (List.getElem_mem hlk)
  refine WC.fact (Ent.some (hE MM) (by omega)) ?_
  rintro ⟨b, off, rfl⟩
  have hel : ∀ {L}, A ∈ L → Ent L (cellsAt b (off + k * 8) (encJ l[k])) := fun m => Ent.elA encJ_len (hE m) hlk
  generalize l[k] = o at *
  obtain ⟨kind, num, ⟨seq, kd, blk', data, nb⟩, keep⟩ := o
  dsimp only at hod hok hoi
  rw [show encJ (kind, num, (seq, kd, blk', data, nb), keep) = [.int .i64 kind, .int .i64 num, .int .i64 seq, .int .i64 kd, .int .i64 blk', .string data, .int .i64 nb, .int .u64 keep] from rfl] at hel
  have hr0 := I.rng (by omega)
  repeat (first | refine GD ?_ | refine NW fun _ => ?_)
  refine WL.step rfl (OP.loadA (l := [.int .i64 kind, .int .i64 num, .int .i64 seq, .int .i64 kd, .int .i64 blk', .string data, .int .i64 nb, .int .u64 keep]) rfl rfl rfl rfl (hel MM) rfl rfl rfl ?_)
  have hBw : B + 2 ≤ widest := by omega
  by_cases k1 : kind = 1
  · subst k1
    have hap := jappend_ok j p J D (seq, kd, blk', data, nb) hr0 I.ring.2.2 I.few (by dsimp only; omega)
    have hra := rappend_ok jr q J D (seq, kd, blk', data, nb) hr0 I.ring.2.2 I.few (by dsimp only; omega)
    unfold AppJ at hap
    unfold RAppJ at hra
    have hnb0 : 0 ≤ J.next ∧ J.next ≤ 4000000000000000000 := by have := I.hdr; have := I.bound; unfold Jrn.next; omega
    repeat (first | refine GD ?_ | refine NW fun _ => ?_)
    refine WL.step rfl (OP.callRO rfl rfl (jnext_ro j p J hr0) (Ent.at (up_jrn _ _ _) MM) rfl rfl ?_)
    cases hq : appendM J D (seq, kd, blk', data, nb) with
    | error c =>
      rw [hq] at hap hra
      repeat (first | refine GD ?_ | refine NW fun _ => ?_)
      refine WL.step rfl (OP.call (pre := [jrn j p J, dsk p D]) rfl rfl hap PS rfl rfl ?_)
      rintro v M ⟨e, E, ⟨ch, hch, rfl, rfl⟩, rfl, rfl⟩
      have hcl : ch.length < 1000 := by
        have := congrArg List.length hch
        unfold appEr at this
        split at this <;> simp at this <;> omega
      have hfc := firstC_ro ch c jrnT hcl
      rw [hch, appEr_first] at hfc
      have hcc := codeC ch c
      have hce : ∀ {L}, chainR ch c ∈ L → A ∈ L → Ent L (chainE ch c) := fun m1 m2 => Ent.and (hT m2) (Ent.mem m1 (up_chainR _ _) (fun _ x => x))
      have hc0 : c ≠ 0 := by rcases appendM_err hq with h | h <;> omega
      repeat (first | refine GD ?_ | refine NW fun _ => ?_)
      refine WL.step rfl (OP.call (pre := [rjrn jr q J, rdsk q D]) rfl rfl hra PS rfl rfl ?_)
      rintro v M ⟨rfl, rfl⟩
      repeat (first | refine GD ?_ | refine NW fun _ => ?_)
      refine WL.step rfl (OP.callRO rfl rfl hfc (hce MM MM) rfl rfl ?_)
      repeat (first | refine GD ?_ | refine NW fun _ => ?_)
      refine WL.guardT rfl rfl rfl rfl (OP.callRO rfl rfl hcc (hce MM MM) rfl rfl ?_)
      repeat (first | refine GD ?_ | refine NW fun _ => ?_)
      have hrg := (I).rng (by omega)
      have hfw := (I).few
      have hln : J.held.length ≤ 512 := by have := (I).len; have := (I).ring; omega
      have hpos : 0 ≤ J.next ∧ J.next ≤ 4000000000000000000 := by have := (I).hdr; have := (I).bound; unfold Jrn.next; omega
      have hrl : J.held.length ≤ J.ring ∧ J.ring ≤ 512 := by have := (I).len; have := (I).ring; omega
      refine WC.open (Ls := rjrnL jr q J) P1 (fun y => ?_)
      unfold rjrnL
      dsimp only [List.cons_append, List.nil_append]
      refine WC.open (Ls := rdskL q D) P1 (fun z => ?_)
      unfold rdskL
      dsimp only [List.cons_append, List.nil_append]
      refine RD 40 40 (_) ?_
      refine WP 0 ?_
      refine WP 2 ?_
      refine WP 3 ?_
      refine WP 4 ?_
      refine VV 5 ?_
      refine WH.only 1 rfl rfl (by kernel_rfl) rfl (OP.callRT rfl rfl (jrecords_rt j p J hrg) (Ent.at (up_jrn _ _ _) MM) rfl rfl (fun v E hE' => ?_))
      obtain ⟨a4, cap4, rfl, rfl⟩ := hE'
      refine ⟨fun _ => II, ?_⟩
      refine WH.only 6 rfl rfl (by kernel_rfl) rfl (OP.callRO rfl rfl (jsame_ro a4 y.1 J.held.length cap4 J.held.length y.2.1 (J.held.map Prod.snd) (J.held.map Prod.snd) (by simp) (by simp) (by omega)) (Ent.and (by rw [← recs_flat']; exact Ent.own (T := 42) MM) (by rw [← recs_flat']; exact Ent.own (T := 42) MM)) rfl rfl ⟨fun _ => II, ?_⟩)
      rw [decide_eq_true rfl]
      refine WP 7 ?_
      refine WP 8 ?_
      refine WP 9 ?_
      refine WP 11 ?_
      refine WH.onlyG (q := true) 10 rfl rfl rfl rfl rfl rfl rfl (by kernel_rfl) rfl (.inl rfl) (fun _ => OP.callRO rfl rfl (jnext_ro j p J hrg) (Ent.at (up_jrn _ _ _) MM) rfl rfl ⟨fun _ => II, ?_⟩) (fun h => nomatch h)
      refine WH.onlyG (q := true) 12 rfl rfl rfl rfl rfl rfl rfl (by kernel_rfl) rfl (.inl rfl) (fun _ => OP.callRO rfl rfl (rnext_ro jr q J hrg) (Ent.exI y (by unfold rjrnL; exact II)) rfl rfl ⟨fun _ => II, ?_⟩) (fun h => nomatch h)
      refine WP 13 ?_
      rw [decide_eq_true rfl]
      refine WP 14 ?_
      refine WP 15 ?_
      refine WP 16 ?_
      refine WP 18 ?_
      refine WP 19 ?_
      refine WP 20 ?_
      refine VV 21 ?_
      refine WP 22 ?_
      refine WP 23 ?_
      refine WP 24 ?_
      refine VV 25 ?_
      refine WP 26 ?_
      refine WP 27 ?_
      refine WH.onlyG (q := true) 17 rfl rfl rfl rfl rfl rfl rfl (by kernel_rfl) rfl (.inl rfl) (fun _ => OP.callRO rfl rfl (jroom_ro j p J hrg) (Ent.at (up_jrn _ _ _) MM) rfl rfl ⟨fun _ => II, ?_⟩) (fun h => nomatch h)
      refine WP 28 ?_
      rw [decide_eq_true rfl]
      refine WP 29 ?_
      refine WP 30 ?_
      refine WP 31 ?_
      refine WP 33 ?_
      refine WP 34 ?_
      refine WP 35 ?_
      refine VV 36 ?_
      refine WP 37 ?_
      refine WH.onlyG (q := true) 32 rfl rfl rfl rfl rfl rfl rfl (by kernel_rfl) rfl (.inl rfl) (fun _ => OP.callRO rfl rfl (dloose_ro p D) (Ent.at (up_dsk _ _) MM) rfl rfl ⟨fun _ => II, ?_⟩) (fun h => nomatch h)
      refine WP 38 ?_
      rw [decide_eq_true rfl]
      refine WP 39 ?_
      refine DN ?_
      repeat (first | refine GD ?_ | refine NW fun _ => ?_)
      exact ⟨(k + 1, (j, jr), J, D, f, B), ⟨by dsimp only; omega, I, by dsimp only; omega, hring⟩, by dsimp only; omega, ⟨rfl, rfl, rfl, rfl, rfl, rfl, rfl, rfl, trivial⟩, Imp.trans II ((rjrnFold jr q J y).trans ((Imp.cons (rdskFold q D z (N := [jrn j p J, dsk p D, A]))).trans II))⟩
    | ok y =>
      obtain ⟨J2, D2⟩ := y
      rw [hq] at hap hra
      obtain ⟨I2, _, hr2, _⟩ := I.append hq
      repeat (first | refine GD ?_ | refine NW fun _ => ?_)
      refine WL.step rfl (OP.call (pre := [jrn j p J, dsk p D]) rfl rfl hap PS rfl rfl ?_)
      rintro v M ⟨rfl, rfl⟩
      repeat (first | refine GD ?_ | refine NW fun _ => ?_)
      refine WL.step rfl (OP.call (pre := [rjrn jr q J, rdsk q D]) rfl rfl hra PS rfl rfl ?_)
      rintro v M ⟨rfl, rfl⟩
      repeat (first | refine GD ?_ | refine NW fun _ => ?_)
      refine WL.step rfl (OP.callRO rfl rfl (first_nil _) (fun _ _ => trivial) rfl rfl ?_)
      repeat (first | refine GD ?_ | refine NW fun _ => ?_)
      refine WL.guardT rfl rfl rfl rfl (OP.callRO rfl rfl code_nil (fun _ _ => trivial) rfl rfl ?_)
      repeat (first | refine GD ?_ | refine NW fun _ => ?_)
      have hrg := (I2).rng (by omega)
      have hfw := (I2).few
      have hln : J2.held.length ≤ 512 := by have := (I2).len; have := (I2).ring; omega
      have hpos : 0 ≤ J2.next ∧ J2.next ≤ 4000000000000000000 := by have := (I2).hdr; have := (I2).bound; unfold Jrn.next; omega
      have hrl : J2.held.length ≤ J2.ring ∧ J2.ring ≤ 512 := by have := (I2).len; have := (I2).ring; omega
      refine WC.open (Ls := rjrnL jr q J2) P1 (fun y => ?_)
      unfold rjrnL
      dsimp only [List.cons_append, List.nil_append]
      refine WC.open (Ls := rdskL q D2) P1 (fun z => ?_)
      unfold rdskL
      dsimp only [List.cons_append, List.nil_append]
      refine RD 40 40 (_) ?_
      refine WP 0 ?_
      refine WP 2 ?_
      refine WP 3 ?_
      refine WP 4 ?_
      refine VV 5 ?_
      refine WH.only 1 rfl rfl (by kernel_rfl) rfl (OP.callRT rfl rfl (jrecords_rt j p J2 hrg) (Ent.at (up_jrn _ _ _) MM) rfl rfl (fun v E hE' => ?_))
      obtain ⟨a4, cap4, rfl, rfl⟩ := hE'
      refine ⟨fun _ => II, ?_⟩
      refine WH.only 6 rfl rfl (by kernel_rfl) rfl (OP.callRO rfl rfl (jsame_ro a4 y.1 J2.held.length cap4 J2.held.length y.2.1 (J2.held.map Prod.snd) (J2.held.map Prod.snd) (by simp) (by simp) (by omega)) (Ent.and (by rw [← recs_flat']; exact Ent.own (T := 42) MM) (by rw [← recs_flat']; exact Ent.own (T := 42) MM)) rfl rfl ⟨fun _ => II, ?_⟩)
      rw [decide_eq_true rfl]
      refine WP 7 ?_
      refine WP 8 ?_
      refine WP 9 ?_
      refine WP 11 ?_
      refine WH.onlyG (q := true) 10 rfl rfl rfl rfl rfl rfl rfl (by kernel_rfl) rfl (.inl rfl) (fun _ => OP.callRO rfl rfl (jnext_ro j p J2 hrg) (Ent.at (up_jrn _ _ _) MM) rfl rfl ⟨fun _ => II, ?_⟩) (fun h => nomatch h)
      refine WH.onlyG (q := true) 12 rfl rfl rfl rfl rfl rfl rfl (by kernel_rfl) rfl (.inl rfl) (fun _ => OP.callRO rfl rfl (rnext_ro jr q J2 hrg) (Ent.exI y (by unfold rjrnL; exact II)) rfl rfl ⟨fun _ => II, ?_⟩) (fun h => nomatch h)
      refine WP 13 ?_
      rw [decide_eq_true rfl]
      refine WP 14 ?_
      refine WP 15 ?_
      refine WP 16 ?_
      refine WP 18 ?_
      refine WP 19 ?_
      refine WP 20 ?_
      refine VV 21 ?_
      refine WP 22 ?_
      refine WP 23 ?_
      refine WP 24 ?_
      refine VV 25 ?_
      refine WP 26 ?_
      refine WP 27 ?_
      refine WH.onlyG (q := true) 17 rfl rfl rfl rfl rfl rfl rfl (by kernel_rfl) rfl (.inl rfl) (fun _ => OP.callRO rfl rfl (jroom_ro j p J2 hrg) (Ent.at (up_jrn _ _ _) MM) rfl rfl ⟨fun _ => II, ?_⟩) (fun h => nomatch h)
      refine WP 28 ?_
      rw [decide_eq_true rfl]
      refine WP 29 ?_
      refine WP 30 ?_
      refine WP 31 ?_
      refine WP 33 ?_
      refine WP 34 ?_
      refine WP 35 ?_
      refine VV 36 ?_
      refine WP 37 ?_
      refine WH.onlyG (q := true) 32 rfl rfl rfl rfl rfl rfl rfl (by kernel_rfl) rfl (.inl rfl) (fun _ => OP.callRO rfl rfl (dloose_ro p D2) (Ent.at (up_dsk _ _) MM) rfl rfl ⟨fun _ => II, ?_⟩) (fun h => nomatch h)
      refine WP 38 ?_
      rw [decide_eq_true rfl]
      refine WP 39 ?_
      refine DN ?_
      repeat (first | refine GD ?_ | refine NW fun _ => ?_)
      exact ⟨(k + 1, (j, jr), J2, D2, f, B + 2), ⟨by dsimp only; omega, I2, by dsimp only; omega, hr2.trans hring⟩, by dsimp only; omega, ⟨rfl, rfl, rfl, rfl, rfl, rfl, rfl, rfl, trivial⟩, Imp.trans II ((rjrnFold jr q J2 y).trans ((Imp.cons (rdskFold q D2 z (N := [jrn j p J2, dsk p D2, A]))).trans II))⟩
  by_cases k2 : kind = 2
  · subst k2
    have I2 := I.flush hBw
    repeat (first | refine GD ?_ | refine NW fun _ => ?_)
    refine WL.step rfl (OP.call (pre := [jrn j p J, dsk p D]) rfl rfl (jflush_ok j p J D I.dok I.few) PS rfl rfl ?_)
    rintro _ _ ⟨rfl, rfl⟩
    repeat (first | refine GD ?_ | refine NW fun _ => ?_)
    refine WL.step rfl (OP.call (pre := [rdsk q D]) rfl rfl (rdflush_ok q D I.dok (by have := I.few; omega)) PS rfl rfl ?_)
    rintro _ _ ⟨rfl, rfl⟩
    generalize D.flush = D2 at *
    repeat (first | refine GD ?_ | refine NW fun _ => ?_)
    have hrg := (I2).rng (by omega)
    have hfw := (I2).few
    have hln : J.held.length ≤ 512 := by have := (I2).len; have := (I2).ring; omega
    have hpos : 0 ≤ J.next ∧ J.next ≤ 4000000000000000000 := by have := (I2).hdr; have := (I2).bound; unfold Jrn.next; omega
    have hrl : J.held.length ≤ J.ring ∧ J.ring ≤ 512 := by have := (I2).len; have := (I2).ring; omega
    refine WC.open (Ls := rjrnL jr q J) P1 (fun y => ?_)
    unfold rjrnL
    dsimp only [List.cons_append, List.nil_append]
    refine WC.open (Ls := rdskL q D2) P1 (fun z => ?_)
    unfold rdskL
    dsimp only [List.cons_append, List.nil_append]
    refine RD 40 40 (_) ?_
    refine WP 0 ?_
    refine WP 2 ?_
    refine WP 3 ?_
    refine WP 4 ?_
    refine VV 5 ?_
    refine WH.only 1 rfl rfl (by kernel_rfl) rfl (OP.callRT rfl rfl (jrecords_rt j p J hrg) (Ent.at (up_jrn _ _ _) MM) rfl rfl (fun v E hE' => ?_))
    obtain ⟨a4, cap4, rfl, rfl⟩ := hE'
    refine ⟨fun _ => II, ?_⟩
    refine WH.only 6 rfl rfl (by kernel_rfl) rfl (OP.callRO rfl rfl (jsame_ro a4 y.1 J.held.length cap4 J.held.length y.2.1 (J.held.map Prod.snd) (J.held.map Prod.snd) (by simp) (by simp) (by omega)) (Ent.and (by rw [← recs_flat']; exact Ent.own (T := 42) MM) (by rw [← recs_flat']; exact Ent.own (T := 42) MM)) rfl rfl ⟨fun _ => II, ?_⟩)
    rw [decide_eq_true rfl]
    refine WP 7 ?_
    refine WP 8 ?_
    refine WP 9 ?_
    refine WP 11 ?_
    refine WH.onlyG (q := true) 10 rfl rfl rfl rfl rfl rfl rfl (by kernel_rfl) rfl (.inl rfl) (fun _ => OP.callRO rfl rfl (jnext_ro j p J hrg) (Ent.at (up_jrn _ _ _) MM) rfl rfl ⟨fun _ => II, ?_⟩) (fun h => nomatch h)
    refine WH.onlyG (q := true) 12 rfl rfl rfl rfl rfl rfl rfl (by kernel_rfl) rfl (.inl rfl) (fun _ => OP.callRO rfl rfl (rnext_ro jr q J hrg) (Ent.exI y (by unfold rjrnL; exact II)) rfl rfl ⟨fun _ => II, ?_⟩) (fun h => nomatch h)
    refine WP 13 ?_
    rw [decide_eq_true rfl]
    refine WP 14 ?_
    refine WP 15 ?_
    refine WP 16 ?_
    refine WP 18 ?_
    refine WP 19 ?_
    refine WP 20 ?_
    refine VV 21 ?_
    refine WP 22 ?_
    refine WP 23 ?_
    refine WP 24 ?_
    refine VV 25 ?_
    refine WP 26 ?_
    refine WP 27 ?_
    refine WH.onlyG (q := true) 17 rfl rfl rfl rfl rfl rfl rfl (by kernel_rfl) rfl (.inl rfl) (fun _ => OP.callRO rfl rfl (jroom_ro j p J hrg) (Ent.at (up_jrn _ _ _) MM) rfl rfl ⟨fun _ => II, ?_⟩) (fun h => nomatch h)
    refine WP 28 ?_
    rw [decide_eq_true rfl]
    refine WP 29 ?_
    refine WP 30 ?_
    refine WP 31 ?_
    refine WP 33 ?_
    refine WP 34 ?_
    refine WP 35 ?_
    refine VV 36 ?_
    refine WP 37 ?_
    refine WH.onlyG (q := true) 32 rfl rfl rfl rfl rfl rfl rfl (by kernel_rfl) rfl (.inl rfl) (fun _ => OP.callRO rfl rfl (dloose_ro p D2) (Ent.at (up_dsk _ _) MM) rfl rfl ⟨fun _ => II, ?_⟩) (fun h => nomatch h)
    refine WP 38 ?_
    rw [decide_eq_true rfl]
    refine WP 39 ?_
    refine DN ?_
    repeat (first | refine GD ?_ | refine NW fun _ => ?_)
    exact ⟨(k + 1, (j, jr), J, D2, J.held.length, B), ⟨by dsimp only; omega, I2, by dsimp only; omega, hring⟩, by dsimp only; omega, ⟨rfl, rfl, rfl, rfl, rfl, rfl, rfl, rfl, trivial⟩, Imp.trans II ((rjrnFold jr q J y).trans ((Imp.cons (rdskFold q D2 z (N := [jrn j p J, dsk p D2, A]))).trans II))⟩
  by_cases k3 : kind = 3
  · subst k3
    have htr := jtrim_ok j p J D num hr0 I.dok I.ring.2.2 I.few
    have hrt := rtrim_ok jr q J D num hr0 I.dok I.ring.2.2 I.few
    unfold TrimJ at htr
    unfold RTrimJ at hrt
    repeat (first | refine GD ?_ | refine NW fun _ => ?_)
    rename_i x8
    cases hq : trimM J D num with
    | error c =>
      rw [hq] at htr hrt
      obtain rfl := trimM_err hq
      refine WL.step rfl (OP.call (pre := [jrn j p J, dsk p D]) rfl rfl htr PS rfl rfl ?_)
      rintro v M ⟨E, ⟨ch, hch, rfl, rfl⟩, rfl⟩
      have hcl : ch.length < 1000 := by have := congrArg List.length hch; simp at this; omega
      have hfc := firstC_ro ch 1 jrnT hcl
      rw [hch] at hfc
      have hfv : firstV (firstC jrnT [(jrnT, num)]) = .tuple #[.int .i64 num, .bool true] := rfl
      rw [hfv] at hfc
      have hcc := codeC ch 1
      have hce : ∀ {L}, chainR ch 1 ∈ L → A ∈ L → Ent L (chainE ch 1) := fun m1 m2 => Ent.and (hT m2) (Ent.mem m1 (up_chainR _ _) (fun _ x => x))
      repeat (first | refine GD ?_ | refine NW fun _ => ?_)
      refine WL.step rfl (OP.callRO rfl rfl hfc (hce MM MM) rfl rfl ?_)
      repeat (first | refine GD ?_ | refine NW fun _ => ?_)
      refine RD 16 16 ([blk x8 [.int .i64 3, .int .i64 num, .int .i64 seq, .int .i64 kd, .int .i64 blk', .string data, .int .i64 nb, .int .u64 keep] 45, A]) ?_
      refine WP 0 ?_
      refine WP 2 ?_
      refine WP 3 ?_
      refine VV 4 ?_
      refine WH.only 1 rfl rfl (by kernel_rfl) rfl (OP.callRO rfl rfl (hcc) (hce MM MM) rfl rfl ⟨fun _ => II, ?_⟩)
      refine WH.only 5 rfl rfl (by kernel_rfl) rfl (OP.call (pre := [rjrn jr q J, rdsk q D]) rfl rfl hrt PS rfl rfl (fun v M hM => ?_))
      obtain ⟨rfl, rfl⟩ := hM
      refine ⟨fun _ => II, ?_⟩
      refine WP 6 ?_
      refine WP 7 ?_
      refine WP 8 ?_
      refine WP 9 ?_
      refine WP 10 ?_
      refine WP 11 ?_
      refine VV 12 ?_
      refine WP 13 ?_
      rw [decide_eq_true (rfl : num = num)]
      refine WP 14 ?_
      refine WP 15 ?_
      refine DN ?_
      repeat (first | refine GD ?_ | refine NW fun _ => ?_)
      have hrg := (I).rng (by omega)
      have hfw := (I).few
      have hln : J.held.length ≤ 512 := by have := (I).len; have := (I).ring; omega
      have hpos : 0 ≤ J.next ∧ J.next ≤ 4000000000000000000 := by have := (I).hdr; have := (I).bound; unfold Jrn.next; omega
      have hrl : J.held.length ≤ J.ring ∧ J.ring ≤ 512 := by have := (I).len; have := (I).ring; omega
      refine WC.open (Ls := rjrnL jr q J) P1 (fun y => ?_)
      unfold rjrnL
      dsimp only [List.cons_append, List.nil_append]
      refine WC.open (Ls := rdskL q D) P1 (fun z => ?_)
      unfold rdskL
      dsimp only [List.cons_append, List.nil_append]
      refine RD 40 40 (_) ?_
      refine WP 0 ?_
      refine WP 2 ?_
      refine WP 3 ?_
      refine WP 4 ?_
      refine VV 5 ?_
      refine WH.only 1 rfl rfl (by kernel_rfl) rfl (OP.callRT rfl rfl (jrecords_rt j p J hrg) (Ent.at (up_jrn _ _ _) MM) rfl rfl (fun v E hE' => ?_))
      obtain ⟨a4, cap4, rfl, rfl⟩ := hE'
      refine ⟨fun _ => II, ?_⟩
      refine WH.only 6 rfl rfl (by kernel_rfl) rfl (OP.callRO rfl rfl (jsame_ro a4 y.1 J.held.length cap4 J.held.length y.2.1 (J.held.map Prod.snd) (J.held.map Prod.snd) (by simp) (by simp) (by omega)) (Ent.and (by rw [← recs_flat']; exact Ent.own (T := 42) MM) (by rw [← recs_flat']; exact Ent.own (T := 42) MM)) rfl rfl ⟨fun _ => II, ?_⟩)
      rw [decide_eq_true rfl]
      refine WP 7 ?_
      refine WP 8 ?_
      refine WP 9 ?_
      refine WP 11 ?_
      refine WH.onlyG (q := true) 10 rfl rfl rfl rfl rfl rfl rfl (by kernel_rfl) rfl (.inl rfl) (fun _ => OP.callRO rfl rfl (jnext_ro j p J hrg) (Ent.at (up_jrn _ _ _) MM) rfl rfl ⟨fun _ => II, ?_⟩) (fun h => nomatch h)
      refine WH.onlyG (q := true) 12 rfl rfl rfl rfl rfl rfl rfl (by kernel_rfl) rfl (.inl rfl) (fun _ => OP.callRO rfl rfl (rnext_ro jr q J hrg) (Ent.exI y (by unfold rjrnL; exact II)) rfl rfl ⟨fun _ => II, ?_⟩) (fun h => nomatch h)
      refine WP 13 ?_
      rw [decide_eq_true rfl]
      refine WP 14 ?_
      refine WP 15 ?_
      refine WP 16 ?_
      refine WP 18 ?_
      refine WP 19 ?_
      refine WP 20 ?_
      refine VV 21 ?_
      refine WP 22 ?_
      refine WP 23 ?_
      refine WP 24 ?_
      refine VV 25 ?_
      refine WP 26 ?_
      refine WP 27 ?_
      refine WH.onlyG (q := true) 17 rfl rfl rfl rfl rfl rfl rfl (by kernel_rfl) rfl (.inl rfl) (fun _ => OP.callRO rfl rfl (jroom_ro j p J hrg) (Ent.at (up_jrn _ _ _) MM) rfl rfl ⟨fun _ => II, ?_⟩) (fun h => nomatch h)
      refine WP 28 ?_
      rw [decide_eq_true rfl]
      refine WP 29 ?_
      refine WP 30 ?_
      refine WP 31 ?_
      refine WP 33 ?_
      refine WP 34 ?_
      refine WP 35 ?_
      refine VV 36 ?_
      refine WP 37 ?_
      refine WH.onlyG (q := true) 32 rfl rfl rfl rfl rfl rfl rfl (by kernel_rfl) rfl (.inl rfl) (fun _ => OP.callRO rfl rfl (dloose_ro p D) (Ent.at (up_dsk _ _) MM) rfl rfl ⟨fun _ => II, ?_⟩) (fun h => nomatch h)
      refine WP 38 ?_
      rw [decide_eq_true rfl]
      refine WP 39 ?_
      refine DN ?_
      repeat (first | refine GD ?_ | refine NW fun _ => ?_)
      exact ⟨(k + 1, (j, jr), J, D, f, B), ⟨by dsimp only; omega, I, by dsimp only; omega, hring⟩, by dsimp only; omega, ⟨rfl, rfl, rfl, rfl, rfl, rfl, rfl, rfl, trivial⟩, Imp.trans II ((rjrnFold jr q J y).trans ((Imp.cons (rdskFold q D z (N := [jrn j p J, dsk p D, A]))).trans II))⟩
    | ok y =>
      obtain ⟨J2, D2⟩ := y
      rw [hq] at htr hrt
      obtain ⟨f2, I2, hr2⟩ : ∃ f2, JInv J2 D2 f2 (B + 2) ∧ J2.ring = N := by
        rcases I.trim hBw hq with ⟨_, rfl, rfl⟩ | ⟨_, _, _, _, g5, I2, _⟩
        · exact ⟨f, I.mono (by omega), hring⟩
        · exact ⟨_, I2, g5.trans hring⟩
      refine WL.step rfl (OP.call (pre := [jrn j p J, dsk p D]) rfl rfl htr PS rfl rfl ?_)
      rintro v M ⟨rfl, rfl⟩
      repeat (first | refine GD ?_ | refine NW fun _ => ?_)
      refine WL.step rfl (OP.callRO rfl rfl (first_nil _) (fun _ _ => trivial) rfl rfl ?_)
      repeat (first | refine GD ?_ | refine NW fun _ => ?_)
      refine RD 16 16 ([blk x8 [.int .i64 3, .int .i64 num, .int .i64 seq, .int .i64 kd, .int .i64 blk', .string data, .int .i64 nb, .int .u64 keep] 45, A]) ?_
      refine WP 0 ?_
      refine WP 2 ?_
      refine WP 3 ?_
      refine VV 4 ?_
      refine WH.only 1 rfl rfl (by kernel_rfl) rfl (OP.callRO rfl rfl (code_nil) (fun _ _ => trivial) rfl rfl ⟨fun _ => II, ?_⟩)
      refine WH.only 5 rfl rfl (by kernel_rfl) rfl (OP.call (pre := [rjrn jr q J, rdsk q D]) rfl rfl hrt PS rfl rfl (fun v M hM => ?_))
      obtain ⟨rfl, rfl⟩ := hM
      refine ⟨fun _ => II, ?_⟩
      refine WP 6 ?_
      refine WP 7 ?_
      refine WP 8 ?_
      refine WP 9 ?_
      refine WP 10 ?_
      refine WP 11 ?_
      refine VF 12 ?_
      refine WP 13 ?_
      refine WP 14 ?_
      refine WP 15 ?_
      refine DN ?_
      repeat (first | refine GD ?_ | refine NW fun _ => ?_)
      have hrg := (I2).rng (by omega)
      have hfw := (I2).few
      have hln : J2.held.length ≤ 512 := by have := (I2).len; have := (I2).ring; omega
      have hpos : 0 ≤ J2.next ∧ J2.next ≤ 4000000000000000000 := by have := (I2).hdr; have := (I2).bound; unfold Jrn.next; omega
      have hrl : J2.held.length ≤ J2.ring ∧ J2.ring ≤ 512 := by have := (I2).len; have := (I2).ring; omega
      refine WC.open (Ls := rjrnL jr q J2) P1 (fun y => ?_)
      unfold rjrnL
      dsimp only [List.cons_append, List.nil_append]
      refine WC.open (Ls := rdskL q D2) P1 (fun z => ?_)
      unfold rdskL
      dsimp only [List.cons_append, List.nil_append]
      refine RD 40 40 (_) ?_
      refine WP 0 ?_
      refine WP 2 ?_
      refine WP 3 ?_
      refine WP 4 ?_
      refine VV 5 ?_
      refine WH.only 1 rfl rfl (by kernel_rfl) rfl (OP.callRT rfl rfl (jrecords_rt j p J2 hrg) (Ent.at (up_jrn _ _ _) MM) rfl rfl (fun v E hE' => ?_))
      obtain ⟨a4, cap4, rfl, rfl⟩ := hE'
      refine ⟨fun _ => II, ?_⟩
      refine WH.only 6 rfl rfl (by kernel_rfl) rfl (OP.callRO rfl rfl (jsame_ro a4 y.1 J2.held.length cap4 J2.held.length y.2.1 (J2.held.map Prod.snd) (J2.held.map Prod.snd) (by simp) (by simp) (by omega)) (Ent.and (by rw [← recs_flat']; exact Ent.own (T := 42) MM) (by rw [← recs_flat']; exact Ent.own (T := 42) MM)) rfl rfl ⟨fun _ => II, ?_⟩)
      rw [decide_eq_true rfl]
      refine WP 7 ?_
      refine WP 8 ?_
      refine WP 9 ?_
      refine WP 11 ?_
      refine WH.onlyG (q := true) 10 rfl rfl rfl rfl rfl rfl rfl (by kernel_rfl) rfl (.inl rfl) (fun _ => OP.callRO rfl rfl (jnext_ro j p J2 hrg) (Ent.at (up_jrn _ _ _) MM) rfl rfl ⟨fun _ => II, ?_⟩) (fun h => nomatch h)
      refine WH.onlyG (q := true) 12 rfl rfl rfl rfl rfl rfl rfl (by kernel_rfl) rfl (.inl rfl) (fun _ => OP.callRO rfl rfl (rnext_ro jr q J2 hrg) (Ent.exI y (by unfold rjrnL; exact II)) rfl rfl ⟨fun _ => II, ?_⟩) (fun h => nomatch h)
      refine WP 13 ?_
      rw [decide_eq_true rfl]
      refine WP 14 ?_
      refine WP 15 ?_
      refine WP 16 ?_
      refine WP 18 ?_
      refine WP 19 ?_
      refine WP 20 ?_
      refine VV 21 ?_
      refine WP 22 ?_
      refine WP 23 ?_
      refine WP 24 ?_
      refine VV 25 ?_
      refine WP 26 ?_
      refine WP 27 ?_
      refine WH.onlyG (q := true) 17 rfl rfl rfl rfl rfl rfl rfl (by kernel_rfl) rfl (.inl rfl) (fun _ => OP.callRO rfl rfl (jroom_ro j p J2 hrg) (Ent.at (up_jrn _ _ _) MM) rfl rfl ⟨fun _ => II, ?_⟩) (fun h => nomatch h)
      refine WP 28 ?_
      rw [decide_eq_true rfl]
      refine WP 29 ?_
      refine WP 30 ?_
      refine WP 31 ?_
      refine WP 33 ?_
      refine WP 34 ?_
      refine WP 35 ?_
      refine VV 36 ?_
      refine WP 37 ?_
      refine WH.onlyG (q := true) 32 rfl rfl rfl rfl rfl rfl rfl (by kernel_rfl) rfl (.inl rfl) (fun _ => OP.callRO rfl rfl (dloose_ro p D2) (Ent.at (up_dsk _ _) MM) rfl rfl ⟨fun _ => II, ?_⟩) (fun h => nomatch h)
      refine WP 38 ?_
      rw [decide_eq_true rfl]
      refine WP 39 ?_
      refine DN ?_
      repeat (first | refine GD ?_ | refine NW fun _ => ?_)
      exact ⟨(k + 1, (j, jr), J2, D2, f2, B + 2), ⟨by dsimp only; omega, I2, by dsimp only; omega, hr2⟩, by dsimp only; omega, ⟨rfl, rfl, rfl, rfl, rfl, rfl, rfl, rfl, trivial⟩, Imp.trans II ((rjrnFold jr q J2 y).trans ((Imp.cons (rdskFold q D2 z (N := [jrn j p J2, dsk p D2, A]))).trans II))⟩
  by_cases k4 : kind = 4
  rotate_left
  · repeat (first | refine GD ?_ | refine NW fun _ => ?_)
    have hrg := (I).rng (by omega)
    have hfw := (I).few
    have hln : J.held.length ≤ 512 := by have := (I).len; have := (I).ring; omega
    have hpos : 0 ≤ J.next ∧ J.next ≤ 4000000000000000000 := by have := (I).hdr; have := (I).bound; unfold Jrn.next; omega
    have hrl : J.held.length ≤ J.ring ∧ J.ring ≤ 512 := by have := (I).len; have := (I).ring; omega
    refine WC.open (Ls := rjrnL jr q J) P1 (fun y => ?_)
    unfold rjrnL
    dsimp only [List.cons_append, List.nil_append]
    refine WC.open (Ls := rdskL q D) P1 (fun z => ?_)
    unfold rdskL
    dsimp only [List.cons_append, List.nil_append]
    refine RD 40 40 (_) ?_
    refine WP 0 ?_
    refine WP 2 ?_
    refine WP 3 ?_
    refine WP 4 ?_
    refine VV 5 ?_
    refine WH.only 1 rfl rfl (by kernel_rfl) rfl (OP.callRT rfl rfl (jrecords_rt j p J hrg) (Ent.at (up_jrn _ _ _) MM) rfl rfl (fun v E hE' => ?_))
    obtain ⟨a4, cap4, rfl, rfl⟩ := hE'
    refine ⟨fun _ => II, ?_⟩
    refine WH.only 6 rfl rfl (by kernel_rfl) rfl (OP.callRO rfl rfl (jsame_ro a4 y.1 J.held.length cap4 J.held.length y.2.1 (J.held.map Prod.snd) (J.held.map Prod.snd) (by simp) (by simp) (by omega)) (Ent.and (by rw [← recs_flat']; exact Ent.own (T := 42) MM) (by rw [← recs_flat']; exact Ent.own (T := 42) MM)) rfl rfl ⟨fun _ => II, ?_⟩)
    rw [decide_eq_true rfl]
    refine WP 7 ?_
    refine WP 8 ?_
    refine WP 9 ?_
    refine WP 11 ?_
    refine WH.onlyG (q := true) 10 rfl rfl rfl rfl rfl rfl rfl (by kernel_rfl) rfl (.inl rfl) (fun _ => OP.callRO rfl rfl (jnext_ro j p J hrg) (Ent.at (up_jrn _ _ _) MM) rfl rfl ⟨fun _ => II, ?_⟩) (fun h => nomatch h)
    refine WH.onlyG (q := true) 12 rfl rfl rfl rfl rfl rfl rfl (by kernel_rfl) rfl (.inl rfl) (fun _ => OP.callRO rfl rfl (rnext_ro jr q J hrg) (Ent.exI y (by unfold rjrnL; exact II)) rfl rfl ⟨fun _ => II, ?_⟩) (fun h => nomatch h)
    refine WP 13 ?_
    rw [decide_eq_true rfl]
    refine WP 14 ?_
    refine WP 15 ?_
    refine WP 16 ?_
    refine WP 18 ?_
    refine WP 19 ?_
    refine WP 20 ?_
    refine VV 21 ?_
    refine WP 22 ?_
    refine WP 23 ?_
    refine WP 24 ?_
    refine VV 25 ?_
    refine WP 26 ?_
    refine WP 27 ?_
    refine WH.onlyG (q := true) 17 rfl rfl rfl rfl rfl rfl rfl (by kernel_rfl) rfl (.inl rfl) (fun _ => OP.callRO rfl rfl (jroom_ro j p J hrg) (Ent.at (up_jrn _ _ _) MM) rfl rfl ⟨fun _ => II, ?_⟩) (fun h => nomatch h)
    refine WP 28 ?_
    rw [decide_eq_true rfl]
    refine WP 29 ?_
    refine WP 30 ?_
    refine WP 31 ?_
    refine WP 33 ?_
    refine WP 34 ?_
    refine WP 35 ?_
    refine VV 36 ?_
    refine WP 37 ?_
    refine WH.onlyG (q := true) 32 rfl rfl rfl rfl rfl rfl rfl (by kernel_rfl) rfl (.inl rfl) (fun _ => OP.callRO rfl rfl (dloose_ro p D) (Ent.at (up_dsk _ _) MM) rfl rfl ⟨fun _ => II, ?_⟩) (fun h => nomatch h)
    refine WP 38 ?_
    rw [decide_eq_true rfl]
    refine WP 39 ?_
    refine DN ?_
    repeat (first | refine GD ?_ | refine NW fun _ => ?_)
    exact ⟨(k + 1, (j, jr), J, D, f, B), ⟨by dsimp only; omega, I, by dsimp only; omega, hring⟩, by dsimp only; omega, ⟨rfl, rfl, rfl, rfl, rfl, rfl, rfl, rfl, trivial⟩, Imp.trans II ((rjrnFold jr q J y).trans ((Imp.cons (rdskFold q D z (N := [jrn j p J, dsk p D, A]))).trans II))⟩
  subst k4
  obtain ⟨pq, _, _, _, ho2, I2⟩ := I.crash hBw (keeps keep)
  rw [hring] at ho2 I2
  have hD2 : (D.crash keep).ok := Dsk.settle_ok I.dok _
  have hop := jopen_ok p (D.crash keep) N hD2 (by show (0 : Nat) < 10000; decide) (by omega)
  have hrop := ropen_ok q (D.crash keep) N hD2 (by show (0 : Nat) < 10000; decide) (by omega)
  unfold OpenJ at hop
  unfold ROpenJ at hrop
  rw [show openM (D.crash keep) N = _ from ho2] at hop hrop
  generalize hJ3 : (⟨N, { J.hd with gen := J.hd.gen + 1, turn := J.hd.turn + 1 }, J.held.take pq⟩ : Jrn) = J3 at *
  have e3 : J3.ring = N := by rw [← hJ3]
  generalize saveM (D.settle (keeps keep)) { J.hd with gen := J.hd.gen + 1, turn := J.hd.turn + 1 } = D3 at *
  have hcr := dcrash_ok p D keep hok I.dok (by have := I.few; omega)
  have hrcr := rdcrash_ok q D keep hok I.dok (by have := I.few; omega)
  generalize D.crash keep = DC at *
  repeat (first | refine GD ?_ | refine NW fun _ => ?_)
  refine WL.step rfl (OP.call (pre := [dsk p D]) rfl rfl hcr PS rfl rfl ?_)
  rintro _ _ ⟨rfl, rfl⟩
  repeat (first | refine GD ?_ | refine NW fun _ => ?_)
  refine WL.step rfl (OP.call (pre := [rdsk q D]) rfl rfl hrcr PS rfl rfl ?_)
  rintro _ _ ⟨rfl, rfl⟩
  repeat (first | refine GD ?_ | refine NW fun _ => ?_)
  rw [hN]
  refine WL.step rfl (OP.call (pre := [dsk p DC]) rfl rfl hop PS rfl rfl ?_)
  rintro v M ⟨j3, rfl, rfl⟩
  repeat (first | refine GD ?_ | refine NW fun _ => ?_)
  rw [hN]
  refine WL.step rfl (OP.call (pre := [rdsk q DC]) rfl rfl hrop PS rfl rfl ?_)
  rintro v M ⟨jr3, rfl, rfl⟩
  repeat (first | refine GD ?_ | refine NW fun _ => ?_)
  have hrg := (I2).rng (by omega)
  have hfw := (I2).few
  have hln : J3.held.length ≤ 512 := by have := (I2).len; have := (I2).ring; omega
  have hpos : 0 ≤ J3.next ∧ J3.next ≤ 4000000000000000000 := by have := (I2).hdr; have := (I2).bound; unfold Jrn.next; omega
  have hrl : J3.held.length ≤ J3.ring ∧ J3.ring ≤ 512 := by have := (I2).len; have := (I2).ring; omega
  refine WC.open (Ls := rjrnL jr3 q J3) P1 (fun y => ?_)
  unfold rjrnL
  dsimp only [List.cons_append, List.nil_append]
  refine WC.open (Ls := rdskL q D3) P1 (fun z => ?_)
  unfold rdskL
  dsimp only [List.cons_append, List.nil_append]
  refine RD 40 40 (_) ?_
  refine WP 0 ?_
  refine WP 2 ?_
  refine WP 3 ?_
  refine WP 4 ?_
  refine VV 5 ?_
  refine WH.only 1 rfl rfl (by kernel_rfl) rfl (OP.callRT rfl rfl (jrecords_rt j3 p J3 hrg) (Ent.at (up_jrn _ _ _) MM) rfl rfl (fun v E hE' => ?_))
  obtain ⟨a4, cap4, rfl, rfl⟩ := hE'
  refine ⟨fun _ => II, ?_⟩
  refine WH.only 6 rfl rfl (by kernel_rfl) rfl (OP.callRO rfl rfl (jsame_ro a4 y.1 J3.held.length cap4 J3.held.length y.2.1 (J3.held.map Prod.snd) (J3.held.map Prod.snd) (by simp) (by simp) (by omega)) (Ent.and (by rw [← recs_flat']; exact Ent.own (T := 42) MM) (by rw [← recs_flat']; exact Ent.own (T := 42) MM)) rfl rfl ⟨fun _ => II, ?_⟩)
  rw [decide_eq_true rfl]
  refine WP 7 ?_
  refine WP 8 ?_
  refine WP 9 ?_
  refine WP 11 ?_
  refine WH.onlyG (q := true) 10 rfl rfl rfl rfl rfl rfl rfl (by kernel_rfl) rfl (.inl rfl) (fun _ => OP.callRO rfl rfl (jnext_ro j3 p J3 hrg) (Ent.at (up_jrn _ _ _) MM) rfl rfl ⟨fun _ => II, ?_⟩) (fun h => nomatch h)
  refine WH.onlyG (q := true) 12 rfl rfl rfl rfl rfl rfl rfl (by kernel_rfl) rfl (.inl rfl) (fun _ => OP.callRO rfl rfl (rnext_ro jr3 q J3 hrg) (Ent.exI y (by unfold rjrnL; exact II)) rfl rfl ⟨fun _ => II, ?_⟩) (fun h => nomatch h)
  refine WP 13 ?_
  rw [decide_eq_true rfl]
  refine WP 14 ?_
  refine WP 15 ?_
  refine WP 16 ?_
  refine WP 18 ?_
  refine WP 19 ?_
  refine WP 20 ?_
  refine VV 21 ?_
  refine WP 22 ?_
  refine WP 23 ?_
  refine WP 24 ?_
  refine VV 25 ?_
  refine WP 26 ?_
  refine WP 27 ?_
  refine WH.onlyG (q := true) 17 rfl rfl rfl rfl rfl rfl rfl (by kernel_rfl) rfl (.inl rfl) (fun _ => OP.callRO rfl rfl (jroom_ro j3 p J3 hrg) (Ent.at (up_jrn _ _ _) MM) rfl rfl ⟨fun _ => II, ?_⟩) (fun h => nomatch h)
  refine WP 28 ?_
  rw [decide_eq_true rfl]
  refine WP 29 ?_
  refine WP 30 ?_
  refine WP 31 ?_
  refine WP 33 ?_
  refine WP 34 ?_
  refine WP 35 ?_
  refine VV 36 ?_
  refine WP 37 ?_
  refine WH.onlyG (q := true) 32 rfl rfl rfl rfl rfl rfl rfl (by kernel_rfl) rfl (.inl rfl) (fun _ => OP.callRO rfl rfl (dloose_ro p D3) (Ent.at (up_dsk _ _) MM) rfl rfl ⟨fun _ => II, ?_⟩) (fun h => nomatch h)
  refine WP 38 ?_
  rw [decide_eq_true rfl]
  refine WP 39 ?_
  refine DN ?_
  repeat (first | refine GD ?_ | refine NW fun _ => ?_)
  exact ⟨(k + 1, (j3, jr3), J3, D3, pq, B + 2), ⟨by dsimp only; omega, I2, by dsimp only; omega, e3⟩, by dsimp only; omega, ⟨rfl, rfl, rfl, rfl, rfl, rfl, rfl, rfl, trivial⟩, Imp.trans II ((rjrnFold jr3 q J3 y).trans ((Imp.cons (rdskFold q D3 z (N := [jrn j3 p J3, dsk p D3, A]))).trans II))⟩
end Go.Proofs.YteednjcoapmkaaaGreatDoor
