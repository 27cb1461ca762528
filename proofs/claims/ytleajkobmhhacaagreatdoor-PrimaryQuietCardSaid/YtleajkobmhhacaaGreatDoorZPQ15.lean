/- Contracts of functions of the given program, and plain laws: parts of the proofs of laws. -/
import Derived.Test.YtleajkobmhhacaaGreatDoorZPQ4
import Derived.Test.YtleajkobmhhacaaGreatDoorZPQ14
import Derived.Test.YtleajkobmhhacaaGreatDoorZPQ13
/- Contracts of functions of the given program, and plain laws on what they compute: parts of the proofs of laws. -/

namespace Go.Proofs.YtleajkobmhhacaaGreatDoor
open Go Go.GL

/-! PrimaryQuiet -/
set_option maxHeartbeats 32000000 in
set_option maxRecDepth 10000 in
theorem pquiet_ro (ring : Int) (a : Option Addr) (n c : Nat) (ops : List QOp) (hops : ∀ o ∈ ops, QWf o) (hr0 : 0 ≤ ring ∧ ring ≤ 255) (hn : n = ops.length) :
    RO G 8 [.int .u8 ring, .slice a n c] (fun h => ErrT h ∧ readS a n 8 (ops.flatMap encQ) h) (.bool true) := by
  refine RO.enter Tryz.func8 rfl (by decide) rfl Tryz.ntmps8 rfl (fun A hu hA => ?_) (up_and up_ErrT (up_readS _ _ _ _))
  have hAE : ∀ k, A k → ErrT k := fun k h => (hA k h).1
  have hR : ∀ {L}, A ∈ L → Ent L (readS a n 8 (ops.flatMap encQ)) := fun m => Ent.mem m hu fun k h => (hA k h).2
  have hw := widest_eq
  obtain ⟨r, hr, hr1, hr12⟩ : ∃ r : Nat, 1 + ring % 12 = r ∧ 1 ≤ r ∧ r ≤ 12 := ⟨(1 + ring % 12).toNat, by omega, by omega, by omega⟩
  repeat (first | refine GD ?_ | refine NW fun _ => ?_)
  refine WL.step rfl (OP.callRO rfl rfl pawake_ro (fun _ _ => trivial) rfl rfl ?_)
  repeat (first | refine GD ?_ | refine NW fun _ => ?_)
  refine WL.guardT rfl rfl rfl rfl (OP.callRO rfl rfl (pfew_ro a n c ops hn) (hR MM) rfl rfl ?_)
  cases hf : fewQ ops with
  | false =>
    repeat (first | refine GD ?_ | refine NW fun _ => ?_)
    refine WL.step rfl (OP.callRO rfl rfl pawake_ro (fun _ _ => trivial) rfl rfl ?_)
    repeat (first | refine GD ?_ | refine NW fun _ => ?_)
    exact ret1 rfl ⟨rfl, MM⟩
  | true =>
  obtain ⟨hl100, hsz⟩ := fewQ_ok hf
  obtain ⟨V, D, hopn, I0, hring, hheld, hnext, hblks, hlen, hW, _⟩ := PInv.fresh (ring := r) hr1 (by omega)
  have hcast : ((r + 11 : Nat) : Int) = (r : Int) + 11 := by omega
  rw [hcast] at hopn
  have hpo := fun q => popen_ok q r (Dsk.new ((r : Int) + 11)) (Dsk.new_ok _) (by show (0 : Nat) < 10000; decide) ⟨hr1, by omega⟩ (by unfold Dsk.new; rw [List.length_replicate]; omega) hopn I0 (by omega) hring
  have hD0 : (beginP V D 0).D = D := rfl
  have Q0 : QuietI (beginP V D 0) (fun _ => none) 0 0 := ⟨rfl, .inl rfl, fun h => absurd rfl h⟩
  generalize beginP V D 0 = P0 at *
  repeat (first | refine GD ?_ | refine NW fun _ => ?_)
  rw [hr]
  refine WL.step rfl (OP.callRO rfl rfl (psectors_ro r (by omega)) (fun _ _ => trivial) rfl rfl ?_)
  refine WL.step rfl (OP.callRT rfl rfl (dnew_rt ((r : Int) + 11)) (fun _ _ => trivial) rfl rfl ?_)
  rintro _ _ ⟨q, rfl, rfl⟩
  repeat (first | refine GD ?_ | refine NW fun _ => ?_)
  refine WL.step rfl (OP.call (pre := [dsk q (Dsk.new ((r : Int) + 11))]) rfl rfl (hpo q) PS rfl rfl ?_)
  rintro _ _ ⟨p, rfl, rfl⟩
  rw [← hD0]
  repeat (first | refine GD ?_ | refine NW fun _ => ?_)
  refine WL.step rfl (OP.makeMap rfl rfl rfl rfl (fun mr => ?_))
  repeat (first | refine GD ?_ | refine NW fun _ => ?_)
  refine WC.loop (σ := Nat × Pri × (Int → Option Value) × Int × Int) (fun s => s.1 ≤ n ∧ PInv s.2.1 (3 + 10 * s.1) ∧ QuietI s.2.1 s.2.2.1 s.2.2.2.1 s.2.2.2.2)
    (fun s => [(1, .val (.slice a n c)), (6, .val (.pointer (some ⟨p, 0, none⟩))), (8, .val (.map (some mr))), (9, .val (.int .i64 s.2.2.2.1)), (10, .val (.int .i64 s.2.2.2.2)), (43, .val (.int .i64 n)), (44, .val (.int .i64 s.1))])
    (fun s => [mapA mr s.2.2.1, priA p q s.2.1, dsk q s.2.1.D, A]) (fun s => n - s.1) (0, P0, (fun _ => none), 0, 0) ⟨Nat.zero_le _, I0, Q0⟩ ⟨rfl, rfl, rfl, rfl, rfl, rfl, rfl, trivial⟩ II ?_
  clear I0 Q0 hpo hD0 hopn hheld hring hnext hblks hlen hW
  clear P0
  rintro ⟨k, P, mp, lt, mk⟩ ⟨hkn, I, Q⟩
  dsimp only at hkn I Q ⊢
  have hV := I.rng (by omega)
  by_cases hlt : k < n
  · have hlk : k < ops.length := by omega
    have hszk := hsz _ (List.getElem_mem hlk)
    have hkw := hops _ (List.getElem_mem hlk)
    have fz := pfrozen_ro p q P
    have nx := pnext_ro p q P hV
    refine WC.fact (Ent.some (hR MM) (by omega)) ?_
    rintro ⟨b, off, rfl⟩
    repeat (first | refine GD ?_ | refine NW fun _ => ?_)
    refine WL.step rfl (OP.loadA (l := encQ ops[k]) rfl rfl rfl rfl (Ent.elA encQ_len (hR MM) hlk) rfl rfl rfl ?_)
    generalize ops[k] = o at *
    obtain ⟨kd, e, t, m, ⟨ci, cb, cd⟩, kp⟩ := o
    dsimp only at hszk
    unfold QWf at hkw
    dsimp only at hkw
    rw [show encQ (kd, e, t, m, (ci, cb, cd), kp) = [.int .i64 kd, .int .i64 e, .int .i64 t, .int .i64 m, .int .i64 ci, .int .i64 cb, .string cd, .int .u64 kp] from rfl]
    repeat (first | refine GD ?_ | refine NW fun _ => ?_)
    refine WL.step rfl (OP.callRO rfl rfl fz (Ent.at (up_priA _ _ _) MM) rfl rfl ?_)
    repeat (first | refine GD ?_ | refine NW fun _ => ?_)
    refine WL.step rfl (OP.callRO rfl rfl nx (Ent.at (up_priA _ _ _) MM) rfl rfl ?_)
    by_cases h1 : kd = 1
    · have hg := pgrant_ok p q P e t I.st
      have hI := (I.grant e t).1
      have hD : (grantP P e t).2.D = P.D := by rw [(I.grant e t).2.1]
      have hQ : QuietI (grantP P e t).2 mp lt mk := by rw [(I.grant e t).2.1]; exact Q.same rfl rfl rfl rfl
      generalize grantP P e t = R at *
      repeat (first | refine GD ?_ | refine NW fun _ => ?_)
      refine WL.step rfl (OP.call (pre := [priA p q P]) rfl rfl hg PS rfl rfl ?_)
      rintro _ _ ⟨E, hE, rfl⟩
      rw [List.append_assoc, ← hD]
      repeat (first | refine GD ?_ | refine NW fun _ => ?_)
      exact ⟨(k + 1, R.2, mp, lt, mk), ⟨hlt, hI.mono (by dsimp only; omega), hQ⟩, by dsimp only; omega, ⟨rfl, rfl, rfl, rfl, rfl, rfl, rfl, trivial⟩, Imp.trans (Imp.dropA E _) II⟩
    by_cases h2 : kd = 2
    · have hg := pwrite_ok p q P _ I (by omega) (ci, cb, cd) (by show cd.size < 1000000; omega) e t
      have hI := (I.write (by omega) (ci, cb, cd) e t).1
      have hQ := Q.write I (by omega) (ci, cb, cd) e t
      rw [show encCa (ci, cb, cd) = [.int .i64 ci, .int .i64 cb, .string cd] from rfl] at hg
      generalize writeP P (ci, cb, cd) e t = R at *
      obtain ⟨R1, R2⟩ := R
      dsimp only at hI hQ
      repeat (first | refine GD ?_ | refine NW fun _ => ?_)
      refine WL.step rfl (OP.call (pre := [priA p q P, dsk q P.D]) rfl rfl hg PS rfl rfl ?_)
      cases R1 with
      | ok kk =>
        rintro _ _ ⟨rfl, rfl⟩
        dsimp only [List.cons_append, List.nil_append]
        repeat (first | refine GD ?_ | refine NW fun _ => ?_)
        exact ⟨(k + 1, R2, mp, lt, mk), ⟨hlt, hI.mono (by dsimp only; omega), hQ⟩, by dsimp only; omega, ⟨rfl, rfl, rfl, rfl, rfl, rfl, rfl, trivial⟩, II⟩
      | error er =>
        rintro _ _ ⟨_, E, hE, rfl, rfl⟩
        dsimp only
        rw [List.append_assoc]
        repeat (first | refine GD ?_ | refine NW fun _ => ?_)
        exact ⟨(k + 1, R2, mp, lt, mk), ⟨hlt, hI.mono (by dsimp only; omega), hQ⟩, by dsimp only; omega, ⟨rfl, rfl, rfl, rfl, rfl, rfl, rfl, trivial⟩, Imp.trans (Imp.dropA E _) II⟩
    by_cases h4 : kd = 4
    · have hg := pfreeze_ok p q P _ I m
      have hI := (I.freeze m).1
      have hS := (I.freeze m).2.2.2.2.2
      repeat (first | refine GD ?_ | refine NW fun _ => ?_)
      refine WL.step rfl (OP.call (pre := [priA p q P, dsk q P.D]) rfl rfl hg PS rfl rfl ?_)
      cases hq : freezeP P m with
      | mk o1 R2 =>
      rw [hq] at hI hS
      dsimp only at hI hS
      cases o1 with
      | some er =>
        obtain ⟨le, ce⟩ := er
        have hRP : R2 = P := by
          rcases hS with h | ⟨_, h⟩
          · cases h.1
          · exact h
        subst hRP
        rintro _ _ ⟨E, hE, rfl⟩
        obtain ⟨ch, _, rfl, rfl⟩ := hE
        cases ch with
        | nil =>
          dsimp only [valOf, List.cons_append, List.nil_append]
          repeat (first | refine GD ?_ | refine NW fun _ => ?_)
          exact ⟨(k + 1, R2, mp, lt, mk), ⟨hlt, hI.mono (by dsimp only; omega), Q⟩, by dsimp only; omega, ⟨rfl, rfl, rfl, rfl, rfl, rfl, rfl, trivial⟩, II⟩
        | cons y ch =>
          dsimp only [valOf, List.cons_append, List.nil_append]
          repeat (first | refine GD ?_ | refine NW fun _ => ?_)
          exact ⟨(k + 1, R2, mp, lt, mk), ⟨hlt, hI.mono (by dsimp only; omega), Q⟩, by dsimp only; omega, ⟨rfl, rfl, rfl, rfl, rfl, rfl, rfl, trivial⟩, II⟩
      | none =>
        obtain ⟨q1, q2, q3⟩ := Q.freeze I hq
        rintro _ _ ⟨_, ⟨rfl, rfl⟩, rfl⟩
        dsimp only [List.cons_append, List.nil_append]
        by_cases hlm : lt < m
        · rw [if_pos hlm] at q3
          have hml : ¬ m = lt := by omega
          repeat (first | refine GD ?_ | refine NW fun _ => ?_)
          refine WL.step rfl (OP.mapUpdate rfl rfl rfl rfl rfl rfl rfl rfl (show Imp _ (mapA mr mp :: _) from P1) rfl ?_)
          repeat (first | refine GD ?_ | refine NW fun _ => ?_)
          exact ⟨(k + 1, R2, updM mp m (.int .i64 P.V.J.next), m, mk), ⟨hlt, hI.mono (by dsimp only; omega), q3⟩, by dsimp only; omega, ⟨rfl, rfl, rfl, rfl, rfl, rfl, rfl, trivial⟩, II⟩
        · rw [if_neg hlm] at q3
          have hml : m = lt := by omega
          have hgr : P.G.round = m := Decidable.byContradiction fun h => q2 ⟨hml, h⟩
          repeat (first | refine GD ?_ | refine NW fun _ => ?_)
          exact ⟨(k + 1, R2, mp, m, mk), ⟨hlt, hI.mono (by dsimp only; omega), q3⟩, by dsimp only; omega, ⟨rfl, rfl, rfl, rfl, rfl, rfl, rfl, trivial⟩, II⟩
    by_cases h5 : kd = 5
    · have hg := pmark_ok p q P _ I (by omega) m
      have hI := (I.markd (by omega) m).1
      have hS := (I.markd (by omega) m).2
      repeat (first | refine GD ?_ | refine NW fun _ => ?_)
      refine WL.step rfl (OP.call (pre := [priA p q P, dsk q P.D]) rfl rfl hg PS rfl rfl ?_)
      cases hq : markP P m with
      | mk o1 R2 =>
      rw [hq] at hI hS
      dsimp only at hI hS
      cases o1 with
      | some er =>
        obtain ⟨le, ce⟩ := er
        have hRP : R2 = P := by
          rcases hS with ⟨_, h⟩ | h
          · exact h
          · cases h.2.2.1
        subst hRP
        rintro _ _ ⟨E, hE, rfl⟩
        obtain ⟨ch, _, rfl, rfl⟩ := hE
        cases ch with
        | nil =>
          dsimp only [valOf, List.cons_append, List.nil_append]
          repeat (first | refine GD ?_ | refine NW fun _ => ?_)
          exact ⟨(k + 1, R2, mp, lt, mk), ⟨hlt, hI.mono (by dsimp only; omega), Q⟩, by dsimp only; omega, ⟨rfl, rfl, rfl, rfl, rfl, rfl, rfl, trivial⟩, II⟩
        | cons y ch =>
          dsimp only [valOf, List.cons_append, List.nil_append]
          repeat (first | refine GD ?_ | refine NW fun _ => ?_)
          exact ⟨(k + 1, R2, mp, lt, mk), ⟨hlt, hI.mono (by dsimp only; omega), Q⟩, by dsimp only; omega, ⟨rfl, rfl, rfl, rfl, rfl, rfl, rfl, trivial⟩, II⟩
      | none =>
        obtain ⟨q1, ⟨x, q2, q2'⟩, q3⟩ := Q.mark I (by omega) hq
        rintro _ _ ⟨_, ⟨rfl, rfl⟩, rfl⟩
        dsimp only [List.cons_append, List.nil_append]
        repeat (first | refine GD ?_ | refine NW fun _ => ?_)
        refine WL.step rfl (OP.lookupOk (z := .int .i64 0) (m := mp) rfl rfl rfl rfl rfl rfl rfl rfl rfl (Ent.at (up_mapA _ _) MM) rfl rfl ?_)
        rw [q2]
        dsimp only [Option.getD, Option.isSome]
        by_cases hxn : P.V.J.next = x
        · repeat (first | refine GD ?_ | refine NW fun _ => ?_)
          exact ⟨(k + 1, R2, mp, lt, m), ⟨hlt, hI.mono (by dsimp only; omega), q3⟩, by dsimp only; omega, ⟨rfl, rfl, rfl, rfl, rfl, rfl, rfl, trivial⟩, II⟩
        · have hmm : mk = m := by rcases q2' with h | h; exact absurd h.symm hxn; exact h
          repeat (first | refine GD ?_ | refine NW fun _ => ?_)
          exact ⟨(k + 1, R2, mp, lt, m), ⟨hlt, hI.mono (by dsimp only; omega), q3⟩, by dsimp only; omega, ⟨rfl, rfl, rfl, rfl, rfl, rfl, rfl, trivial⟩, II⟩
    by_cases h6 : kd = 6
    · have hg := pthaw_ok p q P _ I (by omega) m t A hu hAE
      have hI := (I.thaw (by omega) m t).1
      have hQ := Q.thaw I (by omega) m t
      generalize thawP P m t = R at *
      repeat (first | refine GD ?_ | refine NW fun _ => ?_)
      refine WL.step rfl (OP.call (pre := [priA p q P, dsk q P.D, A]) rfl rfl hg PS rfl rfl ?_)
      rintro _ _ ⟨d, E, er, E', _, _, rfl, rfl⟩
      rw [List.append_assoc, List.append_assoc]
      repeat (first | refine GD ?_ | refine NW fun _ => ?_)
      exact ⟨(k + 1, R.2.2, mp, lt, mk), ⟨hlt, hI.mono (by dsimp only; omega), hQ⟩, by dsimp only; omega, ⟨rfl, rfl, rfl, rfl, rfl, rfl, rfl, trivial⟩, Imp.trans (Imp.dropA E' _) (Imp.trans (Imp.dropA E _) II)⟩
    by_cases h7 : kd = 7
    · have hg := ptick_ok p q P _ I (by omega) t A hu hAE
      have hI := (I.tick (by omega) t).1
      have hQ := Q.tick I (by omega) t
      generalize tickP P t = R at *
      repeat (first | refine GD ?_ | refine NW fun _ => ?_)
      refine WL.step rfl (OP.call (pre := [priA p q P, dsk q P.D, A]) rfl rfl hg PS rfl rfl ?_)
      rintro _ _ ⟨E, _, rfl⟩
      rw [List.append_assoc]
      repeat (first | refine GD ?_ | refine NW fun _ => ?_)
      exact ⟨(k + 1, R.2, mp, lt, mk), ⟨hlt, hI.mono (by dsimp only; omega), hQ⟩, by dsimp only; omega, ⟨rfl, rfl, rfl, rfl, rfl, rfl, rfl, trivial⟩, Imp.trans (Imp.dropA E _) II⟩
    by_cases h9 : kd = 9
    · have hg := pack_ok p q P _ I (by omega) m
      have hI := (I.acks (by omega) m).1
      have hQ := Q.ack I (by omega) m
      generalize ackP P m = R at *
      repeat (first | refine GD ?_ | refine NW fun _ => ?_)
      refine WL.step rfl (OP.call (pre := [priA p q P, dsk q P.D]) rfl rfl hg PS rfl rfl ?_)
      rintro _ _ ⟨E, hE, rfl⟩
      rw [List.append_assoc]
      repeat (first | refine GD ?_ | refine NW fun _ => ?_)
      exact ⟨(k + 1, R.2, mp, lt, mk), ⟨hlt, hI.mono (by dsimp only; omega), hQ⟩, by dsimp only; omega, ⟨rfl, rfl, rfl, rfl, rfl, rfl, rfl, trivial⟩, Imp.trans (Imp.dropA E _) II⟩
    by_cases h10 : kd = 10
    · have hg := pcrash_ok p q P _ I (by omega) kp hkw
      obtain ⟨V', D', _, hcr, hI, _⟩ := I.crash (by omega) kp
      have hQ := Q.crash I (by omega) kp
      rw [← hcr] at hI
      generalize crashP P kp = R at *
      repeat (first | refine GD ?_ | refine NW fun _ => ?_)
      refine WL.step rfl (OP.call (pre := [priA p q P, dsk q P.D]) rfl rfl hg PS rfl rfl ?_)
      rintro _ _ ⟨rfl, rfl⟩
      dsimp only [List.cons_append, List.nil_append]
      repeat (first | refine GD ?_ | refine NW fun _ => ?_)
      exact ⟨(k + 1, R, mp, lt, mk), ⟨hlt, hI.mono (by dsimp only; omega), hQ⟩, by dsimp only; omega, ⟨rfl, rfl, rfl, rfl, rfl, rfl, rfl, trivial⟩, II⟩
    repeat (first | refine GD ?_ | refine NW fun _ => ?_)
    exact ⟨(k + 1, P, mp, lt, mk), ⟨hlt, I.mono (by dsimp only; omega), Q⟩, by dsimp only; omega, ⟨rfl, rfl, rfl, rfl, rfl, rfl, rfl, trivial⟩, II⟩
  repeat (first | refine GD ?_ | refine NW fun _ => ?_)
  exact ret1 rfl ⟨rfl, MM⟩
end Go.Proofs.YtleajkobmhhacaaGreatDoor
