/- Contracts of functions of the given program, and plain laws: parts of the proofs of laws. -/
import Derived.Test.YtleajkobmhhacaaGreatDoorZPQ4
import Derived.Test.YtleajkobmhhacaaGreatDoorZPQ14
import Derived.Test.YtleajkobmhhacaaGreatDoorZPQ13
/- Contracts of functions of the given program, and plain laws on what they compute: parts of the proofs of laws. -/

namespace Go.Proofs.YtleajkobmhhacaaGreatDoor
open Go Go.GL

/-! PrimaryShips -/
abbrev recT : TypeId := 116
set_option maxHeartbeats 32000000 in
set_option maxRecDepth 10000 in
theorem pships_ro (ring : Int) (a : Option Addr) (n c : Nat) (ops : List QOp) (hops : ∀ o ∈ ops, QWf o) (hr0 : 0 ≤ ring ∧ ring ≤ 255) (hn : n = ops.length) :
    RO G 6 [.int .u8 ring, .slice a n c] (fun h => ErrT h ∧ readS a n 8 (ops.flatMap encQ) h) (.bool true) := by
  refine RO.enter Tryz.func6 rfl (by decide) rfl Tryz.ntmps6 rfl (fun A hu hA => ?_) (up_and up_ErrT (up_readS _ _ _ _))
  have hAE : ∀ k, A k → ErrT k := fun k h => (hA k h).1
  have hR : ∀ {L}, A ∈ L → Ent L (readS a n 8 (ops.flatMap encQ)) := fun m => Ent.mem m hu fun k h => (hA k h).2
  have hw := widest_eq
  obtain ⟨r, hr, hr1, hr12⟩ : ∃ r : Nat, 1 + ring % 12 = r ∧ 1 ≤ r ∧ r ≤ 12 := ⟨(1 + ring % 12).toNat, by omega, by omega, by omega⟩
  repeat (first | refine GD ?_ | refine NW fun _ => ?_)
  refine WL.step rfl (OP.callRO rfl rfl pawake_ro (fun _ _ => trivial) rfl rfl ?_)
  repeat (first | refine GD ?_ | refine NW fun _ => ?_)
  refine WL.guardT rfl rfl rfl rfl (OP.callRO rfl rfl (pfew_ro a n c ops hn) (hR MM) rfl rfl ?_)
  cases hf : fewQ ops with
  | false =>
    repeat (first | refine GD ?_ | refine NW fun _ => ?_)
    refine WL.step rfl (OP.callRO rfl rfl pawake_ro (fun _ _ => trivial) rfl rfl ?_)
    repeat (first | refine GD ?_ | refine NW fun _ => ?_)
    exact ret1 rfl ⟨rfl, MM⟩
  | true =>
  obtain ⟨hl100, hsz⟩ := fewQ_ok hf
  obtain ⟨V, D, hopn, I0, hring, hheld, hnext, hblks, hlen, hW, _⟩ := PInv.fresh (ring := r) hr1 (by omega)
  have hcast : ((r + 11 : Nat) : Int) = (r : Int) + 11 := by omega
  rw [hcast] at hopn
  have hpo := fun q => popen_ok q r (Dsk.new ((r : Int) + 11)) (Dsk.new_ok _) (by show (0 : Nat) < 10000; decide) ⟨hr1, by omega⟩ (by unfold Dsk.new; rw [List.length_replicate]; omega) hopn I0 (by omega) hring
  have hD0 : (beginP V D 0).D = D := rfl
  have Q0 : ShipI (beginP V D 0) [] := ⟨by show V.J.hd.first - 1 ≤ 0; have : V.J.next = V.J.hd.first + V.J.held.length := rfl; rw [hheld, hnext] at this; simp only [List.length_nil] at this; omega, by show (0 : Int) < V.J.next; rw [hnext]; decide, fun i x _ h => absurd h (Nat.not_lt_zero _)⟩
  generalize beginP V D 0 = P0 at *
  repeat (first | refine GD ?_ | refine NW fun _ => ?_)
  rw [hr]
  refine WL.step rfl (OP.callRO rfl rfl (psectors_ro r (by omega)) (fun _ _ => trivial) rfl rfl ?_)
  refine WL.step rfl (OP.callRT rfl rfl (dnew_rt ((r : Int) + 11)) (fun _ _ => trivial) rfl rfl ?_)
  rintro _ _ ⟨q, rfl, rfl⟩
  repeat (first | refine GD ?_ | refine NW fun _ => ?_)
  refine WL.step rfl (OP.call (pre := [dsk q (Dsk.new ((r : Int) + 11))]) rfl rfl (hpo q) PS rfl rfl ?_)
  rintro _ _ ⟨p, rfl, rfl⟩
  rw [← hD0]
  repeat (first | refine GD ?_ | refine NW fun _ => ?_)
  refine WC.imp (Imp.nilS recT 5) ?_
  refine WC.loop (σ := Nat × Pri × List Rec × Option Addr × Nat) (fun s => s.1 ≤ n ∧ PInv s.2.1 (3 + 10 * s.1) ∧ ShipI s.2.1 s.2.2.1 ∧ s.2.2.1.length ≤ 4 * s.1)
    (fun s => [(1, .val (.slice a n c)), (6, .val (.pointer (some ⟨p, 0, none⟩))), (8, .val (.slice s.2.2.2.1 s.2.2.1.length s.2.2.2.2)), (38, .val (.int .i64 n)), (39, .val (.int .i64 s.1))])
    (fun s => [ownS s.2.2.2.1 s.2.2.1.length s.2.2.2.2 recT 5 (s.2.2.1.flatMap encR), priA p q s.2.1, dsk q s.2.1.D, A]) (fun s => n - s.1) (0, P0, [], none, 0) ⟨Nat.zero_le _, I0, Q0, Nat.zero_le _⟩ ⟨rfl, rfl, rfl, rfl, rfl, trivial⟩ II ?_
  clear I0 Q0 hpo hD0 hopn hheld hring hnext hblks hlen hW
  clear P0
  rintro ⟨k, P, got, ga, gc⟩ ⟨hkn, I, Q, hgl⟩
  dsimp only at hkn I Q hgl ⊢
  have hV := I.rng (by omega)
  by_cases hlt : k < n
  · have hlk : k < ops.length := by omega
    have hszk := hsz _ (List.getElem_mem hlk)
    have hkw := hops _ (List.getElem_mem hlk)
    refine WC.fact (Ent.some (hR MM) (by omega)) ?_
    rintro ⟨b, off, rfl⟩
    repeat (first | refine GD ?_ | refine NW fun _ => ?_)
    refine WL.step rfl (OP.loadA (l := encQ ops[k]) rfl rfl rfl rfl (Ent.elA encQ_len (hR MM) hlk) rfl rfl rfl ?_)
    generalize ops[k] = o at *
    obtain ⟨kd, e, t, m, ⟨ci, cb, cd⟩, kp⟩ := o
    dsimp only at hszk
    unfold QWf at hkw
    dsimp only at hkw
    rw [show encQ (kd, e, t, m, (ci, cb, cd), kp) = [.int .i64 kd, .int .i64 e, .int .i64 t, .int .i64 m, .int .i64 ci, .int .i64 cb, .string cd, .int .u64 kp] from rfl]
    refine WL.meet (Meet (fun s : Pri => PInv s (3 + 10 * (k : Int) + 8) ∧ ShipI s got)
      (fun s => [(1, .val (.slice (some ⟨b, off, none⟩) n c)), (6, .val (.pointer (some ⟨p, 0, none⟩))), (8, .val (.slice ga got.length gc)), (38, .val (.int .i64 n)), (39, .val (.int .i64 k))])
      (fun s => [ownS ga got.length gc recT 5 (got.flatMap encR), priA p q s, dsk q s.D, A])) ?_ (Meet.go ?_)
    rotate_left
    · rintro Pm ⟨Im, Qm⟩
      clear I Q hV hszk hkw
      clear P
      have hVm := Im.rng (by omega)
      have nx := pnext_ro p q Pm hVm
      have sh := pship_rt p q Pm _ Im (by omega)
      have hsl : (shipP Pm).length ≤ 4 := by unfold shipP; rw [List.length_take]; omega
      have hack := Im.ack
      have hh0 := Im.V.j.hdr
      have hbd := Im.V.j.bound
      have hac0 : 0 ≤ Pm.acked := by omega
      obtain ⟨aN, haN⟩ : ∃ aN : Nat, Pm.acked = aN := ⟨Pm.acked.toNat, by omega⟩
      have haT : Pm.acked.toNat = aN := by omega
      have hle := Qm.le
      rw [haN] at nx hle
      have hget := fun k h => shipP_get (P := Pm) (k := k) h
      have hsq := Im.V.j.seq
      generalize shipP Pm = sp at *
      repeat (first | refine GD ?_ | refine NW fun _ => ?_)
      refine WL.step rfl (OP.callRO rfl rfl nx (Ent.at (up_priA _ _ _) MM) rfl rfl ?_)
      repeat (first | refine GD ?_ | refine NW fun _ => ?_)
      refine WL.step rfl (OP.callRT rfl rfl sh (Ent.at (up_priA _ _ _) MM) rfl rfl ?_)
      rintro _ _ ⟨sa, sc, rfl, rfl⟩
      repeat (first | refine GD ?_ | refine NW fun _ => ?_)
      refine WC.loop (σ := Nat × List Rec × Option Addr × Nat) (fun s => s.1 ≤ sp.length ∧ ShipI Pm s.2.1 ∧ aN + s.1 ≤ s.2.1.length ∧ s.2.1.length ≤ got.length + s.1)
        (fun s => [(1, .val (.slice (some ⟨b, off, none⟩) n c)), (6, .val (.pointer (some ⟨p, 0, none⟩))), (8, .val (.slice s.2.2.1 s.2.1.length s.2.2.2)), (12, .val (.int .i64 aN)), (13, .val (.slice sa sp.length sc)), (38, .val (.int .i64 n)), (39, .val (.int .i64 k)), (115, .val (.int .i64 sp.length)), (116, .val (.int .i64 s.1))])
        (fun s => [ownS s.2.2.1 s.2.1.length s.2.2.2 recT 5 (s.2.1.flatMap encR), ownS sa sp.length sc recT 5 (sp.flatMap encR), priA p q Pm, dsk q Pm.D, A]) (fun s => sp.length - s.1) (0, got, ga, gc) ⟨Nat.zero_le _, Qm, by dsimp only; omega, Nat.le_refl _⟩ ⟨rfl, rfl, rfl, rfl, rfl, rfl, rfl, rfl, rfl, trivial⟩ II ?_
      rintro ⟨j, g1, wa, wc⟩ ⟨hj, Qj, hja, hjg⟩
      dsimp only at hj Qj hja hjg ⊢
      by_cases hjl : j < sp.length
      rotate_left
      · repeat (first | refine GD ?_ | refine NW fun _ => ?_)
        exact ⟨(k + 1, Pm, g1, wa, wc), ⟨hlt, Im.mono (by dsimp only; omega), Qj, by dsimp only; omega⟩, by dsimp only; omega, ⟨rfl, rfl, rfl, rfl, rfl, trivial⟩, II⟩
      obtain ⟨x, hx, hsx, hjh⟩ := hget j hjl
      have hxs : x.2.1 = (aN : Int) + 1 + j := by
        have h := hsq j hjh
        rw [List.getElem?_eq_getElem hjh] at hx
        have e : Pm.V.J.held[j] = x := Option.some.inj hx
        rw [e] at h
        omega
      have hsj : encR sp[j] = [.int .i64 ((aN : Int) + 1 + j), .int .i64 x.2.2.1, .int .i64 x.2.2.2.1, .string x.2.2.2.2.1, .int .i64 x.2.2.2.2.2] := by rw [hsx, ← hxs]; rfl
      refine WC.fact (Ent.some (Ent.own (a := sa) (n := sp.length) (cap := sc) (T := recT) (size := 5) (cs := sp.flatMap encR) MM) (by omega)) ?_
      rintro ⟨ob, ooff, rfl⟩
      have helS : ∀ {L : List Assn}, ownS (some ⟨ob, ooff, none⟩) sp.length sc recT 5 (sp.flatMap encR) ∈ L → Ent L (cellAt ob (ooff + j * 5) (.int .i64 ((aN : Int) + 1 + j))) := fun m => by
        have h := Ent.elF (f := encR) encR_len (l := sp) (k := j) (j := 0) (v := .int .i64 ((aN : Int) + 1 + j)) (Ent.own (T := recT) m) hjl rfl (by rw [hsj]; rfl)
        rwa [Nat.add_zero] at h
      have helA : ∀ {L : List Assn}, ownS (some ⟨ob, ooff, none⟩) sp.length sc recT 5 (sp.flatMap encR) ∈ L → Ent L (cellsAt ob (ooff + j * 5) (encR x.2)) := fun m => by
        have h := Ent.elA (f := encR) encR_len (l := sp) (k := j) (Ent.own (T := recT) m) hjl
        rwa [hsx] at h
      have hx' : encR x.2 = [.int .i64 ((aN : Int) + 1 + j), .int .i64 x.2.2.1, .int .i64 x.2.2.2.1, .string x.2.2.2.2.1, .int .i64 x.2.2.2.2.2] := by rw [← hxs]; rfl
      repeat (first | refine GD ?_ | refine NW fun _ => ?_)
      refine WL.step rfl (OP.load1 (v := .int .i64 ((aN : Int) + 1 + j)) rfl rfl rfl rfl (helS MM) rfl rfl ?_)
      repeat (first | refine GD ?_ | refine NW fun _ => ?_)
      refine WL.guardT rfl rfl rfl rfl (OP.load1 (v := .int .i64 ((aN : Int) + 1 + j)) rfl rfl rfl rfl (helS MM) rfl rfl ?_)
      have hc1 : ¬ ((g1.length : Int) + 1 < (aN : Int) + 1 + j) := by omega
      repeat (first | refine GD ?_ | refine NW fun _ => ?_)
      refine WL.step rfl (OP.load1 (v := .int .i64 ((aN : Int) + 1 + j)) rfl rfl rfl rfl (helS MM) rfl rfl ?_)
      by_cases hnew : aN + j = g1.length
      · have hQ2 := Qj.more Im hx (by omega)
        have hg2 : (g1 ++ [x.2])[aN + j]? = some x.2 := by rw [hnew, List.getElem?_append_right (Nat.le_refl _), Nat.sub_self]; rfl
        have hl2 : (g1 ++ [x.2]).length = g1.length + 1 := by rw [List.length_append]; rfl
        have hc2 : (aN : Int) + 1 + j = (g1.length : Int) + 1 := by omega
        repeat (first | refine GD ?_ | refine NW fun _ => ?_)
        refine WL.step rfl (OP.loadA (l := encR x.2) rfl rfl rfl rfl (helA MM) rfl rfl rfl ?_)
        rw [hx']
        repeat (first | refine GD ?_ | refine NW fun _ => ?_)
        refine WL.step rfl (OP.append (ds := [.int .i64 ((aN : Int) + 1 + j), .int .i64 x.2.2.1, .int .i64 x.2.2.2.1, .string x.2.2.2.2.1, .int .i64 x.2.2.2.2.2]) rfl rfl rfl rfl rfl rfl rfl rfl rfl (show Imp _ (ownS wa g1.length wc recT 5 (g1.flatMap encR) :: _) from P1) (Ent.own (T := recT) MM) rfl (by omega) (by omega) rfl rfl (fun wa2 wc2 => ?_))
        rw [← hl2, show g1.flatMap encR ++ [.int .i64 ((aN : Int) + 1 + j), .int .i64 x.2.2.1, .int .i64 x.2.2.2.1, .string x.2.2.2.2.1, .int .i64 x.2.2.2.2.2] = (g1 ++ [x.2]).flatMap encR by rw [← hx', List.flatMap_append, List.flatMap_cons, List.flatMap_nil, List.append_nil]]
        generalize g1 ++ [x.2] = g2 at *
        repeat (first | refine GD ?_ | refine NW fun _ => ?_)
        refine WC.fact (Ent.some (Ent.own (a := wa2) (n := g2.length) (cap := wc2) (T := recT) (size := 5) (cs := g2.flatMap encR) MM) (by omega)) ?_
        rintro ⟨gb, goff, rfl⟩
        have hgi : (((aN : Int) + 1 + j) - 1) = (aN + j : Nat) := by omega
        have hgn : aN + j < g2.length := by omega
        have hgg : g2[aN + j] = x.2 := by
          have h := hg2
          rw [List.getElem?_eq_getElem hgn] at h
          exact Option.some.inj h
        have helG : ∀ {L : List Assn}, ownS (some ⟨gb, goff, none⟩) g2.length wc2 recT 5 (g2.flatMap encR) ∈ L → Ent L (cellsAt gb (goff + ((aN : Int) + 1 + j - 1).toNat * 5) (encR x.2)) := fun m => by
          rw [show ((aN : Int) + 1 + j - 1).toNat = aN + j by omega]
          have h := Ent.elA (f := encR) encR_len (l := g2) (k := aN + j) (Ent.own (T := recT) m) hgn
          rwa [hgg] at h
        refine RD 14 14 (_) ?_
        refine WP 0 ?_
        refine WP 1 ?_
        refine WP 2 ?_
        refine WP 3 ?_
        refine WP 4 ?_
        refine VL 5 (.int .i64 ((aN : Int) + 1 + j)) rfl rfl rfl rfl (.inl ⟨rfl, helS MM⟩) ?_
        refine WP 6 ?_
        refine WP 7 ?_
        refine VL 8 (.agg (encR x.2).toArray) rfl rfl rfl rfl (.inr ⟨rfl, encR x.2, rfl, rfl, helG MM⟩) ?_
        refine WP 9 ?_
        refine WP 10 ?_
        refine WP 11 ?_
        refine VL 12 (.agg (encR x.2).toArray) rfl rfl rfl rfl (.inr ⟨rfl, encR x.2, rfl, rfl, helA MM⟩) ?_
        refine VQ 13 rfl (Quiet.eqAgg (EqAgg.neqSelf (xs := encR x.2) rfl rfl rfl rfl (by kernel_rfl) (by kernel_rfl) (by kernel_rfl) rfl)) ?_
        refine DN ?_
        repeat (first | refine GD ?_ | refine NW fun _ => ?_)
        exact ⟨(j + 1, g2, some ⟨gb, goff, none⟩, wc2), ⟨hjl, hQ2, by dsimp only; omega, by dsimp only; omega⟩, by dsimp only; omega, ⟨rfl, rfl, rfl, rfl, rfl, rfl, rfl, rfl, rfl, trivial⟩, II⟩
      · have hg2 := Qj.eq j x hx (by omega)
        rw [haT] at hg2
        have hc2 : ¬ (aN : Int) + 1 + j = (g1.length : Int) + 1 := by omega
        repeat (first | refine GD ?_ | refine NW fun _ => ?_)
        refine WC.fact (Ent.some (Ent.own (a := wa) (n := g1.length) (cap := wc) (T := recT) (size := 5) (cs := g1.flatMap encR) MM) (by omega)) ?_
        rintro ⟨gb, goff, rfl⟩
        have hgi : (((aN : Int) + 1 + j) - 1) = (aN + j : Nat) := by omega
        have hgn : aN + j < g1.length := by omega
        have hgg : g1[aN + j] = x.2 := by
          have h := hg2
          rw [List.getElem?_eq_getElem hgn] at h
          exact Option.some.inj h
        have helG : ∀ {L : List Assn}, ownS (some ⟨gb, goff, none⟩) g1.length wc recT 5 (g1.flatMap encR) ∈ L → Ent L (cellsAt gb (goff + ((aN : Int) + 1 + j - 1).toNat * 5) (encR x.2)) := fun m => by
          rw [show ((aN : Int) + 1 + j - 1).toNat = aN + j by omega]
          have h := Ent.elA (f := encR) encR_len (l := g1) (k := aN + j) (Ent.own (T := recT) m) hgn
          rwa [hgg] at h
        refine RD 14 14 (_) ?_
        refine WP 0 ?_
        refine WP 1 ?_
        refine WP 2 ?_
        refine WP 3 ?_
        refine WP 4 ?_
        refine VL 5 (.int .i64 ((aN : Int) + 1 + j)) rfl rfl rfl rfl (.inl ⟨rfl, helS MM⟩) ?_
        refine WP 6 ?_
        refine WP 7 ?_
        refine VL 8 (.agg (encR x.2).toArray) rfl rfl rfl rfl (.inr ⟨rfl, encR x.2, rfl, rfl, helG MM⟩) ?_
        refine WP 9 ?_
        refine WP 10 ?_
        refine WP 11 ?_
        refine VL 12 (.agg (encR x.2).toArray) rfl rfl rfl rfl (.inr ⟨rfl, encR x.2, rfl, rfl, helA MM⟩) ?_
        refine VQ 13 rfl (Quiet.eqAgg (EqAgg.neqSelf (xs := encR x.2) rfl rfl rfl rfl (by kernel_rfl) (by kernel_rfl) (by kernel_rfl) rfl)) ?_
        refine DN ?_
        repeat (first | refine GD ?_ | refine NW fun _ => ?_)
        exact ⟨(j + 1, g1, some ⟨gb, goff, none⟩, wc), ⟨hjl, Qj, by dsimp only; omega, by dsimp only; omega⟩, by dsimp only; omega, ⟨rfl, rfl, rfl, rfl, rfl, rfl, rfl, rfl, rfl, trivial⟩, II⟩
    by_cases h1 : kd = 1
    · have hg := pgrant_ok p q P e t I.st
      have hI := (I.grant e t).1
      have hD : (grantP P e t).2.D = P.D := by rw [(I.grant e t).2.1]
      have hQ : ShipI (grantP P e t).2 got := by rw [(I.grant e t).2.1]; exact Q.same rfl rfl rfl
      generalize grantP P e t = R at *
      repeat (first | refine GD ?_ | refine NW fun _ => ?_)
      refine WL.step rfl (OP.call (pre := [priA p q P]) rfl rfl hg PS rfl rfl ?_)
      rintro _ _ ⟨E, hE, rfl⟩
      rw [List.append_assoc, ← hD]
      repeat (first | refine GD ?_ | refine NW fun _ => ?_)
      exact (show Meet _ _ _ _ _ from ⟨R.2, ⟨hI.mono (by omega), hQ⟩, ⟨rfl, rfl, rfl, rfl, rfl, trivial⟩, Imp.trans (Imp.dropA E _) II⟩)
    by_cases h2 : kd = 2
    · have hg := pwrite_ok p q P _ I (by omega) (ci, cb, cd) (by show cd.size < 1000000; omega) e t
      have hI := (I.write (by omega) (ci, cb, cd) e t).1
      have hQ := Q.write I (by omega) (ci, cb, cd) e t
      rw [show encCa (ci, cb, cd) = [.int .i64 ci, .int .i64 cb, .string cd] from rfl] at hg
      generalize writeP P (ci, cb, cd) e t = R at *
      obtain ⟨R1, R2⟩ := R
      dsimp only at hI hQ
      repeat (first | refine GD ?_ | refine NW fun _ => ?_)
      refine WL.step rfl (OP.call (pre := [priA p q P, dsk q P.D]) rfl rfl hg PS rfl rfl ?_)
      cases R1 with
      | ok kk =>
        rintro _ _ ⟨rfl, rfl⟩
        dsimp only [List.cons_append, List.nil_append]
        repeat (first | refine GD ?_ | refine NW fun _ => ?_)
        exact (show Meet _ _ _ _ _ from ⟨R2, ⟨hI.mono (by omega), hQ⟩, ⟨rfl, rfl, rfl, rfl, rfl, trivial⟩, II⟩)
      | error er =>
        rintro _ _ ⟨_, E, hE, rfl, rfl⟩
        dsimp only
        rw [List.append_assoc]
        repeat (first | refine GD ?_ | refine NW fun _ => ?_)
        exact (show Meet _ _ _ _ _ from ⟨R2, ⟨hI.mono (by omega), hQ⟩, ⟨rfl, rfl, rfl, rfl, rfl, trivial⟩, Imp.trans (Imp.dropA E _) II⟩)
    by_cases h4 : kd = 4
    · have hg := pfreeze_ok p q P _ I m
      have hI := (I.freeze m).1
      have hQ : ShipI (freezeP P m).2 got := Q.same (I.freeze m).2.2.2.2.1 (by rw [(I.freeze m).2.1]) (by rw [(I.freeze m).2.1])
      generalize freezeP P m = R at *
      repeat (first | refine GD ?_ | refine NW fun _ => ?_)
      refine WL.step rfl (OP.call (pre := [priA p q P, dsk q P.D]) rfl rfl hg PS rfl rfl ?_)
      rintro _ _ ⟨E, hE, rfl⟩
      rw [List.append_assoc]
      repeat (first | refine GD ?_ | refine NW fun _ => ?_)
      exact (show Meet _ _ _ _ _ from ⟨R.2, ⟨hI.mono (by omega), hQ⟩, ⟨rfl, rfl, rfl, rfl, rfl, trivial⟩, Imp.trans (Imp.dropA E _) II⟩)
    by_cases h5 : kd = 5
    · have hg := pmark_ok p q P _ I (by omega) m
      have hI := (I.markd (by omega) m).1
      have hQ := Q.mark I (by omega) m
      generalize markP P m = R at *
      repeat (first | refine GD ?_ | refine NW fun _ => ?_)
      refine WL.step rfl (OP.call (pre := [priA p q P, dsk q P.D]) rfl rfl hg PS rfl rfl ?_)
      rintro _ _ ⟨E, hE, rfl⟩
      rw [List.append_assoc]
      repeat (first | refine GD ?_ | refine NW fun _ => ?_)
      exact (show Meet _ _ _ _ _ from ⟨R.2, ⟨hI.mono (by omega), hQ⟩, ⟨rfl, rfl, rfl, rfl, rfl, trivial⟩, Imp.trans (Imp.dropA E _) II⟩)
    by_cases h6 : kd = 6
    · have hg := pthaw_ok p q P _ I (by omega) m t A hu hAE
      have hI := (I.thaw (by omega) m t).1
      have hQ := Q.thaw I (by omega) m t
      generalize thawP P m t = R at *
      repeat (first | refine GD ?_ | refine NW fun _ => ?_)
      refine WL.step rfl (OP.call (pre := [priA p q P, dsk q P.D, A]) rfl rfl hg PS rfl rfl ?_)
      rintro _ _ ⟨d, E, er, E', _, _, rfl, rfl⟩
      rw [List.append_assoc, List.append_assoc]
      repeat (first | refine GD ?_ | refine NW fun _ => ?_)
      exact (show Meet _ _ _ _ _ from ⟨R.2.2, ⟨hI.mono (by omega), hQ⟩, ⟨rfl, rfl, rfl, rfl, rfl, trivial⟩, Imp.trans (Imp.dropA E' _) (Imp.trans (Imp.dropA E _) II)⟩)
    by_cases h7 : kd = 7
    · have hg := ptick_ok p q P _ I (by omega) t A hu hAE
      have hI := (I.tick (by omega) t).1
      have hQ := Q.tick I (by omega) t
      generalize tickP P t = R at *
      repeat (first | refine GD ?_ | refine NW fun _ => ?_)
      refine WL.step rfl (OP.call (pre := [priA p q P, dsk q P.D, A]) rfl rfl hg PS rfl rfl ?_)
      rintro _ _ ⟨E, _, rfl⟩
      rw [List.append_assoc]
      repeat (first | refine GD ?_ | refine NW fun _ => ?_)
      exact (show Meet _ _ _ _ _ from ⟨R.2, ⟨hI.mono (by omega), hQ⟩, ⟨rfl, rfl, rfl, rfl, rfl, trivial⟩, Imp.trans (Imp.dropA E _) II⟩)
    by_cases h9 : kd = 9
    · obtain ⟨u, hu', hul⟩ : ∃ u : Int, (if (got.length : Int) < m then (got.length : Int) else m) = u ∧ u ≤ got.length := ⟨_, rfl, by split <;> omega⟩
      have hg := pack_ok p q P _ I (by omega) u
      have hI := (I.acks (by omega) u).1
      have hQ := Q.ack I (by omega) hul
      generalize ackP P u = R at *
      repeat (first | refine GD ?_ | refine NW fun _ => ?_)
      rw [hu']
      refine WL.step rfl (OP.call (pre := [priA p q P, dsk q P.D]) rfl rfl hg PS rfl rfl ?_)
      rintro _ _ ⟨E, hE, rfl⟩
      rw [List.append_assoc]
      repeat (first | refine GD ?_ | refine NW fun _ => ?_)
      exact (show Meet _ _ _ _ _ from ⟨R.2, ⟨hI.mono (by omega), hQ⟩, ⟨rfl, rfl, rfl, rfl, rfl, trivial⟩, Imp.trans (Imp.dropA E _) II⟩)
    by_cases h10 : kd = 10
    · have hg := pcrash_ok p q P _ I (by omega) kp hkw
      obtain ⟨V', D', _, hcr, hI, _⟩ := I.crash (by omega) kp
      have hQ := Q.crash I (by omega) kp
      rw [← hcr] at hI
      generalize crashP P kp = R at *
      repeat (first | refine GD ?_ | refine NW fun _ => ?_)
      refine WL.step rfl (OP.call (pre := [priA p q P, dsk q P.D]) rfl rfl hg PS rfl rfl ?_)
      rintro _ _ ⟨rfl, rfl⟩
      dsimp only [List.cons_append, List.nil_append]
      repeat (first | refine GD ?_ | refine NW fun _ => ?_)
      exact (show Meet _ _ _ _ _ from ⟨R, ⟨hI.mono (by omega), hQ⟩, ⟨rfl, rfl, rfl, rfl, rfl, trivial⟩, II⟩)
    repeat (first | refine GD ?_ | refine NW fun _ => ?_)
    exact (show Meet _ _ _ _ _ from ⟨P, ⟨I.mono (by omega), Q⟩, ⟨rfl, rfl, rfl, rfl, rfl, trivial⟩, II⟩)
  repeat (first | refine GD ?_ | refine NW fun _ => ?_)
  exact ret1 rfl ⟨rfl, MM⟩
end Go.Proofs.YtleajkobmhhacaaGreatDoor
