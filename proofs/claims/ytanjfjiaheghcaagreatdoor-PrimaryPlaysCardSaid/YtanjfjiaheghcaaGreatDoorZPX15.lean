/- Contracts of functions of the given program, and plain laws: parts of the proofs of laws. -/
import Derived.Test.YtanjfjiaheghcaaGreatDoorZPX3
import Derived.Test.YtanjfjiaheghcaaGreatDoorZPX14
import Derived.Test.YtanjfjiaheghcaaGreatDoorZPX9
import Derived.Test.YtanjfjiaheghcaaGreatDoorZPX11
/- Contracts of functions of the given program, and plain laws on what they compute: parts of the proofs of laws. -/

namespace Go.Proofs.YtanjfjiaheghcaaGreatDoor
open Go Go.GL

/-! PrimaryPlays -/
abbrev qoT : TypeId := 42
set_option maxHeartbeats 64000000 in
set_option maxRecDepth 10000 in
theorem pplays_ro (ring : Int) (a : Option Addr) (n c : Nat) (ops : List QOp) (hops : ∀ o ∈ ops, QWf o) (hr0 : 0 ≤ ring ∧ ring ≤ 255) (hn : n = ops.length) :
    RO G 3 [.int .u8 ring, .slice a n c] (fun h => ErrT h ∧ readS a n 8 (ops.flatMap encQ) h) (.bool true) := by
  refine RO.enter Tryz.func3 rfl (by decide) rfl Tryz.ntmps3 rfl (fun A hu hA => ?_) (up_and up_ErrT (up_readS _ _ _ _))
  have hAE : ∀ k, A k → ErrT k := fun k h => (hA k h).1
  have hR : ∀ {L}, A ∈ L → Ent L (readS a n 8 (ops.flatMap encQ)) := fun m => Ent.mem m hu fun k h => (hA k h).2
  have hww := widest_eq
  obtain ⟨r, hr, hr1, hr12⟩ : ∃ r : Nat, 1 + ring % 12 = r ∧ 1 ≤ r ∧ r ≤ 12 := ⟨(1 + ring % 12).toNat, by omega, by omega, by omega⟩
  repeat (first | refine GD ?_ | refine NW fun _ => ?_)
  refine WL.step rfl (OP.callRO rfl rfl pawake_ro (fun _ _ => trivial) rfl rfl ?_)
  repeat (first | refine GD ?_ | refine NW fun _ => ?_)
  refine WL.guardT rfl rfl rfl rfl (OP.callRO rfl rfl (pfew_ro a n c ops hn) (hR MM) rfl rfl ?_)
  cases hf : fewQ ops with
  | false =>
    repeat (first | refine GD ?_ | refine NW fun _ => ?_)
    refine WL.step rfl (OP.callRO rfl rfl pawake_ro (fun _ _ => trivial) rfl rfl ?_)
    repeat (first | refine GD ?_ | refine NW fun _ => ?_)
    exact ret1 rfl ⟨rfl, MM⟩
  | true =>
  obtain ⟨hl100, hsz⟩ := fewQ_ok hf
  obtain ⟨V, D, hopn, I0, hring, hheld, hnext, hblks, hlen, hW, _⟩ := PInv.fresh (ring := r) hr1 (by omega)
  have hcast : ((r + 11 : Nat) : Int) = (r : Int) + 11 := by omega
  rw [hcast] at hopn
  have hpo := fun q => popen_ok q r (Dsk.new ((r : Int) + 11)) (Dsk.new_ok _) (by show (0 : Nat) < 10000; decide) ⟨hr1, by omega⟩ (by unfold Dsk.new; rw [List.length_replicate]; omega) hopn I0 (by omega) hring
  have hrpo := fun w => rpopen_ok w r (Dsk.new ((r : Int) + 11)) (Dsk.new_ok _) (by show (0 : Nat) < 10000; decide) ⟨hr1, by omega⟩ (by unfold Dsk.new; rw [List.length_replicate]; omega) hopn I0 (by omega) hring
  have hD0 : (beginP V D 0).D = D := rfl
  generalize beginP V D 0 = P0 at *
  repeat (first | refine GD ?_ | refine NW fun _ => ?_)
  rw [hr]
  refine WL.step rfl (OP.callRO rfl rfl (psectors_ro r (by omega)) (fun _ _ => trivial) rfl rfl ?_)
  refine WL.step rfl (OP.callRT rfl rfl (dnew_rt ((r : Int) + 11)) (fun _ _ => trivial) rfl rfl ?_)
  rintro _ _ ⟨q, rfl, rfl⟩
  repeat (first | refine GD ?_ | refine NW fun _ => ?_)
  refine WL.step rfl (OP.callRT rfl rfl (rdnew_rt ((r : Int) + 11) (by omega)) (fun _ _ => trivial) rfl rfl ?_)
  rintro _ _ ⟨w, rfl, rfl⟩
  repeat (first | refine GD ?_ | refine NW fun _ => ?_)
  refine WL.step rfl (OP.call (pre := [dsk q (Dsk.new ((r : Int) + 11))]) rfl rfl (hpo q) PS rfl rfl ?_)
  rintro _ _ ⟨p, rfl, rfl⟩
  repeat (first | refine GD ?_ | refine NW fun _ => ?_)
  refine WL.step rfl (OP.call (pre := [rdsk w (Dsk.new ((r : Int) + 11))]) rfl rfl (hrpo w) PS rfl rfl ?_)
  rintro _ _ ⟨nd, rfl, rfl⟩
  rw [← hD0]
  repeat (first | refine GD ?_ | refine NW fun _ => ?_)
  refine WC.loop (σ := Nat × Pri) (fun s => s.1 ≤ n ∧ PInv s.2 (3 + 30 * s.1))
    (fun s => [(1, .val (.slice a n c)), (6, .val (.pointer (some ⟨q, 0, none⟩))), (7, .val (.pointer (some ⟨w, 0, none⟩))), (8, .val (.pointer (some ⟨p, 0, none⟩))), (10, .val (.pointer (some ⟨nd, 0, none⟩))), (73, .val (.int .i64 n)), (74, .val (.int .i64 s.1))])
    (fun s => [priA p q s.2, dsk q s.2.D, rpriA nd w s.2, rdsk w s.2.D, A]) (fun s => n - s.1) (0, P0) ⟨Nat.zero_le _, I0⟩ ⟨rfl, rfl, rfl, rfl, rfl, rfl, rfl, trivial⟩ II ?_
  clear I0 hpo hrpo hD0 hopn hheld hring hnext hblks hlen hW
  clear P0
  rintro ⟨k, P⟩ ⟨hkn, I⟩
  dsimp only at hkn I ⊢
  by_cases hlt : k < n
  rotate_left
  · have hI64 := fun i h => Dsk.cur_64 I.V.j.dok (i := i) h
    have hfw : P.D.W.length < 10000 := by rw [I.W]; decide
    have hdok := I.V.j.dok
    have h1024 := I.V.j.dok.few
    repeat (first | refine GD ?_ | refine NW fun _ => ?_)
    refine WL.step rfl (OP.callRO rfl rfl (dlen_ro q P.D) (Ent.at (up_dsk _ _) MM) rfl rfl ?_)
    generalize P.D = D at *
    repeat (first | refine GD ?_ | refine NW fun _ => ?_)
    refine WC.loop (σ := Nat) (fun i => i ≤ D.S.length)
      (fun i => [(6, .val (.pointer (some ⟨q, 0, none⟩))), (7, .val (.pointer (some ⟨w, 0, none⟩))), (334, .val (.int .i64 D.S.length)), (335, .val (.int .i64 i))])
      (fun i => [dsk q D, rdsk w D, A]) (fun i => D.S.length - i) 0 (Nat.zero_le _) ⟨rfl, rfl, rfl, rfl, trivial⟩ II ?_
    rintro i hi1
    by_cases hil : i < D.S.length
    rotate_left
    · repeat (first | refine GD ?_ | refine NW fun _ => ?_)
      exact ret1 rfl ⟨rfl, MM⟩
    have hrd := dread_rt q D i hdok (by omega)
    unfold DReadPost at hrd
    rw [Int.toNat_natCast] at hrd
    have hrr := rdread_ro w D i (by omega)
    unfold RRdV at hrr
    rw [if_pos (by omega), Int.toNat_natCast] at hrr
    have h64 := hI64 i hil
    generalize D.cur i = l0 at *
    repeat (first | refine GD ?_ | refine NW fun _ => ?_)
    refine WL.step rfl (OP.callRT rfl rfl hrd (Ent.at (up_dsk _ _) MM) rfl rfl ?_)
    intro v E hE'
    rw [if_pos (by omega)] at hE'
    obtain ⟨br, rfl, rfl⟩ := hE'
    repeat (first | refine GD ?_ | refine NW fun _ => ?_)
    refine WL.step rfl (OP.callRO rfl rfl hrr (Ent.at (up_rdsk _ _) MM) rfl rfl ?_)
    repeat (first | refine GD ?_ | refine NW fun _ => ?_)
    refine WL.step rfl (OP.toStr (sv := ba l0) rfl rfl rfl rfl rfl rfl rfl rfl (by rw [strCells_ba]; exact Ent.at (up_readS _ _ _ _) MM) rfl rfl ?_)
    generalize ba l0 = bb at *
    repeat (first | refine GD ?_ | refine NW fun _ => ?_)
    rw [decide_eq_true (rfl : bb = bb)]
    repeat (first | refine GD ?_ | refine NW fun _ => ?_)
    exact ⟨i + 1, by omega, by omega, ⟨rfl, rfl, rfl, rfl, trivial⟩, II⟩
  have hlk : k < ops.length := by omega
  have hszk := hsz _ (List.getElem_mem hlk)
  have hkw := hops _ (List.getElem_mem hlk)
  refine WC.fact (Ent.some (hR MM) (by omega)) ?_
  rintro ⟨b, off, rfl⟩
  repeat (first | refine GD ?_ | refine NW fun _ => ?_)
  refine WL.step rfl (OP.loadA (l := encQ ops[k]) rfl rfl rfl rfl (Ent.elA encQ_len (hR MM) hlk) rfl rfl rfl ?_)
  generalize ops[k] = o at *
  obtain ⟨kd, e, t, m, ⟨ci, cb, cd⟩, kp⟩ := o
  dsimp only at hszk
  unfold QWf at hkw
  dsimp only at hkw
  rw [show encQ (kd, e, t, m, (ci, cb, cd), kp) = [.int .i64 kd, .int .i64 e, .int .i64 t, .int .i64 m, .int .i64 ci, .int .i64 cb, .string cd, .int .u64 kp] from rfl]
  refine WL.meet2 (Meet (fun s : Pri => PInv s (3 + 30 * (k : Int) + 8))
    (fun s => [(1, .val (.slice (some ⟨b, off, none⟩) n c)), (6, .val (.pointer (some ⟨q, 0, none⟩))), (7, .val (.pointer (some ⟨w, 0, none⟩))), (8, .val (.pointer (some ⟨p, 0, none⟩))), (10, .val (.pointer (some ⟨nd, 0, none⟩))), (14, .val (.bool true)), (73, .val (.int .i64 n)), (74, .val (.int .i64 k))])
    (fun s => [priA p q s, dsk q s.D, rpriA nd w s, rdsk w s.D, A])) ?_ (Meet.go ?_)
  rotate_left
  · intro s IF
    change PInv s (3 + 30 * (k : Int) + 8) at IF
    clear I hszk hkw
    clear P
    have hVF := IF.rng (by omega)
    have hfz := pfrozen_ro p q s
    have hnx := pnext_ro p q s hVF
    have hlw := dloose_ro q s.D
    have hrn := fun j => rnext_ro j w s.V.J hVF.J
    have hfold := fun (v g st : Nat) (N : List Assn) => rpriFold nd w s v g st (N := N)
    have hgfold := fun (g : Nat) (y : Option Addr × Nat) (N : List Assn) => rgateFold g s.G y (N := N)
    have hvfold := fun (v : Nat) y (N : List Assn) => rvolFoldX v w s.V y (N := N)
    have hdfold := fun y (N : List Assn) => rdskFold w s.D y (N := N)
    repeat (first | refine GD ?_ | refine NW fun _ => ?_)
    refine WL.step rfl (OP.callRO rfl rfl hfz (Ent.at (up_priA _ _ _) MM) rfl rfl ?_)
    repeat (first | refine GD ?_ | refine NW fun _ => ?_)
    refine WL.step rfl (OP.callRO rfl rfl hnx (Ent.at (up_priA _ _ _) MM) rfl rfl ?_)
    repeat (first | refine GD ?_ | refine NW fun _ => ?_)
    refine WC.open (M := [priA p q s, dsk q s.D, rdsk w s.D, A]) (Ls := rpriL nd w s) II (fun x => ?_)
    obtain ⟨v, g, st⟩ := x
    unfold rpriL
    unfold rndC at *
    dsimp only [List.cons_append, List.nil_append]
    refine WC.open (M := [blk nd [.pointer (some ⟨w, 0, none⟩), .pointer (some ⟨v, 0, none⟩), .pointer (some ⟨g, 0, none⟩), .pointer (some ⟨st, 0, none⟩), .int .i64 s.V.J.ring, .int .i64 s.marked, .int .i64 s.floor, .int .i64 s.acked] rnT, rgateA g s.G, rsiteA st s.S, priA p q s, dsk q s.D, rdsk w s.D, A]) (Ls := rvolL v w s.V) II (fun y => ?_)
    unfold rvolL rjrnL
    unfold rvolC at *
    dsimp only [List.cons_append, List.nil_append] at hvfold ⊢
    refine WC.open (M := [blk v ([.pointer (some ⟨w, 0, none⟩), .pointer (some ⟨y.1, 0, none⟩), .int .i64 s.V.J.ring] ++ s.V.laid.map numC ++ s.V.laid.map datC) 84, blk y.1 [.pointer (some ⟨w, 0, none⟩), .int .i64 s.V.J.ring, .int .i64 s.V.J.hd.turn, .int .i64 s.V.J.hd.first, .int .i64 s.V.J.hd.gen, .int .i64 s.V.J.hd.low, .slice y.2.1 s.V.J.held.length y.2.2.1, .slice y.2.2.2.1 s.V.J.held.length y.2.2.2.2] 143, ownS y.2.1 s.V.J.held.length y.2.2.1 140 5 (s.V.J.held.flatMap (fun x => encR x.2)), ownS y.2.2.2.1 s.V.J.held.length y.2.2.2.2 3 1 (s.V.J.held.map genC), blk nd [.pointer (some ⟨w, 0, none⟩), .pointer (some ⟨v, 0, none⟩), .pointer (some ⟨g, 0, none⟩), .pointer (some ⟨st, 0, none⟩), .int .i64 s.V.J.ring, .int .i64 s.marked, .int .i64 s.floor, .int .i64 s.acked] rnT, rsiteA st s.S, priA p q s, dsk q s.D, rdsk w s.D, A]) (Ls := rgateL g s.G) II (fun yg => ?_)
    unfold rgateL
    unfold gateC at *
    dsimp only [List.cons_append, List.nil_append] at hgfold ⊢
    refine WC.open (M := [blk g [.int .i64 s.G.round, .int .i64 s.G.left, .int .i64 s.G.latest, .slice yg.1 s.G.wait.length yg.2] rgT, ownS yg.1 s.G.wait.length yg.2 rcT 3 (s.G.wait.flatMap encCa), blk v ([.pointer (some ⟨w, 0, none⟩), .pointer (some ⟨y.1, 0, none⟩), .int .i64 s.V.J.ring] ++ s.V.laid.map numC ++ s.V.laid.map datC) 84, blk y.1 [.pointer (some ⟨w, 0, none⟩), .int .i64 s.V.J.ring, .int .i64 s.V.J.hd.turn, .int .i64 s.V.J.hd.first, .int .i64 s.V.J.hd.gen, .int .i64 s.V.J.hd.low, .slice y.2.1 s.V.J.held.length y.2.2.1, .slice y.2.2.2.1 s.V.J.held.length y.2.2.2.2] 143, ownS y.2.1 s.V.J.held.length y.2.2.1 140 5 (s.V.J.held.flatMap (fun x => encR x.2)), ownS y.2.2.2.1 s.V.J.held.length y.2.2.2.2 3 1 (s.V.J.held.map genC), blk nd [.pointer (some ⟨w, 0, none⟩), .pointer (some ⟨v, 0, none⟩), .pointer (some ⟨g, 0, none⟩), .pointer (some ⟨st, 0, none⟩), .int .i64 s.V.J.ring, .int .i64 s.marked, .int .i64 s.floor, .int .i64 s.acked] rnT, rsiteA st s.S, priA p q s, dsk q s.D, A]) (Ls := rdskL w s.D) II (fun yd => ?_)
    unfold rdskL
    dsimp only [List.cons_append, List.nil_append]
    refine RD 55 55 (_) ?_
    refine WP 0 ?_
    refine WP 1 ?_
    refine WP 2 ?_
    refine WP 3 ?_
    refine WP 4 ?_
    refine WP 5 ?_
    refine WP 6 ?_
    refine VV 7 ?_
    refine WP 8 ?_
    refine WP 9 ?_
    refine VV 10 ?_
    refine WP 11 ?_
    rw [decide_eq_true rfl]
    refine WP 12 ?_
    refine WP 13 ?_
    refine WP 14 ?_
    refine WP 15 ?_
    refine WP 16 ?_
    refine WP 17 ?_
    refine VV 18 ?_
    refine WP 19 ?_
    refine WP 20 ?_
    refine VV 21 ?_
    refine WP 22 ?_
    refine WP 23 ?_
    rw [decide_eq_true rfl]
    refine WP 24 ?_
    refine WP 25 ?_
    refine WP 26 ?_
    refine WP 27 ?_
    refine WP 28 ?_
    refine WP 29 ?_
    refine VV 30 ?_
    refine WP 31 ?_
    refine WP 32 ?_
    refine VV 33 ?_
    refine WH.onlyG (q := true) 34 rfl rfl rfl rfl rfl rfl rfl (by kernel_rfl) rfl (.inl rfl) (fun _ => OP.callRO rfl rfl (hrn y.1) (Ent.exI y.2 (by unfold rjrnL; exact II)) rfl rfl ⟨fun _ => II, ?_⟩) (fun h => nomatch h)
    refine WP 35 ?_
    rw [decide_eq_true rfl]
    refine WP 36 ?_
    refine WP 37 ?_
    refine WP 38 ?_
    refine WP 39 ?_
    refine WP 40 ?_
    refine WP 41 ?_
    refine VV 42 ?_
    refine WP 43 ?_
    rw [decide_eq_true rfl]
    refine WP 44 ?_
    refine WP 45 ?_
    refine WP 46 ?_
    refine WP 48 ?_
    refine WP 49 ?_
    refine WP 50 ?_
    refine VV 51 ?_
    refine WP 52 ?_
    refine WH.onlyG (q := true) 47 rfl rfl rfl rfl rfl rfl rfl (by kernel_rfl) rfl (.inl rfl) (fun _ => OP.callRO rfl rfl (hlw) (Ent.at (up_dsk _ _) MM) rfl rfl ⟨fun _ => II, ?_⟩) (fun h => nomatch h)
    refine WP 53 ?_
    rw [decide_eq_true rfl]
    refine WP 54 ?_
    refine DN ?_
    repeat (first | refine GD ?_ | refine NW fun _ => ?_)
    exact ⟨(k + 1, s), ⟨hlt, IF.mono (by dsimp only; omega)⟩, by dsimp only; omega, ⟨rfl, rfl, rfl, rfl, rfl, rfl, rfl, trivial⟩, Imp.trans II ((hdfold yd [blk g [.int .i64 s.G.round, .int .i64 s.G.left, .int .i64 s.G.latest, .slice yg.1 s.G.wait.length yg.2] rgT, ownS yg.1 s.G.wait.length yg.2 rcT 3 (s.G.wait.flatMap encCa), blk v ([.pointer (some ⟨w, 0, none⟩), .pointer (some ⟨y.1, 0, none⟩), .int .i64 s.V.J.ring] ++ s.V.laid.map numC ++ s.V.laid.map datC) 84, blk y.1 [.pointer (some ⟨w, 0, none⟩), .int .i64 s.V.J.ring, .int .i64 s.V.J.hd.turn, .int .i64 s.V.J.hd.first, .int .i64 s.V.J.hd.gen, .int .i64 s.V.J.hd.low, .slice y.2.1 s.V.J.held.length y.2.2.1, .slice y.2.2.2.1 s.V.J.held.length y.2.2.2.2] 143, ownS y.2.1 s.V.J.held.length y.2.2.1 140 5 (s.V.J.held.flatMap (fun x => encR x.2)), ownS y.2.2.2.1 s.V.J.held.length y.2.2.2.2 3 1 (s.V.J.held.map genC), blk nd [.pointer (some ⟨w, 0, none⟩), .pointer (some ⟨v, 0, none⟩), .pointer (some ⟨g, 0, none⟩), .pointer (some ⟨st, 0, none⟩), .int .i64 s.V.J.ring, .int .i64 s.marked, .int .i64 s.floor, .int .i64 s.acked] rnT, rsiteA st s.S, priA p q s, dsk q s.D, A]).trans ((Imp.trans II (hgfold g yg [rdsk w s.D, blk v ([.pointer (some ⟨w, 0, none⟩), .pointer (some ⟨y.1, 0, none⟩), .int .i64 s.V.J.ring] ++ s.V.laid.map numC ++ s.V.laid.map datC) 84, blk y.1 [.pointer (some ⟨w, 0, none⟩), .int .i64 s.V.J.ring, .int .i64 s.V.J.hd.turn, .int .i64 s.V.J.hd.first, .int .i64 s.V.J.hd.gen, .int .i64 s.V.J.hd.low, .slice y.2.1 s.V.J.held.length y.2.2.1, .slice y.2.2.2.1 s.V.J.held.length y.2.2.2.2] 143, ownS y.2.1 s.V.J.held.length y.2.2.1 140 5 (s.V.J.held.flatMap (fun x => encR x.2)), ownS y.2.2.2.1 s.V.J.held.length y.2.2.2.2 3 1 (s.V.J.held.map genC), blk nd [.pointer (some ⟨w, 0, none⟩), .pointer (some ⟨v, 0, none⟩), .pointer (some ⟨g, 0, none⟩), .pointer (some ⟨st, 0, none⟩), .int .i64 s.V.J.ring, .int .i64 s.marked, .int .i64 s.floor, .int .i64 s.acked] rnT, rsiteA st s.S, priA p q s, dsk q s.D, A])).trans ((Imp.trans II (hvfold v y [rgateA g s.G, rdsk w s.D, blk nd [.pointer (some ⟨w, 0, none⟩), .pointer (some ⟨v, 0, none⟩), .pointer (some ⟨g, 0, none⟩), .pointer (some ⟨st, 0, none⟩), .int .i64 s.V.J.ring, .int .i64 s.marked, .int .i64 s.floor, .int .i64 s.acked] rnT, rsiteA st s.S, priA p q s, dsk q s.D, A])).trans ((Imp.trans II (hfold v g st [rdsk w s.D, priA p q s, dsk q s.D, A])).trans II))))⟩
  by_cases k1 : kd = 1
  · subst k1
    have hg := grant_to (pgrant_ok p q P e t I.st)
    have hI := (I.grant e t).1
    rw [grant_code, (I.grant e t).2.1] at hg
    rw [(I.grant e t).2.1] at hI
    have hrg := fun st => rlgrant_ok st P.S I.st e t
    have hfold := fun (v g st : Nat) (N : List Assn) => rpriFold nd w { P with S := (grantS P.S e t).2 } v g st (N := N)
    unfold cdO at hrg
    generalize grantS P.S e t = R at *
    obtain ⟨R1, S2⟩ := R
    dsimp only at hg hI hrg hfold
    repeat (first | refine GD ?_ | refine NW fun _ => ?_)
    rename_i bo
    refine WC.open (M := [blk bo [.int .i64 1, .int .i64 e, .int .i64 t, .int .i64 m, .int .i64 ci, .int .i64 cb, .string cd, .int .u64 kp] qoT, priA p q P, dsk q P.D, rdsk w P.D, A]) (Ls := rpriL nd w P) II (fun x => ?_)
    obtain ⟨v, g, st⟩ := x
    unfold rpriL
    unfold rndC at *
    dsimp only [List.cons_append, List.nil_append] at hfold ⊢
    refine RD 19 19 ([blk bo [.int .i64 1, .int .i64 e, .int .i64 t, .int .i64 m, .int .i64 ci, .int .i64 cb, .string cd, .int .u64 kp] qoT, blk nd [.pointer (some ⟨w, 0, none⟩), .pointer (some ⟨v, 0, none⟩), .pointer (some ⟨g, 0, none⟩), .pointer (some ⟨st, 0, none⟩), .int .i64 P.V.J.ring, .int .i64 P.marked, .int .i64 P.floor, .int .i64 P.acked] rnT, A]) ?_
    refine WP 0 ?_
    refine WP 1 ?_
    refine VV 2 ?_
    refine WP 3 ?_
    refine VV 4 ?_
    refine WP 6 ?_
    refine VV 7 ?_
    refine WP 8 ?_
    refine WP 9 ?_
    refine WP 10 ?_
    refine VV 11 ?_
    refine WP 12 ?_
    refine VV 13 ?_
    refine WP 14 ?_
    refine VV 15 ?_
    refine WH.only 5 rfl rfl (by kernel_rfl) rfl (OP.call (pre := [priA p q P]) rfl rfl hg PS rfl rfl (fun x1 M1 hM => ?_))
    obtain ⟨X, hX, rfl⟩ := hM
    refine ⟨fun _ => II, ?_⟩
    refine WH.only 16 rfl rfl (by kernel_rfl) rfl (OP.call (pre := [rsiteA st P.S]) rfl rfl (hrg st) PS rfl rfl (fun x2 M2 hM => ?_))
    obtain ⟨rfl, rfl⟩ := hM
    refine ⟨fun _ => II, ?_⟩
    refine WH.only 17 rfl rfl (by kernel_rfl) rfl (OP.callRO rfl rfl (hX.ro) (hX.ent hu hAE MM MM) rfl rfl ⟨fun _ => II, ?_⟩)
    refine WP 18 ?_
    refine DN ?_
    repeat (first | refine GD ?_ | refine NW fun _ => ?_)
    exact (show Meet _ _ _ _ _ from ⟨{ P with S := S2 }, hI.mono (by omega), ⟨rfl, rfl, rfl, rfl, rfl, rfl, rfl, rfl, trivial⟩, (show Imp _ [priA p q { P with S := S2 }, dsk q P.D, rpriA nd w { P with S := S2 }, rdsk w P.D, A] from Imp.trans II (Imp.trans (hfold v g st [priA p q { P with S := S2 }, dsk q P.D, rdsk w P.D, A]) II))⟩)
  by_cases k2 : kd = 2
  · subst k2
    have hg := write_to (writeP_er P (ci, cb, cd) e t) (pwrite_ok p q P _ I (by omega) (ci, cb, cd) (by show cd.size < 1000000; omega) e t)
    have hrg := rpwrite_ok nd w P _ I (by omega) (ci, cb, cd) (by show cd.size < 1000000; omega) e t
    have hI := (I.write (by omega) (ci, cb, cd) e t).1
    unfold RWritePost at hrg
    rw [show encCa (ci, cb, cd) = [.int .i64 ci, .int .i64 cb, .string cd] from rfl] at hg hrg
    generalize writeP P (ci, cb, cd) e t = R at *
    obtain ⟨R1, R2⟩ := R
    dsimp only at hI hg hrg
    generalize exV R1 = xv at *
    repeat (first | refine GD ?_ | refine NW fun _ => ?_)
    refine WL.step rfl (OP.call (pre := [priA p q P, dsk q P.D]) rfl rfl hg PS rfl rfl ?_)
    rintro _ _ ⟨er, kk, code, X, rfl, rfl, hX, rfl⟩
    repeat (first | refine GD ?_ | refine NW fun _ => ?_)
    refine WL.step rfl (OP.call (pre := [rpriA nd w P, rdsk w P.D]) rfl rfl hrg PS rfl rfl ?_)
    rintro _ _ ⟨rfl, rfl⟩
    repeat (first | refine GD ?_ | refine NW fun _ => ?_)
    refine WL.guardT rfl rfl rfl rfl (OP.callRO rfl rfl hX.ro (hX.ent hu hAE MM MM) rfl rfl ?_)
    repeat (first | refine GD ?_ | refine NW fun _ => ?_)
    exact (show Meet _ _ _ _ _ from ⟨R2, (hI).mono (by omega), ⟨rfl, rfl, rfl, rfl, rfl, rfl, rfl, rfl, trivial⟩, II⟩)
  by_cases k3 : kd = 3
  · subst k3
    have hg := pread_rt p q P m (I.rng (by omega))
    have hV := I.rng (by omega)
    have hrr := fun v => rvread_ro v w P.V m hV.l8 (by have := hV.J.2; have := hV.J.1; omega) (fun x hx => right_block (I.V.j.right x hx)) I.V.blks
    have hfold := fun (v g st : Nat) (N : List Assn) => rpriFold nd w P v g st (N := N)
    repeat (first | refine GD ?_ | refine NW fun _ => ?_)
    rename_i bo
    refine WL.step rfl (OP.callRT rfl rfl hg (Ent.at (up_priA _ _ _) MM) rfl rfl ?_)
    intro x0 E0 hE0
    obtain ⟨dd, er, code, X, rfl, hrv, hX, hXi⟩ := read_to hE0
    have hdd : dd = dd := rfl
    rw [hrv] at hrr
    refine WL.imp (hXi _) ?_
    repeat (first | refine GD ?_ | refine NW fun _ => ?_)
    refine WC.open (M := [X, blk bo [.int .i64 3, .int .i64 e, .int .i64 t, .int .i64 m, .int .i64 ci, .int .i64 cb, .string cd, .int .u64 kp] qoT, priA p q P, dsk q P.D, rdsk w P.D, A]) (Ls := rpriL nd w P) II (fun x => ?_)
    obtain ⟨v, g, st⟩ := x
    unfold rpriL
    unfold rndC at *
    dsimp only [List.cons_append, List.nil_append] at hfold ⊢
    refine RD 12 12 (_) ?_
    refine WP 0 ?_
    refine WP 1 ?_
    refine WP 2 ?_
    refine VV 3 ?_
    refine WP 4 ?_
    refine VV 5 ?_
    refine WH.only 6 rfl rfl (by kernel_rfl) rfl (OP.callRO rfl rfl (hrr v) (Ent.at (up_rvol _ _ _) MM) rfl rfl ⟨fun _ => II, ?_⟩)
    refine WP 7 ?_
    refine WP 8 ?_
    refine WP 9 ?_
    refine WP 10 ?_
    refine WP 11 ?_
    refine DN ?_
    repeat (first | refine GD ?_ | refine NW fun _ => ?_)
    refine WL.guardT rfl rfl rfl rfl (OP.callRO rfl rfl hX.ro (hX.ent hu hAE MM MM) rfl rfl ?_)
    repeat (first | refine GD ?_ | refine NW fun _ => ?_)
    exact (show Meet _ _ _ _ _ from ⟨P, I.mono (by omega), ⟨rfl, rfl, rfl, rfl, rfl, rfl, rfl, rfl, trivial⟩, (show Imp _ [priA p q P, dsk q P.D, rpriA nd w P, rdsk w P.D, A] from Imp.trans II (Imp.trans (hfold v g st [priA p q P, dsk q P.D, rdsk w P.D, A]) II))⟩)
  by_cases k4 : kd = 4
  · subst k4
    have hg := erPost_to (freezeP_er P m) (pfreeze_ok p q P _ I m)
    have hrg := rpfreeze_ok nd w P _ I m
    have hI := (I.freeze m).1
    unfold RErPost at hrg
    unfold PErPost at hg
    generalize freezeP P m = R at *
    obtain ⟨R1, R2⟩ := R
    dsimp only at hI hg hrg
    generalize erC R1 = code at *
    repeat (first | refine GD ?_ | refine NW fun _ => ?_)
    rename_i bo
    refine RD 12 12 ([blk bo [.int .i64 4, .int .i64 e, .int .i64 t, .int .i64 m, .int .i64 ci, .int .i64 cb, .string cd, .int .u64 kp] qoT, A]) ?_
    refine WP 0 ?_
    refine WP 1 ?_
    refine VV 2 ?_
    refine WP 4 ?_
    refine VV 5 ?_
    refine WP 6 ?_
    refine WP 7 ?_
    refine VV 8 ?_
    refine WH.only 3 rfl rfl (by kernel_rfl) rfl (OP.call (pre := [priA p q P, dsk q P.D]) rfl rfl hg PS rfl rfl (fun x1 M1 hM => ?_))
    obtain ⟨X, hX, rfl⟩ := hM
    refine ⟨fun _ => II, ?_⟩
    refine WH.only 9 rfl rfl (by kernel_rfl) rfl (OP.call (pre := [rpriA nd w P, rdsk w P.D]) rfl rfl hrg PS rfl rfl (fun x2 M2 hM => ?_))
    obtain ⟨rfl, rfl⟩ := hM
    refine ⟨fun _ => II, ?_⟩
    refine WH.only 10 rfl rfl (by kernel_rfl) rfl (OP.callRO rfl rfl (hX.ro) (hX.ent hu hAE MM MM) rfl rfl ⟨fun _ => II, ?_⟩)
    refine WP 11 ?_
    refine DN ?_
    repeat (first | refine GD ?_ | refine NW fun _ => ?_)
    exact (show Meet _ _ _ _ _ from ⟨R2, (hI).mono (by omega), ⟨rfl, rfl, rfl, rfl, rfl, rfl, rfl, rfl, trivial⟩, II⟩)
  by_cases k5 : kd = 5
  · subst k5
    have hg := erPost_to (markP_er P m) (pmark_ok p q P _ I (by omega) m)
    have hrg := rpmark_ok nd w P _ I (by omega) m
    have hI := (I.markd (by omega) m).1
    unfold RErPost at hrg
    unfold PErPost at hg
    generalize markP P m = R at *
    obtain ⟨R1, R2⟩ := R
    dsimp only at hI hg hrg
    generalize erC R1 = code at *
    repeat (first | refine GD ?_ | refine NW fun _ => ?_)
    rename_i bo
    refine RD 12 12 ([blk bo [.int .i64 5, .int .i64 e, .int .i64 t, .int .i64 m, .int .i64 ci, .int .i64 cb, .string cd, .int .u64 kp] qoT, A]) ?_
    refine WP 0 ?_
    refine WP 1 ?_
    refine VV 2 ?_
    refine WP 4 ?_
    refine VV 5 ?_
    refine WP 6 ?_
    refine WP 7 ?_
    refine VV 8 ?_
    refine WH.only 3 rfl rfl (by kernel_rfl) rfl (OP.call (pre := [priA p q P, dsk q P.D]) rfl rfl hg PS rfl rfl (fun x1 M1 hM => ?_))
    obtain ⟨X, hX, rfl⟩ := hM
    refine ⟨fun _ => II, ?_⟩
    refine WH.only 9 rfl rfl (by kernel_rfl) rfl (OP.call (pre := [rpriA nd w P, rdsk w P.D]) rfl rfl hrg PS rfl rfl (fun x2 M2 hM => ?_))
    obtain ⟨rfl, rfl⟩ := hM
    refine ⟨fun _ => II, ?_⟩
    refine WH.only 10 rfl rfl (by kernel_rfl) rfl (OP.callRO rfl rfl (hX.ro) (hX.ent hu hAE MM MM) rfl rfl ⟨fun _ => II, ?_⟩)
    refine WP 11 ?_
    refine DN ?_
    repeat (first | refine GD ?_ | refine NW fun _ => ?_)
    exact (show Meet _ _ _ _ _ from ⟨R2, (hI).mono (by omega), ⟨rfl, rfl, rfl, rfl, rfl, rfl, rfl, rfl, trivial⟩, II⟩)
  by_cases k6 : kd = 6
  · subst k6
    have hg := thaw_to (thawP_er P m t) (pthaw_ok p q P _ I (by omega) m t A hu hAE)
    have hrg := rpthaw_ok nd w P _ I (by omega) m t
    have hI := (I.thaw (by omega) m t).1
    have hfw := I.few
    have hl4 : (thawP P m t).1.length ≤ 4 := by
      rcases (I.thaw (by omega) m t).2 with ⟨_, h, _⟩ | ⟨_, _, h, _⟩
      · rw [h]; exact Nat.zero_le _
      · rw [h, letP_len]; exact hfw
    unfold RThawPost at hrg
    generalize thawP P m t = R at *
    obtain ⟨ds, R1, R2⟩ := R
    dsimp only at hI hg hrg hl4
    generalize erC R1 = code at *
    repeat (first | refine GD ?_ | refine NW fun _ => ?_)
    refine WL.step rfl (OP.call (pre := [priA p q P, dsk q P.D, A]) rfl rfl hg PS rfl rfl ?_)
    rintro _ _ ⟨oa, oc, er, X, rfl, hX, rfl⟩
    repeat (first | refine GD ?_ | refine NW fun _ => ?_)
    refine WL.step rfl (OP.call (pre := [rpriA nd w P, rdsk w P.D]) rfl rfl hrg PS rfl rfl ?_)
    rintro _ _ ⟨_, _, ⟨ra, rc, rfl, rfl⟩, rfl, rfl⟩
    dsimp only [List.cons_append, List.nil_append]
    repeat (first | refine GD ?_ | refine NW fun _ => ?_)
    refine WL.step rfl (OP.callRT rfl rfl (dlist_rt oa ds.length oc ds rfl (by omega)) (Ent.own (T := dnT) (cap := oc) MM) rfl rfl ?_)
    rintro _ _ ⟨za, zc, rfl, rfl⟩
    repeat (first | refine GD ?_ | refine NW fun _ => ?_)
    refine WL.step rfl (OP.callRO rfl rfl (dsame_ro za ra ds.length zc ds.length rc ds rfl rfl (by omega)) (Ent.and (Ent.own (T := rdT) (cap := zc) MM) (Ent.own (T := rdT) (cap := rc) MM)) rfl rfl ?_)
    repeat (first | refine GD ?_ | refine NW fun _ => ?_)
    refine WL.guardT rfl rfl rfl rfl (OP.callRO rfl rfl hX.ro (hX.ent hu hAE MM MM) rfl rfl ?_)
    repeat (first | refine GD ?_ | refine NW fun _ => ?_)
    exact (show Meet _ _ _ _ _ from ⟨R2, (hI).mono (by omega), ⟨rfl, rfl, rfl, rfl, rfl, rfl, rfl, rfl, trivial⟩, II⟩)
  by_cases k7 : kd = 7
  · subst k7
    have hg := ptick_ok p q P _ I (by omega) t A hu hAE
    have hrg := rptick_ok nd w P _ I (by omega) t
    have hI := (I.tick (by omega) t).1
    have hfw := I.few
    have hl4 : (tickP P t).1.length ≤ 4 := by
      rcases (I.tick (by omega) t).2 with ⟨h, _⟩ | ⟨_, h, _⟩
      · rw [h]; exact Nat.zero_le _
      · rw [h, letP_len]; exact hfw
    generalize tickP P t = R at *
    obtain ⟨ds, R2⟩ := R
    dsimp only at hI hg hrg hl4
    repeat (first | refine GD ?_ | refine NW fun _ => ?_)
    rename_i bo
    refine RD 11 11 ([blk bo [.int .i64 7, .int .i64 e, .int .i64 t, .int .i64 m, .int .i64 ci, .int .i64 cb, .string cd, .int .u64 kp] qoT, A]) ?_
    refine WP 0 ?_
    refine WP 1 ?_
    refine VV 2 ?_
    refine WP 5 ?_
    refine WP 6 ?_
    refine VV 7 ?_
    refine WH.only 3 rfl rfl (by kernel_rfl) rfl (OP.call (pre := [priA p q P, dsk q P.D, A]) rfl rfl hg PS rfl rfl (fun x1 M1 hM => ?_))
    obtain ⟨_, ⟨oa, oc, rfl, rfl⟩, rfl⟩ := hM
    dsimp only [List.cons_append, List.nil_append]
    refine ⟨fun _ => II, ?_⟩
    refine WH.only 4 rfl rfl (by kernel_rfl) rfl (OP.callRT rfl rfl (dlist_rt oa ds.length oc ds rfl (by omega)) (Ent.own (T := dnT) (cap := oc) MM) rfl rfl (fun x3 E3 hE3 => ?_))
    obtain ⟨za, zc, rfl, rfl⟩ := hE3
    refine ⟨fun _ => II, ?_⟩
    refine WH.only 8 rfl rfl (by kernel_rfl) rfl (OP.call (pre := [rpriA nd w P, rdsk w P.D]) rfl rfl hrg PS rfl rfl (fun x2 M2 hM => ?_))
    obtain ⟨_, ⟨ra, rc, rfl, rfl⟩, rfl⟩ := hM
    dsimp only [List.cons_append, List.nil_append]
    refine ⟨fun _ => II, ?_⟩
    refine WH.only 9 rfl rfl (by kernel_rfl) rfl (OP.callRO rfl rfl (dsame_ro za ra ds.length zc ds.length rc ds rfl rfl (by omega)) (Ent.and (Ent.own (T := rdT) (cap := zc) MM) (Ent.own (T := rdT) (cap := rc) MM)) rfl rfl ⟨fun _ => II, ?_⟩)
    refine WP 10 ?_
    refine DN ?_
    repeat (first | refine GD ?_ | refine NW fun _ => ?_)
    exact (show Meet _ _ _ _ _ from ⟨R2, (hI).mono (by omega), ⟨rfl, rfl, rfl, rfl, rfl, rfl, rfl, rfl, trivial⟩, II⟩)
  by_cases k8 : kd = 8
  · subst k8
    have hg := pship_rt p q P _ I (by omega)
    have hrg := rpship_ok nd w P _ I
    have hsl : (shipP P).length ≤ 4 := by unfold shipP; rw [List.length_take]; omega
    generalize shipP P = sp at *
    repeat (first | refine GD ?_ | refine NW fun _ => ?_)
    refine WL.step rfl (OP.callRT rfl rfl hg (Ent.at (up_priA _ _ _) MM) rfl rfl ?_)
    rintro _ _ ⟨sa, sc, rfl, rfl⟩
    repeat (first | refine GD ?_ | refine NW fun _ => ?_)
    refine WL.step rfl (OP.call (pre := [rpriA nd w P]) rfl rfl hrg PS rfl rfl ?_)
    rintro _ _ ⟨_, ⟨ra, rc, rfl, rfl⟩, rfl⟩
    dsimp only [List.cons_append, List.nil_append]
    repeat (first | refine GD ?_ | refine NW fun _ => ?_)
    refine WL.step rfl (OP.callRO rfl rfl (jsame_ro sa ra sp.length sc sp.length rc sp sp rfl rfl (by omega)) (Ent.and (Ent.own (T := 140) (cap := sc) MM) (Ent.own (T := 140) (cap := rc) MM)) rfl rfl ?_)
    rw [decide_eq_true (rfl : sp = sp)]
    repeat (first | refine GD ?_ | refine NW fun _ => ?_)
    exact (show Meet _ _ _ _ _ from ⟨P, (I).mono (by omega), ⟨rfl, rfl, rfl, rfl, rfl, rfl, rfl, rfl, trivial⟩, II⟩)
  by_cases k9 : kd = 9
  · subst k9
    have hg := erPost_to (ackP_er P m) (pack_ok p q P _ I (by omega) m)
    have hrg := rpack_ok nd w P _ I (by omega) m
    have hI := (I.acks (by omega) m).1
    unfold RErPost at hrg
    unfold PErPost at hg
    generalize ackP P m = R at *
    obtain ⟨R1, R2⟩ := R
    dsimp only at hI hg hrg
    generalize erC R1 = code at *
    repeat (first | refine GD ?_ | refine NW fun _ => ?_)
    rename_i bo
    refine RD 12 12 ([blk bo [.int .i64 9, .int .i64 e, .int .i64 t, .int .i64 m, .int .i64 ci, .int .i64 cb, .string cd, .int .u64 kp] qoT, A]) ?_
    refine WP 0 ?_
    refine WP 1 ?_
    refine VV 2 ?_
    refine WP 4 ?_
    refine VV 5 ?_
    refine WP 6 ?_
    refine WP 7 ?_
    refine VV 8 ?_
    refine WH.only 3 rfl rfl (by kernel_rfl) rfl (OP.call (pre := [priA p q P, dsk q P.D]) rfl rfl hg PS rfl rfl (fun x1 M1 hM => ?_))
    obtain ⟨X, hX, rfl⟩ := hM
    refine ⟨fun _ => II, ?_⟩
    refine WH.only 9 rfl rfl (by kernel_rfl) rfl (OP.call (pre := [rpriA nd w P, rdsk w P.D]) rfl rfl hrg PS rfl rfl (fun x2 M2 hM => ?_))
    obtain ⟨rfl, rfl⟩ := hM
    refine ⟨fun _ => II, ?_⟩
    refine WH.only 10 rfl rfl (by kernel_rfl) rfl (OP.callRO rfl rfl (hX.ro) (hX.ent hu hAE MM MM) rfl rfl ⟨fun _ => II, ?_⟩)
    refine WP 11 ?_
    refine DN ?_
    repeat (first | refine GD ?_ | refine NW fun _ => ?_)
    exact (show Meet _ _ _ _ _ from ⟨R2, (hI).mono (by omega), ⟨rfl, rfl, rfl, rfl, rfl, rfl, rfl, rfl, trivial⟩, II⟩)
  by_cases k10 : kd = 10
  · subst k10
    have hg := pcrash_ok p q P _ I (by omega) kp hkw
    have hrg := rpcrash_ok nd w P _ I (by omega) kp hkw
    obtain ⟨V', D', _, hcr, hI, _⟩ := I.crash (by omega) kp
    rw [← hcr] at hI
    clear hcr
    generalize crashP P kp = R2 at *
    repeat (first | refine GD ?_ | refine NW fun _ => ?_)
    rename_i bo
    refine RD 10 10 ([blk bo [.int .i64 10, .int .i64 e, .int .i64 t, .int .i64 m, .int .i64 ci, .int .i64 cb, .string cd, .int .u64 kp] qoT, A]) ?_
    refine WP 0 ?_
    refine WP 1 ?_
    refine VV 2 ?_
    refine WP 4 ?_
    refine WP 5 ?_
    refine VV 6 ?_
    refine WH.only 3 rfl rfl (by kernel_rfl) rfl (OP.call (pre := [priA p q P, dsk q P.D]) rfl rfl hg PS rfl rfl (fun x1 M1 hM => ?_))
    obtain ⟨rfl, rfl⟩ := hM
    refine ⟨fun _ => II, ?_⟩
    refine WH.only 7 rfl rfl (by kernel_rfl) rfl (OP.call (pre := [rpriA nd w P, rdsk w P.D]) rfl rfl hrg PS rfl rfl (fun x2 M2 hM => ?_))
    obtain ⟨rfl, rfl⟩ := hM
    refine ⟨fun _ => II, ?_⟩
    refine WH.only 8 rfl rfl (by kernel_rfl) rfl (OP.callRO rfl rfl (pplace_nil 0) (fun _ _ => trivial) rfl rfl ⟨fun _ => II, ?_⟩)
    refine WP 9 ?_
    refine DN ?_
    repeat (first | refine GD ?_ | refine NW fun _ => ?_)
    exact (show Meet _ _ _ _ _ from ⟨R2, (hI).mono (by omega), ⟨rfl, rfl, rfl, rfl, rfl, rfl, rfl, rfl, trivial⟩, II⟩)
  repeat (first | refine GD ?_ | refine NW fun _ => ?_)
  exact (show Meet _ _ _ _ _ from ⟨P, (I).mono (by omega), ⟨rfl, rfl, rfl, rfl, rfl, rfl, rfl, rfl, trivial⟩, II⟩)
end Go.Proofs.YtanjfjiaheghcaaGreatDoor
