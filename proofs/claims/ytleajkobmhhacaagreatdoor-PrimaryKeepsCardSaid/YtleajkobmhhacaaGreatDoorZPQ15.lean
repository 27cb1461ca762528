/- Contracts of functions of the given program, and plain laws: parts of the proofs of laws. -/
import Derived.Test.YtleajkobmhhacaaGreatDoorZPQ4
import Derived.Test.YtleajkobmhhacaaGreatDoorZPQ14
import Derived.Test.YtleajkobmhhacaaGreatDoorZPQ13
import Derived.Test.YtleajkobmhhacaaGreatDoorZPQ11
/- Contracts of functions of the given program, and plain laws on what they compute: parts of the proofs of laws. -/

namespace Go.Proofs.YtleajkobmhhacaaGreatDoor
open Go Go.GL

/-! PrimaryKeeps -/
abbrev stT : TypeId := 9
def strW (d : ByteArray) : List Value := [.string d]
theorem strW_len (d : ByteArray) : (strW d).length = 1 := rfl
theorem allOne_strW (w : List ByteArray) : allOne (w.flatMap strW) = true := by
  induction w with
  | nil => rfl
  | cons x r ih => rw [List.flatMap_cons]; simpa [strW, allOne, one] using ih
set_option maxHeartbeats 1000000 in
set_option maxRecDepth 10000 in
theorem pdone_ok (a : Option Addr) (c : Nat) (w : List ByteArray) (b : Int) (d : ByteArray) (s : Int) (hw : w.length = 8) (hb : 0 ≤ b ∧ b < 8) :
    Triple G 57 [.slice a 8 c, .int .i64 b, .string d, .int .i64 s] [ownS a 8 c stT 1 (w.flatMap strW)] (fun v M => ∃ a' c', v = .slice a' 8 c' ∧ M = [ownS a' 8 c' stT 1 ((if s = 0 then w else w.set b.toNat d).flatMap strW)]) := by
  refine Triple.enter Tryz.func57 rfl (by decide) rfl Tryz.ntmps57 rfl (fun F => ?_)
  by_cases h0 : s = 0
  · repeat (first | refine GD ?_ | refine NW fun _ => ?_)
    exact ret1 rfl ⟨_, ⟨a, c, rfl, rfl⟩, by rw [if_pos h0]; exact II⟩
  obtain ⟨k, rfl⟩ : ∃ k : Nat, b = k := ⟨b.toNat, by omega⟩
  have hk : k < w.length := by omega
  repeat (first | refine GD ?_ | refine NW fun _ => ?_)
  refine WL.step rfl (OP.lit0 (size := 1) rfl rfl rfl rfl rfl rfl (fun eb => ?_))
  repeat (first | refine GD ?_ | refine NW fun _ => ?_)
  refine WL.step rfl (OP.append (cs := []) (ds := w.flatMap strW) rfl rfl rfl rfl rfl rfl rfl rfl rfl P1 (Ent.own (T := stT) MM) (allOne_strW w) (by omega) (by omega) rfl rfl (fun a' cap' => ?_))
  rw [show [] ++ w.flatMap strW = w.flatMap strW from rfl]
  refine WL.fact (Ent.some (Ent.own (a := a') (n := 0 + 8) (cap := cap') (T := stT) (size := 1) (cs := w.flatMap strW) MM) (by decide)) ?_
  rintro ⟨ob, oo, rfl⟩
  repeat refine GS ?_
  refine WL.step rfl (OP.storeO (vs := strW d) (i := k * 1) rfl rfl rfl rfl rfl rfl rfl (show Imp _ (ownS (some ⟨ob, oo, none⟩) (0 + 8) cap' stT 1 (w.flatMap strW) :: _) from P1) (flat_set strW_len w k d hk) rfl ?_)
  repeat (first | refine GD ?_ | refine NW fun _ => ?_)
  exact ret1 rfl ⟨_, ⟨_, _, rfl, rfl⟩, by rw [if_neg h0, Int.toNat_natCast]; exact II⟩
/-- where the calls meet again -/
structure KSt where
  P : Pri
  Z : Pri
  l : List Call
  now : Int
  ds : List Dn
  mp : Int → Option Value
  wa : Option Addr
  wc : Nat
  oa : Option Addr
  oc : Nat
set_option maxHeartbeats 32000000 in
set_option maxRecDepth 10000 in
theorem pkeeps_ro (ring : Int) (a : Option Addr) (n c : Nat) (ops : List QOp) (hops : ∀ o ∈ ops, QWf o) (hr0 : 0 ≤ ring ∧ ring ≤ 255) (hn : n = ops.length) :
    RO G 7 [.int .u8 ring, .slice a n c] (fun h => ErrT h ∧ readS a n 8 (ops.flatMap encQ) h) (.bool true) := by
  refine RO.enter Tryz.func7 rfl (by decide) rfl Tryz.ntmps7 rfl (fun A hu hA => ?_) (up_and up_ErrT (up_readS _ _ _ _))
  have hAE : ∀ k, A k → ErrT k := fun k h => (hA k h).1
  have hR : ∀ {L}, A ∈ L → Ent L (readS a n 8 (ops.flatMap encQ)) := fun m => Ent.mem m hu fun k h => (hA k h).2
  have hw := widest_eq
  obtain ⟨r, hr, hr1, hr12⟩ : ∃ r : Nat, 1 + ring % 12 = r ∧ 1 ≤ r ∧ r ≤ 12 := ⟨(1 + ring % 12).toNat, by omega, by omega, by omega⟩
  repeat (first | refine GD ?_ | refine NW fun _ => ?_)
  refine WL.step rfl (OP.callRO rfl rfl pawake_ro (fun _ _ => trivial) rfl rfl ?_)
  repeat (first | refine GD ?_ | refine NW fun _ => ?_)
  refine WL.guardT rfl rfl rfl rfl (OP.callRO rfl rfl (pfew_ro a n c ops hn) (hR MM) rfl rfl ?_)
  cases hf : fewQ ops with
  | false =>
    repeat (first | refine GD ?_ | refine NW fun _ => ?_)
    refine WL.step rfl (OP.callRO rfl rfl pawake_ro (fun _ _ => trivial) rfl rfl ?_)
    repeat (first | refine GD ?_ | refine NW fun _ => ?_)
    exact ret1 rfl ⟨rfl, MM⟩
  | true =>
  obtain ⟨hl100, hsz⟩ := fewQ_ok hf
  obtain ⟨V, D, hopn, I0, hring, hheld, hnext, hblks, hlen, hW, _⟩ := PInv.fresh (ring := r) hr1 (by omega)
  have hcast : ((r + 11 : Nat) : Int) = (r : Int) + 11 := by omega
  rw [hcast] at hopn
  have hpo := fun q => popen_ok q r (Dsk.new ((r : Int) + 11)) (Dsk.new_ok _) (by show (0 : Nat) < 10000; decide) ⟨hr1, by omega⟩ (by unfold Dsk.new; rw [List.length_replicate]; omega) hopn I0 (by omega) hring
  have hD0 : (beginP V D 0).D = D := rfl
  have Q0 : Waits (beginP V D 0) (fun _ => none) (0 : Nat) := fun _ h => nomatch h
  have hdat0 : datsP (beginP V D 0) = List.replicate 8 (⟨#[]⟩ : ByteArray) := by unfold datsP; show V.blks.map Prod.snd = _; rw [hblks]; rfl
  generalize beginP V D 0 = P0 at *
  repeat (first | refine GD ?_ | refine NW fun _ => ?_)
  rw [hr]
  refine WL.step rfl (OP.callRO rfl rfl (psectors_ro r (by omega)) (fun _ _ => trivial) rfl rfl ?_)
  refine WL.step rfl (OP.callRT rfl rfl (dnew_rt ((r : Int) + 11)) (fun _ _ => trivial) rfl rfl ?_)
  rintro _ _ ⟨q, rfl, rfl⟩
  repeat (first | refine GD ?_ | refine NW fun _ => ?_)
  refine WL.step rfl (OP.call (pre := [dsk q (Dsk.new ((r : Int) + 11))]) rfl rfl (hpo q) PS rfl rfl ?_)
  rintro _ _ ⟨p, rfl, rfl⟩
  rw [← hD0]
  repeat (first | refine GD ?_ | refine NW fun _ => ?_)
  refine WL.step rfl (OP.makeS (z := [.string ⟨#[]⟩]) rfl rfl rfl rfl rfl rfl rfl rfl (by decide) (by decide) (by decide) rfl rfl (fun sb => ?_))
  rw [show repL [Value.string ⟨#[]⟩] (Int.toNat 8) = (List.replicate 8 (⟨#[]⟩ : ByteArray)).flatMap strW from rfl]
  repeat (first | refine GD ?_ | refine NW fun _ => ?_)
  refine WL.step rfl (OP.makeMap rfl rfl rfl rfl (fun mr => ?_))
  repeat (first | refine GD ?_ | refine NW fun _ => ?_)
  refine WC.loop (σ := Nat × Pri × (Int → Option Value) × Option Addr × Nat) (fun s => s.1 ≤ n ∧ PInv s.2.1 (3 + 30 * s.1) ∧ Waits s.2.1 s.2.2.1 s.1)
    (fun s => [(1, .val (.slice a n c)), (6, .val (.pointer (some ⟨p, 0, none⟩))), (8, .val (.slice s.2.2.2.1 8 s.2.2.2.2)), (9, .val (.map (some mr))), (47, .val (.int .i64 n)), (48, .val (.int .i64 s.1))])
    (fun s => [ownS s.2.2.2.1 8 s.2.2.2.2 stT 1 ((datsP s.2.1).flatMap strW), mapA mr s.2.2.1, priA p q s.2.1, dsk q s.2.1.D, A]) (fun s => n - s.1) (0, P0, (fun _ => none), some ⟨sb, 0, none⟩, 8) ⟨Nat.zero_le _, I0, Q0⟩ ⟨rfl, rfl, rfl, rfl, rfl, rfl, trivial⟩ (by rw [hdat0]; exact II) ?_
  clear hdat0 I0 Q0 hpo hD0 hopn hheld hring hnext hblks hlen hW
  clear P0
  rintro ⟨k, P, mp, wa, wc⟩ ⟨hkn, I, Q⟩
  dsimp only at hkn I Q ⊢
  have hV := I.rng (by omega)
  by_cases hlt : k < n
  · have hlk : k < ops.length := by omega
    have hszk := hsz _ (List.getElem_mem hlk)
    have hkw := hops _ (List.getElem_mem hlk)
    refine WC.fact (Ent.some (hR MM) (by omega)) ?_
    rintro ⟨b, off, rfl⟩
    repeat (first | refine GD ?_ | refine NW fun _ => ?_)
    refine WL.step rfl (OP.loadA (l := encQ ops[k]) rfl rfl rfl rfl (Ent.elA encQ_len (hR MM) hlk) rfl rfl rfl ?_)
    generalize ops[k] = o at *
    obtain ⟨kd, e, t, m, ⟨ci, cb, cd⟩, kp⟩ := o
    dsimp only at hszk
    unfold QWf at hkw
    dsimp only at hkw
    rw [show encQ (kd, e, t, m, (ci, cb, cd), kp) = [.int .i64 kd, .int .i64 e, .int .i64 t, .int .i64 m, .int .i64 ci, .int .i64 cb, .string cd, .int .u64 kp] from rfl]
    refine WL.meet2 (Meet (fun s : KSt => KeepD s.P s.Z (3 + 30 * (k : Int) + 8) s.now s.l s.ds s.mp ((k : Int) + 1))
      (fun s => [(1, .val (.slice (some ⟨b, off, none⟩) n c)), (6, .val (.pointer (some ⟨p, 0, none⟩))), (8, .val (.slice s.wa 8 s.wc)), (9, .val (.map (some mr))), (12, .val (.slice s.oa s.ds.length s.oc)), (47, .val (.int .i64 n)), (48, .val (.int .i64 k))])
      (fun s => [ownS s.wa 8 s.wc stT 1 ((datsP s.Z).flatMap strW), ownS s.oa s.ds.length s.oc dnT 3 (s.ds.flatMap encDn), mapA mr s.mp, priA p q s.P, dsk q s.P.D, A])) ?_ (Meet.go ?_)
    rotate_left
    · rintro ⟨P', Pz, l, now, ds, mp2, wa2, wc2, oa, oc⟩ K
      dsimp only at K ⊢
      clear I Q hV hszk hkw mp wa wc
      obtain ⟨IF, hdl⟩ := K.inv (by omega)
      have hVF := IF.rng (by omega)
      have hlen8 := IF.V.b8
      have hf4 := K.few
      repeat (first | refine GD ?_ | refine NW fun _ => ?_)
      refine WC.loop (σ := Nat × Option Addr × Nat) (fun s => s.1 ≤ l.length)
        (fun s => [(1, .val (.slice (some ⟨b, off, none⟩) n c)), (6, .val (.pointer (some ⟨p, 0, none⟩))), (8, .val (.slice s.2.1 8 s.2.2)), (9, .val (.map (some mr))), (12, .val (.slice oa ds.length oc)), (47, .val (.int .i64 n)), (48, .val (.int .i64 k)), (136, .val (.int .i64 ds.length)), (137, .val (.int .i64 s.1))])
        (fun s => [ownS s.2.1 8 s.2.2 stT 1 ((datsP (letP Pz now (l.take s.1)).2).flatMap strW), ownS oa ds.length oc dnT 3 (ds.flatMap encDn), mapA mr mp2, priA p q P', dsk q P'.D, A]) (fun s => l.length - s.1) (0, wa2, wc2) (Nat.zero_le _) ⟨rfl, rfl, rfl, rfl, rfl, rfl, rfl, rfl, rfl, trivial⟩ II ?_
      rintro ⟨j, wa, wc⟩ hj
      dsimp only at hj ⊢
      by_cases hjl : j < l.length
      · obtain ⟨sq, code, hdj, hcs⟩ := K.step (by omega) hjl
        have hlm := K.lm _ (List.getElem_mem hjl)
        have hlr := (K.lr _ (List.getElem_mem hjl)).1
        have hd8 : (datsP (letP Pz now (l.take j)).2).length = 8 := by
          unfold datsP
          rw [List.length_map]
          exact ((K.I.letK (now := now) (by have := K.few; omega) K.lr j (by omega)).1).V.b8
        have hjd : j < ds.length := by omega
        have hdj2 : ds[j] = (l[j].1, sq, code) := by
          rw [List.getElem?_eq_getElem hjd] at hdj
          exact Option.some.inj hdj
        generalize hPe : (letP Pz now (l.take (j + 1))).2 = Pn at *
        generalize (letP Pz now (l.take j)).2 = Pj at *
        generalize l[j] = cl at *
        obtain ⟨i0, b0, d0⟩ := cl
        dsimp only at hdj2 hlm hlr hcs
        have hdn := pdone_ok wa wc (datsP Pj) b0 d0 sq hd8 hlr
        have hPn : datsP Pn = if sq = 0 then datsP Pj else (datsP Pj).set b0.toNat d0 := by
          rcases hcs with ⟨h, _, h2⟩ | ⟨h, _, h2⟩
          · rw [if_pos h, h2]
          · rw [if_neg h, h2]
        rw [← hPn] at hdn
        refine WC.fact (Ent.some (Ent.own (a := oa) (n := ds.length) (cap := oc) (T := dnT) (size := 3) (cs := ds.flatMap encDn) MM) (by omega)) ?_
        rintro ⟨ob, ooff, rfl⟩
        have hel : ∀ {L : List Assn} {i : Nat} {v : Value}, ownS (some ⟨ob, ooff, none⟩) ds.length oc dnT 3 (ds.flatMap encDn) ∈ L → Nat.blt i 3 = true → (encDn (i0, sq, code))[i]? = some v → Ent L (cellAt ob (ooff + j * 3 + i) v) := fun m hi hv => Ent.elF encDn_len (Ent.own (T := dnT) m) hjd hi (by rw [hdj2]; exact hv)
        have hca : caV (i0, b0, d0) = .agg #[.int .i64 i0, .int .i64 b0, .string d0] := rfl
        rw [hca] at hlm
        repeat (first | refine GD ?_ | refine NW fun _ => ?_)
        refine WL.step rfl (OP.load1 (v := .int .i64 i0) rfl rfl rfl rfl (hel (i := 0) MM rfl rfl) rfl rfl ?_)
        repeat (first | refine GD ?_ | refine NW fun _ => ?_)
        refine WL.step rfl (OP.lookupOk (z := .agg #[.int .i64 0, .int .i64 0, .string ⟨#[]⟩]) (m := mp2) rfl rfl rfl rfl rfl rfl rfl rfl rfl (Ent.at (up_mapA _ _) MM) rfl rfl ?_)
        rw [hlm]
        dsimp only [Option.getD, Option.isSome]
        repeat (first | refine GD ?_ | refine NW fun _ => ?_)
        rename_i cbk
        refine RD 17 17 (_) ?_
        refine WP 0 ?_
        refine WP 1 ?_
        refine WP 2 ?_
        refine WP 3 ?_
        refine WP 4 ?_
        refine WP 5 ?_
        refine WP 6 ?_
        refine VG 7 rfl (Quiet.load (v := .int .i64 sq) rfl rfl rfl (.inl ⟨rfl, hel (i := 1) MM rfl rfl⟩)) ?_
        refine WP 8 ?_
        refine WP 9 ?_
        refine WP 10 ?_
        refine WP 11 ?_
        refine WP 12 ?_
        refine VG 13 rfl (Quiet.load (v := .int .i64 code) rfl rfl rfl (.inl ⟨rfl, hel (i := 2) MM rfl rfl⟩)) ?_
        refine WP 14 ?_
        refine WP 15 ?_
        refine WP 16 ?_
        refine DN ?_
        rcases hcs with ⟨rfl, hc, _⟩ | ⟨hs, rfl, _⟩
        · rw [decide_eq_false hc]
          repeat (first | refine GD ?_ | refine NW fun _ => ?_)
          refine RD 10 12 (_) ?_
          refine WP 0 ?_
          refine WP 1 ?_
          refine VV 2 ?_
          refine WP 3 ?_
          refine VV 4 ?_
          refine WP 5 ?_
          refine WP 6 ?_
          refine WP 7 ?_
          refine WP 8 ?_
          refine VL 9 (.int .i64 0) rfl rfl rfl rfl (.inl ⟨rfl, hel (i := 1) MM rfl rfl⟩) ?_
          refine WH.only 10 rfl rfl (by kernel_rfl) rfl (OP.call (pre := [ownS wa 8 wc stT 1 ((datsP Pj).flatMap strW)]) rfl rfl hdn PS rfl rfl (fun x M hM => ?_))
          obtain ⟨wa3, wc3, rfl, rfl⟩ := hM
          refine ⟨(fun h => nomatch h), ?_⟩
          refine WP 11 ?_
          refine DN ?_
          repeat (first | refine GD ?_ | refine NW fun _ => ?_)
          exact ⟨(j + 1, wa3, wc3), hjl, by dsimp only; omega, ⟨rfl, rfl, rfl, rfl, rfl, rfl, rfl, rfl, rfl, trivial⟩, by dsimp only; rw [hPe]; exact II⟩
        · rw [decide_eq_false hs]
          repeat (first | refine GD ?_ | refine NW fun _ => ?_)
          refine RD 10 12 (_) ?_
          refine WP 0 ?_
          refine WP 1 ?_
          refine VV 2 ?_
          refine WP 3 ?_
          refine VV 4 ?_
          refine WP 5 ?_
          refine WP 6 ?_
          refine WP 7 ?_
          refine WP 8 ?_
          refine VL 9 (.int .i64 sq) rfl rfl rfl rfl (.inl ⟨rfl, hel (i := 1) MM rfl rfl⟩) ?_
          refine WH.only 10 rfl rfl (by kernel_rfl) rfl (OP.call (pre := [ownS wa 8 wc stT 1 ((datsP Pj).flatMap strW)]) rfl rfl hdn PS rfl rfl (fun x M hM => ?_))
          obtain ⟨wa3, wc3, rfl, rfl⟩ := hM
          refine ⟨(fun h => nomatch h), ?_⟩
          refine WP 11 ?_
          refine DN ?_
          repeat (first | refine GD ?_ | refine NW fun _ => ?_)
          exact ⟨(j + 1, wa3, wc3), hjl, by dsimp only; omega, ⟨rfl, rfl, rfl, rfl, rfl, rfl, rfl, rfl, rfl, trivial⟩, by dsimp only; rw [hPe]; exact II⟩
      have hje : j = l.length := by omega
      rw [hje, K.datsEnd]
      have hd8 : (datsP P').length = 8 := by unfold datsP; rw [List.length_map]; exact hlen8
      repeat (first | refine GD ?_ | refine NW fun _ => ?_)
      refine WC.loop (σ := Nat) (fun i => i ≤ 8)
        (fun i => [(1, .val (.slice (some ⟨b, off, none⟩) n c)), (6, .val (.pointer (some ⟨p, 0, none⟩))), (8, .val (.slice wa 8 wc)), (9, .val (.map (some mr))), (47, .val (.int .i64 n)), (48, .val (.int .i64 k)), (180, .val (.int .i64 8)), (181, .val (.int .i64 i))])
        (fun _ => [ownS wa 8 wc stT 1 ((datsP P').flatMap strW), mapA mr mp2, priA p q P', dsk q P'.D, A]) (fun i => 8 - i) 0 (Nat.zero_le _) ⟨rfl, rfl, rfl, rfl, rfl, rfl, rfl, rfl, trivial⟩ II ?_
      intro i hi
      by_cases hi8 : i < 8
      · have hib : i < P'.V.blks.length := by omega
        have hrd := pread_rt p q P' i hVF
        have hrv : readV P'.V i = .ok (P'.V.blks[i]).2 := by
          unfold readV
          rw [if_neg (fun h => h ⟨by omega, by omega⟩), Int.toNat_natCast, getD_lt hib]
        have hig : (datsP P')[i]'(by omega) = (P'.V.blks[i]).2 := by unfold datsP; exact List.getElem_map _
        refine WC.fact (Ent.some (Ent.own (a := wa) (n := 8) (cap := wc) (T := stT) (size := 1) (cs := (datsP P').flatMap strW) MM) (by omega)) ?_
        rintro ⟨sb2, soff, rfl⟩
        have hel : ∀ {L : List Assn}, ownS (some ⟨sb2, soff, none⟩) 8 wc stT 1 ((datsP P').flatMap strW) ∈ L → Ent L (cellAt sb2 (soff + i * 1) (.string (P'.V.blks[i]).2)) := fun m => by
          have h := Ent.elF (f := strW) strW_len (l := datsP P') (k := i) (j := 0) (v := .string (P'.V.blks[i]).2) (Ent.own (T := stT) m) (by omega) rfl (by rw [hig]; rfl)
          rwa [Nat.add_zero] at h
        generalize (P'.V.blks[i]).2 = bi at *
        repeat (first | refine GD ?_ | refine NW fun _ => ?_)
        refine WL.step rfl (OP.callRT rfl rfl hrd (Ent.at (up_priA _ _ _) MM) rfl rfl ?_)
        intro w E hE
        unfold PReadPost at hE
        rw [hrv] at hE
        obtain ⟨rfl, rfl⟩ := hE
        repeat (first | refine GD ?_ | refine NW fun _ => ?_)
        refine WL.step rfl (OP.load1 (v := .string bi) rfl rfl rfl rfl (hel MM) rfl rfl ?_)
        repeat (first | refine GD ?_ | refine NW fun _ => ?_)
        rw [decide_eq_true (rfl : bi = bi)]
        repeat (first | refine GD ?_ | refine NW fun _ => ?_)
        exact ⟨i + 1, hi8, by omega, ⟨rfl, rfl, rfl, rfl, rfl, rfl, rfl, rfl, trivial⟩, II⟩
      repeat (first | refine GD ?_ | refine NW fun _ => ?_)
      exact ⟨(k + 1, P', mp2, wa, wc), ⟨hlt, IF.mono (by dsimp only; omega), K.gw⟩, by dsimp only; omega, ⟨rfl, rfl, rfl, rfl, rfl, rfl, trivial⟩, II⟩
    by_cases h1 : kd = 1
    · have hg := pgrant_ok p q P e t I.st
      have hI := (I.grant e t).1
      have hD : (grantP P e t).2.D = P.D := by rw [(I.grant e t).2.1]
      have hQ : Waits (grantP P e t).2 mp ((k : Int) + 1) := by rw [(I.grant e t).2.1]; exact Waits.mono (P := { P with S := (grantS P.S e t).2 }) Q (by omega)
      have hdat : datsP (grantP P e t).2 = datsP P := by rw [(I.grant e t).2.1]; rfl
      generalize grantP P e t = R at *
      repeat (first | refine GD ?_ | refine NW fun _ => ?_)
      refine WL.step rfl (OP.call (pre := [priA p q P]) rfl rfl hg PS rfl rfl ?_)
      rintro _ _ ⟨E, hE, rfl⟩
      rw [List.append_assoc, ← hD]
      repeat (first | refine GD ?_ | refine NW fun _ => ?_)
      exact (show Meet _ _ _ _ _ from ⟨⟨R.2, R.2, [], 0, [], mp, wa, wc, none, 0⟩, KeepD.none (hI.mono (by omega)) hQ, ⟨rfl, rfl, rfl, rfl, rfl, rfl, rfl, trivial⟩, by dsimp only; rw [hdat]; exact Imp.trans (Imp.nilS dnT 3) (Imp.trans (Imp.cons (Imp.dropA E _)) II)⟩)
    by_cases h2 : kd = 2
    · have hg := pwrite_ok p q P _ I (by omega) ((k : Int), cb, cd) (by show cd.size < 1000000; omega) e t
      have hI := (I.write (by omega) ((k : Int), cb, cd) e t).1
      have hK := keepWrite I (by omega) Q cb cd e t
      have hd8 : (datsP P).length = 8 := by unfold datsP; rw [List.length_map]; exact I.V.b8
      rw [show encCa ((k : Int), cb, cd) = [.int .i64 k, .int .i64 cb, .string cd] from rfl] at hg
      generalize writeP P ((k : Int), cb, cd) e t = R at *
      obtain ⟨R1, R2⟩ := R
      dsimp only at hI hK
      repeat (first | refine GD ?_ | refine NW fun _ => ?_)
      refine WL.step rfl (OP.call (pre := [priA p q P, dsk q P.D]) rfl rfl hg PS rfl rfl ?_)
      rcases hK with ⟨⟨er, rfl⟩, hdat, hQ⟩ | ⟨sq, rfl, hcb, hQ, hdat⟩
      · rintro _ _ ⟨_, E, hE, rfl, rfl⟩
        obtain ⟨ch, _, rfl, rfl⟩ := hE
        dsimp only
        cases ch with
        | nil =>
          dsimp only [valOf, List.cons_append, List.nil_append]
          repeat (first | refine GD ?_ | refine NW fun _ => ?_)
          exact (show Meet _ _ _ _ _ from ⟨⟨R2, R2, [], 0, [], mp, wa, wc, none, 0⟩, KeepD.none (hI.mono (by omega)) hQ, ⟨rfl, rfl, rfl, rfl, rfl, rfl, rfl, trivial⟩, by dsimp only; rw [hdat]; exact Imp.trans (Imp.nilS dnT 3) (II)⟩)
        | cons y ch =>
          dsimp only [valOf, List.cons_append, List.nil_append]
          repeat (first | refine GD ?_ | refine NW fun _ => ?_)
          exact (show Meet _ _ _ _ _ from ⟨⟨R2, R2, [], 0, [], mp, wa, wc, none, 0⟩, KeepD.none (hI.mono (by omega)) hQ, ⟨rfl, rfl, rfl, rfl, rfl, rfl, rfl, trivial⟩, by dsimp only; rw [hdat]; exact Imp.trans (Imp.nilS dnT 3) (II)⟩)
      · rintro _ _ ⟨rfl, rfl⟩
        have hdn := pdone_ok wa wc (datsP P) cb cd sq hd8 hcb
        have hdat2 : datsP R2 = if sq = 0 then datsP P else (datsP P).set cb.toNat cd := by
          rcases hdat with ⟨h, h2⟩ | ⟨h, h2⟩
          · rw [if_pos h, h2]
          · rw [if_neg h, h2]
        rw [← hdat2] at hdn
        dsimp only [List.cons_append, List.nil_append]
        repeat (first | refine GD ?_ | refine NW fun _ => ?_)
        refine WL.step rfl (OP.call (pre := [ownS wa 8 wc stT 1 ((datsP P).flatMap strW)]) rfl rfl hdn PS rfl rfl ?_)
        rintro _ _ ⟨wa2, wc2, rfl, rfl⟩
        dsimp only [List.cons_append, List.nil_append]
        repeat (first | refine GD ?_ | refine NW fun _ => ?_)
        refine WL.step rfl (OP.mapUpdate rfl rfl rfl rfl rfl rfl rfl rfl (show Imp _ (mapA mr mp :: _) from P1) rfl ?_)
        repeat (first | refine GD ?_ | refine NW fun _ => ?_)
        exact (show Meet _ _ _ _ _ from ⟨⟨R2, R2, [], 0, [], updM mp k (caV (k, cb, cd)), wa2, wc2, none, 0⟩, KeepD.none (hI.mono (by omega)) hQ, ⟨rfl, rfl, rfl, rfl, rfl, rfl, rfl, trivial⟩, Imp.trans (Imp.nilS dnT 3) II⟩)
    by_cases h4 : kd = 4
    · have hg := pfreeze_ok p q P _ I m
      have hI := (I.freeze m).1
      have hQ : Waits (freezeP P m).2 mp ((k : Int) + 1) := by
        rcases (I.freeze m).2.2.2.2.2 with h | h
        · intro c hc; rw [h.2.2.2.2.2] at hc; exact ⟨(Q c hc).1, by have := (Q c hc).2; omega⟩
        · rw [h.2]; exact Waits.mono Q (by omega)
      have hdat : datsP (freezeP P m).2 = datsP P := by unfold datsP; rw [(I.freeze m).2.1]
      generalize freezeP P m = R at *
      repeat (first | refine GD ?_ | refine NW fun _ => ?_)
      refine WL.step rfl (OP.call (pre := [priA p q P, dsk q P.D]) rfl rfl hg PS rfl rfl ?_)
      rintro _ _ ⟨E, hE, rfl⟩
      rw [List.append_assoc]
      repeat (first | refine GD ?_ | refine NW fun _ => ?_)
      exact (show Meet _ _ _ _ _ from ⟨⟨R.2, R.2, [], 0, [], mp, wa, wc, none, 0⟩, KeepD.none (hI.mono (by omega)) hQ, ⟨rfl, rfl, rfl, rfl, rfl, rfl, rfl, trivial⟩, by dsimp only; rw [hdat]; exact Imp.trans (Imp.nilS dnT 3) (Imp.trans (Imp.cons (Imp.dropA E _)) II)⟩)
    by_cases h5 : kd = 5
    · have hg := pmark_ok p q P _ I (by omega) m
      have hI := (I.markd (by omega) m).1
      have hQD : Waits (markP P m).2 mp ((k : Int) + 1) ∧ datsP (markP P m).2 = datsP P := by
        rcases (I.markd (by omega) m).2 with h | ⟨_, _, _, h | h⟩
        · rw [h.2]; exact ⟨Waits.mono Q (by omega), rfl⟩
        · rw [h.1]; exact ⟨Waits.mono Q (by omega), rfl⟩
        · refine ⟨fun c hc => ?_, by unfold datsP; rw [h.2.2.2.1]⟩
          rw [h.2.2.2.2.2.2.1] at hc
          exact ⟨(Q c hc).1, by have := (Q c hc).2; omega⟩
      obtain ⟨hQ, hdat⟩ := hQD
      generalize markP P m = R at *
      repeat (first | refine GD ?_ | refine NW fun _ => ?_)
      refine WL.step rfl (OP.call (pre := [priA p q P, dsk q P.D]) rfl rfl hg PS rfl rfl ?_)
      rintro _ _ ⟨E, hE, rfl⟩
      rw [List.append_assoc]
      repeat (first | refine GD ?_ | refine NW fun _ => ?_)
      exact (show Meet _ _ _ _ _ from ⟨⟨R.2, R.2, [], 0, [], mp, wa, wc, none, 0⟩, KeepD.none (hI.mono (by omega)) hQ, ⟨rfl, rfl, rfl, rfl, rfl, rfl, rfl, trivial⟩, by dsimp only; rw [hdat]; exact Imp.trans (Imp.nilS dnT 3) (Imp.trans (Imp.cons (Imp.dropA E _)) II)⟩)
    by_cases h6 : kd = 6
    · have hg := pthaw_ok p q P _ I (by omega) m t A hu hAE
      obtain ⟨Pz, l, hdat, hK⟩ := keepThaw I (by omega) (Waits.mono Q (show (k : Int) ≤ (k : Int) + 1 by omega)) m t
      generalize thawP P m t = R at *
      repeat (first | refine GD ?_ | refine NW fun _ => ?_)
      refine WL.step rfl (OP.call (pre := [priA p q P, dsk q P.D, A]) rfl rfl hg PS rfl rfl ?_)
      rintro _ _ ⟨_, _, er, E', ⟨oa, oc, rfl, rfl⟩, _, rfl, rfl⟩
      rw [List.append_assoc, List.append_assoc]
      repeat (first | refine GD ?_ | refine NW fun _ => ?_)
      exact (show Meet _ _ _ _ _ from ⟨⟨R.2.2, Pz, l, t, R.1, mp, wa, wc, oa, oc⟩, { hK with I := hK.I.mono (by omega) }, ⟨rfl, rfl, rfl, rfl, rfl, rfl, rfl, trivial⟩, by dsimp only; rw [hdat]; exact Imp.trans (Imp.dropA E' _) II⟩)
    by_cases h7 : kd = 7
    · have hg := ptick_ok p q P _ I (by omega) t A hu hAE
      obtain ⟨Pz, l, hdat, hK⟩ := keepTick I (by omega) (Waits.mono Q (show (k : Int) ≤ (k : Int) + 1 by omega)) t
      generalize tickP P t = R at *
      repeat (first | refine GD ?_ | refine NW fun _ => ?_)
      refine WL.step rfl (OP.call (pre := [priA p q P, dsk q P.D, A]) rfl rfl hg PS rfl rfl ?_)
      rintro _ _ ⟨_, ⟨oa, oc, rfl, rfl⟩, rfl⟩
      rw [List.append_assoc]
      repeat (first | refine GD ?_ | refine NW fun _ => ?_)
      exact (show Meet _ _ _ _ _ from ⟨⟨R.2, Pz, l, t, R.1, mp, wa, wc, oa, oc⟩, hK, ⟨rfl, rfl, rfl, rfl, rfl, rfl, rfl, trivial⟩, by dsimp only; rw [hdat]; exact II⟩)
    by_cases h9 : kd = 9
    · have hg := pack_ok p q P _ I (by omega) m
      have hI := (I.acks (by omega) m).1
      have hQD : Waits (ackP P m).2 mp ((k : Int) + 1) ∧ datsP (ackP P m).2 = datsP P := by
        rcases (I.acks (by omega) m).2 with h | h
        · rw [h.2]; exact ⟨Waits.mono Q (by omega), rfl⟩
        · refine ⟨fun c hc => ?_, by unfold datsP; rw [h.2.2.2.2.1]⟩
          rw [h.2.2.2.2.2.2.2.2.2.1] at hc
          exact ⟨(Q c hc).1, by have := (Q c hc).2; omega⟩
      obtain ⟨hQ, hdat⟩ := hQD
      generalize ackP P m = R at *
      repeat (first | refine GD ?_ | refine NW fun _ => ?_)
      refine WL.step rfl (OP.call (pre := [priA p q P, dsk q P.D]) rfl rfl hg PS rfl rfl ?_)
      rintro _ _ ⟨E, hE, rfl⟩
      rw [List.append_assoc]
      repeat (first | refine GD ?_ | refine NW fun _ => ?_)
      exact (show Meet _ _ _ _ _ from ⟨⟨R.2, R.2, [], 0, [], mp, wa, wc, none, 0⟩, KeepD.none (hI.mono (by omega)) hQ, ⟨rfl, rfl, rfl, rfl, rfl, rfl, rfl, trivial⟩, by dsimp only; rw [hdat]; exact Imp.trans (Imp.nilS dnT 3) (Imp.trans (Imp.cons (Imp.dropA E _)) II)⟩)
    by_cases h10 : kd = 10
    · have hg := pcrash_ok p q P _ I (by omega) kp hkw
      obtain ⟨V', D', _, hcr, hI, hbl, _⟩ := I.crash (by omega) kp
      have hQ : Waits (crashP P kp) mp ((k : Int) + 1) := by rw [hcr]; exact fun _ h => nomatch h
      have hdat : datsP (crashP P kp) = datsP P := by rw [hcr]; unfold datsP; show V'.blks.map _ = _; rw [hbl]
      rw [← hcr] at hI
      generalize crashP P kp = R at *
      repeat (first | refine GD ?_ | refine NW fun _ => ?_)
      refine WL.step rfl (OP.call (pre := [priA p q P, dsk q P.D]) rfl rfl hg PS rfl rfl ?_)
      rintro _ _ ⟨rfl, rfl⟩
      dsimp only [List.cons_append, List.nil_append]
      repeat (first | refine GD ?_ | refine NW fun _ => ?_)
      exact (show Meet _ _ _ _ _ from ⟨⟨R, R, [], 0, [], mp, wa, wc, none, 0⟩, KeepD.none (hI.mono (by omega)) hQ, ⟨rfl, rfl, rfl, rfl, rfl, rfl, rfl, trivial⟩, by dsimp only; rw [hdat]; exact Imp.trans (Imp.nilS dnT 3) (II)⟩)
    have hdat : datsP P = datsP P := rfl
    repeat (first | refine GD ?_ | refine NW fun _ => ?_)
    exact (show Meet _ _ _ _ _ from ⟨⟨P, P, [], 0, [], mp, wa, wc, none, 0⟩, KeepD.none (I.mono (by omega)) (Waits.mono Q (by omega)), ⟨rfl, rfl, rfl, rfl, rfl, rfl, rfl, trivial⟩, by dsimp only; rw [hdat]; exact Imp.trans (Imp.nilS dnT 3) (II)⟩)
  repeat (first | refine GD ?_ | refine NW fun _ => ?_)
  exact ret1 rfl ⟨rfl, MM⟩
end Go.Proofs.YtleajkobmhhacaaGreatDoor
