/- Contracts of functions of the given program, and plain laws: parts of the proofs of laws. -/
import Derived.Test.YteednjcoapmkaaaGreatDoorZVol7
import Derived.Test.YteednjcoapmkaaaGreatDoorZVol17
import Derived.Test.YteednjcoapmkaaaGreatDoorZVol16
/- Contracts of functions of the given program, and plain laws on what they compute: parts of the proofs of laws. -/

namespace Go.Proofs.YteednjcoapmkaaaGreatDoor
open Go Go.GL

theorem headOf_slot {b : List UInt8} {slot : Int} {h : Hd} (e : headOf b slot = some h) : h.turn % 2 = slot := by
  unfold headOf at e
  split at e
  · rename_i hc
    simp only [Option.some.injEq] at e
    subst e
    exact hc.2.2.2.2.1
  · cases e
/-- what the document's Open knows of the heads -/
theorem heads_cases (a b : List UInt8) : ∃ T0 F0 G0 L0 T1 F1 G1 L1 : Int, QHeadV a 0 = .tuple #[.int .i64 T0, .int .i64 F0, .int .i64 G0, .int .i64 L0] ∧ QHeadV b 1 = .tuple #[.int .i64 T1, .int .i64 F1, .int .i64 G1, .int .i64 L1] ∧
    (T1 < T0 → newestM a b = some ⟨T0, F0, G0, L0⟩) ∧ (T0 < T1 → newestM a b = some ⟨T1, F1, G1, L1⟩) ∧ (T0 = T1 → T0 = -1 ∧ newestM a b = if a = zero64 ∧ b = zero64 then some hd0 else none) ∧ -1 ≤ T0 ∧ -1 ≤ T1 := by
  unfold QHeadV newestM
  cases ha : headOf a 0 with
  | none =>
    cases hb : headOf b 1 with
    | none => exact ⟨_, _, _, _, _, _, _, _, rfl, rfl, fun h => by omega, fun h => by omega, fun _ => ⟨rfl, rfl⟩, by decide, by decide⟩
    | some y =>
      have := headOf_wide hb
      exact ⟨_, _, _, _, _, _, _, _, rfl, rfl, fun h => by omega, fun _ => rfl, fun h => by omega, by decide, by omega⟩
  | some x =>
    have hx := headOf_wide ha
    have sx := headOf_slot ha
    cases hb : headOf b 1 with
    | none => exact ⟨_, _, _, _, _, _, _, _, rfl, rfl, fun _ => rfl, fun h => by omega, fun h => by omega, by omega, by decide⟩
    | some y =>
      have hy := headOf_wide hb
      have sy := headOf_slot hb
      refine ⟨_, _, _, _, _, _, _, _, rfl, rfl, fun h => ?_, fun h => ?_, fun h => by omega, by omega, by omega⟩
      · dsimp only; rw [if_neg (by omega)]
      · dsimp only; rw [if_pos h]
theorem zeros_two {a b : List UInt8} (ha : a.length = 64) : (ba a ++ ba b = ba (List.replicate 128 0)) ↔ (a = zero64 ∧ b = zero64) := by
  rw [ba_app]
  constructor
  · intro h
    have h2 := ba_inj h
    have h3 : a ++ b = zero64 ++ zero64 := h2.trans (by unfold zero64; rw [List.replicate_append_replicate])
    exact List.append_inj h3 (by rw [ha]; rfl)
  · rintro ⟨rfl, rfl⟩
    unfold zero64
    rw [List.replicate_append_replicate]
def ROpenJ (p : Nat) (D : Dsk) (ring : Int) (v : Value) (M : List Assn) : Prop := match openM D ring with
  | .ok (J, D') => ∃ j, v = .tuple #[.pointer (some ⟨j, 0, none⟩), .int .i64 0] ∧ M = [rjrn j p J, rdsk p D']
  | .error c => v = .tuple #[.pointer none, .int .i64 c] ∧ M = [rdsk p D]
theorem decR_err {l : List UInt8} {c : Int} (h : decR l = .error c) : c ≠ 0 := by
  unfold decR at h
  split at h
  · split at h <;> cases h; decide
  · cases h; decide
set_option maxHeartbeats 16000000 in
set_option maxRecDepth 10000 in
theorem ropen_ok (p : Nat) (D : Dsk) (ring : Int) (hD : D.ok) (hw : D.W.length < 10000) (hr64 : -9223372036854775808 ≤ ring ∧ ring ≤ 9223372036854775807) :
    Triple G 11 [.pointer (some ⟨p, 0, none⟩), .int .i64 ring] [rdsk p D] (ROpenJ p D ring) := by
  refine Triple.enter Tryz.func11 rfl (by decide) rfl Tryz.ntmps11 rfl (fun F => ?_)
  have hwd : widest = 1152921504606846975 := rfl
  have hfew := hD.few
  have hdef : openM D ring = if ring < 1 ∨ 512 < ring ∨ (D.S.length : Int) < 2 + ring then .error 1
    else match newestM (D.cur 0) (D.cur 1) with
    | none => .error 4
    | some h => .ok (⟨ring.toNat, { h with gen := h.gen + 1, turn := h.turn + 1 }, scanM D ring.toNat h⟩, saveM D { h with gen := h.gen + 1, turn := h.turn + 1 }) := rfl
  by_cases h1 : ring < 1
  · have hop : openM D ring = .error 1 := by rw [hdef, if_pos (.inl h1)]
    repeat (first | refine GD ?_ | refine NW fun _ => ?_)
    refine ret2 rfl rfl ⟨[rdsk p D], ?_, Imp.refl _⟩
    unfold ROpenJ
    rw [hop]
    exact ⟨rfl, rfl⟩
  by_cases h2 : 512 < ring
  · have hop : openM D ring = .error 1 := by rw [hdef, if_pos (.inr (.inl h2))]
    repeat (first | refine GD ?_ | refine NW fun _ => ?_)
    refine ret2 rfl rfl ⟨[rdsk p D], ?_, Imp.refl _⟩
    unfold ROpenJ
    rw [hop]
    exact ⟨rfl, rfl⟩
  refine WC.open P1 (fun x => ?_)
  unfold rdskL
  dsimp only [List.cons_append, List.nil_append]
  by_cases h3 : (D.S.length : Int) < 2 + ring
  · have hop : openM D ring = .error 1 := by rw [hdef, if_pos (.inr (.inr h3))]
    repeat (first | refine GD ?_ | refine NW fun _ => ?_)
    refine ret2 rfl rfl ⟨[rdsk p D], ?_, Imp.trans II (rdskFold p D x)⟩
    unfold ROpenJ
    rw [hop]
    exact ⟨rfl, rfl⟩
  rw [if_neg (by omega)] at hdef
  obtain ⟨n, rfl⟩ : ∃ n : Nat, ring = n := ⟨ring.toNat, by omega⟩
  rw [Int.toNat_natCast] at hdef
  have hr0 : RRdV D 0 = .tuple #[.string (ba (D.cur 0)), .int .i64 0] := by unfold RRdV; rw [if_pos (by omega)]; rfl
  have hr1 : RRdV D 1 = .tuple #[.string (ba (D.cur 1)), .int .i64 0] := by unfold RRdV; rw [if_pos (by omega)]; rfl
  have hrd0 := rdread_ro p D 0 (by omega)
  have hrd1 := rdread_ro p D 1 (by omega)
  rw [hr0] at hrd0
  rw [hr1] at hrd1
  have ha64 := Dsk.cur_64 hD (show 0 < D.S.length by omega)
  have hb64 := Dsk.cur_64 hD (show 1 < D.S.length by omega)
  have hwide := fun h => @newestM_wide (D.cur 0) (D.cur 1) h
  generalize D.cur 0 = a at *
  generalize D.cur 1 = b at *
  have hq0 := qhead_ro a 0 (by omega)
  have hq1 := qhead_ro b 1 (by omega)
  obtain ⟨T0, F0, G0, L0, T1, F1, G1, L1, e0, e1, c10, c01, ceq, m0, m1⟩ := heads_cases a b
  rw [e0] at hq0
  rw [e1] at hq1
  have hz := zeros_two (b := b) ha64
  have za := ba_size a
  have zb := ba_size b
  repeat (first | refine GD ?_ | refine NW fun _ => ?_)
  refine WL.imp (Imp.trans II (rdskFold p D x (N := [F]))) ?_
  refine WL.step rfl (OP.callRO rfl rfl hrd0 (Ent.at (up_rdsk _ _) MM) rfl rfl ?_)
  repeat (first | refine GD ?_ | refine NW fun _ => ?_)
  refine WL.step rfl (OP.callRO rfl rfl hrd1 (Ent.at (up_rdsk _ _) MM) rfl rfl ?_)
  repeat (first | refine GD ?_ | refine NW fun _ => ?_)
  rename_i j
  refine WL.step rfl (OP.callRO rfl rfl hq0 (fun _ _ => trivial) rfl rfl ?_)
  repeat (first | refine GD ?_ | refine NW fun _ => ?_)
  refine WL.step rfl (OP.callRO rfl rfl hq1 (fun _ _ => trivial) rfl rfl ?_)
  by_cases hT10 : T1 < T0
  · repeat (first | refine GD ?_ | refine NW fun _ => ?_)
    obtain ⟨⟨w1, w2⟩, ⟨w3, w4⟩, ⟨w5, w6⟩⟩ := hwide _ (c10 hT10)
    dsimp only at w1 w2 w3 w4 w5 w6
    rw [(c10 hT10)] at hdef
    dsimp only at hdef
    have hsl := scanM_len D n ⟨T0, F0, G0, L0⟩
    refine WC.loop (σ := Nat × List Held × Int) (fun s => s.2.1.length + s.1 = n ∧ scanF D n ⟨T0, F0, G0, L0⟩ s.1 s.2.1 s.2.2 = scanM D n ⟨T0, F0, G0, L0⟩)
      (fun s => [(0, .val (.pointer (some ⟨p, 0, none⟩))), (1, .val (.int .i64 n)), (10, .val (.pointer (some ⟨j, 0, none⟩))), (19, .val (.int .i64 s.2.2))])
      (fun s => [rjrn j p ⟨n, ⟨T0, F0, G0, L0⟩, s.2.1⟩, rdsk p D, F]) (fun s => s.1) (n, [], L0) ⟨by simp, rfl⟩ ⟨rfl, rfl, rfl, rfl, trivial⟩ ?_ ?_
    · exact (Imp.nilS 42 5).trans ((Imp.nilS 3 1).trans (Imp.trans II (rjrnFold j p ⟨n, ⟨T0, F0, G0, L0⟩, []⟩ (none, 0, none, 0))))
    rintro ⟨k, l, low⟩ ⟨hk, hs⟩
    dsimp only at hk hs ⊢
    have hll : l.length ≤ n := by omega
    refine WC.open P1 (fun y => ?_)
    unfold rjrnL
    dsimp only [List.cons_append, List.nil_append]
    cases k with
    | zero =>
      have hout : scanM D n ⟨T0, F0, G0, L0⟩ = l := hs.symm
      have hkl : n = l.length := by omega
      repeat (first | refine GD ?_ | refine NW fun _ => ?_)
      refine WL.imp (M := [rjrn j p ⟨n, ⟨T0, F0, G0 + 1, L0⟩, l⟩, rdsk p D, F]) (Imp.trans II (rjrnFold j p ⟨n, ⟨T0, F0, G0 + 1, L0⟩, l⟩ y)) ?_
      refine WL.step rfl (OP.call (pre := [rjrn j p ⟨n, ⟨T0, F0, G0 + 1, L0⟩, l⟩, rdsk p D]) rfl rfl (rsave_ok j p ⟨n, ⟨T0, F0, G0 + 1, L0⟩, l⟩ D ⟨w1, by dsimp only; omega⟩ hD (by omega) hw) PS rfl rfl ?_)
      rintro _ _ ⟨rfl, rfl⟩
      repeat (first | refine GD ?_ | refine NW fun _ => ?_)
      refine ret2 rfl rfl ⟨_, ?_, Imp.refl _⟩
      unfold ROpenJ
      rw [hdef, hout]
      exact ⟨j, rfl, rfl⟩
    | succ k =>
      have hkl : l.length < n := by omega
      have hpb := pos_bd (show 1 ≤ n by omega) (F0 + l.length)
      have hmm := Int.emod_nonneg (F0 + l.length) (b := (n : Int)) (by omega)
      have hpe : 2 + (F0 + l.length) % n = ((posM n (F0 + l.length) : Nat) : Int) := by unfold posM; omega
      have hfit : scanF D n ⟨T0, F0, G0, L0⟩ (k + 1) l low = match fits (D.cur (posM n (F0 + l.length))) (F0 + l.length) low G0 with
        | some x => scanF D n ⟨T0, F0, G0, L0⟩ k (l ++ [x]) x.1
        | none => l := rfl
      rw [hfit] at hs
      have h64 := Dsk.cur_64 hD (show posM n (F0 + l.length) < D.S.length by omega)
      have hrd := rdread_ro p D (posM n (F0 + l.length)) (by omega)
      unfold RRdV at hrd
      rw [if_pos (by omega), Int.toNat_natCast] at hrd
      generalize D.cur (posM n (F0 + l.length)) = c at *
      have hdc := qdecode_ro c (by omega)
      unfold DecQ at hdc
      repeat (first | refine GD ?_ | refine NW fun _ => ?_)
      refine RD 11 11 (_) ?_
      refine WP 0 ?_
      refine WP 1 ?_
      refine WP 2 ?_
      refine VV 3 ?_
      refine WP 4 ?_
      refine WP 5 ?_
      refine WP 6 ?_
      refine VV 7 ?_
      refine WP 8 ?_
      refine WP 9 ?_
      refine WP 10 ?_
      refine DN ?_
      repeat (first | refine GD ?_ | refine NW fun _ => ?_)
      rw [hpe]
      refine WL.step rfl (OP.callRO rfl rfl hrd (Ent.at (up_rdsk _ _) MM) rfl rfl ?_)
      repeat (first | refine GD ?_ | refine NW fun _ => ?_)
      refine WL.step rfl (OP.callRO rfl rfl hdc (fun _ _ => trivial) rfl rfl ?_)
      cases hq : decR c with
      | error ec =>
        have hec := decR_err hq
        have hfn : fits c (F0 + l.length) low G0 = none := fits_none (fun x hx => by rw [hq] at hx; cases hx)
        rw [hfn] at hs
        have hout : scanM D n ⟨T0, F0, G0, L0⟩ = l := hs.symm
        repeat (first | refine GD ?_ | refine NW fun _ => ?_)
        refine WL.imp (M := [rjrn j p ⟨n, ⟨T0, F0, G0 + 1, L0⟩, l⟩, rdsk p D, F]) (Imp.trans II (rjrnFold j p ⟨n, ⟨T0, F0, G0 + 1, L0⟩, l⟩ y)) ?_
        refine WL.step rfl (OP.call (pre := [rjrn j p ⟨n, ⟨T0, F0, G0 + 1, L0⟩, l⟩, rdsk p D]) rfl rfl (rsave_ok j p ⟨n, ⟨T0, F0, G0 + 1, L0⟩, l⟩ D ⟨w1, by dsimp only; omega⟩ hD (by omega) hw) PS rfl rfl ?_)
        rintro _ _ ⟨rfl, rfl⟩
        repeat (first | refine GD ?_ | refine NW fun _ => ?_)
        refine ret2 rfl rfl ⟨_, ?_, Imp.refl _⟩
        unfold ROpenJ
        rw [hdef, hout]
        exact ⟨j, rfl, rfl⟩
      | ok yy =>
        obtain ⟨g, r⟩ := yy
        dsimp only
        by_cases h1 : r.1 = F0 + l.length
        rotate_left
        · have hfn : fits c (F0 + l.length) low G0 = none := by unfold fits; rw [hq]; dsimp only; rw [if_neg (fun h => h1 h.1)]
          rw [hfn] at hs
          have hout : scanM D n ⟨T0, F0, G0, L0⟩ = l := hs.symm
          repeat (first | refine GD ?_ | refine NW fun _ => ?_)
          refine WL.imp (M := [rjrn j p ⟨n, ⟨T0, F0, G0 + 1, L0⟩, l⟩, rdsk p D, F]) (Imp.trans II (rjrnFold j p ⟨n, ⟨T0, F0, G0 + 1, L0⟩, l⟩ y)) ?_
          refine WL.step rfl (OP.call (pre := [rjrn j p ⟨n, ⟨T0, F0, G0 + 1, L0⟩, l⟩, rdsk p D]) rfl rfl (rsave_ok j p ⟨n, ⟨T0, F0, G0 + 1, L0⟩, l⟩ D ⟨w1, by dsimp only; omega⟩ hD (by omega) hw) PS rfl rfl ?_)
          rintro _ _ ⟨rfl, rfl⟩
          repeat (first | refine GD ?_ | refine NW fun _ => ?_)
          refine ret2 rfl rfl ⟨_, ?_, Imp.refl _⟩
          unfold ROpenJ
          rw [hdef, hout]
          exact ⟨j, rfl, rfl⟩
        by_cases h2 : low ≤ g
        rotate_left
        · have hfn : fits c (F0 + l.length) low G0 = none := by unfold fits; rw [hq]; dsimp only; rw [if_neg (fun h => h2 h.2.1)]
          rw [hfn] at hs
          have hout : scanM D n ⟨T0, F0, G0, L0⟩ = l := hs.symm
          repeat (first | refine GD ?_ | refine NW fun _ => ?_)
          refine WL.imp (M := [rjrn j p ⟨n, ⟨T0, F0, G0 + 1, L0⟩, l⟩, rdsk p D, F]) (Imp.trans II (rjrnFold j p ⟨n, ⟨T0, F0, G0 + 1, L0⟩, l⟩ y)) ?_
          refine WL.step rfl (OP.call (pre := [rjrn j p ⟨n, ⟨T0, F0, G0 + 1, L0⟩, l⟩, rdsk p D]) rfl rfl (rsave_ok j p ⟨n, ⟨T0, F0, G0 + 1, L0⟩, l⟩ D ⟨w1, by dsimp only; omega⟩ hD (by omega) hw) PS rfl rfl ?_)
          rintro _ _ ⟨rfl, rfl⟩
          repeat (first | refine GD ?_ | refine NW fun _ => ?_)
          refine ret2 rfl rfl ⟨_, ?_, Imp.refl _⟩
          unfold ROpenJ
          rw [hdef, hout]
          exact ⟨j, rfl, rfl⟩
        by_cases h3 : g ≤ G0
        rotate_left
        · have hfn : fits c (F0 + l.length) low G0 = none := by unfold fits; rw [hq]; dsimp only; rw [if_neg (fun h => h3 h.2.2)]
          rw [hfn] at hs
          have hout : scanM D n ⟨T0, F0, G0, L0⟩ = l := hs.symm
          repeat (first | refine GD ?_ | refine NW fun _ => ?_)
          refine WL.imp (M := [rjrn j p ⟨n, ⟨T0, F0, G0 + 1, L0⟩, l⟩, rdsk p D, F]) (Imp.trans II (rjrnFold j p ⟨n, ⟨T0, F0, G0 + 1, L0⟩, l⟩ y)) ?_
          refine WL.step rfl (OP.call (pre := [rjrn j p ⟨n, ⟨T0, F0, G0 + 1, L0⟩, l⟩, rdsk p D]) rfl rfl (rsave_ok j p ⟨n, ⟨T0, F0, G0 + 1, L0⟩, l⟩ D ⟨w1, by dsimp only; omega⟩ hD (by omega) hw) PS rfl rfl ?_)
          rintro _ _ ⟨rfl, rfl⟩
          repeat (first | refine GD ?_ | refine NW fun _ => ?_)
          refine ret2 rfl rfl ⟨_, ?_, Imp.refl _⟩
          unfold ROpenJ
          rw [hdef, hout]
          exact ⟨j, rfl, rfl⟩
        have hfn : fits c (F0 + l.length) low G0 = some (g, r) := by unfold fits; rw [hq]; dsimp only; rw [if_pos ⟨h1, h2, h3⟩]
        rw [hfn] at hs
        dsimp only at hs
        repeat (first | refine GD ?_ | refine NW fun _ => ?_)
        refine RD 7 11 (_) ?_
        refine WP 0 ?_
        refine WP 1 ?_
        refine WP 2 ?_
        refine WP 3 ?_
        refine VV 4 ?_
        refine VL 5 (.agg (encR r).toArray) rfl rfl rfl rfl (.inr ⟨rfl, encR r, rfl, rfl, Ent.whole MM⟩) ?_
        refine WH.only 6 rfl rfl (by kernel_rfl) rfl (OP.sliceLit (c := encR r) rfl rfl rfl rfl rfl rfl rfl rfl (fun b2 => ⟨fun _ => II, ?_⟩))
        refine WH.only 7 rfl rfl (by kernel_rfl) rfl (OP.append rfl rfl rfl rfl rfl rfl rfl rfl rfl P1 (Ent.own MM) rfl (by omega) (by omega) rfl rfl (fun a' cap' => ⟨(fun h => nomatch h), ?_⟩))
        refine WP 8 ?_
        refine WP 9 ?_
        refine WH.only 10 rfl rfl (by kernel_rfl) rfl (OP.store rfl rfl rfl rfl rfl rfl rfl UP rfl ⟨(fun h => nomatch h), ?_⟩)
        refine DN ?_
        repeat (first | refine GD ?_ | refine NW fun _ => ?_)
        refine WL.step rfl (OP.append (ds := [.int .i64 g]) rfl rfl rfl rfl rfl rfl rfl rfl rfl P1 (Ent.own MM) rfl (by omega) (by omega) rfl rfl (fun a3 cap3 => ?_))
        repeat (first | refine GD ?_ | refine NW fun _ => ?_)
        refine ⟨(k, l ++ [(g, r)], g), ⟨by simp; omega, hs⟩, Nat.lt_succ_self k, ⟨rfl, rfl, rfl, rfl, trivial⟩, ?_⟩
        dsimp only
        refine Imp.trans ?_ (rjrnFold j p ⟨n, ⟨T0, F0, G0, L0⟩, l ++ [(g, r)]⟩ (a', cap', a3, cap3))
        dsimp only
        rw [List.length_append, List.flatMap_append, List.flatMap_cons, List.flatMap_nil, List.append_nil, List.map_append]
        exact II
  by_cases hT01 : T0 < T1
  · by_cases hn0 : T0 < 0
    all_goals
      repeat (first | refine GD ?_ | refine NW fun _ => ?_)
      obtain ⟨⟨w1, w2⟩, ⟨w3, w4⟩, ⟨w5, w6⟩⟩ := hwide _ (c01 hT01)
      dsimp only at w1 w2 w3 w4 w5 w6
      rw [(c01 hT01)] at hdef
      dsimp only at hdef
      have hsl := scanM_len D n ⟨T1, F1, G1, L1⟩
      refine WC.loop (σ := Nat × List Held × Int) (fun s => s.2.1.length + s.1 = n ∧ scanF D n ⟨T1, F1, G1, L1⟩ s.1 s.2.1 s.2.2 = scanM D n ⟨T1, F1, G1, L1⟩)
        (fun s => [(0, .val (.pointer (some ⟨p, 0, none⟩))), (1, .val (.int .i64 n)), (10, .val (.pointer (some ⟨j, 0, none⟩))), (19, .val (.int .i64 s.2.2))])
        (fun s => [rjrn j p ⟨n, ⟨T1, F1, G1, L1⟩, s.2.1⟩, rdsk p D, F]) (fun s => s.1) (n, [], L1) ⟨by simp, rfl⟩ ⟨rfl, rfl, rfl, rfl, trivial⟩ ?_ ?_
      · exact (Imp.nilS 42 5).trans ((Imp.nilS 3 1).trans (Imp.trans II (rjrnFold j p ⟨n, ⟨T1, F1, G1, L1⟩, []⟩ (none, 0, none, 0))))
      rintro ⟨k, l, low⟩ ⟨hk, hs⟩
      dsimp only at hk hs ⊢
      have hll : l.length ≤ n := by omega
      refine WC.open P1 (fun y => ?_)
      unfold rjrnL
      dsimp only [List.cons_append, List.nil_append]
      cases k with
      | zero =>
        have hout : scanM D n ⟨T1, F1, G1, L1⟩ = l := hs.symm
        have hkl : n = l.length := by omega
        repeat (first | refine GD ?_ | refine NW fun _ => ?_)
        refine WL.imp (M := [rjrn j p ⟨n, ⟨T1, F1, G1 + 1, L1⟩, l⟩, rdsk p D, F]) (Imp.trans II (rjrnFold j p ⟨n, ⟨T1, F1, G1 + 1, L1⟩, l⟩ y)) ?_
        refine WL.step rfl (OP.call (pre := [rjrn j p ⟨n, ⟨T1, F1, G1 + 1, L1⟩, l⟩, rdsk p D]) rfl rfl (rsave_ok j p ⟨n, ⟨T1, F1, G1 + 1, L1⟩, l⟩ D ⟨w1, by dsimp only; omega⟩ hD (by omega) hw) PS rfl rfl ?_)
        rintro _ _ ⟨rfl, rfl⟩
        repeat (first | refine GD ?_ | refine NW fun _ => ?_)
        refine ret2 rfl rfl ⟨_, ?_, Imp.refl _⟩
        unfold ROpenJ
        rw [hdef, hout]
        exact ⟨j, rfl, rfl⟩
      | succ k =>
        have hkl : l.length < n := by omega
        have hpb := pos_bd (show 1 ≤ n by omega) (F1 + l.length)
        have hmm := Int.emod_nonneg (F1 + l.length) (b := (n : Int)) (by omega)
        have hpe : 2 + (F1 + l.length) % n = ((posM n (F1 + l.length) : Nat) : Int) := by unfold posM; omega
        have hfit : scanF D n ⟨T1, F1, G1, L1⟩ (k + 1) l low = match fits (D.cur (posM n (F1 + l.length))) (F1 + l.length) low G1 with
          | some x => scanF D n ⟨T1, F1, G1, L1⟩ k (l ++ [x]) x.1
          | none => l := rfl
        rw [hfit] at hs
        have h64 := Dsk.cur_64 hD (show posM n (F1 + l.length) < D.S.length by omega)
        have hrd := rdread_ro p D (posM n (F1 + l.length)) (by omega)
        unfold RRdV at hrd
        rw [if_pos (by omega), Int.toNat_natCast] at hrd
        generalize D.cur (posM n (F1 + l.length)) = c at *
        have hdc := qdecode_ro c (by omega)
        unfold DecQ at hdc
        repeat (first | refine GD ?_ | refine NW fun _ => ?_)
        refine RD 11 11 (_) ?_
        refine WP 0 ?_
        refine WP 1 ?_
        refine WP 2 ?_
        refine VV 3 ?_
        refine WP 4 ?_
        refine WP 5 ?_
        refine WP 6 ?_
        refine VV 7 ?_
        refine WP 8 ?_
        refine WP 9 ?_
        refine WP 10 ?_
        refine DN ?_
        repeat (first | refine GD ?_ | refine NW fun _ => ?_)
        rw [hpe]
        refine WL.step rfl (OP.callRO rfl rfl hrd (Ent.at (up_rdsk _ _) MM) rfl rfl ?_)
        repeat (first | refine GD ?_ | refine NW fun _ => ?_)
        refine WL.step rfl (OP.callRO rfl rfl hdc (fun _ _ => trivial) rfl rfl ?_)
        cases hq : decR c with
        | error ec =>
          have hec := decR_err hq
          have hfn : fits c (F1 + l.length) low G1 = none := fits_none (fun x hx => by rw [hq] at hx; cases hx)
          rw [hfn] at hs
          have hout : scanM D n ⟨T1, F1, G1, L1⟩ = l := hs.symm
          repeat (first | refine GD ?_ | refine NW fun _ => ?_)
          refine WL.imp (M := [rjrn j p ⟨n, ⟨T1, F1, G1 + 1, L1⟩, l⟩, rdsk p D, F]) (Imp.trans II (rjrnFold j p ⟨n, ⟨T1, F1, G1 + 1, L1⟩, l⟩ y)) ?_
          refine WL.step rfl (OP.call (pre := [rjrn j p ⟨n, ⟨T1, F1, G1 + 1, L1⟩, l⟩, rdsk p D]) rfl rfl (rsave_ok j p ⟨n, ⟨T1, F1, G1 + 1, L1⟩, l⟩ D ⟨w1, by dsimp only; omega⟩ hD (by omega) hw) PS rfl rfl ?_)
          rintro _ _ ⟨rfl, rfl⟩
          repeat (first | refine GD ?_ | refine NW fun _ => ?_)
          refine ret2 rfl rfl ⟨_, ?_, Imp.refl _⟩
          unfold ROpenJ
          rw [hdef, hout]
          exact ⟨j, rfl, rfl⟩
        | ok yy =>
          obtain ⟨g, r⟩ := yy
          dsimp only
          by_cases h1 : r.1 = F1 + l.length
          rotate_left
          · have hfn : fits c (F1 + l.length) low G1 = none := by unfold fits; rw [hq]; dsimp only; rw [if_neg (fun h => h1 h.1)]
            rw [hfn] at hs
            have hout : scanM D n ⟨T1, F1, G1, L1⟩ = l := hs.symm
            repeat (first | refine GD ?_ | refine NW fun _ => ?_)
            refine WL.imp (M := [rjrn j p ⟨n, ⟨T1, F1, G1 + 1, L1⟩, l⟩, rdsk p D, F]) (Imp.trans II (rjrnFold j p ⟨n, ⟨T1, F1, G1 + 1, L1⟩, l⟩ y)) ?_
            refine WL.step rfl (OP.call (pre := [rjrn j p ⟨n, ⟨T1, F1, G1 + 1, L1⟩, l⟩, rdsk p D]) rfl rfl (rsave_ok j p ⟨n, ⟨T1, F1, G1 + 1, L1⟩, l⟩ D ⟨w1, by dsimp only; omega⟩ hD (by omega) hw) PS rfl rfl ?_)
            rintro _ _ ⟨rfl, rfl⟩
            repeat (first | refine GD ?_ | refine NW fun _ => ?_)
            refine ret2 rfl rfl ⟨_, ?_, Imp.refl _⟩
            unfold ROpenJ
            rw [hdef, hout]
            exact ⟨j, rfl, rfl⟩
          by_cases h2 : low ≤ g
          rotate_left
          · have hfn : fits c (F1 + l.length) low G1 = none := by unfold fits; rw [hq]; dsimp only; rw [if_neg (fun h => h2 h.2.1)]
            rw [hfn] at hs
            have hout : scanM D n ⟨T1, F1, G1, L1⟩ = l := hs.symm
            repeat (first | refine GD ?_ | refine NW fun _ => ?_)
            refine WL.imp (M := [rjrn j p ⟨n, ⟨T1, F1, G1 + 1, L1⟩, l⟩, rdsk p D, F]) (Imp.trans II (rjrnFold j p ⟨n, ⟨T1, F1, G1 + 1, L1⟩, l⟩ y)) ?_
            refine WL.step rfl (OP.call (pre := [rjrn j p ⟨n, ⟨T1, F1, G1 + 1, L1⟩, l⟩, rdsk p D]) rfl rfl (rsave_ok j p ⟨n, ⟨T1, F1, G1 + 1, L1⟩, l⟩ D ⟨w1, by dsimp only; omega⟩ hD (by omega) hw) PS rfl rfl ?_)
            rintro _ _ ⟨rfl, rfl⟩
            repeat (first | refine GD ?_ | refine NW fun _ => ?_)
            refine ret2 rfl rfl ⟨_, ?_, Imp.refl _⟩
            unfold ROpenJ
            rw [hdef, hout]
            exact ⟨j, rfl, rfl⟩
          by_cases h3 : g ≤ G1
          rotate_left
          · have hfn : fits c (F1 + l.length) low G1 = none := by unfold fits; rw [hq]; dsimp only; rw [if_neg (fun h => h3 h.2.2)]
            rw [hfn] at hs
            have hout : scanM D n ⟨T1, F1, G1, L1⟩ = l := hs.symm
            repeat (first | refine GD ?_ | refine NW fun _ => ?_)
            refine WL.imp (M := [rjrn j p ⟨n, ⟨T1, F1, G1 + 1, L1⟩, l⟩, rdsk p D, F]) (Imp.trans II (rjrnFold j p ⟨n, ⟨T1, F1, G1 + 1, L1⟩, l⟩ y)) ?_
            refine WL.step rfl (OP.call (pre := [rjrn j p ⟨n, ⟨T1, F1, G1 + 1, L1⟩, l⟩, rdsk p D]) rfl rfl (rsave_ok j p ⟨n, ⟨T1, F1, G1 + 1, L1⟩, l⟩ D ⟨w1, by dsimp only; omega⟩ hD (by omega) hw) PS rfl rfl ?_)
            rintro _ _ ⟨rfl, rfl⟩
            repeat (first | refine GD ?_ | refine NW fun _ => ?_)
            refine ret2 rfl rfl ⟨_, ?_, Imp.refl _⟩
            unfold ROpenJ
            rw [hdef, hout]
            exact ⟨j, rfl, rfl⟩
          have hfn : fits c (F1 + l.length) low G1 = some (g, r) := by unfold fits; rw [hq]; dsimp only; rw [if_pos ⟨h1, h2, h3⟩]
          rw [hfn] at hs
          dsimp only at hs
          repeat (first | refine GD ?_ | refine NW fun _ => ?_)
          refine RD 7 11 (_) ?_
          refine WP 0 ?_
          refine WP 1 ?_
          refine WP 2 ?_
          refine WP 3 ?_
          refine VV 4 ?_
          refine VL 5 (.agg (encR r).toArray) rfl rfl rfl rfl (.inr ⟨rfl, encR r, rfl, rfl, Ent.whole MM⟩) ?_
          refine WH.only 6 rfl rfl (by kernel_rfl) rfl (OP.sliceLit (c := encR r) rfl rfl rfl rfl rfl rfl rfl rfl (fun b2 => ⟨fun _ => II, ?_⟩))
          refine WH.only 7 rfl rfl (by kernel_rfl) rfl (OP.append rfl rfl rfl rfl rfl rfl rfl rfl rfl P1 (Ent.own MM) rfl (by omega) (by omega) rfl rfl (fun a' cap' => ⟨(fun h => nomatch h), ?_⟩))
          refine WP 8 ?_
          refine WP 9 ?_
          refine WH.only 10 rfl rfl (by kernel_rfl) rfl (OP.store rfl rfl rfl rfl rfl rfl rfl UP rfl ⟨(fun h => nomatch h), ?_⟩)
          refine DN ?_
          repeat (first | refine GD ?_ | refine NW fun _ => ?_)
          refine WL.step rfl (OP.append (ds := [.int .i64 g]) rfl rfl rfl rfl rfl rfl rfl rfl rfl P1 (Ent.own MM) rfl (by omega) (by omega) rfl rfl (fun a3 cap3 => ?_))
          repeat (first | refine GD ?_ | refine NW fun _ => ?_)
          refine ⟨(k, l ++ [(g, r)], g), ⟨by simp; omega, hs⟩, Nat.lt_succ_self k, ⟨rfl, rfl, rfl, rfl, trivial⟩, ?_⟩
          dsimp only
          refine Imp.trans ?_ (rjrnFold j p ⟨n, ⟨T1, F1, G1, L1⟩, l ++ [(g, r)]⟩ (a', cap', a3, cap3))
          dsimp only
          rw [List.length_append, List.flatMap_append, List.flatMap_cons, List.flatMap_nil, List.append_nil, List.map_append]
          exact II
  obtain ⟨hm1, hnew⟩ := ceq (by omega)
  have hm2 : T1 = -1 := by omega
  subst hm1 hm2
  repeat (first | refine GD ?_ | refine NW fun _ => ?_)
  refine WL.guardT rfl rfl rfl rfl (OP.makeS (z := [.int .u8 0]) rfl rfl rfl rfl rfl rfl rfl rfl (by decide) (by decide) (by decide) rfl rfl (fun bz => ?_))
  refine WL.guardT rfl rfl rfl rfl (OP.toStr (sv := ba (List.replicate 128 0)) rfl rfl rfl rfl rfl rfl rfl rfl (by rw [strCells_ba, ← repL_bytes]; exact Ent.own (T := 5) MM) rfl rfl ?_)
  by_cases hzz : a = zero64 ∧ b = zero64
  rotate_left
  · have hop : openM D n = .error 4 := by rw [hdef, hnew, if_neg hzz]
    have hz' : ¬ ba a ++ ba b = ba (List.replicate 128 0) := fun h => hzz (hz.1 h)
    generalize ba a ++ ba b = zab at *
    generalize ba (List.replicate 128 0) = zz at *
    repeat (first | refine GD ?_ | refine NW fun _ => ?_)
    refine ret2 rfl rfl ⟨[rdsk p D], ?_, II⟩
    unfold ROpenJ
    rw [hop]
    exact ⟨rfl, rfl⟩
  have hzt := hz.2 hzz
  have hnew' : newestM a b = some ⟨0, 1, 0, 0⟩ := by rw [hnew, if_pos hzz]; rfl
  clear hz
  rw [hzt]
  generalize ba (List.replicate 128 0) = zz at *
  repeat (first | refine GD ?_ | refine NW fun _ => ?_)
  rw [decide_eq_true (rfl : zz = zz)]
  repeat (first | refine GD ?_ | refine NW fun _ => ?_)
  obtain ⟨⟨w1, w2⟩, ⟨w3, w4⟩, ⟨w5, w6⟩⟩ := hwide _ hnew'
  dsimp only at w1 w2 w3 w4 w5 w6
  rw [hnew'] at hdef
  dsimp only at hdef
  have hsl := scanM_len D n ⟨0, 1, 0, 0⟩
  refine WC.loop (σ := Nat × List Held × Int) (fun s => s.2.1.length + s.1 = n ∧ scanF D n ⟨0, 1, 0, 0⟩ s.1 s.2.1 s.2.2 = scanM D n ⟨0, 1, 0, 0⟩)
    (fun s => [(0, .val (.pointer (some ⟨p, 0, none⟩))), (1, .val (.int .i64 n)), (10, .val (.pointer (some ⟨j, 0, none⟩))), (19, .val (.int .i64 s.2.2))])
    (fun s => [rjrn j p ⟨n, ⟨0, 1, 0, 0⟩, s.2.1⟩, rdsk p D, F]) (fun s => s.1) (n, [], 0) ⟨by simp, rfl⟩ ⟨rfl, rfl, rfl, rfl, trivial⟩ ?_ ?_
  · exact (Imp.nilS 42 5).trans ((Imp.nilS 3 1).trans (Imp.trans II (rjrnFold j p ⟨n, ⟨0, 1, 0, 0⟩, []⟩ (none, 0, none, 0))))
  rintro ⟨k, l, low⟩ ⟨hk, hs⟩
  dsimp only at hk hs ⊢
  have hll : l.length ≤ n := by omega
  refine WC.open P1 (fun y => ?_)
  unfold rjrnL
  dsimp only [List.cons_append, List.nil_append]
  cases k with
  | zero =>
    have hout : scanM D n ⟨0, 1, 0, 0⟩ = l := hs.symm
    have hkl : n = l.length := by omega
    repeat (first | refine GD ?_ | refine NW fun _ => ?_)
    refine WL.imp (M := [rjrn j p ⟨n, ⟨(0 : Int), (1 : Int), (0 : Int) + 1, (0 : Int)⟩, l⟩, rdsk p D, F]) (Imp.trans II (rjrnFold j p ⟨n, ⟨(0 : Int), (1 : Int), (0 : Int) + 1, (0 : Int)⟩, l⟩ y)) ?_
    refine WL.step rfl (OP.call (pre := [rjrn j p ⟨n, ⟨(0 : Int), (1 : Int), (0 : Int) + 1, (0 : Int)⟩, l⟩, rdsk p D]) rfl rfl (rsave_ok j p ⟨n, ⟨(0 : Int), (1 : Int), (0 : Int) + 1, (0 : Int)⟩, l⟩ D ⟨w1, by dsimp only; omega⟩ hD (by omega) hw) PS rfl rfl ?_)
    rintro _ _ ⟨rfl, rfl⟩
    repeat (first | refine GD ?_ | refine NW fun _ => ?_)
    refine ret2 rfl rfl ⟨_, ?_, Imp.refl _⟩
    unfold ROpenJ
    rw [hdef, hout]
    exact ⟨j, rfl, rfl⟩
  | succ k =>
    have hkl : l.length < n := by omega
    have hpb := pos_bd (show 1 ≤ n by omega) ((1 : Int) + l.length)
    have hmm := Int.emod_nonneg ((1 : Int) + l.length) (b := (n : Int)) (by omega)
    have hpe : 2 + ((1 : Int) + l.length) % n = ((posM n ((1 : Int) + l.length) : Nat) : Int) := by unfold posM; omega
    have hfit : scanF D n ⟨0, 1, 0, 0⟩ (k + 1) l low = match fits (D.cur (posM n ((1 : Int) + l.length))) ((1 : Int) + l.length) low (0 : Int) with
      | some x => scanF D n ⟨0, 1, 0, 0⟩ k (l ++ [x]) x.1
      | none => l := rfl
    rw [hfit] at hs
    have h64 := Dsk.cur_64 hD (show posM n ((1 : Int) + l.length) < D.S.length by omega)
    have hrd := rdread_ro p D (posM n ((1 : Int) + l.length)) (by omega)
    unfold RRdV at hrd
    rw [if_pos (by omega), Int.toNat_natCast] at hrd
    generalize D.cur (posM n ((1 : Int) + l.length)) = c at *
    have hdc := qdecode_ro c (by omega)
    unfold DecQ at hdc
    repeat (first | refine GD ?_ | refine NW fun _ => ?_)
    refine RD 11 11 (_) ?_
    refine WP 0 ?_
    refine WP 1 ?_
    refine WP 2 ?_
    refine VV 3 ?_
    refine WP 4 ?_
    refine WP 5 ?_
    refine WP 6 ?_
    refine VV 7 ?_
    refine WP 8 ?_
    refine WP 9 ?_
    refine WP 10 ?_
    refine DN ?_
    repeat (first | refine GD ?_ | refine NW fun _ => ?_)
    rw [hpe]
    refine WL.step rfl (OP.callRO rfl rfl hrd (Ent.at (up_rdsk _ _) MM) rfl rfl ?_)
    repeat (first | refine GD ?_ | refine NW fun _ => ?_)
    refine WL.step rfl (OP.callRO rfl rfl hdc (fun _ _ => trivial) rfl rfl ?_)
    cases hq : decR c with
    | error ec =>
      have hec := decR_err hq
      have hfn : fits c ((1 : Int) + l.length) low (0 : Int) = none := fits_none (fun x hx => by rw [hq] at hx; cases hx)
      rw [hfn] at hs
      have hout : scanM D n ⟨0, 1, 0, 0⟩ = l := hs.symm
      repeat (first | refine GD ?_ | refine NW fun _ => ?_)
      refine WL.imp (M := [rjrn j p ⟨n, ⟨(0 : Int), (1 : Int), (0 : Int) + 1, (0 : Int)⟩, l⟩, rdsk p D, F]) (Imp.trans II (rjrnFold j p ⟨n, ⟨(0 : Int), (1 : Int), (0 : Int) + 1, (0 : Int)⟩, l⟩ y)) ?_
      refine WL.step rfl (OP.call (pre := [rjrn j p ⟨n, ⟨(0 : Int), (1 : Int), (0 : Int) + 1, (0 : Int)⟩, l⟩, rdsk p D]) rfl rfl (rsave_ok j p ⟨n, ⟨(0 : Int), (1 : Int), (0 : Int) + 1, (0 : Int)⟩, l⟩ D ⟨w1, by dsimp only; omega⟩ hD (by omega) hw) PS rfl rfl ?_)
      rintro _ _ ⟨rfl, rfl⟩
      repeat (first | refine GD ?_ | refine NW fun _ => ?_)
      refine ret2 rfl rfl ⟨_, ?_, Imp.refl _⟩
      unfold ROpenJ
      rw [hdef, hout]
      exact ⟨j, rfl, rfl⟩
    | ok yy =>
      obtain ⟨g, r⟩ := yy
      dsimp only
      by_cases h1 : r.1 = (1 : Int) + l.length
      rotate_left
      · have hfn : fits c ((1 : Int) + l.length) low (0 : Int) = none := by unfold fits; rw [hq]; dsimp only; rw [if_neg (fun h => h1 h.1)]
        rw [hfn] at hs
        have hout : scanM D n ⟨0, 1, 0, 0⟩ = l := hs.symm
        repeat (first | refine GD ?_ | refine NW fun _ => ?_)
        refine WL.imp (M := [rjrn j p ⟨n, ⟨(0 : Int), (1 : Int), (0 : Int) + 1, (0 : Int)⟩, l⟩, rdsk p D, F]) (Imp.trans II (rjrnFold j p ⟨n, ⟨(0 : Int), (1 : Int), (0 : Int) + 1, (0 : Int)⟩, l⟩ y)) ?_
        refine WL.step rfl (OP.call (pre := [rjrn j p ⟨n, ⟨(0 : Int), (1 : Int), (0 : Int) + 1, (0 : Int)⟩, l⟩, rdsk p D]) rfl rfl (rsave_ok j p ⟨n, ⟨(0 : Int), (1 : Int), (0 : Int) + 1, (0 : Int)⟩, l⟩ D ⟨w1, by dsimp only; omega⟩ hD (by omega) hw) PS rfl rfl ?_)
        rintro _ _ ⟨rfl, rfl⟩
        repeat (first | refine GD ?_ | refine NW fun _ => ?_)
        refine ret2 rfl rfl ⟨_, ?_, Imp.refl _⟩
        unfold ROpenJ
        rw [hdef, hout]
        exact ⟨j, rfl, rfl⟩
      by_cases h2 : low ≤ g
      rotate_left
      · have hfn : fits c ((1 : Int) + l.length) low (0 : Int) = none := by unfold fits; rw [hq]; dsimp only; rw [if_neg (fun h => h2 h.2.1)]
        rw [hfn] at hs
        have hout : scanM D n ⟨0, 1, 0, 0⟩ = l := hs.symm
        repeat (first | refine GD ?_ | refine NW fun _ => ?_)
        refine WL.imp (M := [rjrn j p ⟨n, ⟨(0 : Int), (1 : Int), (0 : Int) + 1, (0 : Int)⟩, l⟩, rdsk p D, F]) (Imp.trans II (rjrnFold j p ⟨n, ⟨(0 : Int), (1 : Int), (0 : Int) + 1, (0 : Int)⟩, l⟩ y)) ?_
        refine WL.step rfl (OP.call (pre := [rjrn j p ⟨n, ⟨(0 : Int), (1 : Int), (0 : Int) + 1, (0 : Int)⟩, l⟩, rdsk p D]) rfl rfl (rsave_ok j p ⟨n, ⟨(0 : Int), (1 : Int), (0 : Int) + 1, (0 : Int)⟩, l⟩ D ⟨w1, by dsimp only; omega⟩ hD (by omega) hw) PS rfl rfl ?_)
        rintro _ _ ⟨rfl, rfl⟩
        repeat (first | refine GD ?_ | refine NW fun _ => ?_)
        refine ret2 rfl rfl ⟨_, ?_, Imp.refl _⟩
        unfold ROpenJ
        rw [hdef, hout]
        exact ⟨j, rfl, rfl⟩
      by_cases h3 : g ≤ (0 : Int)
      rotate_left
      · have hfn : fits c ((1 : Int) + l.length) low (0 : Int) = none := by unfold fits; rw [hq]; dsimp only; rw [if_neg (fun h => h3 h.2.2)]
        rw [hfn] at hs
        have hout : scanM D n ⟨0, 1, 0, 0⟩ = l := hs.symm
        repeat (first | refine GD ?_ | refine NW fun _ => ?_)
        refine WL.imp (M := [rjrn j p ⟨n, ⟨(0 : Int), (1 : Int), (0 : Int) + 1, (0 : Int)⟩, l⟩, rdsk p D, F]) (Imp.trans II (rjrnFold j p ⟨n, ⟨(0 : Int), (1 : Int), (0 : Int) + 1, (0 : Int)⟩, l⟩ y)) ?_
        refine WL.step rfl (OP.call (pre := [rjrn j p ⟨n, ⟨(0 : Int), (1 : Int), (0 : Int) + 1, (0 : Int)⟩, l⟩, rdsk p D]) rfl rfl (rsave_ok j p ⟨n, ⟨(0 : Int), (1 : Int), (0 : Int) + 1, (0 : Int)⟩, l⟩ D ⟨w1, by dsimp only; omega⟩ hD (by omega) hw) PS rfl rfl ?_)
        rintro _ _ ⟨rfl, rfl⟩
        repeat (first | refine GD ?_ | refine NW fun _ => ?_)
        refine ret2 rfl rfl ⟨_, ?_, Imp.refl _⟩
        unfold ROpenJ
        rw [hdef, hout]
        exact ⟨j, rfl, rfl⟩
      have hfn : fits c ((1 : Int) + l.length) low (0 : Int) = some (g, r) := by unfold fits; rw [hq]; dsimp only; rw [if_pos ⟨h1, h2, h3⟩]
      rw [hfn] at hs
      dsimp only at hs
      repeat (first | refine GD ?_ | refine NW fun _ => ?_)
      refine RD 7 11 (_) ?_
      refine WP 0 ?_
      refine WP 1 ?_
      refine WP 2 ?_
      refine WP 3 ?_
      refine VV 4 ?_
      refine VL 5 (.agg (encR r).toArray) rfl rfl rfl rfl (.inr ⟨rfl, encR r, rfl, rfl, Ent.whole MM⟩) ?_
      refine WH.only 6 rfl rfl (by kernel_rfl) rfl (OP.sliceLit (c := encR r) rfl rfl rfl rfl rfl rfl rfl rfl (fun b2 => ⟨fun _ => II, ?_⟩))
      refine WH.only 7 rfl rfl (by kernel_rfl) rfl (OP.append rfl rfl rfl rfl rfl rfl rfl rfl rfl P1 (Ent.own MM) rfl (by omega) (by omega) rfl rfl (fun a' cap' => ⟨(fun h => nomatch h), ?_⟩))
      refine WP 8 ?_
      refine WP 9 ?_
      refine WH.only 10 rfl rfl (by kernel_rfl) rfl (OP.store rfl rfl rfl rfl rfl rfl rfl UP rfl ⟨(fun h => nomatch h), ?_⟩)
      refine DN ?_
      repeat (first | refine GD ?_ | refine NW fun _ => ?_)
      refine WL.step rfl (OP.append (ds := [.int .i64 g]) rfl rfl rfl rfl rfl rfl rfl rfl rfl P1 (Ent.own MM) rfl (by omega) (by omega) rfl rfl (fun a3 cap3 => ?_))
      repeat (first | refine GD ?_ | refine NW fun _ => ?_)
      refine ⟨(k, l ++ [(g, r)], g), ⟨by simp; omega, hs⟩, Nat.lt_succ_self k, ⟨rfl, rfl, rfl, rfl, trivial⟩, ?_⟩
      dsimp only
      refine Imp.trans ?_ (rjrnFold j p ⟨n, ⟨0, 1, 0, 0⟩, l ++ [(g, r)]⟩ (a', cap', a3, cap3))
      dsimp only
      rw [List.length_append, List.flatMap_append, List.flatMap_cons, List.flatMap_nil, List.append_nil, List.map_append]
      exact II
end Go.Proofs.YteednjcoapmkaaaGreatDoor
/- Contracts of functions of the given program, and plain laws on what they compute: parts of the proofs of laws. -/

namespace Go.Proofs.YteednjcoapmkaaaGreatDoor
open Go Go.GL

/-! the document's volume -/
def numC (x : Plc) : Value := .int .i64 x.1
def datC (x : Plc) : Value := .string x.2
def rvolC (p j ring : Nat) (laid : List Plc) : List Value := [.pointer (some ⟨p, 0, none⟩), .pointer (some ⟨j, 0, none⟩), .int .i64 ring] ++ laid.map numC ++ laid.map datC
def rvolL (v p : Nat) (V : Vol) (y : Nat × Option Addr × Nat × Option Addr × Nat) : List Assn := blk v (rvolC p y.1 V.J.ring V.laid) 84 :: rjrnL y.1 p V.J y.2
def rvol (v p : Nat) (V : Vol) : Assn := exA (rvolL v p V)
theorem up_rvol (v p : Nat) (V : Vol) : Up (rvol v p V) := up_exA _
theorem rvolFold (v p : Nat) (V : Vol) (j : Nat) {N : List Assn} : Imp (blk v (rvolC p j V.J.ring V.laid) 84 :: rjrn j p V.J :: N) (rvol v p V :: N) := fun h s => by
  obtain ⟨x, h3⟩ := stars_open ((Pick.there (Pick.here _ _)).imp _ s)
  exact (Imp.foldP (Ls := rvolL v p V) (j, x) (Picks.cons (Pick.there (Pick.there (Pick.there (Pick.here _ _)))) (Picks.cons (Pick.here _ _) (Picks.cons (Pick.here _ _) (Picks.cons (Pick.here _ _) (Picks.nil _))))) (Imp.refl _)) h h3
theorem rvolC_num {p j ring : Nat} {laid : List Plc} {b : Nat} (hb : b < laid.length) : (rvolC p j ring laid)[3 + b * 1]? = some (.int .i64 (laid[b]).1) := by
  unfold rvolC
  rw [List.append_assoc, List.getElem?_append_right (by show 3 ≤ _; omega), List.getElem?_append_left (by rw [List.length_map]; show 3 + b * 1 - 3 < _; omega), List.getElem?_map]
  rw [show 3 + b * 1 - ([Value.pointer (some ⟨p, 0, none⟩), .pointer (some ⟨j, 0, none⟩), .int .i64 ring]).length = b from by show 3 + b * 1 - 3 = b; omega, List.getElem?_eq_getElem hb]
  rfl
theorem rvolC_dat {p j ring : Nat} {laid : List Plc} (h8 : laid.length = 8) {b : Nat} (hb : b < laid.length) : (rvolC p j ring laid)[11 + b * 1]? = some (.string (laid[b]).2) := by
  have hl : ([Value.pointer (some ⟨p, 0, none⟩), .pointer (some ⟨j, 0, none⟩), .int .i64 ring] ++ laid.map numC).length = 11 := by
    rw [List.length_append, List.length_map, h8]; rfl
  unfold rvolC
  rw [List.getElem?_append_right (by rw [hl]; omega), hl, List.getElem?_map, show 11 + b * 1 - 11 = b by omega, List.getElem?_eq_getElem hb]
  rfl
set_option maxHeartbeats 4000000 in
set_option maxRecDepth 10000 in
theorem rlast_ro (v p : Nat) (V : Vol) (b : Nat) (hb : b < 8) (h8 : V.laid.length = 8) (hlen : V.J.held.length ≤ 512) (hr : ∀ x ∈ V.J.held, x.2.2.1 = 1 → 0 ≤ x.2.2.2.1 ∧ x.2.2.2.1 < 8) :
    RO G 74 [.pointer (some ⟨v, 0, none⟩), .int .i64 b] (rvol v p V) (.tuple #[.int .i64 ((takeAll V.laid V.J.held).getD b plc0).1, .string ((takeAll V.laid V.J.held).getD b plc0).2]) := by
  refine RO.enterEx Tryz.func74 rfl (by decide) rfl Tryz.ntmps74 rfl (fun y A hu hA => ?_)
  obtain ⟨j, x⟩ := y
  have hC : ∀ {L} {i : Nat} {u : Value}, (rvolC p j V.J.ring V.laid)[i]? = some u → A ∈ L → Ent L (cellAt v i u) := fun h m => Ent.of hu hA m (Ent.blk (T := 84) (c := rvolC p j V.J.ring V.laid) (List.Mem.head _) h)
  have hB : ∀ {L}, A ∈ L → Ent L (cellsAt j 0 [.pointer (some ⟨p, 0, none⟩), .int .i64 V.J.ring, .int .i64 V.J.hd.turn, .int .i64 V.J.hd.first, .int .i64 V.J.hd.gen, .int .i64 V.J.hd.low, .slice x.1 V.J.held.length x.2.1, .slice x.2.2.1 V.J.held.length x.2.2.2]) := fun m => Ent.of hu hA m (Ent.whole (List.Mem.tail _ (List.Mem.head _)))
  have hH : ∀ {L}, A ∈ L → Ent L (readS x.1 V.J.held.length 5 (V.J.held.flatMap (fun x => encR x.2))) := fun m => Ent.of hu hA m (Ent.own (List.Mem.tail _ (List.Mem.tail _ (List.Mem.head _))))
  have hbl : b < V.laid.length := by omega
  have hn := rvolC_num (p := p) (j := j) (ring := V.J.ring) hbl
  have hd := rvolC_dat (p := p) (j := j) (ring := V.J.ring) h8 hbl
  repeat (first | refine GD ?_ | refine NW fun _ => ?_)
  refine RD 14 14 (_) ?_
  refine WP 0 ?_
  refine WP 1 ?_
  refine WP 2 ?_
  refine WP 3 ?_
  refine WP 4 ?_
  refine VL 5 (.int .i64 (V.laid[b]).1) rfl rfl rfl rfl (.inl ⟨rfl, hC hn MM⟩) ?_
  refine WP 6 ?_
  refine WP 7 ?_
  refine WP 8 ?_
  refine WP 9 ?_
  refine WP 10 ?_
  refine VL 11 (.string (V.laid[b]).2) rfl rfl rfl rfl (.inl ⟨rfl, hC hd MM⟩) ?_
  refine WP 12 ?_
  refine WP 13 ?_
  refine DN ?_
  repeat (first | refine GD ?_ | refine NW fun _ => ?_)
  refine WL.step rfl (OP.load1 (v := .pointer (some ⟨j, 0, none⟩)) rfl rfl rfl rfl (hC (i := 1) rfl MM) rfl rfl ?_)
  repeat (first | refine GD ?_ | refine NW fun _ => ?_)
  refine WL.step rfl (OP.load1 (v := .slice x.1 V.J.held.length x.2.1) rfl rfl rfl rfl (Ent.one (i := 6) (hB MM) rfl) rfl rfl ?_)
  have hlR : ∀ x : Held, (encR x.2).length = 5 := fun _ => rfl
  repeat (first | refine GD ?_ | refine NW fun _ => ?_)
  refine WC.loop (σ := Nat) (fun i => i ≤ V.J.held.length)
    (fun i => [(0, .val (.pointer (some ⟨v, 0, none⟩))), (1, .val (.int .i64 b)), (6, .val (.int .i64 ((takeAll V.laid (V.J.held.take i)).getD b plc0).1)), (7, .val (.string ((takeAll V.laid (V.J.held.take i)).getD b plc0).2)), (29, .val (.int .i64 V.J.held.length)), (30, .val (.int .i64 i))])
    (fun _ => [A]) (fun i => V.J.held.length - i) 0 (Nat.zero_le _) ⟨rfl, rfl, by rw [List.take_zero]; show _ = some (Slot.val (.int .i64 (V.laid.getD b plc0).1)); rw [getD_lt hbl]; rfl, by rw [List.take_zero]; show _ = some (Slot.val (.string (V.laid.getD b plc0).2)); rw [getD_lt hbl]; rfl, rfl, rfl, trivial⟩ (Imp.refl _) ?_
  rintro i hi
  by_cases hlt : i < V.J.held.length
  rotate_left
  · have he : i = V.J.held.length := by omega
    subst he
    rw [List.take_length]
    repeat (first | refine GD ?_ | refine NW fun _ => ?_)
    exact ret2 rfl rfl ⟨rfl, MM⟩
  have hsn : takeAll V.laid (V.J.held.take (i + 1)) = takeV (takeAll V.laid (V.J.held.take i)) V.J.held[i].2 := by
    rw [← List.take_append_getElem hlt, takeAll_snoc]
  have hml := (takeAll_len (V.J.held.take i) V.laid).trans h8
  have hri := hr _ (List.getElem_mem hlt)
  generalize takeAll V.laid (V.J.held.take i) = m at *
  have hgt := takeV_get m V.J.held[i].2 b
  rw [← hsn] at hgt
  refine WC.fact (Ent.some (hH MM) (by omega)) ?_
  rintro ⟨b1, off1, hx⟩
  rw [hx] at hB hH
  repeat (first | refine GD ?_ | refine NW fun _ => ?_)
  refine WL.step rfl (OP.load1 (v := .pointer (some ⟨j, 0, none⟩)) rfl rfl rfl rfl (hC (i := 1) rfl MM) rfl rfl ?_)
  repeat (first | refine GD ?_ | refine NW fun _ => ?_)
  refine WL.step rfl (OP.load1 (v := .slice (some ⟨b1, off1, none⟩) V.J.held.length x.2.1) rfl rfl rfl rfl (Ent.one (i := 6) (hB MM) rfl) rfl rfl ?_)
  have hel : ∀ {L}, A ∈ L → Ent L (cellsAt b1 (off1 + i * 5) (encR V.J.held[i].2)) := fun m => Ent.elA hlR (hH m) hlt
  generalize V.J.held[i] = e at *
  obtain ⟨g, seq, kind, block, data, num⟩ := e
  dsimp only at hgt hri hel
  rw [show encR (seq, kind, block, data, num) = [.int .i64 seq, .int .i64 kind, .int .i64 block, .string data, .int .i64 num] from rfl] at hel
  repeat (first | refine GD ?_ | refine NW fun _ => ?_)
  refine WL.step rfl (OP.loadA (l := [.int .i64 seq, .int .i64 kind, .int .i64 block, .string data, .int .i64 num]) rfl rfl rfl rfl (hel MM) rfl rfl rfl ?_)
  by_cases k1 : kind = 1
  rotate_left
  · have hn1 : ¬ (kind = 1 ∧ (m.getD block.toNat plc0).1 < seq ∧ block.toNat = b ∧ b < m.length) := fun h => k1 h.1
    rw [if_neg (fun h => hn1 h)] at hgt
    repeat (first | refine GD ?_ | refine NW fun _ => ?_)
    exact ⟨i + 1, by omega, by omega, ⟨rfl, rfl, by rw [hgt]; rfl, by rw [hgt]; rfl, rfl, rfl, trivial⟩, II⟩
  have hr1 := hri k1
  by_cases k2 : block = (b : Int)
  rotate_left
  · have hn1 : ¬ (kind = 1 ∧ (m.getD block.toNat plc0).1 < seq ∧ block.toNat = b ∧ b < m.length) := fun h => k2 (by omega)
    rw [if_neg (fun h => hn1 h)] at hgt
    repeat (first | refine GD ?_ | refine NW fun _ => ?_)
    exact ⟨i + 1, by omega, by omega, ⟨rfl, rfl, by rw [hgt]; rfl, by rw [hgt]; rfl, rfl, rfl, trivial⟩, II⟩
  have k2' : block.toNat = b := by omega
  rw [k2'] at hgt
  by_cases k3 : (m.getD b plc0).1 < seq
  rotate_left
  · have hn1 : ¬ (kind = 1 ∧ (m.getD b plc0).1 < seq ∧ b = b ∧ b < m.length) := fun h => k3 h.2.1
    rw [if_neg (fun h => hn1 h)] at hgt
    repeat (first | refine GD ?_ | refine NW fun _ => ?_)
    exact ⟨i + 1, by omega, by omega, ⟨rfl, rfl, by rw [hgt]; rfl, by rw [hgt]; rfl, rfl, rfl, trivial⟩, II⟩
  rw [if_pos ⟨k1, k3, rfl, by omega⟩] at hgt
  repeat (first | refine GD ?_ | refine NW fun _ => ?_)
  refine RD 6 6 (_) ?_
  refine WP 0 ?_
  refine VV 1 ?_
  refine WP 2 ?_
  refine VV 3 ?_
  refine WP 4 ?_
  refine WP 5 ?_
  refine DN ?_
  repeat (first | refine GD ?_ | refine NW fun _ => ?_)
  exact ⟨i + 1, by omega, by omega, ⟨rfl, rfl, by rw [hgt]; rfl, by rw [hgt]; rfl, rfl, rfl, trivial⟩, II⟩
end Go.Proofs.YteednjcoapmkaaaGreatDoor
