/- Contracts of functions of the given program, and plain laws: parts of the proofs of laws. -/
import Derived.Test.YteednjcoapmkaaaGreatDoorZJournal7
import Derived.Test.YteednjcoapmkaaaGreatDoorZJournal16
import Derived.Test.YteednjcoapmkaaaGreatDoorZJournal9
import Derived.Test.YteednjcoapmkaaaGreatDoorZJournal5
/- Contracts of functions of the given program, and plain laws on what they compute: parts of the proofs of laws. -/

namespace Go.Proofs.YteednjcoapmkaaaGreatDoor
open Go Go.GL

theorem headOf_slot {b : List UInt8} {slot : Int} {h : Hd} (e : headOf b slot = some h) : h.turn % 2 = slot := by
  unfold headOf at e
  split at e
  · rename_i hc
    simp only [Option.some.injEq] at e
    subst e
    exact hc.2.2.2.2.1
  · cases e
/-- what the document's Open knows of the heads -/
theorem heads_cases (a b : List UInt8) : ∃ T0 F0 G0 L0 T1 F1 G1 L1 : Int, QHeadV a 0 = .tuple #[.int .i64 T0, .int .i64 F0, .int .i64 G0, .int .i64 L0] ∧ QHeadV b 1 = .tuple #[.int .i64 T1, .int .i64 F1, .int .i64 G1, .int .i64 L1] ∧
    (T1 < T0 → newestM a b = some ⟨T0, F0, G0, L0⟩) ∧ (T0 < T1 → newestM a b = some ⟨T1, F1, G1, L1⟩) ∧ (T0 = T1 → T0 = -1 ∧ newestM a b = if a = zero64 ∧ b = zero64 then some hd0 else none) ∧ -1 ≤ T0 ∧ -1 ≤ T1 := by
  unfold QHeadV newestM
  cases ha : headOf a 0 with
  | none =>
    cases hb : headOf b 1 with
    | none => exact ⟨_, _, _, _, _, _, _, _, rfl, rfl, fun h => by omega, fun h => by omega, fun _ => ⟨rfl, rfl⟩, by decide, by decide⟩
    | some y =>
      have := headOf_wide hb
      exact ⟨_, _, _, _, _, _, _, _, rfl, rfl, fun h => by omega, fun _ => rfl, fun h => by omega, by decide, by omega⟩
  | some x =>
    have hx := headOf_wide ha
    have sx := headOf_slot ha
    cases hb : headOf b 1 with
    | none => exact ⟨_, _, _, _, _, _, _, _, rfl, rfl, fun _ => rfl, fun h => by omega, fun h => by omega, by omega, by decide⟩
    | some y =>
      have hy := headOf_wide hb
      have sy := headOf_slot hb
      refine ⟨_, _, _, _, _, _, _, _, rfl, rfl, fun h => ?_, fun h => ?_, fun h => by omega, by omega, by omega⟩
      · dsimp only; rw [if_neg (by omega)]
      · dsimp only; rw [if_pos h]
theorem zeros_two {a b : List UInt8} (ha : a.length = 64) : (ba a ++ ba b = ba (List.replicate 128 0)) ↔ (a = zero64 ∧ b = zero64) := by
  rw [ba_app]
  constructor
  · intro h
    have h2 := ba_inj h
    have h3 : a ++ b = zero64 ++ zero64 := h2.trans (by unfold zero64; rw [List.replicate_append_replicate])
    exact List.append_inj h3 (by rw [ha]; rfl)
  · rintro ⟨rfl, rfl⟩
    unfold zero64
    rw [List.replicate_append_replicate]
def ROpenJ (p : Nat) (D : Dsk) (ring : Int) (v : Value) (M : List Assn) : Prop := match openM D ring with
  | .ok (J, D') => ∃ j, v = .tuple #[.pointer (some ⟨j, 0, none⟩), .int .i64 0] ∧ M = [rjrn j p J, rdsk p D']
  | .error c => v = .tuple #[.pointer none, .int .i64 c] ∧ M = [rdsk p D]
theorem decR_err {l : List UInt8} {c : Int} (h : decR l = .error c) : c ≠ 0 := by
  unfold decR at h
  split at h
  · split at h <;> cases h; decide
  · cases h; decide
set_option maxHeartbeats 16000000 in
set_option maxRecDepth 10000 in
theorem ropen_ok (p : Nat) (D : Dsk) (ring : Int) (hD : D.ok) (hw : D.W.length < 10000) (hr64 : -9223372036854775808 ≤ ring ∧ ring ≤ 9223372036854775807) :
    Triple G 11 [.pointer (some ⟨p, 0, none⟩), .int .i64 ring] [rdsk p D] (ROpenJ p D ring) := by
  refine Triple.enter Tryz.func11 rfl (by decide) rfl Tryz.ntmps11 rfl (fun F => ?_)
  have hwd : widest = 1152921504606846975 := rfl
  have hfew := hD.few
  have hdef : openM D ring = if ring < 1 ∨ 512 < ring ∨ (D.S.length : Int) < 2 + ring then .error 1
    else match newestM (D.cur 0) (D.cur 1) with
    | none => .error 4
    | some h => .ok (⟨ring.toNat, { h with gen := h.gen + 1, turn := h.turn + 1 }, scanM D ring.toNat h⟩, saveM D { h with gen := h.gen + 1, turn := h.turn + 1 }) := rfl
  by_cases h1 : ring < 1
  · have hop : openM D ring = .error 1 := by rw [hdef, if_pos (.inl h1)]
    repeat (first | refine GD ?_ | refine NW fun _ => ?_)
    refine ret2 rfl rfl ⟨[rdsk p D], ?_, Imp.refl _⟩
    unfold ROpenJ
    rw [hop]
    exact ⟨rfl, rfl⟩
  by_cases h2 : 512 < ring
  · have hop : openM D ring = .error 1 := by rw [hdef, if_pos (.inr (.inl h2))]
    repeat (first | refine GD ?_ | refine NW fun _ => ?_)
    refine ret2 rfl rfl ⟨[rdsk p D], ?_, Imp.refl _⟩
    unfold ROpenJ
    rw [hop]
    exact ⟨rfl, rfl⟩
  refine WC.open P1 (fun x => ?_)
  unfold rdskL
  dsimp only [List.cons_append, List.nil_append]
  by_cases h3 : (D.S.length : Int) < 2 + ring
  · have hop : openM D ring = .error 1 := by rw [hdef, if_pos (.inr (.inr h3))]
    repeat (first | refine GD ?_ | refine NW fun _ => ?_)
    refine ret2 rfl rfl ⟨[rdsk p D], ?_, Imp.trans II (rdskFold p D x)⟩
    unfold ROpenJ
    rw [hop]
    exact ⟨rfl, rfl⟩
  rw [if_neg (by omega)] at hdef
  obtain ⟨n, rfl⟩ : ∃ n : Nat, ring = n := ⟨ring.toNat, by omega⟩
  rw [Int.toNat_natCast] at hdef
  have hr0 : RRdV D 0 = .tuple #[.string (ba (D.cur 0)), .int .i64 0] := by unfold RRdV; rw [if_pos (by omega)]; rfl
  have hr1 : RRdV D 1 = .tuple #[.string (ba (D.cur 1)), .int .i64 0] := by unfold RRdV; rw [if_pos (by omega)]; rfl
  have hrd0 := rdread_ro p D 0 (by omega)
  have hrd1 := rdread_ro p D 1 (by omega)
  rw [hr0] at hrd0
  rw [hr1] at hrd1
  have ha64 := Dsk.cur_64 hD (show 0 < D.S.length by omega)
  have hb64 := Dsk.cur_64 hD (show 1 < D.S.length by omega)
  have hwide := fun h => @newestM_wide (D.cur 0) (D.cur 1) h
  generalize D.cur 0 = a at *
  generalize D.cur 1 = b at *
  have hq0 := qhead_ro a 0 (by omega)
  have hq1 := qhead_ro b 1 (by omega)
  obtain ⟨T0, F0, G0, L0, T1, F1, G1, L1, e0, e1, c10, c01, ceq, m0, m1⟩ := heads_cases a b
  rw [e0] at hq0
  rw [e1] at hq1
  have hz := zeros_two (b := b) ha64
  have za := ba_size a
  have zb := ba_size b
  repeat (first | refine GD ?_ | refine NW fun _ => ?_)
  refine WL.imp (Imp.trans II (rdskFold p D x (N := [F]))) ?_
  refine WL.step rfl (OP.callRO rfl rfl hrd0 (Ent.at (up_rdsk _ _) MM) rfl rfl ?_)
  repeat (first | refine GD ?_ | refine NW fun _ => ?_)
  refine WL.step rfl (OP.callRO rfl rfl hrd1 (Ent.at (up_rdsk _ _) MM) rfl rfl ?_)
  repeat (first | refine GD ?_ | refine NW fun _ => ?_)
  rename_i j
  refine WL.step rfl (OP.callRO rfl rfl hq0 (fun _ _ => trivial) rfl rfl ?_)
  repeat (first | refine GD ?_ | refine NW fun _ => ?_)
  refine WL.step rfl (OP.callRO rfl rfl hq1 (fun _ _ => trivial) rfl rfl ?_)
  by_cases hT10 : T1 < T0
  · repeat (first | refine GD ?_ | refine NW fun _ => ?_)
    obtain ⟨⟨w1, w2⟩, ⟨w3, w4⟩, ⟨w5, w6⟩⟩ := hwide _ (c10 hT10)
    dsimp only at w1 w2 w3 w4 w5 w6
    rw [(c10 hT10)] at hdef
    dsimp only at hdef
    have hsl := scanM_len D n ⟨T0, F0, G0, L0⟩
    refine WC.loop (σ := Nat × List Held × Int) (fun s => s.2.1.length + s.1 = n ∧ scanF D n ⟨T0, F0, G0, L0⟩ s.1 s.2.1 s.2.2 = scanM D n ⟨T0, F0, G0, L0⟩)
      (fun s => [(0, .val (.pointer (some ⟨p, 0, none⟩))), (1, .val (.int .i64 n)), (10, .val (.pointer (some ⟨j, 0, none⟩))), (19, .val (.int .i64 s.2.2))])
      (fun s => [rjrn j p ⟨n, ⟨T0, F0, G0, L0⟩, s.2.1⟩, rdsk p D, F]) (fun s => s.1) (n, [], L0) ⟨by simp, rfl⟩ ⟨rfl, rfl, rfl, rfl, trivial⟩ ?_ ?_
    · exact (Imp.nilS 42 5).trans ((Imp.nilS 3 1).trans (Imp.trans II (rjrnFold j p ⟨n, ⟨T0, F0, G0, L0⟩, []⟩ (none, 0, none, 0))))
    rintro ⟨k, l, low⟩ ⟨hk, hs⟩
    dsimp only at hk hs ⊢
    have hll : l.length ≤ n := by omega
    refine WC.open P1 (fun y => ?_)
    unfold rjrnL
    dsimp only [List.cons_append, List.nil_append]
    cases k with
    | zero =>
      have hout : scanM D n ⟨T0, F0, G0, L0⟩ = l := hs.symm
      have hkl : n = l.length := by omega
      repeat (first | refine GD ?_ | refine NW fun _ => ?_)
      refine WL.imp (M := [rjrn j p ⟨n, ⟨T0, F0, G0 + 1, L0⟩, l⟩, rdsk p D, F]) (Imp.trans II (rjrnFold j p ⟨n, ⟨T0, F0, G0 + 1, L0⟩, l⟩ y)) ?_
      refine WL.step rfl (OP.call (pre := [rjrn j p ⟨n, ⟨T0, F0, G0 + 1, L0⟩, l⟩, rdsk p D]) rfl rfl (rsave_ok j p ⟨n, ⟨T0, F0, G0 + 1, L0⟩, l⟩ D ⟨w1, by dsimp only; omega⟩ hD (by omega) hw) PS rfl rfl ?_)
      rintro _ _ ⟨rfl, rfl⟩
      repeat (first | refine GD ?_ | refine NW fun _ => ?_)
      refine ret2 rfl rfl ⟨_, ?_, Imp.refl _⟩
      unfold ROpenJ
      rw [hdef, hout]
      exact ⟨j, rfl, rfl⟩
    | succ k =>
      have hkl : l.length < n := by omega
      have hpb := pos_bd (show 1 ≤ n by omega) (F0 + l.length)
      have hmm := Int.emod_nonneg (F0 + l.length) (b := (n : Int)) (by omega)
      have hpe : 2 + (F0 + l.length) % n = ((posM n (F0 + l.length) : Nat) : Int) := by unfold posM; omega
      have hfit : scanF D n ⟨T0, F0, G0, L0⟩ (k + 1) l low = match fits (D.cur (posM n (F0 + l.length))) (F0 + l.length) low G0 with
        | some x => scanF D n ⟨T0, F0, G0, L0⟩ k (l ++ [x]) x.1
        | none => l := rfl
      rw [hfit] at hs
      have h64 := Dsk.cur_64 hD (show posM n (F0 + l.length) < D.S.length by omega)
      have hrd := rdread_ro p D (posM n (F0 + l.length)) (by omega)
      unfold RRdV at hrd
      rw [if_pos (by omega), Int.toNat_natCast] at hrd
      generalize D.cur (posM n (F0 + l.length)) = c at *
      have hdc := qdecode_ro c (by omega)
      unfold DecQ at hdc
      repeat (first | refine GD ?_ | refine NW fun _ => ?_)
      refine RD 11 11 (_) ?_
      refine WP 0 ?_
      refine WP 1 ?_
      refine WP 2 ?_
      refine VV 3 ?_
      refine WP 4 ?_
      refine WP 5 ?_
      refine WP 6 ?_
      refine VV 7 ?_
      refine WP 8 ?_
      refine WP 9 ?_
      refine WP 10 ?_
      refine DN ?_
      repeat (first | refine GD ?_ | refine NW fun _ => ?_)
      rw [hpe]
      refine WL.step rfl (OP.callRO rfl rfl hrd (Ent.at (up_rdsk _ _) MM) rfl rfl ?_)
      repeat (first | refine GD ?_ | refine NW fun _ => ?_)
      refine WL.step rfl (OP.callRO rfl rfl hdc (fun _ _ => trivial) rfl rfl ?_)
      cases hq : decR c with
      | error ec =>
        have hec := decR_err hq
        have hfn : fits c (F0 + l.length) low G0 = none := fits_none (fun x hx => by rw [hq] at hx; cases hx)
        rw [hfn] at hs
        have hout : scanM D n ⟨T0, F0, G0, L0⟩ = l := hs.symm
        repeat (first | refine GD ?_ | refine NW fun _ => ?_)
        refine WL.imp (M := [rjrn j p ⟨n, ⟨T0, F0, G0 + 1, L0⟩, l⟩, rdsk p D, F]) (Imp.trans II (rjrnFold j p ⟨n, ⟨T0, F0, G0 + 1, L0⟩, l⟩ y)) ?_
        refine WL.step rfl (OP.call (pre := [rjrn j p ⟨n, ⟨T0, F0, G0 + 1, L0⟩, l⟩, rdsk p D]) rfl rfl (rsave_ok j p ⟨n, ⟨T0, F0, G0 + 1, L0⟩, l⟩ D ⟨w1, by dsimp only; omega⟩ hD (by omega) hw) PS rfl rfl ?_)
        rintro _ _ ⟨rfl, rfl⟩
        repeat (first | refine GD ?_ | refine NW fun _ => ?_)
        refine ret2 rfl rfl ⟨_, ?_, Imp.refl _⟩
        unfold ROpenJ
        rw [hdef, hout]
        exact ⟨j, rfl, rfl⟩
      | ok yy =>
        obtain ⟨g, r⟩ := yy
        dsimp only
        by_cases h1 : r.1 = F0 + l.length
        rotate_left
        · have hfn : fits c (F0 + l.length) low G0 = none := by unfold fits; rw [hq]; dsimp only; rw [if_neg (fun h => h1 h.1)]
          rw [hfn] at hs
          have hout : scanM D n ⟨T0, F0, G0, L0⟩ = l := hs.symm
          repeat (first | refine GD ?_ | refine NW fun _ => ?_)
          refine WL.imp (M := [rjrn j p ⟨n, ⟨T0, F0, G0 + 1, L0⟩, l⟩, rdsk p D, F]) (Imp.trans II (rjrnFold j p ⟨n, ⟨T0, F0, G0 + 1, L0⟩, l⟩ y)) ?_
          refine WL.step rfl (OP.call (pre := [rjrn j p ⟨n, ⟨T0, F0, G0 + 1, L0⟩, l⟩, rdsk p D]) rfl rfl (rsave_ok j p ⟨n, ⟨T0, F0, G0 + 1, L0⟩, l⟩ D ⟨w1, by dsimp only; omega⟩ hD (by omega) hw) PS rfl rfl ?_)
          rintro _ _ ⟨rfl, rfl⟩
          repeat (first | refine GD ?_ | refine NW fun _ => ?_)
          refine ret2 rfl rfl ⟨_, ?_, Imp.refl _⟩
          unfold ROpenJ
          rw [hdef, hout]
          exact ⟨j, rfl, rfl⟩
        by_cases h2 : low ≤ g
        rotate_left
        · have hfn : fits c (F0 + l.length) low G0 = none := by unfold fits; rw [hq]; dsimp only; rw [if_neg (fun h => h2 h.2.1)]
          rw [hfn] at hs
          have hout : scanM D n ⟨T0, F0, G0, L0⟩ = l := hs.symm
          repeat (first | refine GD ?_ | refine NW fun _ => ?_)
          refine WL.imp (M := [rjrn j p ⟨n, ⟨T0, F0, G0 + 1, L0⟩, l⟩, rdsk p D, F]) (Imp.trans II (rjrnFold j p ⟨n, ⟨T0, F0, G0 + 1, L0⟩, l⟩ y)) ?_
          refine WL.step rfl (OP.call (pre := [rjrn j p ⟨n, ⟨T0, F0, G0 + 1, L0⟩, l⟩, rdsk p D]) rfl rfl (rsave_ok j p ⟨n, ⟨T0, F0, G0 + 1, L0⟩, l⟩ D ⟨w1, by dsimp only; omega⟩ hD (by omega) hw) PS rfl rfl ?_)
          rintro _ _ ⟨rfl, rfl⟩
          repeat (first | refine GD ?_ | refine NW fun _ => ?_)
          refine ret2 rfl rfl ⟨_, ?_, Imp.refl _⟩
          unfold ROpenJ
          rw [hdef, hout]
          exact ⟨j, rfl, rfl⟩
        by_cases h3 : g ≤ G0
        rotate_left
        · have hfn : fits c (F0 + l.length) low G0 = none := by unfold fits; rw [hq]; dsimp only; rw [if_neg (fun h => h3 h.2.2)]
          rw [hfn] at hs
          have hout : scanM D n ⟨T0, F0, G0, L0⟩ = l := hs.symm
          repeat (first | refine GD ?_ | refine NW fun _ => ?_)
          refine WL.imp (M := [rjrn j p ⟨n, ⟨T0, F0, G0 + 1, L0⟩, l⟩, rdsk p D, F]) (Imp.trans II (rjrnFold j p ⟨n, ⟨T0, F0, G0 + 1, L0⟩, l⟩ y)) ?_
          refine WL.step rfl (OP.call (pre := [rjrn j p ⟨n, ⟨T0, F0, G0 + 1, L0⟩, l⟩, rdsk p D]) rfl rfl (rsave_ok j p ⟨n, ⟨T0, F0, G0 + 1, L0⟩, l⟩ D ⟨w1, by dsimp only; omega⟩ hD (by omega) hw) PS rfl rfl ?_)
          rintro _ _ ⟨rfl, rfl⟩
          repeat (first | refine GD ?_ | refine NW fun _ => ?_)
          refine ret2 rfl rfl ⟨_, ?_, Imp.refl _⟩
          unfold ROpenJ
          rw [hdef, hout]
          exact ⟨j, rfl, rfl⟩
        have hfn : fits c (F0 + l.length) low G0 = some (g, r) := by unfold fits; rw [hq]; dsimp only; rw [if_pos ⟨h1, h2, h3⟩]
        rw [hfn] at hs
        dsimp only at hs
        repeat (first | refine GD ?_ | refine NW fun _ => ?_)
        refine RD 7 11 (_) ?_
        refine WP 0 ?_
        refine WP 1 ?_
        refine WP 2 ?_
        refine WP 3 ?_
        refine VV 4 ?_
        refine VL 5 (.agg (encR r).toArray) rfl rfl rfl rfl (.inr ⟨rfl, encR r, rfl, rfl, Ent.whole MM⟩) ?_
        refine WH.only 6 rfl rfl (by kernel_rfl) rfl (OP.sliceLit (c := encR r) rfl rfl rfl rfl rfl rfl rfl rfl (fun b2 => ⟨fun _ => II, ?_⟩))
        refine WH.only 7 rfl rfl (by kernel_rfl) rfl (OP.append rfl rfl rfl rfl rfl rfl rfl rfl rfl P1 (Ent.own MM) rfl (by omega) (by omega) rfl rfl (fun a' cap' => ⟨(fun h => nomatch h), ?_⟩))
        refine WP 8 ?_
        refine WP 9 ?_
        refine WH.only 10 rfl rfl (by kernel_rfl) rfl (OP.store rfl rfl rfl rfl rfl rfl rfl UP rfl ⟨(fun h => nomatch h), ?_⟩)
        refine DN ?_
        repeat (first | refine GD ?_ | refine NW fun _ => ?_)
        refine WL.step rfl (OP.append (ds := [.int .i64 g]) rfl rfl rfl rfl rfl rfl rfl rfl rfl P1 (Ent.own MM) rfl (by omega) (by omega) rfl rfl (fun a3 cap3 => ?_))
        repeat (first | refine GD ?_ | refine NW fun _ => ?_)
        refine ⟨(k, l ++ [(g, r)], g), ⟨by simp; omega, hs⟩, Nat.lt_succ_self k, ⟨rfl, rfl, rfl, rfl, trivial⟩, ?_⟩
        dsimp only
        refine Imp.trans ?_ (rjrnFold j p ⟨n, ⟨T0, F0, G0, L0⟩, l ++ [(g, r)]⟩ (a', cap', a3, cap3))
        dsimp only
        rw [List.length_append, List.flatMap_append, List.flatMap_cons, List.flatMap_nil, List.append_nil, List.map_append]
        exact II
  by_cases hT01 : T0 < T1
  · by_cases hn0 : T0 < 0
    all_goals
      repeat (first | refine GD ?_ | refine NW fun _ => ?_)
      obtain ⟨⟨w1, w2⟩, ⟨w3, w4⟩, ⟨w5, w6⟩⟩ := hwide _ (c01 hT01)
      dsimp only at w1 w2 w3 w4 w5 w6
      rw [(c01 hT01)] at hdef
      dsimp only at hdef
      have hsl := scanM_len D n ⟨T1, F1, G1, L1⟩
      refine WC.loop (σ := Nat × List Held × Int) (fun s => s.2.1.length + s.1 = n ∧ scanF D n ⟨T1, F1, G1, L1⟩ s.1 s.2.1 s.2.2 = scanM D n ⟨T1, F1, G1, L1⟩)
        (fun s => [(0, .val (.pointer (some ⟨p, 0, none⟩))), (1, .val (.int .i64 n)), (10, .val (.pointer (some ⟨j, 0, none⟩))), (19, .val (.int .i64 s.2.2))])
        (fun s => [rjrn j p ⟨n, ⟨T1, F1, G1, L1⟩, s.2.1⟩, rdsk p D, F]) (fun s => s.1) (n, [], L1) ⟨by simp, rfl⟩ ⟨rfl, rfl, rfl, rfl, trivial⟩ ?_ ?_
      · exact (Imp.nilS 42 5).trans ((Imp.nilS 3 1).trans (Imp.trans II (rjrnFold j p ⟨n, ⟨T1, F1, G1, L1⟩, []⟩ (none, 0, none, 0))))
      rintro ⟨k, l, low⟩ ⟨hk, hs⟩
      dsimp only at hk hs ⊢
      have hll : l.length ≤ n := by omega
      refine WC.open P1 (fun y => ?_)
      unfold rjrnL
      dsimp only [List.cons_append, List.nil_append]
      cases k with
      | zero =>
        have hout : scanM D n ⟨T1, F1, G1, L1⟩ = l := hs.symm
        have hkl : n = l.length := by omega
        repeat (first | refine GD ?_ | refine NW fun _ => ?_)
        refine WL.imp (M := [rjrn j p ⟨n, ⟨T1, F1, G1 + 1, L1⟩, l⟩, rdsk p D, F]) (Imp.trans II (rjrnFold j p ⟨n, ⟨T1, F1, G1 + 1, L1⟩, l⟩ y)) ?_
        refine WL.step rfl (OP.call (pre := [rjrn j p ⟨n, ⟨T1, F1, G1 + 1, L1⟩, l⟩, rdsk p D]) rfl rfl (rsave_ok j p ⟨n, ⟨T1, F1, G1 + 1, L1⟩, l⟩ D ⟨w1, by dsimp only; omega⟩ hD (by omega) hw) PS rfl rfl ?_)
        rintro _ _ ⟨rfl, rfl⟩
        repeat (first | refine GD ?_ | refine NW fun _ => ?_)
        refine ret2 rfl rfl ⟨_, ?_, Imp.refl _⟩
        unfold ROpenJ
        rw [hdef, hout]
        exact ⟨j, rfl, rfl⟩
      | succ k =>
        have hkl : l.length < n := by omega
        have hpb := pos_bd (show 1 ≤ n by omega) (F1 + l.length)
        have hmm := Int.emod_nonneg (F1 + l.length) (b := (n : Int)) (by omega)
        have hpe : 2 + (F1 + l.length) % n = ((posM n (F1 + l.length) : Nat) : Int) := by unfold posM; omega
        have hfit : scanF D n ⟨T1, F1, G1, L1⟩ (k + 1) l low = match fits (D.cur (posM n (F1 + l.length))) (F1 + l.length) low G1 with
          | some x => scanF D n ⟨T1, F1, G1, L1⟩ k (l ++ [x]) x.1
          | none => l := rfl
        rw [hfit] at hs
        have h64 := Dsk.cur_64 hD (show posM n (F1 + l.length) < D.S.length by omega)
        have hrd := rdread_ro p D (posM n (F1 + l.length)) (by omega)
        unfold RRdV at hrd
        rw [if_pos (by omega), Int.toNat_natCast] at hrd
        generalize D.cur (posM n (F1 + l.length)) = c at *
        have hdc := qdecode_ro c (by omega)
        unfold DecQ at hdc
        repeat (first | refine GD ?_ | refine NW fun _ => ?_)
        refine RD 11 11 (_) ?_
        refine WP 0 ?_
        refine WP 1 ?_
        refine WP 2 ?_
        refine VV 3 ?_
        refine WP 4 ?_
        refine WP 5 ?_
        refine WP 6 ?_
        refine VV 7 ?_
        refine WP 8 ?_
        refine WP 9 ?_
        refine WP 10 ?_
        refine DN ?_
        repeat (first | refine GD ?_ | refine NW fun _ => ?_)
        rw [hpe]
        refine WL.step rfl (OP.callRO rfl rfl hrd (Ent.at (up_rdsk _ _) MM) rfl rfl ?_)
        repeat (first | refine GD ?_ | refine NW fun _ => ?_)
        refine WL.step rfl (OP.callRO rfl rfl hdc (fun _ _ => trivial) rfl rfl ?_)
        cases hq : decR c with
        | error ec =>
          have hec := decR_err hq
          have hfn : fits c (F1 + l.length) low G1 = none := fits_none (fun x hx => by rw [hq] at hx; cases hx)
          rw [hfn] at hs
          have hout : scanM D n ⟨T1, F1, G1, L1⟩ = l := hs.symm
          repeat (first | refine GD ?_ | refine NW fun _ => ?_)
          refine WL.imp (M := [rjrn j p ⟨n, ⟨T1, F1, G1 + 1, L1⟩, l⟩, rdsk p D, F]) (Imp.trans II (rjrnFold j p ⟨n, ⟨T1, F1, G1 + 1, L1⟩, l⟩ y)) ?_
          refine WL.step rfl (OP.call (pre := [rjrn j p ⟨n, ⟨T1, F1, G1 + 1, L1⟩, l⟩, rdsk p D]) rfl rfl (rsave_ok j p ⟨n, ⟨T1, F1, G1 + 1, L1⟩, l⟩ D ⟨w1, by dsimp only; omega⟩ hD (by omega) hw) PS rfl rfl ?_)
          rintro _ _ ⟨rfl, rfl⟩
          repeat (first | refine GD ?_ | refine NW fun _ => ?_)
          refine ret2 rfl rfl ⟨_, ?_, Imp.refl _⟩
          unfold ROpenJ
          rw [hdef, hout]
          exact ⟨j, rfl, rfl⟩
        | ok yy =>
          obtain ⟨g, r⟩ := yy
          dsimp only
          by_cases h1 : r.1 = F1 + l.length
          rotate_left
          · have hfn : fits c (F1 + l.length) low G1 = none := by unfold fits; rw [hq]; dsimp only; rw [if_neg (fun h => h1 h.1)]
            rw [hfn] at hs
            have hout : scanM D n ⟨T1, F1, G1, L1⟩ = l := hs.symm
            repeat (first | refine GD ?_ | refine NW fun _ => ?_)
            refine WL.imp (M := [rjrn j p ⟨n, ⟨T1, F1, G1 + 1, L1⟩, l⟩, rdsk p D, F]) (Imp.trans II (rjrnFold j p ⟨n, ⟨T1, F1, G1 + 1, L1⟩, l⟩ y)) ?_
            refine WL.step rfl (OP.call (pre := [rjrn j p ⟨n, ⟨T1, F1, G1 + 1, L1⟩, l⟩, rdsk p D]) rfl rfl (rsave_ok j p ⟨n, ⟨T1, F1, G1 + 1, L1⟩, l⟩ D ⟨w1, by dsimp only; omega⟩ hD (by omega) hw) PS rfl rfl ?_)
            rintro _ _ ⟨rfl, rfl⟩
            repeat (first | refine GD ?_ | refine NW fun _ => ?_)
            refine ret2 rfl rfl ⟨_, ?_, Imp.refl _⟩
            unfold ROpenJ
            rw [hdef, hout]
            exact ⟨j, rfl, rfl⟩
          by_cases h2 : low ≤ g
          rotate_left
          · have hfn : fits c (F1 + l.length) low G1 = none := by unfold fits; rw [hq]; dsimp only; rw [if_neg (fun h => h2 h.2.1)]
            rw [hfn] at hs
            have hout : scanM D n ⟨T1, F1, G1, L1⟩ = l := hs.symm
            repeat (first | refine GD ?_ | refine NW fun _ => ?_)
            refine WL.imp (M := [rjrn j p ⟨n, ⟨T1, F1, G1 + 1, L1⟩, l⟩, rdsk p D, F]) (Imp.trans II (rjrnFold j p ⟨n, ⟨T1, F1, G1 + 1, L1⟩, l⟩ y)) ?_
            refine WL.step rfl (OP.call (pre := [rjrn j p ⟨n, ⟨T1, F1, G1 + 1, L1⟩, l⟩, rdsk p D]) rfl rfl (rsave_ok j p ⟨n, ⟨T1, F1, G1 + 1, L1⟩, l⟩ D ⟨w1, by dsimp only; omega⟩ hD (by omega) hw) PS rfl rfl ?_)
            rintro _ _ ⟨rfl, rfl⟩
            repeat (first | refine GD ?_ | refine NW fun _ => ?_)
            refine ret2 rfl rfl ⟨_, ?_, Imp.refl _⟩
            unfold ROpenJ
            rw [hdef, hout]
            exact ⟨j, rfl, rfl⟩
          by_cases h3 : g ≤ G1
          rotate_left
          · have hfn : fits c (F1 + l.length) low G1 = none := by unfold fits; rw [hq]; dsimp only; rw [if_neg (fun h => h3 h.2.2)]
            rw [hfn] at hs
            have hout : scanM D n ⟨T1, F1, G1, L1⟩ = l := hs.symm
            repeat (first | refine GD ?_ | refine NW fun _ => ?_)
            refine WL.imp (M := [rjrn j p ⟨n, ⟨T1, F1, G1 + 1, L1⟩, l⟩, rdsk p D, F]) (Imp.trans II (rjrnFold j p ⟨n, ⟨T1, F1, G1 + 1, L1⟩, l⟩ y)) ?_
            refine WL.step rfl (OP.call (pre := [rjrn j p ⟨n, ⟨T1, F1, G1 + 1, L1⟩, l⟩, rdsk p D]) rfl rfl (rsave_ok j p ⟨n, ⟨T1, F1, G1 + 1, L1⟩, l⟩ D ⟨w1, by dsimp only; omega⟩ hD (by omega) hw) PS rfl rfl ?_)
            rintro _ _ ⟨rfl, rfl⟩
            repeat (first | refine GD ?_ | refine NW fun _ => ?_)
            refine ret2 rfl rfl ⟨_, ?_, Imp.refl _⟩
            unfold ROpenJ
            rw [hdef, hout]
            exact ⟨j, rfl, rfl⟩
          have hfn : fits c (F1 + l.length) low G1 = some (g, r) := by unfold fits; rw [hq]; dsimp only; rw [if_pos ⟨h1, h2, h3⟩]
          rw [hfn] at hs
          dsimp only at hs
          repeat (first | refine GD ?_ | refine NW fun _ => ?_)
          refine RD 7 11 (_) ?_
          refine WP 0 ?_
          refine WP 1 ?_
          refine WP 2 ?_
          refine WP 3 ?_
          refine VV 4 ?_
          refine VL 5 (.agg (encR r).toArray) rfl rfl rfl rfl (.inr ⟨rfl, encR r, rfl, rfl, Ent.whole MM⟩) ?_
          refine WH.only 6 rfl rfl (by kernel_rfl) rfl (OP.sliceLit (c := encR r) rfl rfl rfl rfl rfl rfl rfl rfl (fun b2 => ⟨fun _ => II, ?_⟩))
          refine WH.only 7 rfl rfl (by kernel_rfl) rfl (OP.append rfl rfl rfl rfl rfl rfl rfl rfl rfl P1 (Ent.own MM) rfl (by omega) (by omega) rfl rfl (fun a' cap' => ⟨(fun h => nomatch h), ?_⟩))
          refine WP 8 ?_
          refine WP 9 ?_
          refine WH.only 10 rfl rfl (by kernel_rfl) rfl (OP.store rfl rfl rfl rfl rfl rfl rfl UP rfl ⟨(fun h => nomatch h), ?_⟩)
          refine DN ?_
          repeat (first | refine GD ?_ | refine NW fun _ => ?_)
          refine WL.step rfl (OP.append (ds := [.int .i64 g]) rfl rfl rfl rfl rfl rfl rfl rfl rfl P1 (Ent.own MM) rfl (by omega) (by omega) rfl rfl (fun a3 cap3 => ?_))
          repeat (first | refine GD ?_ | refine NW fun _ => ?_)
          refine ⟨(k, l ++ [(g, r)], g), ⟨by simp; omega, hs⟩, Nat.lt_succ_self k, ⟨rfl, rfl, rfl, rfl, trivial⟩, ?_⟩
          dsimp only
          refine Imp.trans ?_ (rjrnFold j p ⟨n, ⟨T1, F1, G1, L1⟩, l ++ [(g, r)]⟩ (a', cap', a3, cap3))
          dsimp only
          rw [List.length_append, List.flatMap_append, List.flatMap_cons, List.flatMap_nil, List.append_nil, List.map_append]
          exact II
  obtain ⟨hm1, hnew⟩ := ceq (by omega)
  have hm2 : T1 = -1 := by omega
  subst hm1 hm2
  repeat (first | refine GD ?_ | refine NW fun _ => ?_)
  refine WL.guardT rfl rfl rfl rfl (OP.makeS (z := [.int .u8 0]) rfl rfl rfl rfl rfl rfl rfl rfl (by decide) (by decide) (by decide) rfl rfl (fun bz => ?_))
  refine WL.guardT rfl rfl rfl rfl (OP.toStr (sv := ba (List.replicate 128 0)) rfl rfl rfl rfl rfl rfl rfl rfl (by rw [strCells_ba, ← repL_bytes]; exact Ent.own (T := 5) MM) rfl rfl ?_)
  by_cases hzz : a = zero64 ∧ b = zero64
  rotate_left
  · have hop : openM D n = .error 4 := by rw [hdef, hnew, if_neg hzz]
    have hz' : ¬ ba a ++ ba b = ba (List.replicate 128 0) := fun h => hzz (hz.1 h)
    generalize ba a ++ ba b = zab at *
    generalize ba (List.replicate 128 0) = zz at *
    repeat (first | refine GD ?_ | refine NW fun _ => ?_)
    refine ret2 rfl rfl ⟨[rdsk p D], ?_, II⟩
    unfold ROpenJ
    rw [hop]
    exact ⟨rfl, rfl⟩
  have hzt := hz.2 hzz
  have hnew' : newestM a b = some ⟨0, 1, 0, 0⟩ := by rw [hnew, if_pos hzz]; rfl
  clear hz
  rw [hzt]
  generalize ba (List.replicate 128 0) = zz at *
  repeat (first | refine GD ?_ | refine NW fun _ => ?_)
  rw [decide_eq_true (rfl : zz = zz)]
  repeat (first | refine GD ?_ | refine NW fun _ => ?_)
  obtain ⟨⟨w1, w2⟩, ⟨w3, w4⟩, ⟨w5, w6⟩⟩ := hwide _ hnew'
  dsimp only at w1 w2 w3 w4 w5 w6
  rw [hnew'] at hdef
  dsimp only at hdef
  have hsl := scanM_len D n ⟨0, 1, 0, 0⟩
  refine WC.loop (σ := Nat × List Held × Int) (fun s => s.2.1.length + s.1 = n ∧ scanF D n ⟨0, 1, 0, 0⟩ s.1 s.2.1 s.2.2 = scanM D n ⟨0, 1, 0, 0⟩)
    (fun s => [(0, .val (.pointer (some ⟨p, 0, none⟩))), (1, .val (.int .i64 n)), (10, .val (.pointer (some ⟨j, 0, none⟩))), (19, .val (.int .i64 s.2.2))])
    (fun s => [rjrn j p ⟨n, ⟨0, 1, 0, 0⟩, s.2.1⟩, rdsk p D, F]) (fun s => s.1) (n, [], 0) ⟨by simp, rfl⟩ ⟨rfl, rfl, rfl, rfl, trivial⟩ ?_ ?_
  · exact (Imp.nilS 42 5).trans ((Imp.nilS 3 1).trans (Imp.trans II (rjrnFold j p ⟨n, ⟨0, 1, 0, 0⟩, []⟩ (none, 0, none, 0))))
  rintro ⟨k, l, low⟩ ⟨hk, hs⟩
  dsimp only at hk hs ⊢
  have hll : l.length ≤ n := by omega
  refine WC.open P1 (fun y => ?_)
  unfold rjrnL
  dsimp only [List.cons_append, List.nil_append]
  cases k with
  | zero =>
    have hout : scanM D n ⟨0, 1, 0, 0⟩ = l := hs.symm
    have hkl : n = l.length := by omega
    repeat (first | refine GD ?_ | refine NW fun _ => ?_)
    refine WL.imp (M := [rjrn j p ⟨n, ⟨(0 : Int), (1 : Int), (0 : Int) + 1, (0 : Int)⟩, l⟩, rdsk p D, F]) (Imp.trans II (rjrnFold j p ⟨n, ⟨(0 : Int), (1 : Int), (0 : Int) + 1, (0 : Int)⟩, l⟩ y)) ?_
    refine WL.step rfl (OP.call (pre := [rjrn j p ⟨n, ⟨(0 : Int), (1 : Int), (0 : Int) + 1, (0 : Int)⟩, l⟩, rdsk p D]) rfl rfl (rsave_ok j p ⟨n, ⟨(0 : Int), (1 : Int), (0 : Int) + 1, (0 : Int)⟩, l⟩ D ⟨w1, by dsimp only; omega⟩ hD (by omega) hw) PS rfl rfl ?_)
    rintro _ _ ⟨rfl, rfl⟩
    repeat (first | refine GD ?_ | refine NW fun _ => ?_)
    refine ret2 rfl rfl ⟨_, ?_, Imp.refl _⟩
    unfold ROpenJ
    rw [hdef, hout]
    exact ⟨j, rfl, rfl⟩
  | succ k =>
    have hkl : l.length < n := by omega
    have hpb := pos_bd (show 1 ≤ n by omega) ((1 : Int) + l.length)
    have hmm := Int.emod_nonneg ((1 : Int) + l.length) (b := (n : Int)) (by omega)
    have hpe : 2 + ((1 : Int) + l.length) % n = ((posM n ((1 : Int) + l.length) : Nat) : Int) := by unfold posM; omega
    have hfit : scanF D n ⟨0, 1, 0, 0⟩ (k + 1) l low = match fits (D.cur (posM n ((1 : Int) + l.length))) ((1 : Int) + l.length) low (0 : Int) with
      | some x => scanF D n ⟨0, 1, 0, 0⟩ k (l ++ [x]) x.1
      | none => l := rfl
    rw [hfit] at hs
    have h64 := Dsk.cur_64 hD (show posM n ((1 : Int) + l.length) < D.S.length by omega)
    have hrd := rdread_ro p D (posM n ((1 : Int) + l.length)) (by omega)
    unfold RRdV at hrd
    rw [if_pos (by omega), Int.toNat_natCast] at hrd
    generalize D.cur (posM n ((1 : Int) + l.length)) = c at *
    have hdc := qdecode_ro c (by omega)
    unfold DecQ at hdc
    repeat (first | refine GD ?_ | refine NW fun _ => ?_)
    refine RD 11 11 (_) ?_
    refine WP 0 ?_
    refine WP 1 ?_
    refine WP 2 ?_
    refine VV 3 ?_
    refine WP 4 ?_
    refine WP 5 ?_
    refine WP 6 ?_
    refine VV 7 ?_
    refine WP 8 ?_
    refine WP 9 ?_
    refine WP 10 ?_
    refine DN ?_
    repeat (first | refine GD ?_ | refine NW fun _ => ?_)
    rw [hpe]
    refine WL.step rfl (OP.callRO rfl rfl hrd (Ent.at (up_rdsk _ _) MM) rfl rfl ?_)
    repeat (first | refine GD ?_ | refine NW fun _ => ?_)
    refine WL.step rfl (OP.callRO rfl rfl hdc (fun _ _ => trivial) rfl rfl ?_)
    cases hq : decR c with
    | error ec =>
      have hec := decR_err hq
      have hfn : fits c ((1 : Int) + l.length) low (0 : Int) = none := fits_none (fun x hx => by rw [hq] at hx; cases hx)
      rw [hfn] at hs
      have hout : scanM D n ⟨0, 1, 0, 0⟩ = l := hs.symm
      repeat (first | refine GD ?_ | refine NW fun _ => ?_)
      refine WL.imp (M := [rjrn j p ⟨n, ⟨(0 : Int), (1 : Int), (0 : Int) + 1, (0 : Int)⟩, l⟩, rdsk p D, F]) (Imp.trans II (rjrnFold j p ⟨n, ⟨(0 : Int), (1 : Int), (0 : Int) + 1, (0 : Int)⟩, l⟩ y)) ?_
      refine WL.step rfl (OP.call (pre := [rjrn j p ⟨n, ⟨(0 : Int), (1 : Int), (0 : Int) + 1, (0 : Int)⟩, l⟩, rdsk p D]) rfl rfl (rsave_ok j p ⟨n, ⟨(0 : Int), (1 : Int), (0 : Int) + 1, (0 : Int)⟩, l⟩ D ⟨w1, by dsimp only; omega⟩ hD (by omega) hw) PS rfl rfl ?_)
      rintro _ _ ⟨rfl, rfl⟩
      repeat (first | refine GD ?_ | refine NW fun _ => ?_)
      refine ret2 rfl rfl ⟨_, ?_, Imp.refl _⟩
      unfold ROpenJ
      rw [hdef, hout]
      exact ⟨j, rfl, rfl⟩
    | ok yy =>
      obtain ⟨g, r⟩ := yy
      dsimp only
      by_cases h1 : r.1 = (1 : Int) + l.length
      rotate_left
      · have hfn : fits c ((1 : Int) + l.length) low (0 : Int) = none := by unfold fits; rw [hq]; dsimp only; rw [if_neg (fun h => h1 h.1)]
        rw [hfn] at hs
        have hout : scanM D n ⟨0, 1, 0, 0⟩ = l := hs.symm
        repeat (first | refine GD ?_ | refine NW fun _ => ?_)
        refine WL.imp (M := [rjrn j p ⟨n, ⟨(0 : Int), (1 : Int), (0 : Int) + 1, (0 : Int)⟩, l⟩, rdsk p D, F]) (Imp.trans II (rjrnFold j p ⟨n, ⟨(0 : Int), (1 : Int), (0 : Int) + 1, (0 : Int)⟩, l⟩ y)) ?_
        refine WL.step rfl (OP.call (pre := [rjrn j p ⟨n, ⟨(0 : Int), (1 : Int), (0 : Int) + 1, (0 : Int)⟩, l⟩, rdsk p D]) rfl rfl (rsave_ok j p ⟨n, ⟨(0 : Int), (1 : Int), (0 : Int) + 1, (0 : Int)⟩, l⟩ D ⟨w1, by dsimp only; omega⟩ hD (by omega) hw) PS rfl rfl ?_)
        rintro _ _ ⟨rfl, rfl⟩
        repeat (first | refine GD ?_ | refine NW fun _ => ?_)
        refine ret2 rfl rfl ⟨_, ?_, Imp.refl _⟩
        unfold ROpenJ
        rw [hdef, hout]
        exact ⟨j, rfl, rfl⟩
      by_cases h2 : low ≤ g
      rotate_left
      · have hfn : fits c ((1 : Int) + l.length) low (0 : Int) = none := by unfold fits; rw [hq]; dsimp only; rw [if_neg (fun h => h2 h.2.1)]
        rw [hfn] at hs
        have hout : scanM D n ⟨0, 1, 0, 0⟩ = l := hs.symm
        repeat (first | refine GD ?_ | refine NW fun _ => ?_)
        refine WL.imp (M := [rjrn j p ⟨n, ⟨(0 : Int), (1 : Int), (0 : Int) + 1, (0 : Int)⟩, l⟩, rdsk p D, F]) (Imp.trans II (rjrnFold j p ⟨n, ⟨(0 : Int), (1 : Int), (0 : Int) + 1, (0 : Int)⟩, l⟩ y)) ?_
        refine WL.step rfl (OP.call (pre := [rjrn j p ⟨n, ⟨(0 : Int), (1 : Int), (0 : Int) + 1, (0 : Int)⟩, l⟩, rdsk p D]) rfl rfl (rsave_ok j p ⟨n, ⟨(0 : Int), (1 : Int), (0 : Int) + 1, (0 : Int)⟩, l⟩ D ⟨w1, by dsimp only; omega⟩ hD (by omega) hw) PS rfl rfl ?_)
        rintro _ _ ⟨rfl, rfl⟩
        repeat (first | refine GD ?_ | refine NW fun _ => ?_)
        refine ret2 rfl rfl ⟨_, ?_, Imp.refl _⟩
        unfold ROpenJ
        rw [hdef, hout]
        exact ⟨j, rfl, rfl⟩
      by_cases h3 : g ≤ (0 : Int)
      rotate_left
      · have hfn : fits c ((1 : Int) + l.length) low (0 : Int) = none := by unfold fits; rw [hq]; dsimp only; rw [if_neg (fun h => h3 h.2.2)]
        rw [hfn] at hs
        have hout : scanM D n ⟨0, 1, 0, 0⟩ = l := hs.symm
        repeat (first | refine GD ?_ | refine NW fun _ => ?_)
        refine WL.imp (M := [rjrn j p ⟨n, ⟨(0 : Int), (1 : Int), (0 : Int) + 1, (0 : Int)⟩, l⟩, rdsk p D, F]) (Imp.trans II (rjrnFold j p ⟨n, ⟨(0 : Int), (1 : Int), (0 : Int) + 1, (0 : Int)⟩, l⟩ y)) ?_
        refine WL.step rfl (OP.call (pre := [rjrn j p ⟨n, ⟨(0 : Int), (1 : Int), (0 : Int) + 1, (0 : Int)⟩, l⟩, rdsk p D]) rfl rfl (rsave_ok j p ⟨n, ⟨(0 : Int), (1 : Int), (0 : Int) + 1, (0 : Int)⟩, l⟩ D ⟨w1, by dsimp only; omega⟩ hD (by omega) hw) PS rfl rfl ?_)
        rintro _ _ ⟨rfl, rfl⟩
        repeat (first | refine GD ?_ | refine NW fun _ => ?_)
        refine ret2 rfl rfl ⟨_, ?_, Imp.refl _⟩
        unfold ROpenJ
        rw [hdef, hout]
        exact ⟨j, rfl, rfl⟩
      have hfn : fits c ((1 : Int) + l.length) low (0 : Int) = some (g, r) := by unfold fits; rw [hq]; dsimp only; rw [if_pos ⟨h1, h2, h3⟩]
      rw [hfn] at hs
      dsimp only at hs
      repeat (first | refine GD ?_ | refine NW fun _ => ?_)
      refine RD 7 11 (_) ?_
      refine WP 0 ?_
      refine WP 1 ?_
      refine WP 2 ?_
      refine WP 3 ?_
      refine VV 4 ?_
      refine VL 5 (.agg (encR r).toArray) rfl rfl rfl rfl (.inr ⟨rfl, encR r, rfl, rfl, Ent.whole MM⟩) ?_
      refine WH.only 6 rfl rfl (by kernel_rfl) rfl (OP.sliceLit (c := encR r) rfl rfl rfl rfl rfl rfl rfl rfl (fun b2 => ⟨fun _ => II, ?_⟩))
      refine WH.only 7 rfl rfl (by kernel_rfl) rfl (OP.append rfl rfl rfl rfl rfl rfl rfl rfl rfl P1 (Ent.own MM) rfl (by omega) (by omega) rfl rfl (fun a' cap' => ⟨(fun h => nomatch h), ?_⟩))
      refine WP 8 ?_
      refine WP 9 ?_
      refine WH.only 10 rfl rfl (by kernel_rfl) rfl (OP.store rfl rfl rfl rfl rfl rfl rfl UP rfl ⟨(fun h => nomatch h), ?_⟩)
      refine DN ?_
      repeat (first | refine GD ?_ | refine NW fun _ => ?_)
      refine WL.step rfl (OP.append (ds := [.int .i64 g]) rfl rfl rfl rfl rfl rfl rfl rfl rfl P1 (Ent.own MM) rfl (by omega) (by omega) rfl rfl (fun a3 cap3 => ?_))
      repeat (first | refine GD ?_ | refine NW fun _ => ?_)
      refine ⟨(k, l ++ [(g, r)], g), ⟨by simp; omega, hs⟩, Nat.lt_succ_self k, ⟨rfl, rfl, rfl, rfl, trivial⟩, ?_⟩
      dsimp only
      refine Imp.trans ?_ (rjrnFold j p ⟨n, ⟨0, 1, 0, 0⟩, l ++ [(g, r)]⟩ (a', cap', a3, cap3))
      dsimp only
      rw [List.length_append, List.flatMap_append, List.flatMap_cons, List.flatMap_nil, List.append_nil, List.map_append]
      exact II
end Go.Proofs.YteednjcoapmkaaaGreatDoor
/- Contracts of functions of the given program, and plain laws on what they compute: parts of the proofs of laws. -/

namespace Go.Proofs.YteednjcoapmkaaaGreatDoor
open Go Go.GL

theorem JInv.rng {J : Jrn} {D : Dsk} {f : Nat} {B : Int} (I : JInv J D f B) (hB : B + 2 ≤ widest) : J.rng := by
  have h1 := I.ring
  have h2 := I.len
  have h3 := I.hdr
  have h4 := I.bound
  have hw : widest = 1152921504606846975 := rfl
  exact ⟨⟨h1.1, h1.2.1⟩, h2, by omega, by omega, by omega⟩
theorem JInv.few {J : Jrn} {D : Dsk} {f : Nat} {B : Int} (I : JInv J D f B) : D.W.length < 10000 := by
  have h1 := I.ring
  have h2 := I.len
  have h3 := I.wlen
  omega
theorem JInv.mono {J : Jrn} {D : Dsk} {f : Nat} {B B' : Int} (I : JInv J D f B) (h : B ≤ B') : JInv J D f B' := { I with bound := Int.le_trans I.bound h }
set_option maxHeartbeats 4000000 in
set_option maxRecDepth 10000 in
theorem jawake_ro : RO G 6 [] (fun _ => True) (.bool true) := by
  refine RO.enter Tryz.func6 rfl (by decide) rfl Tryz.ntmps6 rfl (fun A hu hA => ?_) (fun _ _ _ h => h)
  have hw : widest = 1152921504606846975 := rfl
  obtain ⟨ho, I⟩ := JInv.fresh (n := 6) (ring := 4) (by decide) (by decide) (by decide) (by decide)
  repeat (first | refine GO ?_ | refine NW fun _ => ?_)
  refine WL.step rfl (OP.callRT rfl rfl (dnew_rt 6) (fun _ _ => trivial) rfl rfl ?_)
  rintro _ _ ⟨p, rfl, rfl⟩
  refine WL.step rfl (OP.call (pre := [dsk p (Dsk.new 6)]) rfl rfl (jopen_ok p (Dsk.new 6) 4 (Dsk.new_ok 6) (by decide) (by decide)) PS rfl rfl ?_)
  intro v M hO
  unfold OpenJ at hO
  have ho' : openM (Dsk.new 6) 4 = _ := ho
  rw [ho'] at hO
  obtain ⟨j, rfl, rfl⟩ := hO
  generalize saveM (Dsk.new ((6 : Nat) : Int)) ⟨1, 1, 1, 0⟩ = D at *
  repeat (first | refine GO ?_ | refine NW fun _ => ?_)
  have hap : appendM ⟨4, ⟨1, 1, 1, 0⟩, []⟩ D (0, 2, 0, ⟨#[]⟩, 3) = .ok (⟨4, ⟨1, 1, 1, 0⟩, [(1, 1, 2, 0, ⟨#[]⟩, 3)]⟩, D.put (posM 4 1) (sectorM (bodyM 1 (1, 2, 0, ⟨#[]⟩, 3)))) := by
    unfold appendM
    rw [if_neg (by decide), if_pos (by decide)]
    rfl
  have hI := (I.append hap).1
  refine WL.step rfl (OP.call (pre := [jrn j p ⟨4, ⟨1, 1, 1, 0⟩, []⟩, dsk p D]) rfl rfl (jappend_ok j p _ D (0, 2, 0, ⟨#[]⟩, 3) (I.rng (by omega)) I.ring.2.2 I.few (by decide)) PS rfl rfl ?_)
  intro v M hA'
  unfold AppJ at hA'
  rw [hap] at hA'
  obtain ⟨rfl, rfl⟩ := hA'
  generalize D.put (posM 4 1) (sectorM (bodyM 1 (1, 2, 0, ⟨#[]⟩, 3))) = D' at *
  have hr := hI.rng (by omega)
  repeat (first | refine GD ?_ | refine NW fun _ => ?_)
  refine WL.guardT rfl rfl rfl rfl (OP.callRO rfl rfl (jnext_ro j p _ hr) (Ent.at (up_jrn _ _ _) MM) rfl rfl ?_)
  repeat (first | refine GD ?_ | refine NW fun _ => ?_)
  refine WL.guardT rfl rfl rfl rfl (OP.callRO rfl rfl (jroom_ro j p _ hr) (Ent.at (up_jrn _ _ _) MM) rfl rfl ?_)
  repeat (first | refine GD ?_ | refine NW fun _ => ?_)
  refine WL.guardT rfl rfl rfl rfl (OP.callRT rfl rfl (jrecords_rt j p _ hr) (Ent.at (up_jrn _ _ _) MM) rfl rfl ?_)
  rintro _ _ ⟨a, cap, rfl, rfl⟩
  repeat (first | refine GD ?_ | refine NW fun _ => ?_)
  exact ret1 rfl ⟨rfl, MM⟩
end Go.Proofs.YteednjcoapmkaaaGreatDoor
/- Contracts of functions of the given program, and plain laws on what they compute: parts of the proofs of laws. -/
namespace Go.Proofs.YteednjcoapmkaaaGreatDoor
open Go Go.GL
theorem rec_of {x : List Value} (h : LfsOk [.int .i64, .int .i64, .int .i64, .str, .int .i64] x) : ∃ r : Rec, x = encR r ∧ (r.2.2.2.1.size ≤ maxLen ∧ (Lit.int .i64 r.1).wf = true ∧ (Lit.int .i64 r.2.1).wf = true ∧ (Lit.int .i64 r.2.2.1).wf = true ∧ (Lit.int .i64 r.2.2.2.2).wf = true) := by
  obtain ⟨n0, s, rfl, w0, h⟩ := h.int
  obtain ⟨n1, s, rfl, w1, h⟩ := h.int
  obtain ⟨n2, s, rfl, w2, h⟩ := h.int
  obtain ⟨n3, s, rfl, w3, h⟩ := h.str
  obtain ⟨n4, s, rfl, w4, h⟩ := h.int
  rw [h.nil]
  exact ⟨(n0, n1, n2, n3, n4), rfl, w3, w0, w1, w2, w4⟩
end Go.Proofs.YteednjcoapmkaaaGreatDoor
/- Contracts of functions of the given program, and plain laws on what they compute: parts of the proofs of laws. -/

namespace Go.Proofs.YteednjcoapmkaaaGreatDoor
open Go Go.GL

/-! what the journal's laws are made of -/
/-- a call: its kind, its number, its record, what is kept -/
abbrev JOp := Int × Int × Rec × Int
def encJ (o : JOp) : List Value := [.int .i64 o.1, .int .i64 o.2.1] ++ encR o.2.2.1 ++ [.int .u64 o.2.2.2]
theorem encJ_len (o : JOp) : (encJ o).length = 8 := rfl
theorem encR_len (r : Rec) : (encR r).length = 5 := rfl
theorem jop_of {x : List Value} (h : LfsOk [.int .i64, .int .i64, .int .i64, .int .i64, .int .i64, .str, .int .i64, .int .u64] x) : ∃ o : JOp, x = encJ o ∧ (Lit.int .i64 o.1).wf = true ∧ (Lit.int .i64 o.2.1).wf = true ∧ (Lit.int .u64 o.2.2.2).wf = true := by
  obtain ⟨k, s, rfl, w0, h⟩ := h.int
  obtain ⟨n, s, rfl, w1, h⟩ := h.int
  obtain ⟨n0, s, rfl, _, h⟩ := h.int
  obtain ⟨n1, s, rfl, _, h⟩ := h.int
  obtain ⟨n2, s, rfl, _, h⟩ := h.int
  obtain ⟨n3, s, rfl, _, h⟩ := h.str
  obtain ⟨n4, s, rfl, _, h⟩ := h.int
  obtain ⟨n5, s, rfl, w5, h⟩ := h.int
  rw [h.nil]
  exact ⟨(k, n, (n0, n1, n2, n3, n4), n5), rfl, w0, w1, w5⟩
def fewB (l : List JOp) : Bool := decide (l.length ≤ 80) && l.all (fun o => decide (o.2.2.1.2.2.2.1.size ≤ 300))
set_option maxHeartbeats 1000000 in
set_option maxRecDepth 10000 in
theorem jfew_ro (a : Option Addr) (n c : Nat) (l : List JOp) (hn : n = l.length) : RO G 7 [.slice a n c] (readS a n 8 (l.flatMap encJ)) (.bool (fewB l)) := by
  refine RO.enter Tryz.func7 rfl (by decide) rfl Tryz.ntmps7 rfl (fun A hu hA => ?_) (up_readS _ _ _ _)
  have hE : ∀ {L}, A ∈ L → Ent L (readS a n 8 (l.flatMap encJ)) := fun m => Ent.mem m hu hA
  by_cases h80 : 80 < n
  · have hf : fewB l = false := by unfold fewB; rw [decide_eq_false (by omega)]; rfl
    rw [hf]
    repeat (first | refine GD ?_ | refine NW fun _ => ?_)
    exact ret1 rfl ⟨rfl, MM⟩
  have hfd : fewB l = l.all (fun o => decide (o.2.2.1.2.2.2.1.size ≤ 300)) := by unfold fewB; rw [decide_eq_true (by omega)]; rfl
  rw [hfd]
  repeat (first | refine GD ?_ | refine NW fun _ => ?_)
  refine WC.loop (σ := Nat) (fun k => k ≤ n ∧ ∀ o ∈ l.take k, o.2.2.1.2.2.2.1.size ≤ 300)
    (fun k => [(0, .val (.slice a n c)), (8, .val (.int .i64 n)), (9, .val (.int .i64 k))])
    (fun k => [A]) (fun k => n - k) 0 ⟨Nat.zero_le _, by simp⟩ ⟨rfl, rfl, rfl, trivial⟩ (Imp.refl _) ?_
  rintro k ⟨hk, hall⟩
  by_cases hlt : k < n
  rotate_left
  · have hk2 : k = l.length := by omega
    rw [hk2, List.take_length] at hall
    have ht : l.all (fun o => decide (o.2.2.1.2.2.2.1.size ≤ 300)) = true := List.all_eq_true.2 (fun o ho => decide_eq_true (hall o ho))
    rw [ht]
    repeat (first | refine GD ?_ | refine NW fun _ => ?_)
    exact ret1 rfl ⟨rfl, MM⟩
  have hlk : k < l.length := by omega
  have hmem : l[k] ∈ l := List.getElem_mem hlk
  have hsnoc : l.take (k + 1) = l.take k ++ [l[k]] := (List.take_append_getElem hlk).symm
  refine WC.fact (Ent.some (hE MM) (by omega)) ?_
  rintro ⟨b, off, rfl⟩
  repeat (first | refine GD ?_ | refine NW fun _ => ?_)
  refine WL.step rfl (OP.load1 (v := .string l[k].2.2.1.2.2.2.1) rfl rfl rfl rfl (by rw [Nat.add_assoc]; exact Ent.elF encJ_len (j := 5) (hE MM) hlk rfl rfl) rfl rfl ?_)
  generalize l[k] = o at *
  by_cases h300 : 300 < (o.2.2.1.2.2.2.1.size : Int)
  · have ht : l.all (fun o => decide (o.2.2.1.2.2.2.1.size ≤ 300)) = false := by
      cases hq : l.all (fun o => decide (o.2.2.1.2.2.2.1.size ≤ 300))
      · rfl
      · have := of_decide_eq_true (List.all_eq_true.1 hq o hmem)
        omega
    rw [ht]
    repeat (first | refine GD ?_ | refine NW fun _ => ?_)
    exact ret1 rfl ⟨rfl, MM⟩
  · repeat (first | refine GD ?_ | refine NW fun _ => ?_)
    refine ⟨k + 1, ⟨by omega, ?_⟩, by omega, ⟨rfl, rfl, rfl, trivial⟩, Imp.refl _⟩
    intro o' ho'
    rw [hsnoc] at ho'
    rcases List.mem_append.1 ho' with h | h
    · exact hall o' h
    · rw [List.mem_singleton.1 h]; omega
set_option maxHeartbeats 2000000 in
set_option maxRecDepth 10000 in
theorem jsame_ro (a1 a2 : Option Addr) (n1 c1 n2 c2 : Nat) (l1 l2 : List Rec) (h1 : n1 = l1.length) (h2 : n2 = l2.length) (hs : n1 < 1000000) : RO G 23 [.slice a1 n1 c1, .slice a2 n2 c2] (fun h => readS a1 n1 5 (l1.flatMap encR) h ∧ readS a2 n2 5 (l2.flatMap encR) h) (.bool (decide (l1 = l2))) := by
  refine RO.enter Tryz.func23 rfl (by decide) rfl Tryz.ntmps23 rfl (fun A hu hA => ?_) (up_and (up_readS _ _ _ _) (up_readS _ _ _ _))
  have hE1 : ∀ {L}, A ∈ L → Ent L (readS a1 n1 5 (l1.flatMap encR)) := fun m => Ent.mem m hu fun k x => (hA k x).1
  have hE2 : ∀ {L}, A ∈ L → Ent L (readS a2 n2 5 (l2.flatMap encR)) := fun m => Ent.mem m hu fun k x => (hA k x).2
  by_cases hne : n1 = n2
  rotate_left
  · have : l1 ≠ l2 := fun e => hne (by rw [h1, h2, e])
    repeat (first | refine GD ?_ | refine NW fun _ => ?_)
    exact ret1 rfl ⟨by simp [this], MM⟩
  subst hne
  repeat (first | refine GD ?_ | refine NW fun _ => ?_)
  refine WC.loop (σ := Nat) (fun k => k ≤ n1 ∧ ∀ j, j < k → l1[j]? = l2[j]?)
    (fun k => [(0, .val (.slice a1 n1 c1)), (1, .val (.slice a2 n1 c2)), (12, .val (.int .i64 n1)), (13, .val (.int .i64 k))])
    (fun k => [A]) (fun k => n1 - k) 0 ⟨Nat.zero_le _, fun j hj => by omega⟩ ⟨rfl, rfl, rfl, rfl, trivial⟩ (Imp.refl _) ?_
  rintro k ⟨hk, hall⟩
  by_cases hlt : k < n1
  rotate_left
  · repeat (first | refine GD ?_ | refine NW fun _ => ?_)
    refine ret1 rfl ⟨?_, MM⟩
    have : l1 = l2 := List.ext_getElem? fun i => by
      by_cases hi : i < k
      · exact hall i hi
      · rw [List.getElem?_eq_none (by omega), List.getElem?_eq_none (by omega)]
    simp [this]
  have hl1 : k < l1.length := by omega
  have hl2 : k < l2.length := by omega
  repeat (first | refine GD ?_ | refine NW fun _ => ?_)
  refine WC.fact (Ent.some (hE1 MM) (by omega)) ?_
  rintro ⟨b, off, rfl⟩
  refine WC.fact (Ent.some (hE2 MM) (by omega)) ?_
  rintro ⟨b', off', rfl⟩
  refine RD 9 9 (_) ?_
  refine WP 0 ?_
  refine WP 1 ?_
  refine WP 2 ?_
  refine VL 3 (.agg (encR l1[k]).toArray) rfl rfl rfl rfl (.inr ⟨rfl, encR l1[k], rfl, rfl, Ent.elA encR_len (hE1 MM) hl1⟩) ?_
  refine WP 4 ?_
  refine WP 5 ?_
  refine WP 6 ?_
  refine VL 7 (.agg (encR l2[k]).toArray) rfl rfl rfl rfl (.inr ⟨rfl, encR l2[k], rfl, rfl, Ent.elA encR_len (hE2 MM) hl2⟩) ?_
  refine VQ 8 rfl (Quiet.eqAgg (EqAgg.neq (xs := encR l1[k]) (ys := encR l2[k]) rfl rfl rfl rfl (by kernel_rfl) (by kernel_rfl) (by kernel_rfl) (eq_rec _ _))) ?_
  refine DN ?_
  by_cases he : l1[k] = l2[k]
  · rw [decide_eq_true he]
    repeat (first | refine GD ?_ | refine NW fun _ => ?_)
    exact ⟨k + 1, ⟨by omega, fun j hj => by
      by_cases e : j = k
      · subst e; rw [List.getElem?_eq_getElem hl1, List.getElem?_eq_getElem hl2, he]
      · exact hall j (by omega)⟩, by omega, ⟨rfl, rfl, rfl, rfl, trivial⟩, Imp.refl _⟩
  · rw [decide_eq_false he]
    repeat (first | refine GD ?_ | refine NW fun _ => ?_)
    refine ret1 rfl ⟨?_, MM⟩
    have : l1 ≠ l2 := fun e => he (by subst e; rfl)
    simp [this]
end Go.Proofs.YteednjcoapmkaaaGreatDoor
