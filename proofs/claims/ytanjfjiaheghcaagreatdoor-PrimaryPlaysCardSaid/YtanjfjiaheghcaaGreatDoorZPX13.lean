/- Contracts of functions of the given program, and plain laws: parts of the proofs of laws. -/
import Derived.Test.YtanjfjiaheghcaaGreatDoorZPX3
import Derived.Test.YtanjfjiaheghcaaGreatDoorZPX12
import Derived.Test.YtanjfjiaheghcaaGreatDoorZPX8
import Derived.Test.YtanjfjiaheghcaaGreatDoorZPX9
/- Contracts of functions of the given program, and plain laws on what they compute: parts of the proofs of laws. -/

namespace Go.Proofs.YtanjfjiaheghcaaGreatDoor
open Go Go.GL

theorem headOf_slot {b : List UInt8} {slot : Int} {h : Hd} (e : headOf b slot = some h) : h.turn % 2 = slot := by
  unfold headOf at e
  split at e
  · rename_i hc
    simp only [Option.some.injEq] at e
    subst e
    exact hc.2.2.2.2.1
  · cases e
/-- what the document's Open knows of the heads -/
theorem heads_cases (a b : List UInt8) : ∃ T0 F0 G0 L0 T1 F1 G1 L1 : Int, QHeadV a 0 = .tuple #[.int .i64 T0, .int .i64 F0, .int .i64 G0, .int .i64 L0] ∧ QHeadV b 1 = .tuple #[.int .i64 T1, .int .i64 F1, .int .i64 G1, .int .i64 L1] ∧
    (T1 < T0 → newestM a b = some ⟨T0, F0, G0, L0⟩) ∧ (T0 < T1 → newestM a b = some ⟨T1, F1, G1, L1⟩) ∧ (T0 = T1 → T0 = -1 ∧ newestM a b = if a = zero64 ∧ b = zero64 then some hd0 else none) ∧ -1 ≤ T0 ∧ -1 ≤ T1 := by
  unfold QHeadV newestM
  cases ha : headOf a 0 with
  | none =>
    cases hb : headOf b 1 with
    | none => exact ⟨_, _, _, _, _, _, _, _, rfl, rfl, fun h => by omega, fun h => by omega, fun _ => ⟨rfl, rfl⟩, by decide, by decide⟩
    | some y =>
      have := headOf_wide hb
      exact ⟨_, _, _, _, _, _, _, _, rfl, rfl, fun h => by omega, fun _ => rfl, fun h => by omega, by decide, by omega⟩
  | some x =>
    have hx := headOf_wide ha
    have sx := headOf_slot ha
    cases hb : headOf b 1 with
    | none => exact ⟨_, _, _, _, _, _, _, _, rfl, rfl, fun _ => rfl, fun h => by omega, fun h => by omega, by omega, by decide⟩
    | some y =>
      have hy := headOf_wide hb
      have sy := headOf_slot hb
      refine ⟨_, _, _, _, _, _, _, _, rfl, rfl, fun h => ?_, fun h => ?_, fun h => by omega, by omega, by omega⟩
      · dsimp only; rw [if_neg (by omega)]
      · dsimp only; rw [if_pos h]
theorem zeros_two {a b : List UInt8} (ha : a.length = 64) : (ba a ++ ba b = ba (List.replicate 128 0)) ↔ (a = zero64 ∧ b = zero64) := by
  rw [ba_app]
  constructor
  · intro h
    have h2 := ba_inj h
    have h3 : a ++ b = zero64 ++ zero64 := h2.trans (by unfold zero64; rw [List.replicate_append_replicate])
    exact List.append_inj h3 (by rw [ha]; rfl)
  · rintro ⟨rfl, rfl⟩
    unfold zero64
    rw [List.replicate_append_replicate]
def ROpenJ (p : Nat) (D : Dsk) (ring : Int) (v : Value) (M : List Assn) : Prop := match openM D ring with
  | .ok (J, D') => ∃ j, v = .tuple #[.pointer (some ⟨j, 0, none⟩), .int .i64 0] ∧ M = [rjrn j p J, rdsk p D']
  | .error c => v = .tuple #[.pointer none, .int .i64 c] ∧ M = [rdsk p D]
theorem decR_err {l : List UInt8} {c : Int} (h : decR l = .error c) : c ≠ 0 := by
  unfold decR at h
  split at h
  · split at h <;> cases h; decide
  · cases h; decide
set_option maxHeartbeats 16000000 in
set_option maxRecDepth 10000 in
theorem ropen_ok (p : Nat) (D : Dsk) (ring : Int) (hD : D.ok) (hw : D.W.length < 10000) (hr64 : -9223372036854775808 ≤ ring ∧ ring ≤ 9223372036854775807) :
    Triple G 131 [.pointer (some ⟨p, 0, none⟩), .int .i64 ring] [rdsk p D] (ROpenJ p D ring) := by
  refine Triple.enter Tryz.func131 rfl (by decide) rfl Tryz.ntmps131 rfl (fun F => ?_)
  have hwd : widest = 1152921504606846975 := rfl
  have hfew := hD.few
  have hdef : openM D ring = if ring < 1 ∨ 512 < ring ∨ (D.S.length : Int) < 2 + ring then .error 1
    else match newestM (D.cur 0) (D.cur 1) with
    | none => .error 4
    | some h => .ok (⟨ring.toNat, { h with gen := h.gen + 1, turn := h.turn + 1 }, scanM D ring.toNat h⟩, saveM D { h with gen := h.gen + 1, turn := h.turn + 1 }) := rfl
  by_cases h1 : ring < 1
  · have hop : openM D ring = .error 1 := by rw [hdef, if_pos (.inl h1)]
    repeat (first | refine GD ?_ | refine NW fun _ => ?_)
    refine ret2 rfl rfl ⟨[rdsk p D], ?_, Imp.refl _⟩
    unfold ROpenJ
    rw [hop]
    exact ⟨rfl, rfl⟩
  by_cases h2 : 512 < ring
  · have hop : openM D ring = .error 1 := by rw [hdef, if_pos (.inr (.inl h2))]
    repeat (first | refine GD ?_ | refine NW fun _ => ?_)
    refine ret2 rfl rfl ⟨[rdsk p D], ?_, Imp.refl _⟩
    unfold ROpenJ
    rw [hop]
    exact ⟨rfl, rfl⟩
  refine WC.open P1 (fun x => ?_)
  unfold rdskL
  dsimp only [List.cons_append, List.nil_append]
  by_cases h3 : (D.S.length : Int) < 2 + ring
  · have hop : openM D ring = .error 1 := by rw [hdef, if_pos (.inr (.inr h3))]
    repeat (first | refine GD ?_ | refine NW fun _ => ?_)
    refine ret2 rfl rfl ⟨[rdsk p D], ?_, Imp.trans II (rdskFold p D x)⟩
    unfold ROpenJ
    rw [hop]
    exact ⟨rfl, rfl⟩
  rw [if_neg (by omega)] at hdef
  obtain ⟨n, rfl⟩ : ∃ n : Nat, ring = n := ⟨ring.toNat, by omega⟩
  rw [Int.toNat_natCast] at hdef
  have hr0 : RRdV D 0 = .tuple #[.string (ba (D.cur 0)), .int .i64 0] := by unfold RRdV; rw [if_pos (by omega)]; rfl
  have hr1 : RRdV D 1 = .tuple #[.string (ba (D.cur 1)), .int .i64 0] := by unfold RRdV; rw [if_pos (by omega)]; rfl
  have hrd0 := rdread_ro p D 0 (by omega)
  have hrd1 := rdread_ro p D 1 (by omega)
  rw [hr0] at hrd0
  rw [hr1] at hrd1
  have ha64 := Dsk.cur_64 hD (show 0 < D.S.length by omega)
  have hb64 := Dsk.cur_64 hD (show 1 < D.S.length by omega)
  have hwide := fun h => @newestM_wide (D.cur 0) (D.cur 1) h
  generalize D.cur 0 = a at *
  generalize D.cur 1 = b at *
  have hq0 := qhead_ro a 0 (by omega)
  have hq1 := qhead_ro b 1 (by omega)
  obtain ⟨T0, F0, G0, L0, T1, F1, G1, L1, e0, e1, c10, c01, ceq, m0, m1⟩ := heads_cases a b
  rw [e0] at hq0
  rw [e1] at hq1
  have hz := zeros_two (b := b) ha64
  have za := ba_size a
  have zb := ba_size b
  repeat (first | refine GD ?_ | refine NW fun _ => ?_)
  refine WL.imp (Imp.trans II (rdskFold p D x (N := [F]))) ?_
  refine WL.step rfl (OP.callRO rfl rfl hrd0 (Ent.at (up_rdsk _ _) MM) rfl rfl ?_)
  repeat (first | refine GD ?_ | refine NW fun _ => ?_)
  refine WL.step rfl (OP.callRO rfl rfl hrd1 (Ent.at (up_rdsk _ _) MM) rfl rfl ?_)
  repeat (first | refine GD ?_ | refine NW fun _ => ?_)
  rename_i j
  refine WL.step rfl (OP.callRO rfl rfl hq0 (fun _ _ => trivial) rfl rfl ?_)
  repeat (first | refine GD ?_ | refine NW fun _ => ?_)
  refine WL.step rfl (OP.callRO rfl rfl hq1 (fun _ _ => trivial) rfl rfl ?_)
  by_cases hT10 : T1 < T0
  · repeat (first | refine GD ?_ | refine NW fun _ => ?_)
    obtain ⟨⟨w1, w2⟩, ⟨w3, w4⟩, ⟨w5, w6⟩⟩ := hwide _ (c10 hT10)
    dsimp only at w1 w2 w3 w4 w5 w6
    rw [(c10 hT10)] at hdef
    dsimp only at hdef
    have hsl := scanM_len D n ⟨T0, F0, G0, L0⟩
    refine WC.loop (σ := Nat × List Held × Int) (fun s => s.2.1.length + s.1 = n ∧ scanF D n ⟨T0, F0, G0, L0⟩ s.1 s.2.1 s.2.2 = scanM D n ⟨T0, F0, G0, L0⟩)
      (fun s => [(0, .val (.pointer (some ⟨p, 0, none⟩))), (1, .val (.int .i64 n)), (10, .val (.pointer (some ⟨j, 0, none⟩))), (19, .val (.int .i64 s.2.2))])
      (fun s => [rjrn j p ⟨n, ⟨T0, F0, G0, L0⟩, s.2.1⟩, rdsk p D, F]) (fun s => s.1) (n, [], L0) ⟨by simp, rfl⟩ ⟨rfl, rfl, rfl, rfl, trivial⟩ ?_ ?_
    · exact (Imp.nilS 140 5).trans ((Imp.nilS 3 1).trans (Imp.trans II (rjrnFold j p ⟨n, ⟨T0, F0, G0, L0⟩, []⟩ (none, 0, none, 0))))
    rintro ⟨k, l, low⟩ ⟨hk, hs⟩
    dsimp only at hk hs ⊢
    have hll : l.length ≤ n := by omega
    refine WC.open P1 (fun y => ?_)
    unfold rjrnL
    dsimp only [List.cons_append, List.nil_append]
    cases k with
    | zero =>
      have hout : scanM D n ⟨T0, F0, G0, L0⟩ = l := hs.symm
      have hkl : n = l.length := by omega
      repeat (first | refine GD ?_ | refine NW fun _ => ?_)
      refine WL.imp (M := [rjrn j p ⟨n, ⟨T0, F0, G0 + 1, L0⟩, l⟩, rdsk p D, F]) (Imp.trans II (rjrnFold j p ⟨n, ⟨T0, F0, G0 + 1, L0⟩, l⟩ y)) ?_
      refine WL.step rfl (OP.call (pre := [rjrn j p ⟨n, ⟨T0, F0, G0 + 1, L0⟩, l⟩, rdsk p D]) rfl rfl (rsave_ok j p ⟨n, ⟨T0, F0, G0 + 1, L0⟩, l⟩ D ⟨w1, by dsimp only; omega⟩ hD (by omega) hw) PS rfl rfl ?_)
      rintro _ _ ⟨rfl, rfl⟩
      repeat (first | refine GD ?_ | refine NW fun _ => ?_)
      refine ret2 rfl rfl ⟨_, ?_, Imp.refl _⟩
      unfold ROpenJ
      rw [hdef, hout]
      exact ⟨j, rfl, rfl⟩
    | succ k =>
      have hkl : l.length < n := by omega
      have hpb := pos_bd (show 1 ≤ n by omega) (F0 + l.length)
      have hmm := Int.emod_nonneg (F0 + l.length) (b := (n : Int)) (by omega)
      have hpe : 2 + (F0 + l.length) % n = ((posM n (F0 + l.length) : Nat) : Int) := by unfold posM; omega
      have hfit : scanF D n ⟨T0, F0, G0, L0⟩ (k + 1) l low = match fits (D.cur (posM n (F0 + l.length))) (F0 + l.length) low G0 with
        | some x => scanF D n ⟨T0, F0, G0, L0⟩ k (l ++ [x]) x.1
        | none => l := rfl
      rw [hfit] at hs
      have h64 := Dsk.cur_64 hD (show posM n (F0 + l.length) < D.S.length by omega)
      have hrd := rdread_ro p D (posM n (F0 + l.length)) (by omega)
      unfold RRdV at hrd
      rw [if_pos (by omega), Int.toNat_natCast] at hrd
      generalize D.cur (posM n (F0 + l.length)) = c at *
      have hdc := qdecode_ro c (by omega)
      unfold DecQ at hdc
      repeat (first | refine GD ?_ | refine NW fun _ => ?_)
      refine RD 11 11 (_) ?_
      refine WP 0 ?_
      refine WP 1 ?_
      refine WP 2 ?_
      refine VV 3 ?_
      refine WP 4 ?_
      refine WP 5 ?_
      refine WP 6 ?_
      refine VV 7 ?_
      refine WP 8 ?_
      refine WP 9 ?_
      refine WP 10 ?_
      refine DN ?_
      repeat (first | refine GD ?_ | refine NW fun _ => ?_)
      rw [hpe]
      refine WL.step rfl (OP.callRO rfl rfl hrd (Ent.at (up_rdsk _ _) MM) rfl rfl ?_)
      repeat (first | refine GD ?_ | refine NW fun _ => ?_)
      refine WL.step rfl (OP.callRO rfl rfl hdc (fun _ _ => trivial) rfl rfl ?_)
      cases hq : decR c with
      | error ec =>
        have hec := decR_err hq
        have hfn : fits c (F0 + l.length) low G0 = none := fits_none (fun x hx => by rw [hq] at hx; cases hx)
        rw [hfn] at hs
        have hout : scanM D n ⟨T0, F0, G0, L0⟩ = l := hs.symm
        repeat (first | refine GD ?_ | refine NW fun _ => ?_)
        refine WL.imp (M := [rjrn j p ⟨n, ⟨T0, F0, G0 + 1, L0⟩, l⟩, rdsk p D, F]) (Imp.trans II (rjrnFold j p ⟨n, ⟨T0, F0, G0 + 1, L0⟩, l⟩ y)) ?_
        refine WL.step rfl (OP.call (pre := [rjrn j p ⟨n, ⟨T0, F0, G0 + 1, L0⟩, l⟩, rdsk p D]) rfl rfl (rsave_ok j p ⟨n, ⟨T0, F0, G0 + 1, L0⟩, l⟩ D ⟨w1, by dsimp only; omega⟩ hD (by omega) hw) PS rfl rfl ?_)
        rintro _ _ ⟨rfl, rfl⟩
        repeat (first | refine GD ?_ | refine NW fun _ => ?_)
        refine ret2 rfl rfl ⟨_, ?_, Imp.refl _⟩
        unfold ROpenJ
        rw [hdef, hout]
        exact ⟨j, rfl, rfl⟩
      | ok yy =>
        obtain ⟨g, r⟩ := yy
        dsimp only
        by_cases h1 : r.1 = F0 + l.length
        rotate_left
        · have hfn : fits c (F0 + l.length) low G0 = none := by unfold fits; rw [hq]; dsimp only; rw [if_neg (fun h => h1 h.1)]
          rw [hfn] at hs
          have hout : scanM D n ⟨T0, F0, G0, L0⟩ = l := hs.symm
          repeat (first | refine GD ?_ | refine NW fun _ => ?_)
          refine WL.imp (M := [rjrn j p ⟨n, ⟨T0, F0, G0 + 1, L0⟩, l⟩, rdsk p D, F]) (Imp.trans II (rjrnFold j p ⟨n, ⟨T0, F0, G0 + 1, L0⟩, l⟩ y)) ?_
          refine WL.step rfl (OP.call (pre := [rjrn j p ⟨n, ⟨T0, F0, G0 + 1, L0⟩, l⟩, rdsk p D]) rfl rfl (rsave_ok j p ⟨n, ⟨T0, F0, G0 + 1, L0⟩, l⟩ D ⟨w1, by dsimp only; omega⟩ hD (by omega) hw) PS rfl rfl ?_)
          rintro _ _ ⟨rfl, rfl⟩
          repeat (first | refine GD ?_ | refine NW fun _ => ?_)
          refine ret2 rfl rfl ⟨_, ?_, Imp.refl _⟩
          unfold ROpenJ
          rw [hdef, hout]
          exact ⟨j, rfl, rfl⟩
        by_cases h2 : low ≤ g
        rotate_left
        · have hfn : fits c (F0 + l.length) low G0 = none := by unfold fits; rw [hq]; dsimp only; rw [if_neg (fun h => h2 h.2.1)]
          rw [hfn] at hs
          have hout : scanM D n ⟨T0, F0, G0, L0⟩ = l := hs.symm
          repeat (first | refine GD ?_ | refine NW fun _ => ?_)
          refine WL.imp (M := [rjrn j p ⟨n, ⟨T0, F0, G0 + 1, L0⟩, l⟩, rdsk p D, F]) (Imp.trans II (rjrnFold j p ⟨n, ⟨T0, F0, G0 + 1, L0⟩, l⟩ y)) ?_
          refine WL.step rfl (OP.call (pre := [rjrn j p ⟨n, ⟨T0, F0, G0 + 1, L0⟩, l⟩, rdsk p D]) rfl rfl (rsave_ok j p ⟨n, ⟨T0, F0, G0 + 1, L0⟩, l⟩ D ⟨w1, by dsimp only; omega⟩ hD (by omega) hw) PS rfl rfl ?_)
          rintro _ _ ⟨rfl, rfl⟩
          repeat (first | refine GD ?_ | refine NW fun _ => ?_)
          refine ret2 rfl rfl ⟨_, ?_, Imp.refl _⟩
          unfold ROpenJ
          rw [hdef, hout]
          exact ⟨j, rfl, rfl⟩
        by_cases h3 : g ≤ G0
        rotate_left
        · have hfn : fits c (F0 + l.length) low G0 = none := by unfold fits; rw [hq]; dsimp only; rw [if_neg (fun h => h3 h.2.2)]
          rw [hfn] at hs
          have hout : scanM D n ⟨T0, F0, G0, L0⟩ = l := hs.symm
          repeat (first | refine GD ?_ | refine NW fun _ => ?_)
          refine WL.imp (M := [rjrn j p ⟨n, ⟨T0, F0, G0 + 1, L0⟩, l⟩, rdsk p D, F]) (Imp.trans II (rjrnFold j p ⟨n, ⟨T0, F0, G0 + 1, L0⟩, l⟩ y)) ?_
          refine WL.step rfl (OP.call (pre := [rjrn j p ⟨n, ⟨T0, F0, G0 + 1, L0⟩, l⟩, rdsk p D]) rfl rfl (rsave_ok j p ⟨n, ⟨T0, F0, G0 + 1, L0⟩, l⟩ D ⟨w1, by dsimp only; omega⟩ hD (by omega) hw) PS rfl rfl ?_)
          rintro _ _ ⟨rfl, rfl⟩
          repeat (first | refine GD ?_ | refine NW fun _ => ?_)
          refine ret2 rfl rfl ⟨_, ?_, Imp.refl _⟩
          unfold ROpenJ
          rw [hdef, hout]
          exact ⟨j, rfl, rfl⟩
        have hfn : fits c (F0 + l.length) low G0 = some (g, r) := by unfold fits; rw [hq]; dsimp only; rw [if_pos ⟨h1, h2, h3⟩]
        rw [hfn] at hs
        dsimp only at hs
        repeat (first | refine GD ?_ | refine NW fun _ => ?_)
        refine RD 7 11 (_) ?_
        refine WP 0 ?_
        refine WP 1 ?_
        refine WP 2 ?_
        refine WP 3 ?_
        refine VV 4 ?_
        refine VL 5 (.agg (encR r).toArray) rfl rfl rfl rfl (.inr ⟨rfl, encR r, rfl, rfl, Ent.whole MM⟩) ?_
        refine WH.only 6 rfl rfl (by kernel_rfl) rfl (OP.sliceLit (c := encR r) rfl rfl rfl rfl rfl rfl rfl rfl (fun b2 => ⟨fun _ => II, ?_⟩))
        refine WH.only 7 rfl rfl (by kernel_rfl) rfl (OP.append rfl rfl rfl rfl rfl rfl rfl rfl rfl P1 (Ent.own MM) rfl (by omega) (by omega) rfl rfl (fun a' cap' => ⟨(fun h => nomatch h), ?_⟩))
        refine WP 8 ?_
        refine WP 9 ?_
        refine WH.only 10 rfl rfl (by kernel_rfl) rfl (OP.store rfl rfl rfl rfl rfl rfl rfl UP rfl ⟨(fun h => nomatch h), ?_⟩)
        refine DN ?_
        repeat (first | refine GD ?_ | refine NW fun _ => ?_)
        refine WL.step rfl (OP.append (ds := [.int .i64 g]) rfl rfl rfl rfl rfl rfl rfl rfl rfl P1 (Ent.own MM) rfl (by omega) (by omega) rfl rfl (fun a3 cap3 => ?_))
        repeat (first | refine GD ?_ | refine NW fun _ => ?_)
        refine ⟨(k, l ++ [(g, r)], g), ⟨by simp; omega, hs⟩, Nat.lt_succ_self k, ⟨rfl, rfl, rfl, rfl, trivial⟩, ?_⟩
        dsimp only
        refine Imp.trans ?_ (rjrnFold j p ⟨n, ⟨T0, F0, G0, L0⟩, l ++ [(g, r)]⟩ (a', cap', a3, cap3))
        dsimp only
        rw [List.length_append, List.flatMap_append, List.flatMap_cons, List.flatMap_nil, List.append_nil, List.map_append]
        exact II
  by_cases hT01 : T0 < T1
  · by_cases hn0 : T0 < 0
    all_goals
      repeat (first | refine GD ?_ | refine NW fun _ => ?_)
      obtain ⟨⟨w1, w2⟩, ⟨w3, w4⟩, ⟨w5, w6⟩⟩ := hwide _ (c01 hT01)
      dsimp only at w1 w2 w3 w4 w5 w6
      rw [(c01 hT01)] at hdef
      dsimp only at hdef
      have hsl := scanM_len D n ⟨T1, F1, G1, L1⟩
      refine WC.loop (σ := Nat × List Held × Int) (fun s => s.2.1.length + s.1 = n ∧ scanF D n ⟨T1, F1, G1, L1⟩ s.1 s.2.1 s.2.2 = scanM D n ⟨T1, F1, G1, L1⟩)
        (fun s => [(0, .val (.pointer (some ⟨p, 0, none⟩))), (1, .val (.int .i64 n)), (10, .val (.pointer (some ⟨j, 0, none⟩))), (19, .val (.int .i64 s.2.2))])
        (fun s => [rjrn j p ⟨n, ⟨T1, F1, G1, L1⟩, s.2.1⟩, rdsk p D, F]) (fun s => s.1) (n, [], L1) ⟨by simp, rfl⟩ ⟨rfl, rfl, rfl, rfl, trivial⟩ ?_ ?_
      · exact (Imp.nilS 140 5).trans ((Imp.nilS 3 1).trans (Imp.trans II (rjrnFold j p ⟨n, ⟨T1, F1, G1, L1⟩, []⟩ (none, 0, none, 0))))
      rintro ⟨k, l, low⟩ ⟨hk, hs⟩
      dsimp only at hk hs ⊢
      have hll : l.length ≤ n := by omega
      refine WC.open P1 (fun y => ?_)
      unfold rjrnL
      dsimp only [List.cons_append, List.nil_append]
      cases k with
      | zero =>
        have hout : scanM D n ⟨T1, F1, G1, L1⟩ = l := hs.symm
        have hkl : n = l.length := by omega
        repeat (first | refine GD ?_ | refine NW fun _ => ?_)
        refine WL.imp (M := [rjrn j p ⟨n, ⟨T1, F1, G1 + 1, L1⟩, l⟩, rdsk p D, F]) (Imp.trans II (rjrnFold j p ⟨n, ⟨T1, F1, G1 + 1, L1⟩, l⟩ y)) ?_
        refine WL.step rfl (OP.call (pre := [rjrn j p ⟨n, ⟨T1, F1, G1 + 1, L1⟩, l⟩, rdsk p D]) rfl rfl (rsave_ok j p ⟨n, ⟨T1, F1, G1 + 1, L1⟩, l⟩ D ⟨w1, by dsimp only; omega⟩ hD (by omega) hw) PS rfl rfl ?_)
        rintro _ _ ⟨rfl, rfl⟩
        repeat (first | refine GD ?_ | refine NW fun _ => ?_)
        refine ret2 rfl rfl ⟨_, ?_, Imp.refl _⟩
        unfold ROpenJ
        rw [hdef, hout]
        exact ⟨j, rfl, rfl⟩
      | succ k =>
        have hkl : l.length < n := by omega
        have hpb := pos_bd (show 1 ≤ n by omega) (F1 + l.length)
        have hmm := Int.emod_nonneg (F1 + l.length) (b := (n : Int)) (by omega)
        have hpe : 2 + (F1 + l.length) % n = ((posM n (F1 + l.length) : Nat) : Int) := by unfold posM; omega
        have hfit : scanF D n ⟨T1, F1, G1, L1⟩ (k + 1) l low = match fits (D.cur (posM n (F1 + l.length))) (F1 + l.length) low G1 with
          | some x => scanF D n ⟨T1, F1, G1, L1⟩ k (l ++ [x]) x.1
          | none => l := rfl
        rw [hfit] at hs
        have h64 := Dsk.cur_64 hD (show posM n (F1 + l.length) < D.S.length by omega)
        have hrd := rdread_ro p D (posM n (F1 + l.length)) (by omega)
        unfold RRdV at hrd
        rw [if_pos (by omega), Int.toNat_natCast] at hrd
        generalize D.cur (posM n (F1 + l.length)) = c at *
        have hdc := qdecode_ro c (by omega)
        unfold DecQ at hdc
        repeat (first | refine GD ?_ | refine NW fun _ => ?_)
        refine RD 11 11 (_) ?_
        refine WP 0 ?_
        refine WP 1 ?_
        refine WP 2 ?_
        refine VV 3 ?_
        refine WP 4 ?_
        refine WP 5 ?_
        refine WP 6 ?_
        refine VV 7 ?_
        refine WP 8 ?_
        refine WP 9 ?_
        refine WP 10 ?_
        refine DN ?_
        repeat (first | refine GD ?_ | refine NW fun _ => ?_)
        rw [hpe]
        refine WL.step rfl (OP.callRO rfl rfl hrd (Ent.at (up_rdsk _ _) MM) rfl rfl ?_)
        repeat (first | refine GD ?_ | refine NW fun _ => ?_)
        refine WL.step rfl (OP.callRO rfl rfl hdc (fun _ _ => trivial) rfl rfl ?_)
        cases hq : decR c with
        | error ec =>
          have hec := decR_err hq
          have hfn : fits c (F1 + l.length) low G1 = none := fits_none (fun x hx => by rw [hq] at hx; cases hx)
          rw [hfn] at hs
          have hout : scanM D n ⟨T1, F1, G1, L1⟩ = l := hs.symm
          repeat (first | refine GD ?_ | refine NW fun _ => ?_)
          refine WL.imp (M := [rjrn j p ⟨n, ⟨T1, F1, G1 + 1, L1⟩, l⟩, rdsk p D, F]) (Imp.trans II (rjrnFold j p ⟨n, ⟨T1, F1, G1 + 1, L1⟩, l⟩ y)) ?_
          refine WL.step rfl (OP.call (pre := [rjrn j p ⟨n, ⟨T1, F1, G1 + 1, L1⟩, l⟩, rdsk p D]) rfl rfl (rsave_ok j p ⟨n, ⟨T1, F1, G1 + 1, L1⟩, l⟩ D ⟨w1, by dsimp only; omega⟩ hD (by omega) hw) PS rfl rfl ?_)
          rintro _ _ ⟨rfl, rfl⟩
          repeat (first | refine GD ?_ | refine NW fun _ => ?_)
          refine ret2 rfl rfl ⟨_, ?_, Imp.refl _⟩
          unfold ROpenJ
          rw [hdef, hout]
          exact ⟨j, rfl, rfl⟩
        | ok yy =>
          obtain ⟨g, r⟩ := yy
          dsimp only
          by_cases h1 : r.1 = F1 + l.length
          rotate_left
          · have hfn : fits c (F1 + l.length) low G1 = none := by unfold fits; rw [hq]; dsimp only; rw [if_neg (fun h => h1 h.1)]
            rw [hfn] at hs
            have hout : scanM D n ⟨T1, F1, G1, L1⟩ = l := hs.symm
            repeat (first | refine GD ?_ | refine NW fun _ => ?_)
            refine WL.imp (M := [rjrn j p ⟨n, ⟨T1, F1, G1 + 1, L1⟩, l⟩, rdsk p D, F]) (Imp.trans II (rjrnFold j p ⟨n, ⟨T1, F1, G1 + 1, L1⟩, l⟩ y)) ?_
            refine WL.step rfl (OP.call (pre := [rjrn j p ⟨n, ⟨T1, F1, G1 + 1, L1⟩, l⟩, rdsk p D]) rfl rfl (rsave_ok j p ⟨n, ⟨T1, F1, G1 + 1, L1⟩, l⟩ D ⟨w1, by dsimp only; omega⟩ hD (by omega) hw) PS rfl rfl ?_)
            rintro _ _ ⟨rfl, rfl⟩
            repeat (first | refine GD ?_ | refine NW fun _ => ?_)
            refine ret2 rfl rfl ⟨_, ?_, Imp.refl _⟩
            unfold ROpenJ
            rw [hdef, hout]
            exact ⟨j, rfl, rfl⟩
          by_cases h2 : low ≤ g
          rotate_left
          · have hfn : fits c (F1 + l.length) low G1 = none := by unfold fits; rw [hq]; dsimp only; rw [if_neg (fun h => h2 h.2.1)]
            rw [hfn] at hs
            have hout : scanM D n ⟨T1, F1, G1, L1⟩ = l := hs.symm
            repeat (first | refine GD ?_ | refine NW fun _ => ?_)
            refine WL.imp (M := [rjrn j p ⟨n, ⟨T1, F1, G1 + 1, L1⟩, l⟩, rdsk p D, F]) (Imp.trans II (rjrnFold j p ⟨n, ⟨T1, F1, G1 + 1, L1⟩, l⟩ y)) ?_
            refine WL.step rfl (OP.call (pre := [rjrn j p ⟨n, ⟨T1, F1, G1 + 1, L1⟩, l⟩, rdsk p D]) rfl rfl (rsave_ok j p ⟨n, ⟨T1, F1, G1 + 1, L1⟩, l⟩ D ⟨w1, by dsimp only; omega⟩ hD (by omega) hw) PS rfl rfl ?_)
            rintro _ _ ⟨rfl, rfl⟩
            repeat (first | refine GD ?_ | refine NW fun _ => ?_)
            refine ret2 rfl rfl ⟨_, ?_, Imp.refl _⟩
            unfold ROpenJ
            rw [hdef, hout]
            exact ⟨j, rfl, rfl⟩
          by_cases h3 : g ≤ G1
          rotate_left
          · have hfn : fits c (F1 + l.length) low G1 = none := by unfold fits; rw [hq]; dsimp only; rw [if_neg (fun h => h3 h.2.2)]
            rw [hfn] at hs
            have hout : scanM D n ⟨T1, F1, G1, L1⟩ = l := hs.symm
            repeat (first | refine GD ?_ | refine NW fun _ => ?_)
            refine WL.imp (M := [rjrn j p ⟨n, ⟨T1, F1, G1 + 1, L1⟩, l⟩, rdsk p D, F]) (Imp.trans II (rjrnFold j p ⟨n, ⟨T1, F1, G1 + 1, L1⟩, l⟩ y)) ?_
            refine WL.step rfl (OP.call (pre := [rjrn j p ⟨n, ⟨T1, F1, G1 + 1, L1⟩, l⟩, rdsk p D]) rfl rfl (rsave_ok j p ⟨n, ⟨T1, F1, G1 + 1, L1⟩, l⟩ D ⟨w1, by dsimp only; omega⟩ hD (by omega) hw) PS rfl rfl ?_)
            rintro _ _ ⟨rfl, rfl⟩
            repeat (first | refine GD ?_ | refine NW fun _ => ?_)
            refine ret2 rfl rfl ⟨_, ?_, Imp.refl _⟩
            unfold ROpenJ
            rw [hdef, hout]
            exact ⟨j, rfl, rfl⟩
          have hfn : fits c (F1 + l.length) low G1 = some (g, r) := by unfold fits; rw [hq]; dsimp only; rw [if_pos ⟨h1, h2, h3⟩]
          rw [hfn] at hs
          dsimp only at hs
          repeat (first | refine GD ?_ | refine NW fun _ => ?_)
          refine RD 7 11 (_) ?_
          refine WP 0 ?_
          refine WP 1 ?_
          refine WP 2 ?_
          refine WP 3 ?_
          refine VV 4 ?_
          refine VL 5 (.agg (encR r).toArray) rfl rfl rfl rfl (.inr ⟨rfl, encR r, rfl, rfl, Ent.whole MM⟩) ?_
          refine WH.only 6 rfl rfl (by kernel_rfl) rfl (OP.sliceLit (c := encR r) rfl rfl rfl rfl rfl rfl rfl rfl (fun b2 => ⟨fun _ => II, ?_⟩))
          refine WH.only 7 rfl rfl (by kernel_rfl) rfl (OP.append rfl rfl rfl rfl rfl rfl rfl rfl rfl P1 (Ent.own MM) rfl (by omega) (by omega) rfl rfl (fun a' cap' => ⟨(fun h => nomatch h), ?_⟩))
          refine WP 8 ?_
          refine WP 9 ?_
          refine WH.only 10 rfl rfl (by kernel_rfl) rfl (OP.store rfl rfl rfl rfl rfl rfl rfl UP rfl ⟨(fun h => nomatch h), ?_⟩)
          refine DN ?_
          repeat (first | refine GD ?_ | refine NW fun _ => ?_)
          refine WL.step rfl (OP.append (ds := [.int .i64 g]) rfl rfl rfl rfl rfl rfl rfl rfl rfl P1 (Ent.own MM) rfl (by omega) (by omega) rfl rfl (fun a3 cap3 => ?_))
          repeat (first | refine GD ?_ | refine NW fun _ => ?_)
          refine ⟨(k, l ++ [(g, r)], g), ⟨by simp; omega, hs⟩, Nat.lt_succ_self k, ⟨rfl, rfl, rfl, rfl, trivial⟩, ?_⟩
          dsimp only
          refine Imp.trans ?_ (rjrnFold j p ⟨n, ⟨T1, F1, G1, L1⟩, l ++ [(g, r)]⟩ (a', cap', a3, cap3))
          dsimp only
          rw [List.length_append, List.flatMap_append, List.flatMap_cons, List.flatMap_nil, List.append_nil, List.map_append]
          exact II
  obtain ⟨hm1, hnew⟩ := ceq (by omega)
  have hm2 : T1 = -1 := by omega
  subst hm1 hm2
  repeat (first | refine GD ?_ | refine NW fun _ => ?_)
  refine WL.guardT rfl rfl rfl rfl (OP.makeS (z := [.int .u8 0]) rfl rfl rfl rfl rfl rfl rfl rfl (by decide) (by decide) (by decide) rfl rfl (fun bz => ?_))
  refine WL.guardT rfl rfl rfl rfl (OP.toStr (sv := ba (List.replicate 128 0)) rfl rfl rfl rfl rfl rfl rfl rfl (by rw [strCells_ba, ← repL_bytes]; exact Ent.own (T := 5) MM) rfl rfl ?_)
  by_cases hzz : a = zero64 ∧ b = zero64
  rotate_left
  · have hop : openM D n = .error 4 := by rw [hdef, hnew, if_neg hzz]
    have hz' : ¬ ba a ++ ba b = ba (List.replicate 128 0) := fun h => hzz (hz.1 h)
    generalize ba a ++ ba b = zab at *
    generalize ba (List.replicate 128 0) = zz at *
    repeat (first | refine GD ?_ | refine NW fun _ => ?_)
    refine ret2 rfl rfl ⟨[rdsk p D], ?_, II⟩
    unfold ROpenJ
    rw [hop]
    exact ⟨rfl, rfl⟩
  have hzt := hz.2 hzz
  have hnew' : newestM a b = some ⟨0, 1, 0, 0⟩ := by rw [hnew, if_pos hzz]; rfl
  clear hz
  rw [hzt]
  generalize ba (List.replicate 128 0) = zz at *
  repeat (first | refine GD ?_ | refine NW fun _ => ?_)
  rw [decide_eq_true (rfl : zz = zz)]
  repeat (first | refine GD ?_ | refine NW fun _ => ?_)
  obtain ⟨⟨w1, w2⟩, ⟨w3, w4⟩, ⟨w5, w6⟩⟩ := hwide _ hnew'
  dsimp only at w1 w2 w3 w4 w5 w6
  rw [hnew'] at hdef
  dsimp only at hdef
  have hsl := scanM_len D n ⟨0, 1, 0, 0⟩
  refine WC.loop (σ := Nat × List Held × Int) (fun s => s.2.1.length + s.1 = n ∧ scanF D n ⟨0, 1, 0, 0⟩ s.1 s.2.1 s.2.2 = scanM D n ⟨0, 1, 0, 0⟩)
    (fun s => [(0, .val (.pointer (some ⟨p, 0, none⟩))), (1, .val (.int .i64 n)), (10, .val (.pointer (some ⟨j, 0, none⟩))), (19, .val (.int .i64 s.2.2))])
    (fun s => [rjrn j p ⟨n, ⟨0, 1, 0, 0⟩, s.2.1⟩, rdsk p D, F]) (fun s => s.1) (n, [], 0) ⟨by simp, rfl⟩ ⟨rfl, rfl, rfl, rfl, trivial⟩ ?_ ?_
  · exact (Imp.nilS 140 5).trans ((Imp.nilS 3 1).trans (Imp.trans II (rjrnFold j p ⟨n, ⟨0, 1, 0, 0⟩, []⟩ (none, 0, none, 0))))
  rintro ⟨k, l, low⟩ ⟨hk, hs⟩
  dsimp only at hk hs ⊢
  have hll : l.length ≤ n := by omega
  refine WC.open P1 (fun y => ?_)
  unfold rjrnL
  dsimp only [List.cons_append, List.nil_append]
  cases k with
  | zero =>
    have hout : scanM D n ⟨0, 1, 0, 0⟩ = l := hs.symm
    have hkl : n = l.length := by omega
    repeat (first | refine GD ?_ | refine NW fun _ => ?_)
    refine WL.imp (M := [rjrn j p ⟨n, ⟨(0 : Int), (1 : Int), (0 : Int) + 1, (0 : Int)⟩, l⟩, rdsk p D, F]) (Imp.trans II (rjrnFold j p ⟨n, ⟨(0 : Int), (1 : Int), (0 : Int) + 1, (0 : Int)⟩, l⟩ y)) ?_
    refine WL.step rfl (OP.call (pre := [rjrn j p ⟨n, ⟨(0 : Int), (1 : Int), (0 : Int) + 1, (0 : Int)⟩, l⟩, rdsk p D]) rfl rfl (rsave_ok j p ⟨n, ⟨(0 : Int), (1 : Int), (0 : Int) + 1, (0 : Int)⟩, l⟩ D ⟨w1, by dsimp only; omega⟩ hD (by omega) hw) PS rfl rfl ?_)
    rintro _ _ ⟨rfl, rfl⟩
    repeat (first | refine GD ?_ | refine NW fun _ => ?_)
    refine ret2 rfl rfl ⟨_, ?_, Imp.refl _⟩
    unfold ROpenJ
    rw [hdef, hout]
    exact ⟨j, rfl, rfl⟩
  | succ k =>
    have hkl : l.length < n := by omega
    have hpb := pos_bd (show 1 ≤ n by omega) ((1 : Int) + l.length)
    have hmm := Int.emod_nonneg ((1 : Int) + l.length) (b := (n : Int)) (by omega)
    have hpe : 2 + ((1 : Int) + l.length) % n = ((posM n ((1 : Int) + l.length) : Nat) : Int) := by unfold posM; omega
    have hfit : scanF D n ⟨0, 1, 0, 0⟩ (k + 1) l low = match fits (D.cur (posM n ((1 : Int) + l.length))) ((1 : Int) + l.length) low (0 : Int) with
      | some x => scanF D n ⟨0, 1, 0, 0⟩ k (l ++ [x]) x.1
      | none => l := rfl
    rw [hfit] at hs
    have h64 := Dsk.cur_64 hD (show posM n ((1 : Int) + l.length) < D.S.length by omega)
    have hrd := rdread_ro p D (posM n ((1 : Int) + l.length)) (by omega)
    unfold RRdV at hrd
    rw [if_pos (by omega), Int.toNat_natCast] at hrd
    generalize D.cur (posM n ((1 : Int) + l.length)) = c at *
    have hdc := qdecode_ro c (by omega)
    unfold DecQ at hdc
    repeat (first | refine GD ?_ | refine NW fun _ => ?_)
    refine RD 11 11 (_) ?_
    refine WP 0 ?_
    refine WP 1 ?_
    refine WP 2 ?_
    refine VV 3 ?_
    refine WP 4 ?_
    refine WP 5 ?_
    refine WP 6 ?_
    refine VV 7 ?_
    refine WP 8 ?_
    refine WP 9 ?_
    refine WP 10 ?_
    refine DN ?_
    repeat (first | refine GD ?_ | refine NW fun _ => ?_)
    rw [hpe]
    refine WL.step rfl (OP.callRO rfl rfl hrd (Ent.at (up_rdsk _ _) MM) rfl rfl ?_)
    repeat (first | refine GD ?_ | refine NW fun _ => ?_)
    refine WL.step rfl (OP.callRO rfl rfl hdc (fun _ _ => trivial) rfl rfl ?_)
    cases hq : decR c with
    | error ec =>
      have hec := decR_err hq
      have hfn : fits c ((1 : Int) + l.length) low (0 : Int) = none := fits_none (fun x hx => by rw [hq] at hx; cases hx)
      rw [hfn] at hs
      have hout : scanM D n ⟨0, 1, 0, 0⟩ = l := hs.symm
      repeat (first | refine GD ?_ | refine NW fun _ => ?_)
      refine WL.imp (M := [rjrn j p ⟨n, ⟨(0 : Int), (1 : Int), (0 : Int) + 1, (0 : Int)⟩, l⟩, rdsk p D, F]) (Imp.trans II (rjrnFold j p ⟨n, ⟨(0 : Int), (1 : Int), (0 : Int) + 1, (0 : Int)⟩, l⟩ y)) ?_
      refine WL.step rfl (OP.call (pre := [rjrn j p ⟨n, ⟨(0 : Int), (1 : Int), (0 : Int) + 1, (0 : Int)⟩, l⟩, rdsk p D]) rfl rfl (rsave_ok j p ⟨n, ⟨(0 : Int), (1 : Int), (0 : Int) + 1, (0 : Int)⟩, l⟩ D ⟨w1, by dsimp only; omega⟩ hD (by omega) hw) PS rfl rfl ?_)
      rintro _ _ ⟨rfl, rfl⟩
      repeat (first | refine GD ?_ | refine NW fun _ => ?_)
      refine ret2 rfl rfl ⟨_, ?_, Imp.refl _⟩
      unfold ROpenJ
      rw [hdef, hout]
      exact ⟨j, rfl, rfl⟩
    | ok yy =>
      obtain ⟨g, r⟩ := yy
      dsimp only
      by_cases h1 : r.1 = (1 : Int) + l.length
      rotate_left
      · have hfn : fits c ((1 : Int) + l.length) low (0 : Int) = none := by unfold fits; rw [hq]; dsimp only; rw [if_neg (fun h => h1 h.1)]
        rw [hfn] at hs
        have hout : scanM D n ⟨0, 1, 0, 0⟩ = l := hs.symm
        repeat (first | refine GD ?_ | refine NW fun _ => ?_)
        refine WL.imp (M := [rjrn j p ⟨n, ⟨(0 : Int), (1 : Int), (0 : Int) + 1, (0 : Int)⟩, l⟩, rdsk p D, F]) (Imp.trans II (rjrnFold j p ⟨n, ⟨(0 : Int), (1 : Int), (0 : Int) + 1, (0 : Int)⟩, l⟩ y)) ?_
        refine WL.step rfl (OP.call (pre := [rjrn j p ⟨n, ⟨(0 : Int), (1 : Int), (0 : Int) + 1, (0 : Int)⟩, l⟩, rdsk p D]) rfl rfl (rsave_ok j p ⟨n, ⟨(0 : Int), (1 : Int), (0 : Int) + 1, (0 : Int)⟩, l⟩ D ⟨w1, by dsimp only; omega⟩ hD (by omega) hw) PS rfl rfl ?_)
        rintro _ _ ⟨rfl, rfl⟩
        repeat (first | refine GD ?_ | refine NW fun _ => ?_)
        refine ret2 rfl rfl ⟨_, ?_, Imp.refl _⟩
        unfold ROpenJ
        rw [hdef, hout]
        exact ⟨j, rfl, rfl⟩
      by_cases h2 : low ≤ g
      rotate_left
      · have hfn : fits c ((1 : Int) + l.length) low (0 : Int) = none := by unfold fits; rw [hq]; dsimp only; rw [if_neg (fun h => h2 h.2.1)]
        rw [hfn] at hs
        have hout : scanM D n ⟨0, 1, 0, 0⟩ = l := hs.symm
        repeat (first | refine GD ?_ | refine NW fun _ => ?_)
        refine WL.imp (M := [rjrn j p ⟨n, ⟨(0 : Int), (1 : Int), (0 : Int) + 1, (0 : Int)⟩, l⟩, rdsk p D, F]) (Imp.trans II (rjrnFold j p ⟨n, ⟨(0 : Int), (1 : Int), (0 : Int) + 1, (0 : Int)⟩, l⟩ y)) ?_
        refine WL.step rfl (OP.call (pre := [rjrn j p ⟨n, ⟨(0 : Int), (1 : Int), (0 : Int) + 1, (0 : Int)⟩, l⟩, rdsk p D]) rfl rfl (rsave_ok j p ⟨n, ⟨(0 : Int), (1 : Int), (0 : Int) + 1, (0 : Int)⟩, l⟩ D ⟨w1, by dsimp only; omega⟩ hD (by omega) hw) PS rfl rfl ?_)
        rintro _ _ ⟨rfl, rfl⟩
        repeat (first | refine GD ?_ | refine NW fun _ => ?_)
        refine ret2 rfl rfl ⟨_, ?_, Imp.refl _⟩
        unfold ROpenJ
        rw [hdef, hout]
        exact ⟨j, rfl, rfl⟩
      by_cases h3 : g ≤ (0 : Int)
      rotate_left
      · have hfn : fits c ((1 : Int) + l.length) low (0 : Int) = none := by unfold fits; rw [hq]; dsimp only; rw [if_neg (fun h => h3 h.2.2)]
        rw [hfn] at hs
        have hout : scanM D n ⟨0, 1, 0, 0⟩ = l := hs.symm
        repeat (first | refine GD ?_ | refine NW fun _ => ?_)
        refine WL.imp (M := [rjrn j p ⟨n, ⟨(0 : Int), (1 : Int), (0 : Int) + 1, (0 : Int)⟩, l⟩, rdsk p D, F]) (Imp.trans II (rjrnFold j p ⟨n, ⟨(0 : Int), (1 : Int), (0 : Int) + 1, (0 : Int)⟩, l⟩ y)) ?_
        refine WL.step rfl (OP.call (pre := [rjrn j p ⟨n, ⟨(0 : Int), (1 : Int), (0 : Int) + 1, (0 : Int)⟩, l⟩, rdsk p D]) rfl rfl (rsave_ok j p ⟨n, ⟨(0 : Int), (1 : Int), (0 : Int) + 1, (0 : Int)⟩, l⟩ D ⟨w1, by dsimp only; omega⟩ hD (by omega) hw) PS rfl rfl ?_)
        rintro _ _ ⟨rfl, rfl⟩
        repeat (first | refine GD ?_ | refine NW fun _ => ?_)
        refine ret2 rfl rfl ⟨_, ?_, Imp.refl _⟩
        unfold ROpenJ
        rw [hdef, hout]
        exact ⟨j, rfl, rfl⟩
      have hfn : fits c ((1 : Int) + l.length) low (0 : Int) = some (g, r) := by unfold fits; rw [hq]; dsimp only; rw [if_pos ⟨h1, h2, h3⟩]
      rw [hfn] at hs
      dsimp only at hs
      repeat (first | refine GD ?_ | refine NW fun _ => ?_)
      refine RD 7 11 (_) ?_
      refine WP 0 ?_
      refine WP 1 ?_
      refine WP 2 ?_
      refine WP 3 ?_
      refine VV 4 ?_
      refine VL 5 (.agg (encR r).toArray) rfl rfl rfl rfl (.inr ⟨rfl, encR r, rfl, rfl, Ent.whole MM⟩) ?_
      refine WH.only 6 rfl rfl (by kernel_rfl) rfl (OP.sliceLit (c := encR r) rfl rfl rfl rfl rfl rfl rfl rfl (fun b2 => ⟨fun _ => II, ?_⟩))
      refine WH.only 7 rfl rfl (by kernel_rfl) rfl (OP.append rfl rfl rfl rfl rfl rfl rfl rfl rfl P1 (Ent.own MM) rfl (by omega) (by omega) rfl rfl (fun a' cap' => ⟨(fun h => nomatch h), ?_⟩))
      refine WP 8 ?_
      refine WP 9 ?_
      refine WH.only 10 rfl rfl (by kernel_rfl) rfl (OP.store rfl rfl rfl rfl rfl rfl rfl UP rfl ⟨(fun h => nomatch h), ?_⟩)
      refine DN ?_
      repeat (first | refine GD ?_ | refine NW fun _ => ?_)
      refine WL.step rfl (OP.append (ds := [.int .i64 g]) rfl rfl rfl rfl rfl rfl rfl rfl rfl P1 (Ent.own MM) rfl (by omega) (by omega) rfl rfl (fun a3 cap3 => ?_))
      repeat (first | refine GD ?_ | refine NW fun _ => ?_)
      refine ⟨(k, l ++ [(g, r)], g), ⟨by simp; omega, hs⟩, Nat.lt_succ_self k, ⟨rfl, rfl, rfl, rfl, trivial⟩, ?_⟩
      dsimp only
      refine Imp.trans ?_ (rjrnFold j p ⟨n, ⟨0, 1, 0, 0⟩, l ++ [(g, r)]⟩ (a', cap', a3, cap3))
      dsimp only
      rw [List.length_append, List.flatMap_append, List.flatMap_cons, List.flatMap_nil, List.append_nil, List.map_append]
      exact II
end Go.Proofs.YtanjfjiaheghcaaGreatDoor
/- Contracts of functions of the given program, and plain laws on what they compute: parts of the proofs of laws. -/

namespace Go.Proofs.YtanjfjiaheghcaaGreatDoor
open Go Go.GL

/-- the front of what a slice owns is cut off -/
theorem Imp.ownDrop {L : List Assn} {b off n cap : Nat} {T : TypeId} {size : Nat} {cs : List Value} {k : Nat} (hk : k ≤ n) :
    Imp (ownS (some ⟨b, off, none⟩) n cap T size cs :: L) (ownS (cutA (some ⟨b, off, none⟩) cap k size) (n - k) (cap - k) T size (cs.drop (k * size)) :: L) := fun _ s => stars_head_mono (fun h ⟨hl, hle, ho⟩ => by
  rcases ho with ⟨e, _⟩ | ⟨b', pre, post, e, hc, hb⟩
  · cases e
  · have hkl : k * size ≤ cs.length := by rw [hl]; exact Nat.mul_le_mul_right _ hk
    have hdl : (cs.drop (k * size)).length = (n - k) * size := by rw [List.length_drop, hl, Nat.sub_mul]
    refine ⟨hdl, by omega, .inr ?_⟩
    obtain ⟨hbb, hoff⟩ : b = b' ∧ off = pre.length := by
      simp only [Option.some.injEq, Addr.mk.injEq] at e; exact ⟨e.1, e.2.1⟩
    subst hbb hoff
    by_cases hck : cap = k
    · have hn : n = k := by omega
      subst hn hck
      have hd : cs.drop (cap * size) = [] := List.drop_eq_nil_of_le (by omega)
      rw [hd]
      exact ⟨b, pre, cs ++ post, by unfold cutA; rw [if_pos rfl], by simp, by simpa using hb⟩
    · refine ⟨b, pre ++ cs.take (k * size), post, ?_, ?_, ?_⟩
      · unfold cutA; rw [if_neg hck]
        simp only [Option.map_some, Addr.add, List.length_append, List.length_take, Nat.min_eq_left hkl]
        split
        · rename_i h0; rw [h0]; rfl
        · rfl
      · rw [Nat.sub_mul, hdl, Nat.sub_mul]
        have : n * size ≤ cap * size := Nat.mul_le_mul_right _ hle
        have h2 : k * size ≤ n * size := Nat.mul_le_mul_right _ hk
        omega
      · rw [List.append_assoc pre, List.take_append_drop]; exact hb) s
def RTrimJ (j p : Nat) (J : Jrn) (D : Dsk) (k : Int) (v : Value) (M : List Assn) : Prop := match trimM J D k with
  | .ok (J', D') => v = .int .i64 0 ∧ M = [rjrn j p J', rdsk p D']
  | .error c => v = .int .i64 c ∧ M = [rjrn j p J, rdsk p D]
set_option maxHeartbeats 8000000 in
set_option maxRecDepth 10000 in
theorem rtrim_ok (j p : Nat) (J : Jrn) (D : Dsk) (k : Int) (hJ : J.rng) (hD : D.ok) (hl : 2 + J.ring ≤ D.S.length) (hw : D.W.length < 10000) :
    Triple G 121 [.pointer (some ⟨j, 0, none⟩), .int .i64 k] [rjrn j p J, rdsk p D] (RTrimJ j p J D k) := by
  refine Triple.enter Tryz.func121 rfl (by decide) rfl Tryz.ntmps121 rfl (fun F => ?_)
  obtain ⟨⟨r1, r2⟩, hlen, ⟨t1, t2⟩, ⟨f1, f2⟩, ⟨g1, g2⟩⟩ := hJ
  have hdef : trimM J D k = if k < 0 ∨ (J.held.length : Int) < k then .error 1
    else if k = 0 then .ok (J, D)
    else .ok ({ J with hd := { J.hd with turn := J.hd.turn + 1, first := J.hd.first + k, low := (J.held.getD (k.toNat - 1) (0, rec0)).1 }, held := J.held.drop k.toNat },
      saveM D.flush { J.hd with turn := J.hd.turn + 1, first := J.hd.first + k, low := (J.held.getD (k.toNat - 1) (0, rec0)).1 }) := rfl
  refine WC.open P1 (fun x => ?_)
  unfold rjrnL
  dsimp only [List.cons_append, List.nil_append]
  by_cases h1 : k < 0
  · have hop : trimM J D k = .error 1 := by rw [hdef, if_pos (.inl h1)]
    repeat (first | refine GD ?_ | refine NW fun _ => ?_)
    refine ret1 rfl ⟨[rjrn j p J, rdsk p D], ?_, Imp.trans II (rjrnFold j p J x)⟩
    unfold RTrimJ
    rw [hop]
    exact ⟨rfl, rfl⟩
  by_cases h2 : (J.held.length : Int) < k
  · have hop : trimM J D k = .error 1 := by rw [hdef, if_pos (.inr h2)]
    repeat (first | refine GD ?_ | refine NW fun _ => ?_)
    refine ret1 rfl ⟨[rjrn j p J, rdsk p D], ?_, Imp.trans II (rjrnFold j p J x)⟩
    unfold RTrimJ
    rw [hop]
    exact ⟨rfl, rfl⟩
  rw [if_neg (by omega)] at hdef
  by_cases h3 : k = 0
  · subst h3
    rw [if_pos rfl] at hdef
    have hop := hdef
    repeat (first | refine GD ?_ | refine NW fun _ => ?_)
    refine ret1 rfl ⟨[rjrn j p J, rdsk p D], ?_, Imp.trans II (rjrnFold j p J x)⟩
    unfold RTrimJ
    rw [hop]
    exact ⟨rfl, rfl⟩
  rw [if_neg h3] at hdef
  obtain ⟨n, rfl⟩ : ∃ n : Nat, k = n := ⟨k.toNat, by omega⟩
  rw [Int.toNat_natCast] at hdef
  have hn1 : n - 1 < J.held.length := by omega
  rw [List.getD_eq_getElem?_getD, List.getElem?_eq_getElem hn1] at hdef
  dsimp only [Option.getD_some] at hdef
  refine WC.fact (Ent.some (Ent.own (a := x.1) (n := J.held.length) (cap := x.2.1) (T := 140) (size := 5) (cs := J.held.flatMap (fun x => encR x.2)) MM) (by omega)) ?_
  rintro ⟨b, off, hx⟩
  refine WC.fact (Ent.ownLe (a := x.1) (n := J.held.length) (cap := x.2.1) (T := 140) (size := 5) (cs := J.held.flatMap (fun x => encR x.2)) MM) (fun hcap => ?_)
  refine WC.fact (Ent.some (Ent.own (a := x.2.2.1) (n := J.held.length) (cap := x.2.2.2) (T := 3) (size := 1) (cs := J.held.map genC) MM) (by omega)) ?_
  rintro ⟨bg, offg, hxg⟩
  refine WC.fact (Ent.ownLe (a := x.2.2.1) (n := J.held.length) (cap := x.2.2.2) (T := 3) (size := 1) (cs := J.held.map genC) MM) (fun hcapg => ?_)
  rw [hx, hxg]
  repeat (first | refine GD ?_ | refine NW fun _ => ?_)
  refine WL.step rfl (OP.call (pre := [rdsk p D]) rfl rfl (rdflush_ok p D hD (by omega)) PS rfl rfl ?_)
  rintro _ _ ⟨rfl, rfl⟩
  repeat (first | refine GD ?_ | refine NW fun _ => ?_)
  rw [show ((n : Int) - 1).toNat = n - 1 by omega]
  refine WL.step rfl (OP.load1 (v := genC J.held[n - 1]) rfl rfl rfl rfl (Ent.elem (i := (n - 1) * 1) (Ent.own (T := 3) MM) rfl (by simp [hn1])) rfl rfl ?_)
  unfold genC
  generalize (J.held[n - 1]).1 = lw at *
  repeat (first | refine GD ?_ | refine NW fun _ => ?_)
  refine WL.imp (M := [rjrn j p ⟨J.ring, ⟨J.hd.turn, J.hd.first + n, J.hd.gen, lw⟩, J.held.drop n⟩, rdsk p D.flush, F]) ?_ ?_
  · refine Imp.trans (M := ownS (some ⟨b, off, none⟩) J.held.length x.2.1 140 5 (J.held.flatMap (fun x => encR x.2)) :: ownS (some ⟨bg, offg, none⟩) J.held.length x.2.2.2 3 1 (J.held.map genC) ::
      [blk j [.pointer (some ⟨p, 0, none⟩), .int .i64 J.ring, .int .i64 J.hd.turn, .int .i64 (J.hd.first + n), .int .i64 J.hd.gen, .int .i64 lw, .slice (cutA (some ⟨b, off, none⟩) x.2.1 n 5) (J.held.length - n) (x.2.1 - n), .slice (cutA (some ⟨bg, offg, none⟩) x.2.2.2 n 1) (J.held.length - n) (x.2.2.2 - n)] 143, rdsk p D.flush, F]) II ?_
    refine Imp.trans (Imp.ownDrop (k := n) (by omega)) ?_
    refine Imp.trans (Imp.cons (Imp.ownDrop (k := n) (by omega))) ?_
    rw [flat_drop (f := fun x : Held => encR x.2) (fun _ => rfl), Nat.mul_one, ← List.map_drop]
    refine Imp.trans ?_ (rjrnFold j p ⟨J.ring, ⟨J.hd.turn, J.hd.first + n, J.hd.gen, lw⟩, J.held.drop n⟩ (cutA (some ⟨b, off, none⟩) x.2.1 n 5, x.2.1 - n, cutA (some ⟨bg, offg, none⟩) x.2.2.2 n 1, x.2.2.2 - n))
    dsimp only
    rw [List.length_drop]
    exact II
  refine WL.step rfl (OP.call (pre := [rjrn j p ⟨J.ring, ⟨J.hd.turn, J.hd.first + n, J.hd.gen, lw⟩, J.held.drop n⟩, rdsk p D.flush]) rfl rfl (rsave_ok j p ⟨J.ring, ⟨J.hd.turn, J.hd.first + n, J.hd.gen, lw⟩, J.held.drop n⟩ D.flush ⟨t1, t2⟩ (Dsk.settle_ok hD _) (by rw [show D.flush.S.length = D.S.length from Dsk.settle_len D _]; omega) (by show (0 : Nat) < 10000; decide)) PS rfl rfl ?_)
  rintro _ _ ⟨rfl, rfl⟩
  repeat (first | refine GD ?_ | refine NW fun _ => ?_)
  refine ret1 rfl ⟨_, ?_, Imp.refl _⟩
  unfold RTrimJ
  rw [hdef]
  exact ⟨rfl, rfl⟩
end Go.Proofs.YtanjfjiaheghcaaGreatDoor
/- Contracts of functions of the given program, and plain laws on what they compute: parts of the proofs of laws. -/

namespace Go.Proofs.YtanjfjiaheghcaaGreatDoor
open Go Go.GL

/-! the document's volume -/
def numC (x : Plc) : Value := .int .i64 x.1
def datC (x : Plc) : Value := .string x.2
def rvolC (p j ring : Nat) (laid : List Plc) : List Value := [.pointer (some ⟨p, 0, none⟩), .pointer (some ⟨j, 0, none⟩), .int .i64 ring] ++ laid.map numC ++ laid.map datC
def rvolL (v p : Nat) (V : Vol) (y : Nat × Option Addr × Nat × Option Addr × Nat) : List Assn := blk v (rvolC p y.1 V.J.ring V.laid) 84 :: rjrnL y.1 p V.J y.2
def rvol (v p : Nat) (V : Vol) : Assn := exA (rvolL v p V)
theorem up_rvol (v p : Nat) (V : Vol) : Up (rvol v p V) := up_exA _
theorem rvolFold (v p : Nat) (V : Vol) (j : Nat) {N : List Assn} : Imp (blk v (rvolC p j V.J.ring V.laid) 84 :: rjrn j p V.J :: N) (rvol v p V :: N) := fun h s => by
  obtain ⟨x, h3⟩ := stars_open ((Pick.there (Pick.here _ _)).imp _ s)
  exact (Imp.foldP (Ls := rvolL v p V) (j, x) (Picks.cons (Pick.there (Pick.there (Pick.there (Pick.here _ _)))) (Picks.cons (Pick.here _ _) (Picks.cons (Pick.here _ _) (Picks.cons (Pick.here _ _) (Picks.nil _))))) (Imp.refl _)) h h3
theorem rvolC_num {p j ring : Nat} {laid : List Plc} {b : Nat} (hb : b < laid.length) : (rvolC p j ring laid)[3 + b * 1]? = some (.int .i64 (laid[b]).1) := by
  unfold rvolC
  rw [List.append_assoc, List.getElem?_append_right (by show 3 ≤ _; omega), List.getElem?_append_left (by rw [List.length_map]; show 3 + b * 1 - 3 < _; omega), List.getElem?_map]
  rw [show 3 + b * 1 - ([Value.pointer (some ⟨p, 0, none⟩), .pointer (some ⟨j, 0, none⟩), .int .i64 ring]).length = b from by show 3 + b * 1 - 3 = b; omega, List.getElem?_eq_getElem hb]
  rfl
theorem rvolC_dat {p j ring : Nat} {laid : List Plc} (h8 : laid.length = 8) {b : Nat} (hb : b < laid.length) : (rvolC p j ring laid)[11 + b * 1]? = some (.string (laid[b]).2) := by
  have hl : ([Value.pointer (some ⟨p, 0, none⟩), .pointer (some ⟨j, 0, none⟩), .int .i64 ring] ++ laid.map numC).length = 11 := by
    rw [List.length_append, List.length_map, h8]; rfl
  unfold rvolC
  rw [List.getElem?_append_right (by rw [hl]; omega), hl, List.getElem?_map, show 11 + b * 1 - 11 = b by omega, List.getElem?_eq_getElem hb]
  rfl
set_option maxHeartbeats 4000000 in
set_option maxRecDepth 10000 in
theorem rlast_ro (v p : Nat) (V : Vol) (b : Nat) (hb : b < 8) (h8 : V.laid.length = 8) (hlen : V.J.held.length ≤ 512) (hr : ∀ x ∈ V.J.held, x.2.2.1 = 1 → 0 ≤ x.2.2.2.1 ∧ x.2.2.2.1 < 8) :
    RO G 59 [.pointer (some ⟨v, 0, none⟩), .int .i64 b] (rvol v p V) (.tuple #[.int .i64 ((takeAll V.laid V.J.held).getD b plc0).1, .string ((takeAll V.laid V.J.held).getD b plc0).2]) := by
  refine RO.enterEx Tryz.func59 rfl (by decide) rfl Tryz.ntmps59 rfl (fun y A hu hA => ?_)
  obtain ⟨j, x⟩ := y
  have hC : ∀ {L} {i : Nat} {u : Value}, (rvolC p j V.J.ring V.laid)[i]? = some u → A ∈ L → Ent L (cellAt v i u) := fun h m => Ent.of hu hA m (Ent.blk (T := 84) (c := rvolC p j V.J.ring V.laid) (List.Mem.head _) h)
  have hB : ∀ {L}, A ∈ L → Ent L (cellsAt j 0 [.pointer (some ⟨p, 0, none⟩), .int .i64 V.J.ring, .int .i64 V.J.hd.turn, .int .i64 V.J.hd.first, .int .i64 V.J.hd.gen, .int .i64 V.J.hd.low, .slice x.1 V.J.held.length x.2.1, .slice x.2.2.1 V.J.held.length x.2.2.2]) := fun m => Ent.of hu hA m (Ent.whole (List.Mem.tail _ (List.Mem.head _)))
  have hH : ∀ {L}, A ∈ L → Ent L (readS x.1 V.J.held.length 5 (V.J.held.flatMap (fun x => encR x.2))) := fun m => Ent.of hu hA m (Ent.own (List.Mem.tail _ (List.Mem.tail _ (List.Mem.head _))))
  have hbl : b < V.laid.length := by omega
  have hn := rvolC_num (p := p) (j := j) (ring := V.J.ring) hbl
  have hd := rvolC_dat (p := p) (j := j) (ring := V.J.ring) h8 hbl
  repeat (first | refine GD ?_ | refine NW fun _ => ?_)
  refine RD 14 14 (_) ?_
  refine WP 0 ?_
  refine WP 1 ?_
  refine WP 2 ?_
  refine WP 3 ?_
  refine WP 4 ?_
  refine VL 5 (.int .i64 (V.laid[b]).1) rfl rfl rfl rfl (.inl ⟨rfl, hC hn MM⟩) ?_
  refine WP 6 ?_
  refine WP 7 ?_
  refine WP 8 ?_
  refine WP 9 ?_
  refine WP 10 ?_
  refine VL 11 (.string (V.laid[b]).2) rfl rfl rfl rfl (.inl ⟨rfl, hC hd MM⟩) ?_
  refine WP 12 ?_
  refine WP 13 ?_
  refine DN ?_
  repeat (first | refine GD ?_ | refine NW fun _ => ?_)
  refine WL.step rfl (OP.load1 (v := .pointer (some ⟨j, 0, none⟩)) rfl rfl rfl rfl (hC (i := 1) rfl MM) rfl rfl ?_)
  repeat (first | refine GD ?_ | refine NW fun _ => ?_)
  refine WL.step rfl (OP.load1 (v := .slice x.1 V.J.held.length x.2.1) rfl rfl rfl rfl (Ent.one (i := 6) (hB MM) rfl) rfl rfl ?_)
  have hlR : ∀ x : Held, (encR x.2).length = 5 := fun _ => rfl
  repeat (first | refine GD ?_ | refine NW fun _ => ?_)
  refine WC.loop (σ := Nat) (fun i => i ≤ V.J.held.length)
    (fun i => [(0, .val (.pointer (some ⟨v, 0, none⟩))), (1, .val (.int .i64 b)), (6, .val (.int .i64 ((takeAll V.laid (V.J.held.take i)).getD b plc0).1)), (7, .val (.string ((takeAll V.laid (V.J.held.take i)).getD b plc0).2)), (29, .val (.int .i64 V.J.held.length)), (30, .val (.int .i64 i))])
    (fun _ => [A]) (fun i => V.J.held.length - i) 0 (Nat.zero_le _) ⟨rfl, rfl, by rw [List.take_zero]; show _ = some (Slot.val (.int .i64 (V.laid.getD b plc0).1)); rw [getD_lt hbl]; rfl, by rw [List.take_zero]; show _ = some (Slot.val (.string (V.laid.getD b plc0).2)); rw [getD_lt hbl]; rfl, rfl, rfl, trivial⟩ (Imp.refl _) ?_
  rintro i hi
  by_cases hlt : i < V.J.held.length
  rotate_left
  · have he : i = V.J.held.length := by omega
    subst he
    rw [List.take_length]
    repeat (first | refine GD ?_ | refine NW fun _ => ?_)
    exact ret2 rfl rfl ⟨rfl, MM⟩
  have hsn : takeAll V.laid (V.J.held.take (i + 1)) = takeV (takeAll V.laid (V.J.held.take i)) V.J.held[i].2 := by
    rw [← List.take_append_getElem hlt, takeAll_snoc]
  have hml := (takeAll_len (V.J.held.take i) V.laid).trans h8
  have hri := hr _ (List.getElem_mem hlt)
  generalize takeAll V.laid (V.J.held.take i) = m at *
  have hgt := takeV_get m V.J.held[i].2 b
  rw [← hsn] at hgt
  refine WC.fact (Ent.some (hH MM) (by omega)) ?_
  rintro ⟨b1, off1, hx⟩
  rw [hx] at hB hH
  repeat (first | refine GD ?_ | refine NW fun _ => ?_)
  refine WL.step rfl (OP.load1 (v := .pointer (some ⟨j, 0, none⟩)) rfl rfl rfl rfl (hC (i := 1) rfl MM) rfl rfl ?_)
  repeat (first | refine GD ?_ | refine NW fun _ => ?_)
  refine WL.step rfl (OP.load1 (v := .slice (some ⟨b1, off1, none⟩) V.J.held.length x.2.1) rfl rfl rfl rfl (Ent.one (i := 6) (hB MM) rfl) rfl rfl ?_)
  have hel : ∀ {L}, A ∈ L → Ent L (cellsAt b1 (off1 + i * 5) (encR V.J.held[i].2)) := fun m => Ent.elA hlR (hH m) hlt
  generalize V.J.held[i] = e at *
  obtain ⟨g, seq, kind, block, data, num⟩ := e
  dsimp only at hgt hri hel
  rw [show encR (seq, kind, block, data, num) = [.int .i64 seq, .int .i64 kind, .int .i64 block, .string data, .int .i64 num] from rfl] at hel
  repeat (first | refine GD ?_ | refine NW fun _ => ?_)
  refine WL.step rfl (OP.loadA (l := [.int .i64 seq, .int .i64 kind, .int .i64 block, .string data, .int .i64 num]) rfl rfl rfl rfl (hel MM) rfl rfl rfl ?_)
  by_cases k1 : kind = 1
  rotate_left
  · have hn1 : ¬ (kind = 1 ∧ (m.getD block.toNat plc0).1 < seq ∧ block.toNat = b ∧ b < m.length) := fun h => k1 h.1
    rw [if_neg (fun h => hn1 h)] at hgt
    repeat (first | refine GD ?_ | refine NW fun _ => ?_)
    exact ⟨i + 1, by omega, by omega, ⟨rfl, rfl, by rw [hgt]; rfl, by rw [hgt]; rfl, rfl, rfl, trivial⟩, II⟩
  have hr1 := hri k1
  by_cases k2 : block = (b : Int)
  rotate_left
  · have hn1 : ¬ (kind = 1 ∧ (m.getD block.toNat plc0).1 < seq ∧ block.toNat = b ∧ b < m.length) := fun h => k2 (by omega)
    rw [if_neg (fun h => hn1 h)] at hgt
    repeat (first | refine GD ?_ | refine NW fun _ => ?_)
    exact ⟨i + 1, by omega, by omega, ⟨rfl, rfl, by rw [hgt]; rfl, by rw [hgt]; rfl, rfl, rfl, trivial⟩, II⟩
  have k2' : block.toNat = b := by omega
  rw [k2'] at hgt
  by_cases k3 : (m.getD b plc0).1 < seq
  rotate_left
  · have hn1 : ¬ (kind = 1 ∧ (m.getD b plc0).1 < seq ∧ b = b ∧ b < m.length) := fun h => k3 h.2.1
    rw [if_neg (fun h => hn1 h)] at hgt
    repeat (first | refine GD ?_ | refine NW fun _ => ?_)
    exact ⟨i + 1, by omega, by omega, ⟨rfl, rfl, by rw [hgt]; rfl, by rw [hgt]; rfl, rfl, rfl, trivial⟩, II⟩
  rw [if_pos ⟨k1, k3, rfl, by omega⟩] at hgt
  repeat (first | refine GD ?_ | refine NW fun _ => ?_)
  refine RD 6 6 (_) ?_
  refine WP 0 ?_
  refine VV 1 ?_
  refine WP 2 ?_
  refine VV 3 ?_
  refine WP 4 ?_
  refine WP 5 ?_
  refine DN ?_
  repeat (first | refine GD ?_ | refine NW fun _ => ?_)
  exact ⟨i + 1, by omega, by omega, ⟨rfl, rfl, by rw [hgt]; rfl, by rw [hgt]; rfl, rfl, rfl, trivial⟩, II⟩
end Go.Proofs.YtanjfjiaheghcaaGreatDoor
/- Contracts of functions of the given program, and plain laws on what they compute: parts of the proofs of laws. -/

namespace Go.Proofs.YtanjfjiaheghcaaGreatDoor
open Go Go.GL

def rvolD (p j ring : Nat) (l1 l2 : List Plc) : List Value := [.pointer (some ⟨p, 0, none⟩), .pointer (some ⟨j, 0, none⟩), .int .i64 ring] ++ l1.map numC ++ l2.map datC
theorem map_set1 (g : Plc → Value) {R : List Plc} {k : Nat} (x : Plc) (h : k < R.length) : setMany (R.map g) (k * 1) [g x] = some ((R.set k x).map g) := by
  rw [Nat.mul_one]
  unfold setMany
  rw [setOne_lt _ (by simpa using h)]
  simp only [setMany]
  rw [List.map_set]
theorem rvolD_setN {p j ring : Nat} {l1 l2 : List Plc} {b : Nat} (x : Plc) (hb : b < l1.length) : setMany (rvolD p j ring l1 l2) (3 + b * 1) [numC x] = some (rvolD p j ring (l1.set b x) l2) :=
  (setMany_app [numC x] [Value.pointer (some ⟨p, 0, none⟩), .pointer (some ⟨j, 0, none⟩), .int .i64 ring] (l1.map numC) (l2.map datC) (b * 1) (map_set1 numC x hb)).1
theorem rvolD_setD {p j ring : Nat} {l1 l2 : List Plc} (h8 : l1.length = 8) {b : Nat} (x : Plc) (hb : b < l2.length) : setMany (rvolD p j ring l1 l2) (11 + b * 1) [datC x] = some (rvolD p j ring l1 (l2.set b x)) := by
  have hl : ([Value.pointer (some ⟨p, 0, none⟩), .pointer (some ⟨j, 0, none⟩), .int .i64 ring] ++ l1.map numC).length = 11 := by
    rw [List.length_append, List.length_map, h8]; rfl
  have h := (setMany_app [datC x] ([Value.pointer (some ⟨p, 0, none⟩), .pointer (some ⟨j, 0, none⟩), .int .i64 ring] ++ l1.map numC) (l2.map datC) [] (b * 1) (map_set1 datC x hb)).1
  rw [hl, List.append_nil, List.append_nil] at h
  exact h
def rvolJ (v p : Nat) (V : Vol) : Assn := exA (fun j : Nat => [blk v (rvolC p j V.J.ring V.laid) 84, rjrn j p V.J])
theorem rvolOut (v p : Nat) (V : Vol) {N : List Assn} : Imp (rvol v p V :: N) (rvolJ v p V :: N) := fun _ s => stars_head_mono (fun _ ⟨y, hk⟩ => ⟨y.1, (Imp.fold (Ls := rjrnL y.1 p V.J) y.2 (M := [])).cons _ (by rw [List.append_nil]; exact hk)⟩) s
def RAppVP (v p : Nat) (V : Vol) (D : Dsk) (R : Except (List (ByteArray × Int) × Int) (Vol × Dsk)) (x : Value) (M : List Assn) : Prop := match R with
  | .ok (V', D') => x = .tuple #[.int .i64 V.J.next, .int .i64 0] ∧ M = [rvol v p V', rdsk p D']
  | .error (_, c) => x = .tuple #[.int .i64 0, .int .i64 c] ∧ M = [rvol v p V, rdsk p D]
theorem appM_ring {J J' : Jrn} {D D' : Dsk} {r : Rec} (h : appendM J D r = .ok (J', D')) : J'.ring = J.ring := by
  unfold appendM at h
  split at h
  · cases h
  · split at h
    · cases h; rfl
    · cases h
set_option maxHeartbeats 4000000 in
set_option maxRecDepth 10000 in
theorem rvwrite_ok (v p : Nat) (V : Vol) (D : Dsk) (block : Int) (data : ByteArray) (hJ : V.J.rng) (hl : 10 + V.J.ring ≤ D.S.length) (hw : D.W.length < 10000) :
    Triple G 99 [.pointer (some ⟨v, 0, none⟩), .int .i64 block, .string data] [rvol v p V, rdsk p D] (RAppVP v p V D (writeV V D block data)) := by
  refine Triple.enter Tryz.func99 rfl (by decide) rfl Tryz.ntmps99 rfl (fun F => ?_)
  unfold RAppVP writeV
  by_cases hb : 0 ≤ block ∧ block < 8
  rotate_left
  · rw [if_pos hb]
    by_cases h0 : block < 0
    · repeat (first | refine GD ?_ | refine NW fun _ => ?_)
      exact ret2 rfl rfl ⟨_, ⟨rfl, rfl⟩, Imp.refl _⟩
    · have h7 : 7 < block := by omega
      repeat (first | refine GD ?_ | refine NW fun _ => ?_)
      exact ret2 rfl rfl ⟨_, ⟨rfl, rfl⟩, Imp.refl _⟩
  rw [if_neg (fun h => h hb)]
  have h0 : ¬ block < 0 := by omega
  have h7 : ¬ 7 < block := by omega
  by_cases h16 : 16 < data.size
  · rw [if_pos h16]
    repeat (first | refine GD ?_ | refine NW fun _ => ?_)
    exact ret2 rfl rfl ⟨_, ⟨rfl, rfl⟩, Imp.refl _⟩
  rw [if_neg h16]
  refine WC.imp (rvolOut v p V) ?_
  refine WC.open P1 (fun j => WC.imp (M := [blk v (rvolC p j V.J.ring V.laid) 84, rjrn j p V.J, rdsk p D, F]) (Imp.refl _) ?_)
  have hap := rappend_ok j p V.J D (0, 1, block, data, 0) hJ (by omega) hw (by dsimp only; omega)
  unfold RAppJ at hap
  rw [show encR (0, 1, block, data, 0) = [.int .i64 0, .int .i64 1, .int .i64 block, .string data, .int .i64 0] from rfl] at hap
  unfold appV
  repeat (first | refine GD ?_ | refine NW fun _ => ?_)
  refine WL.step rfl (OP.call (pre := [rjrn j p V.J, rdsk p D]) rfl rfl hap PS rfl rfl ?_)
  intro x M hM
  cases hq : appendM V.J D (0, 1, block, data, 0) with
  | ok y =>
    obtain ⟨J', D'⟩ := y
    rw [hq] at hM
    obtain ⟨rfl, rfl⟩ := hM
    have hrg := appM_ring hq
    repeat (first | refine GD ?_ | refine NW fun _ => ?_)
    refine ret2 rfl rfl ⟨_, ⟨rfl, rfl⟩, ?_⟩
    refine Imp.trans ?_ (rvolFold v p ⟨J', V.laid, takeV V.blks (setSeq (0, 1, block, data, 0) V.J.next)⟩ j)
    dsimp only
    rw [hrg]
    exact II
  | error c =>
    rw [hq] at hM
    obtain ⟨rfl, rfl⟩ := hM
    repeat (first | refine GD ?_ | refine NW fun _ => ?_)
    refine ret2 rfl rfl ⟨_, ⟨rfl, rfl⟩, Imp.trans II (rvolFold v p V j)⟩
set_option maxHeartbeats 4000000 in
set_option maxRecDepth 10000 in
theorem rvmark_ok (v p : Nat) (V : Vol) (D : Dsk) (number : Int) (hJ : V.J.rng) (hl : 10 + V.J.ring ≤ D.S.length) (hw : D.W.length < 10000) :
    Triple G 71 [.pointer (some ⟨v, 0, none⟩), .int .i64 number] [rvol v p V, rdsk p D] (RAppVP v p V D (markV V D number)) := by
  refine Triple.enter Tryz.func71 rfl (by decide) rfl Tryz.ntmps71 rfl (fun F => ?_)
  unfold RAppVP markV
  refine WC.imp (rvolOut v p V) ?_
  refine WC.open P1 (fun j => WC.imp (M := [blk v (rvolC p j V.J.ring V.laid) 84, rjrn j p V.J, rdsk p D, F]) (Imp.refl _) ?_)
  have hap := rappend_ok j p V.J D (0, 2, 0, ⟨#[]⟩, number) hJ (by omega) hw (by show 0 < 1000000; decide)
  unfold RAppJ at hap
  rw [show encR (0, 2, 0, ⟨#[]⟩, number) = [.int .i64 0, .int .i64 2, .int .i64 0, .string ⟨#[]⟩, .int .i64 number] from rfl] at hap
  unfold appV
  repeat (first | refine GD ?_ | refine NW fun _ => ?_)
  refine WL.step rfl (OP.call (pre := [rjrn j p V.J, rdsk p D]) rfl rfl hap PS rfl rfl ?_)
  intro x M hM
  cases hq : appendM V.J D (0, 2, 0, ⟨#[]⟩, number) with
  | ok y =>
    obtain ⟨J', D'⟩ := y
    rw [hq] at hM
    obtain ⟨rfl, rfl⟩ := hM
    have hrg := appM_ring hq
    repeat (first | refine GD ?_ | refine NW fun _ => ?_)
    refine ret2 rfl rfl ⟨_, ⟨rfl, rfl⟩, ?_⟩
    refine Imp.trans ?_ (rvolFold v p ⟨J', V.laid, takeV V.blks (setSeq (0, 2, 0, ⟨#[]⟩, number) V.J.next)⟩ j)
    dsimp only
    rw [hrg]
    exact II
  | error c =>
    rw [hq] at hM
    obtain ⟨rfl, rfl⟩ := hM
    repeat (first | refine GD ?_ | refine NW fun _ => ?_)
    refine ret2 rfl rfl ⟨_, ⟨rfl, rfl⟩, Imp.trans II (rvolFold v p V j)⟩
def RVReadV (V : Vol) (block : Int) : Value := match readV V block with
  | .ok d => .tuple #[.string d, .int .i64 0]
  | .error (_, c) => .tuple #[.string ⟨#[]⟩, .int .i64 c]
set_option maxRecDepth 10000 in
theorem rvread_ro (v p : Nat) (V : Vol) (block : Int) (h8 : V.laid.length = 8) (hlen : V.J.held.length ≤ 512) (hr : ∀ x ∈ V.J.held, x.2.2.1 = 1 → 0 ≤ x.2.2.2.1 ∧ x.2.2.2.1 < 8) (hb : V.blks = takeAll V.laid V.J.held) :
    RO G 17 [.pointer (some ⟨v, 0, none⟩), .int .i64 block] (rvol v p V) (RVReadV V block) := by
  refine RO.enter Tryz.func17 rfl (by decide) rfl Tryz.ntmps17 rfl (fun A hu hA => ?_) (up_rvol v p V)
  have hE : ∀ {L}, A ∈ L → Ent L (rvol v p V) := fun m => Ent.mem m hu hA
  unfold RVReadV readV
  by_cases h : 0 ≤ block ∧ block < 8
  rotate_left
  · rw [if_pos h]
    by_cases h0 : block < 0
    · repeat (first | refine GD ?_ | refine NW fun _ => ?_)
      exact ret2 rfl rfl ⟨rfl, MM⟩
    · have h7 : 7 < block := by omega
      repeat (first | refine GD ?_ | refine NW fun _ => ?_)
      exact ret2 rfl rfl ⟨rfl, MM⟩
  rw [if_neg (fun x => x h)]
  have h0 : ¬ block < 0 := by omega
  have h7 : ¬ 7 < block := by omega
  obtain ⟨b, rfl⟩ : ∃ b : Nat, block = b := ⟨block.toNat, by omega⟩
  have hla := rlast_ro v p V b (by omega) h8 hlen hr
  rw [← hb] at hla
  rw [Int.toNat_natCast]
  repeat (first | refine GD ?_ | refine NW fun _ => ?_)
  refine WL.step rfl (OP.callRO rfl rfl hla (hE MM) rfl rfl ?_)
  repeat (first | refine GD ?_ | refine NW fun _ => ?_)
  exact ret2 rfl rfl ⟨rfl, MM⟩
end Go.Proofs.YtanjfjiaheghcaaGreatDoor
/- Contracts of functions of the given program, and plain laws on what they compute: parts of the proofs of laws. -/

namespace Go.Proofs.YtanjfjiaheghcaaGreatDoor
open Go Go.GL

def ROpenVP (p : Nat) (D : Dsk) (ring : Int) (x : Value) (M : List Assn) : Prop := match openV D ring with
  | .ok (V, D') => ∃ v, x = .tuple #[.pointer (some ⟨v, 0, none⟩), .int .i64 0] ∧ M = [rvol v p V, rdsk p D']
  | .error (_, c) => x = .tuple #[.pointer none, .int .i64 c] ∧ M = []
theorem openM_code {D : Dsk} {n c : Int} (h : openM D n = .error c) : c = 1 ∨ c = 4 := by
  unfold openM at h
  split at h
  · cases h; exact .inl rfl
  · split at h
    · cases h; exact .inr rfl
    · cases h
set_option maxHeartbeats 8000000 in
set_option maxRecDepth 10000 in
theorem rvopen_ok (p : Nat) (D : Dsk) (ring : Int) (hD : D.ok) (hw : D.W.length < 10000) (hr64 : -9223372036854775808 ≤ ring ∧ ring ≤ 9223372036854775807) :
    Triple G 90 [.pointer (some ⟨p, 0, none⟩), .int .i64 ring] [rdsk p D] (ROpenVP p D ring) := by
  refine Triple.enter Tryz.func90 rfl (by decide) rfl Tryz.ntmps90 rfl (fun F => ?_)
  have hfew := hD.few
  have hdef : openV D ring = if ring < 1 ∨ 512 < ring ∨ (D.S.length : Int) < 10 + ring then .error ([(volTx, ring)], 1)
    else match openM D ring with
    | .error c => .error ([(volTx, ring), (jrnTx, ring)], c)
    | .ok (J, D') => match plcsM D' ring.toNat with
      | none => .error ([(volTx, ring)], 4)
      | some l => .ok (⟨J, l, takeAll l J.held⟩, D') := rfl
  by_cases h1 : ring < 1
  · have hop : openV D ring = .error ([(volTx, ring)], 1) := by rw [hdef, if_pos (.inl h1)]
    repeat (first | refine GD ?_ | refine NW fun _ => ?_)
    refine ret2 rfl rfl ⟨[], ?_, II⟩
    unfold ROpenVP
    rw [hop]
    exact ⟨rfl, rfl⟩
  by_cases h2 : 512 < ring
  · have hop : openV D ring = .error ([(volTx, ring)], 1) := by rw [hdef, if_pos (.inr (.inl h2))]
    repeat (first | refine GD ?_ | refine NW fun _ => ?_)
    refine ret2 rfl rfl ⟨[], ?_, II⟩
    unfold ROpenVP
    rw [hop]
    exact ⟨rfl, rfl⟩
  refine WC.open P1 (fun x => ?_)
  unfold rdskL
  dsimp only [List.cons_append, List.nil_append]
  by_cases h3 : (D.S.length : Int) < 2 + ring + 8
  · have hop : openV D ring = .error ([(volTx, ring)], 1) := by rw [hdef, if_pos (.inr (.inr (by omega)))]
    repeat (first | refine GD ?_ | refine NW fun _ => ?_)
    refine ret2 rfl rfl ⟨[], ?_, II⟩
    unfold ROpenVP
    rw [hop]
    exact ⟨rfl, rfl⟩
  rw [if_neg (by omega)] at hdef
  have hjo := ropen_ok p D ring hD hw hr64
  unfold ROpenJ at hjo
  repeat (first | refine GD ?_ | refine NW fun _ => ?_)
  refine WL.imp (M := [rdsk p D, F]) (Imp.trans II (rdskFold p D x)) ?_
  refine WL.step rfl (OP.call (pre := [rdsk p D]) rfl rfl hjo PS rfl rfl ?_)
  intro y M hO
  cases hq : openM D ring with
  | error c =>
    rw [hq] at hO hdef
    obtain ⟨rfl, rfl⟩ := hO
    have hc : ¬ c = 0 := by rcases openM_code hq with rfl | rfl <;> decide
    have hop : openV D ring = .error ([(volTx, ring), (jrnTx, ring)], c) := hdef
    repeat (first | refine GD ?_ | refine NW fun _ => ?_)
    refine ret2 rfl rfl ⟨[], ?_, II⟩
    unfold ROpenVP
    rw [hop]
    exact ⟨rfl, rfl⟩
  | ok z =>
    obtain ⟨J, D2⟩ := z
    rw [hq] at hO hdef
    obtain ⟨j, rfl, rfl⟩ := hO
    obtain ⟨n, rfl⟩ : ∃ n : Nat, ring = n := ⟨ring.toNat, by omega⟩
    rw [Int.toNat_natCast] at hdef
    dsimp only at hdef
    obtain ⟨hJr, hJlen, hJright, hDok, hDlen, hDfew, hJrng⟩ := openM_facts hD hq
    clear hjo
    repeat (first | refine GD ?_ | refine NW fun _ => ?_)
    rename_i v
    refine WC.imp (M := [blk v (rvolD p j n (List.replicate 8 plc0) (List.replicate 8 plc0)) 84, rjrn j p J, rdsk p D2, F]) (Imp.refl _) ?_
    have hl8 : ∀ {k : Nat} {l : List Plc}, l.length + k = 8 → (l ++ List.replicate k plc0).length = 8 := fun h => by simp; exact h
    refine WC.loop (σ := Nat × List Plc) (fun s => s.2.length + s.1 = 8 ∧ plcsF D2 n s.1 s.2 = plcsM D2 n)
      (fun s => [(0, .val (.pointer (some ⟨p, 0, none⟩))), (1, .val (.int .i64 n)), (8, .val (.pointer (some ⟨v, 0, none⟩))), (9, .val (.int .i64 s.2.length))])
      (fun s => [blk v (rvolD p j n (s.2 ++ List.replicate s.1 plc0) (s.2 ++ List.replicate s.1 plc0)) 84, rjrn j p J, rdsk p D2, F]) (fun s => s.1) (8, []) ⟨rfl, rfl⟩ ⟨rfl, rfl, rfl, rfl, trivial⟩ (Imp.refl _) ?_
    rintro ⟨k, l⟩ ⟨hk, hs⟩
    dsimp only at hk hs ⊢
    cases k with
    | zero =>
      have hk8 : l.length = 8 := hk
      rw [hk8]
      have hap : l ++ List.replicate 0 plc0 = l := List.append_nil l
      rw [hap]
      have hpl : plcsM D2 n = some l := hs.symm
      rw [hpl] at hdef
      dsimp only at hdef
      repeat (first | refine GD ?_ | refine NW fun _ => ?_)
      refine ret2 rfl rfl ⟨[rvol v p ⟨J, l, takeAll l J.held⟩, rdsk p D2], ?_, ?_⟩
      · unfold ROpenVP
        rw [hdef]
        exact ⟨v, rfl, rfl⟩
      · refine Imp.trans ?_ (rvolFold v p ⟨J, l, takeAll l J.held⟩ j)
        dsimp only
        rw [hJr]
        exact Imp.refl _
    | succ k =>
      have hlt : l.length < 8 := by omega
      have hst : plcsF D2 n (k + 1) l = match plcOf (D2.cur (2 + n + l.length)) l.length with
        | some x => plcsF D2 n k (l ++ [x])
        | none => none := rfl
      rw [hst] at hs
      have h64 := Dsk.cur_64 hDok (show 2 + n + l.length < D2.S.length by omega)
      have hrd := rdread_ro p D2 (2 + n + l.length) (by omega)
      unfold RRdV at hrd
      rw [if_pos (by omega), show (2 + (n : Int) + l.length).toNat = 2 + n + l.length by omega] at hrd
      generalize hb : D2.cur (2 + n + l.length) = b at *
      have hto := rtold_ro b l.length (by omega)
      unfold QToldV at hto
      repeat (first | refine GD ?_ | refine NW fun _ => ?_)
      refine WL.step rfl (OP.callRO rfl rfl hrd (Ent.at (up_rdsk p D2) MM) rfl rfl ?_)
      repeat (first | refine GD ?_ | refine NW fun _ => ?_)
      refine WL.step rfl (OP.callRO rfl rfl hto (fun _ _ => trivial) rfl rfl ?_)
      cases hx : plcOf b l.length with
      | none =>
        rw [hx] at hs
        have hop : openV D n = .error ([(volTx, (n : Int))], 4) := by rw [hdef, ← hs]
        repeat (first | refine GD ?_ | refine NW fun _ => ?_)
        refine ret2 rfl rfl ⟨[], ?_, II⟩
        unfold ROpenVP
        rw [hop]
        exact ⟨rfl, rfl⟩
      | some x =>
        rw [hx] at hs
        have hset : (l ++ List.replicate (k + 1) plc0).set l.length x = (l ++ [x]) ++ List.replicate k plc0 := by
          rw [List.set_append_right _ _ (Nat.le_refl _), Nat.sub_self, List.append_assoc]
          rfl
        have hb8 : l.length < (l ++ List.replicate (k + 1) plc0).length := by rw [hl8 hk]; exact hlt
        have hs1 := rvolD_setN (p := p) (j := j) (ring := n) (l2 := l ++ List.replicate (k + 1) plc0) x hb8
        have hs2 := rvolD_setD (p := p) (j := j) (ring := n) (l1 := (l ++ [x]) ++ List.replicate k plc0) (by rw [← hset, List.length_set]; exact hl8 hk) x hb8
        rw [hset] at hs1 hs2
        have hln : (l ++ [x]).length = l.length + 1 := by simp
        repeat refine GS ?_
        refine WL.step rfl (OP.store (vs := [numC x]) (M := [blk v (rvolD p j n ((l ++ [x]) ++ List.replicate k plc0) (l ++ List.replicate (k + 1) plc0)) 84, rjrn j p J, rdsk p D2, F]) rfl rfl rfl rfl rfl rfl rfl (UpdM.here (by rw [Nat.zero_add]; exact hs1)) rfl ?_)
        repeat refine GS ?_
        refine WL.step rfl (OP.store (vs := [datC x]) (M := [blk v (rvolD p j n ((l ++ [x]) ++ List.replicate k plc0) ((l ++ [x]) ++ List.replicate k plc0)) 84, rjrn j p J, rdsk p D2, F]) rfl rfl rfl rfl rfl rfl rfl (UpdM.here (by rw [Nat.zero_add]; exact hs2)) rfl ?_)
        repeat (first | refine GD ?_ | refine NW fun _ => ?_)
        exact ⟨(k, l ++ [x]), ⟨by dsimp only; omega, hs⟩, Nat.lt_succ_self k, ⟨rfl, rfl, rfl, by dsimp only; rw [hln]; rfl, trivial⟩, II⟩
end Go.Proofs.YtanjfjiaheghcaaGreatDoor
/- Contracts of functions of the given program, and plain laws on what they compute: parts of the proofs of laws. -/

namespace Go.Proofs.YtanjfjiaheghcaaGreatDoor
open Go Go.GL

theorem uptoV_first {h : List Held} {n first : Int} (hseq : ∀ i (hi : i < h.length), (h[i]).2.1 = first + i) {k : Nat} (hk : k ≤ h.length) (h1 : ∀ i (hi : i < h.length), i < k → (h[i]).2.1 ≤ n) (h2 : ∀ (hi : k < h.length), n < (h[k]).2.1) : uptoV h n = k := by
  unfold uptoV
  rw [← List.take_append_drop k h, List.filter_append, List.length_append]
  have e1 : (h.take k).filter (fun x => decide (x.2.1 ≤ n)) = h.take k := by
    rw [List.filter_eq_self]
    intro x hx
    obtain ⟨i, hi, rfl⟩ := List.getElem_of_mem hx
    rw [List.length_take] at hi
    rw [List.getElem_take]
    exact decide_eq_true (h1 i (by omega) (by omega))
  have e2 : (h.drop k).filter (fun x => decide (x.2.1 ≤ n)) = [] := by
    rw [List.filter_eq_nil_iff]
    intro x hx
    obtain ⟨i, hi, rfl⟩ := List.getElem_of_mem hx
    rw [List.length_drop] at hi
    rw [List.getElem_drop]
    have := h2 (by omega)
    have a := hseq (k + i) (by omega)
    have b := hseq k (by omega)
    intro hd
    have := of_decide_eq_true hd
    omega
  rw [e1, e2, List.length_take, List.length_nil]
  omega
theorem rvolD_allN {p j ring : Nat} {l1 l2 : List Plc} (h1 : l1.length = 8) (l : List Plc) (h : l.length = 8) : setMany (rvolD p j ring l1 l2) 3 (l.map numC) = some (rvolD p j ring l l2) :=
  setMany_mid (l.map numC) [Value.pointer (some ⟨p, 0, none⟩), .pointer (some ⟨j, 0, none⟩), .int .i64 ring] (l1.map numC) (l2.map datC) (by rw [List.length_map, List.length_map, h1, h])
theorem rvolD_allD {p j ring : Nat} {l1 l2 : List Plc} (h1 : l1.length = 8) (h2 : l2.length = 8) (l : List Plc) (h : l.length = 8) : setMany (rvolD p j ring l1 l2) 11 (l.map datC) = some (rvolD p j ring l1 l) := by
  have hl : ([Value.pointer (some ⟨p, 0, none⟩), .pointer (some ⟨j, 0, none⟩), .int .i64 ring] ++ l1.map numC).length = 11 := by
    rw [List.length_append, List.length_map, h1]; rfl
  have e := setMany_mid (l.map datC) ([Value.pointer (some ⟨p, 0, none⟩), .pointer (some ⟨j, 0, none⟩), .int .i64 ring] ++ l1.map numC) (l2.map datC) [] (by rw [List.length_map, List.length_map, h2, h])
  rw [hl, List.append_nil, List.append_nil] at e
  exact e
def RCkVP (v p : Nat) (V : Vol) (D : Dsk) (upto : Int) (x : Value) (M : List Assn) : Prop := match ckV V D upto with
  | .ok (V', D') => x = .int .i64 0 ∧ M = [rvol v p V', rdsk p D']
  | .error (_, c) => x = .int .i64 c ∧ M = [rvol v p V, rdsk p D]
set_option maxHeartbeats 8000000 in
set_option maxRecDepth 10000 in
theorem rvcheck_ok (v p : Nat) (V : Vol) (D : Dsk) (upto : Int) (hV : V.rng) (hB : V.blks = takeAll V.laid V.J.held) (hr : ∀ x ∈ V.J.held, x.2.2.1 = 1 → 0 ≤ x.2.2.2.1 ∧ x.2.2.2.1 < 8) (hseq : ∀ i (hi : i < V.J.held.length), (V.J.held[i]).2.1 = V.J.hd.first + i)
    (hD : D.ok) (hl : 10 + V.J.ring ≤ D.S.length) (hw : D.W.length < 9000) :
    Triple G 81 [.pointer (some ⟨v, 0, none⟩), .int .i64 upto] [rvol v p V, rdsk p D] (RCkVP v p V D upto) := by
  refine Triple.enter Tryz.func81 rfl (by decide) rfl Tryz.ntmps81 rfl (fun F => ?_)
  have hdef : ckV V D upto = if upto < 0 ∨ V.J.next ≤ upto then .error ([(volTx, upto)], 5)
    else match trimM V.J (layV V D) (uptoV V.J.held upto) with
      | .ok (J', D') => .ok (⟨J', V.blks, V.blks⟩, D')
      | .error c => .error ([(jrnTx, (uptoV V.J.held upto : Nat))], c) := rfl
  unfold RCkVP
  rw [hdef]
  have hJ := hV.J
  have hJlen : V.J.held.length ≤ 512 := by have h1 := hV.J.2; have h2 := hV.J.1; omega
  by_cases h1 : upto < 0
  · rw [if_pos (.inl h1)]
    repeat (first | refine GD ?_ | refine NW fun _ => ?_)
    exact ret1 rfl ⟨_, ⟨rfl, rfl⟩, Imp.refl _⟩
  refine WC.imp (rvolOut v p V) ?_
  refine WC.open P1 (fun j => WC.imp (M := [blk v (rvolC p j V.J.ring V.laid) 84, rjrn j p V.J, rdsk p D, F]) (Imp.refl _) ?_)
  repeat (first | refine GD ?_ | refine NW fun _ => ?_)
  refine WL.guardT rfl rfl rfl rfl (OP.callRO rfl rfl (rnext_ro j p V.J hJ) (Ent.at (up_rjrn j p V.J) MM) rfl rfl ?_)
  by_cases h2 : V.J.next ≤ upto
  · rw [if_pos (.inr h2)]
    repeat (first | refine GD ?_ | refine NW fun _ => ?_)
    exact ret1 rfl ⟨_, ⟨rfl, rfl⟩, Imp.trans II (rvolFold v p V j)⟩
  rw [if_neg (fun h => h.elim h1 h2)]
  obtain ⟨J', D', htr, hrg⟩ := trimM_ok (D := layV V D) (uptoV_le V.J.held upto)
  rw [htr]
  have hfl : D.flush.ok := Dsk.settle_ok hD _
  have hfs : D.flush.S.length = D.S.length := Dsk.settle_len D _
  have hfw : D.flush.W.length = 0 := rfl
  repeat (first | refine GD ?_ | refine NW fun _ => ?_)
  refine WL.step rfl (OP.call (pre := [rdsk p D]) rfl rfl (rdflush_ok p D hD (by omega)) PS rfl rfl ?_)
  rintro _ _ ⟨rfl, rfl⟩
  repeat (first | refine GD ?_ | refine NW fun _ => ?_)
  rename_i x5 x6
  have hEv : ∀ {L}, Imp L [blk v (rvolC p j V.J.ring V.laid) 84, rjrn j p V.J] → Ent L (rvol v p V) := fun i h s => Ent.at (up_rvol v p V) (List.Mem.head _) h ((i.trans (rvolFold v p V j (N := []))) h s)
  have hLk : ∀ k, k ≤ 8 → (V.blks.take k ++ List.replicate (8 - k) plc0).length = 8 := fun k hk => by simp; rw [hV.b8]; omega
  refine WC.loop (σ := Nat) (fun k => k ≤ 8)
    (fun k => [(0, .val (.pointer (some ⟨v, 0, none⟩))), (1, .val (.int .i64 upto)), (5, .val (.pointer (some ⟨x5, 0, none⟩))), (6, .val (.pointer (some ⟨x6, 0, none⟩))), (7, .val (.int .i64 k))])
    (fun k => [blk x5 ((V.blks.take k ++ List.replicate (8 - k) plc0).map numC) 81, blk x6 ((V.blks.take k ++ List.replicate (8 - k) plc0).map datC) 82, blk v (rvolC p j V.J.ring V.laid) 84, rjrn j p V.J, rdsk p (layF V.J.ring V.laid V.blks k D.flush), F]) (fun k => 8 - k) 0 (Nat.zero_le _) ⟨rfl, rfl, rfl, rfl, rfl, trivial⟩ II ?_
  rintro k hk
  have hko := layF_ok V.J.ring V.laid V.blks hV.b8 hV.s hfl (by omega) k hk
  have hkl := layF_len V.J.ring V.laid V.blks k D.flush
  have hkw := layF_w V.J.ring V.laid V.blks k D.flush
  by_cases hlt : k < 8
  rotate_left
  · have he : k = 8 := by omega
    subst he
    have hlay8 : layV V D = (layF V.J.ring V.laid V.blks 8 D.flush).flush := rfl
    rw [hlay8] at htr
    generalize layF V.J.ring V.laid V.blks 8 D.flush = D8 at *
    have hf8 : D8.flush.ok := Dsk.settle_ok hko _
    have hs8 : D8.flush.S.length = D8.S.length := Dsk.settle_len D8 _
    have hw8 : D8.flush.W.length = 0 := rfl
    have e8 : V.blks.take 8 ++ List.replicate (8 - 8) plc0 = V.blks := by rw [Nat.sub_self, List.take_of_length_le (by rw [hV.b8]; exact Nat.le_refl _)]; exact List.append_nil _
    rw [e8]
    have h1n : ∀ l : List Plc, allOne (l.map numC) = true := fun l => by
      induction l with
      | nil => rfl
      | cons x r ih => rw [List.map_cons]; simpa [numC, allOne, one] using ih
    have h1d : ∀ l : List Plc, allOne (l.map datC) = true := fun l => by
      induction l with
      | nil => rfl
      | cons x r ih => rw [List.map_cons]; simpa [datC, allOne, one] using ih
    have hcn : (V.blks.map numC).length = 8 := by rw [List.length_map]; exact hV.b8
    have hcd : (V.blks.map datC).length = 8 := by rw [List.length_map]; exact hV.b8
    have hrC : rvolC p j V.J.ring V.laid = rvolD p j V.J.ring V.laid V.laid := rfl
    rw [hrC]
    have hsN := rvolD_allN (p := p) (j := j) (ring := V.J.ring) (l2 := V.laid) hV.l8 V.blks hV.b8
    have hsD := rvolD_allD (p := p) (j := j) (ring := V.J.ring) hV.b8 hV.l8 V.blks hV.b8
    repeat (first | refine GD ?_ | refine NW fun _ => ?_)
    refine RD 10 10 [blk x5 (V.blks.map numC) 81, blk x6 (V.blks.map datC) 82, rjrn j p V.J, rdsk p D8, F] ?_
    refine WP 0 ?_
    refine WP 1 ?_
    refine VL 2 (.agg (V.blks.map numC).toArray) rfl rfl rfl rfl (.inr ⟨rfl, V.blks.map numC, rfl, hcn, Ent.whole MM⟩) ?_
    refine VL 3 (.agg (V.blks.map datC).toArray) rfl rfl rfl rfl (.inr ⟨rfl, V.blks.map datC, rfl, hcd, Ent.whole MM⟩) ?_
    refine WP 4 ?_
    refine WP 5 ?_
    refine WH.only 6 rfl rfl (by kernel_rfl) rfl (OP.store (vs := V.blks.map numC) (M := [blk x5 (V.blks.map numC) 81, blk x6 (V.blks.map datC) 82, blk v (rvolD p j V.J.ring V.blks V.laid) 84, rjrn j p V.J, rdsk p D8, F]) rfl rfl rfl rfl rfl (h1n _) hcn (UpdM.there (UpdM.there (UpdM.here (by rw [Nat.zero_add]; exact hsN)))) rfl ⟨fun _ => II, ?_⟩)
    refine WP 7 ?_
    refine WP 8 ?_
    refine WH.only 9 rfl rfl (by kernel_rfl) rfl (OP.store (vs := V.blks.map datC) (M := [blk x5 (V.blks.map numC) 81, blk x6 (V.blks.map datC) 82, blk v (rvolD p j V.J.ring V.blks V.blks) 84, rjrn j p V.J, rdsk p D8, F]) rfl rfl rfl rfl rfl (h1d _) hcd (UpdM.there (UpdM.there (UpdM.here (by rw [Nat.zero_add]; exact hsD)))) rfl ⟨fun _ => II, ?_⟩)
    refine DN ?_
    repeat (first | refine GD ?_ | refine NW fun _ => ?_)
    refine WL.step rfl (OP.call (pre := [rdsk p D8]) rfl rfl (rdflush_ok p D8 hko (by omega)) PS rfl rfl ?_)
    rintro _ _ ⟨rfl, rfl⟩
    repeat (first | refine GD ?_ | refine NW fun _ => ?_)
    refine WC.open (M := [blk v (rvolD p j V.J.ring V.blks V.blks) 84, rdsk p D8.flush, F]) (Ls := rjrnL j p V.J) II (fun x => ?_)
    unfold rjrnL
    dsimp only [List.cons_append, List.nil_append]
    refine WC.loop (σ := Nat) (fun k => k ≤ V.J.held.length ∧ ∀ i (hi : i < V.J.held.length), i < k → (V.J.held[i]).2.1 ≤ upto)
      (fun k => [(0, .val (.pointer (some ⟨v, 0, none⟩))), (1, .val (.int .i64 upto)), (10, .val (.int .i64 k))])
      (fun _ => [blk j [.pointer (some ⟨p, 0, none⟩), .int .i64 V.J.ring, .int .i64 V.J.hd.turn, .int .i64 V.J.hd.first, .int .i64 V.J.hd.gen, .int .i64 V.J.hd.low, .slice x.1 V.J.held.length x.2.1, .slice x.2.2.1 V.J.held.length x.2.2.2] 143, ownS x.1 V.J.held.length x.2.1 140 5 (V.J.held.flatMap (fun x => encR x.2)), ownS x.2.2.1 V.J.held.length x.2.2.2 3 1 (V.J.held.map genC),
        blk v (rvolD p j V.J.ring V.blks V.blks) 84, rdsk p D8.flush, F]) (fun k => V.J.held.length - k) 0 ⟨Nat.zero_le _, fun i hi h => absurd h (Nat.not_lt_zero i)⟩ ⟨rfl, rfl, rfl, trivial⟩ (Imp.refl _) ?_
    rintro k ⟨hk1, hall⟩
    by_cases hkl2 : k < V.J.held.length
    rotate_left
    · have hn2 : ∀ (hi : k < V.J.held.length), upto < (V.J.held[k]).2.1 := fun hi => absurd hi hkl2
      repeat (first | refine GD ?_ | refine NW fun _ => ?_)
      have hup := uptoV_first hseq hk1 hall hn2
      rw [hup] at htr
      have htj := rtrim_ok j p V.J D8.flush k hV.J hf8 (by omega) (by omega)
      unfold RTrimJ at htj
      rw [htr] at htj
      refine WL.imp (M := [rjrn j p V.J, blk v (rvolD p j V.J.ring V.blks V.blks) 84, rdsk p D8.flush, F]) (rjrnFold j p V.J x) ?_
      refine WL.step rfl (OP.call (pre := [rjrn j p V.J, rdsk p D8.flush]) rfl rfl htj PS rfl rfl ?_)
      rintro _ _ ⟨rfl, rfl⟩
      repeat (first | refine GD ?_ | refine NW fun _ => ?_)
      refine ret1 rfl ⟨[rvol v p ⟨J', V.blks, V.blks⟩, rdsk p D'], ⟨rfl, rfl⟩, ?_⟩
      refine Imp.trans ?_ (rvolFold v p ⟨J', V.blks, V.blks⟩ j)
      dsimp only
      rw [hrg]
      exact II
    refine WC.fact (Ent.some (Ent.own (a := x.1) (n := V.J.held.length) (cap := x.2.1) (T := 140) (size := 5) (cs := V.J.held.flatMap (fun x => encR x.2)) MM) (by omega)) ?_
    rintro ⟨b, off, hx⟩
    rw [hx]
    have hcl : ∀ {L}, ownS (some ⟨b, off, none⟩) V.J.held.length x.2.1 140 5 (V.J.held.flatMap (fun x => encR x.2)) ∈ L → Ent L (cellAt b (off + k * 5 + 0) (.int .i64 (V.J.held[k]).2.1)) := fun m => Ent.elF (f := fun x : Held => encR x.2) (fun _ => rfl) (j := 0) (Ent.own (T := 140) m) hkl2 rfl rfl
    repeat (first | refine GD ?_ | refine NW fun _ => ?_)
    refine WL.guardT rfl rfl rfl rfl (OP.load1 (v := .int .i64 (V.J.held[k]).2.1) rfl rfl rfl rfl (hcl MM) rfl rfl ?_)
    by_cases hc : (V.J.held[k]).2.1 ≤ upto
    rotate_left
    · have hn2 : ∀ (hi : k < V.J.held.length), upto < (V.J.held[k]).2.1 := fun hi => by omega
      repeat (first | refine GD ?_ | refine NW fun _ => ?_)
      rw [← hx]
      repeat (first | refine GD ?_ | refine NW fun _ => ?_)
      have hup := uptoV_first hseq hk1 hall hn2
      rw [hup] at htr
      have htj := rtrim_ok j p V.J D8.flush k hV.J hf8 (by omega) (by omega)
      unfold RTrimJ at htj
      rw [htr] at htj
      refine WL.imp (M := [rjrn j p V.J, blk v (rvolD p j V.J.ring V.blks V.blks) 84, rdsk p D8.flush, F]) (rjrnFold j p V.J x) ?_
      refine WL.step rfl (OP.call (pre := [rjrn j p V.J, rdsk p D8.flush]) rfl rfl htj PS rfl rfl ?_)
      rintro _ _ ⟨rfl, rfl⟩
      repeat (first | refine GD ?_ | refine NW fun _ => ?_)
      refine ret1 rfl ⟨[rvol v p ⟨J', V.blks, V.blks⟩, rdsk p D'], ⟨rfl, rfl⟩, ?_⟩
      refine Imp.trans ?_ (rvolFold v p ⟨J', V.blks, V.blks⟩ j)
      dsimp only
      rw [hrg]
      exact II
    repeat (first | refine GD ?_ | refine NW fun _ => ?_)
    exact ⟨k + 1, ⟨by omega, fun i hi hik => by
      by_cases e : i = k
      · subst e; exact hc
      · exact hall i hi (by omega)⟩, by omega, ⟨rfl, rfl, rfl, trivial⟩, II⟩
  have hlb : k < V.blks.length := by rw [hV.b8]; exact hlt
  have hll : k < V.laid.length := by rw [hV.l8]; exact hlt
  have hst : layF V.J.ring V.laid V.blks (k + 1) D.flush = if (V.laid[k]).1 < (V.blks[k]).1 then (layF V.J.ring V.laid V.blks k D.flush).put (2 + V.J.ring + k) (plcS V.blks[k] k) else layF V.J.ring V.laid V.blks k D.flush := by
    rw [layF, List.getD_eq_getElem?_getD, List.getD_eq_getElem?_getD, List.getElem?_eq_getElem hlb, List.getElem?_eq_getElem hll, Option.getD_some, Option.getD_some]
  have hn := rvolC_num (p := p) (j := j) (ring := V.J.ring) hll
  have hsz := hV.s _ (List.getElem_mem hlb)
  have hLs : (V.blks.take k ++ List.replicate (8 - k) plc0).set k V.blks[k] = V.blks.take (k + 1) ++ List.replicate (8 - (k + 1)) plc0 := by
    have e : (V.blks.take k).length = k := by rw [List.length_take]; omega
    rw [show 8 - k = (8 - (k + 1)) + 1 by omega, List.replicate_succ, List.set_append_right _ _ (by omega), e, Nat.sub_self, ← List.take_append_getElem hlb, List.append_assoc]
    rfl
  have hLl := hLk k hk
  have hm1 := map_set1 numC V.blks[k] (show k < (V.blks.take k ++ List.replicate (8 - k) plc0).length by omega)
  have hm2 := map_set1 datC V.blks[k] (show k < (V.blks.take k ++ List.replicate (8 - k) plc0).length by omega)
  rw [hLs] at hm1 hm2
  have hla := rlast_ro v p V k hlt hV.l8 hJlen hr
  rw [← hB, getD_lt hlb] at hla
  repeat (first | refine GD ?_ | refine NW fun _ => ?_)
  refine WL.step rfl (OP.callRO rfl rfl hla (hEv II) rfl rfl ?_)
  repeat refine GS ?_
  refine WL.step rfl (OP.store (vs := [numC V.blks[k]]) (M := [blk x5 ((V.blks.take (k + 1) ++ List.replicate (8 - (k + 1)) plc0).map numC) 81, blk x6 ((V.blks.take k ++ List.replicate (8 - k) plc0).map datC) 82, blk v (rvolC p j V.J.ring V.laid) 84, rjrn j p V.J, rdsk p (layF V.J.ring V.laid V.blks k D.flush), F]) rfl rfl rfl rfl rfl rfl rfl (UpdM.here (by rw [Nat.zero_add]; exact hm1)) rfl ?_)
  repeat refine GS ?_
  refine WL.step rfl (OP.store (vs := [datC V.blks[k]]) (M := [blk x5 ((V.blks.take (k + 1) ++ List.replicate (8 - (k + 1)) plc0).map numC) 81, blk x6 ((V.blks.take (k + 1) ++ List.replicate (8 - (k + 1)) plc0).map datC) 82, blk v (rvolC p j V.J.ring V.laid) 84, rjrn j p V.J, rdsk p (layF V.J.ring V.laid V.blks k D.flush), F]) rfl rfl rfl rfl rfl rfl rfl (UpdM.there (UpdM.here (by rw [Nat.zero_add]; exact hm2))) rfl ?_)
  repeat (first | refine GD ?_ | refine NW fun _ => ?_)
  refine WL.step rfl (OP.load1 (v := .int .i64 (V.laid[k]).1) rfl rfl rfl rfl (Ent.blk (T := 84) (c := rvolC p j V.J.ring V.laid) MM (by rw [Nat.zero_add]; exact hn)) rfl rfl ?_)
  by_cases hc : (V.laid[k]).1 < (V.blks[k]).1
  rotate_left
  · rw [if_neg hc] at hst
    repeat (first | refine GD ?_ | refine NW fun _ => ?_)
    exact ⟨k + 1, by omega, by omega, ⟨rfl, rfl, rfl, rfl, rfl, trivial⟩, by rw [hst]; exact II⟩
  rw [if_pos hc] at hst
  generalize layF V.J.ring V.laid V.blks k D.flush = Dk at *
  have hwr := rdwrite_ok p Dk (2 + V.J.ring + k : Nat) (plcS V.blks[k] k) (by omega)
  have hwd : ((2 + V.J.ring + k : Nat) : Int) = 2 + (V.J.ring : Int) + k := by omega
  rw [hwd] at hwr
  have hps := rplace_ro V.blks[k] k hsz
  have hS64 := plcS_len (block := k) hsz
  generalize plcS V.blks[k] k = S at *
  have hrg5 : V.J.ring ≤ 512 := by have := hV.J.1; omega
  repeat (first | refine GD ?_ | refine NW fun _ => ?_)
  refine RD 15 16 (_) ?_
  refine WP 0 ?_
  refine WP 1 ?_
  refine WP 2 ?_
  refine VV 3 ?_
  refine WP 4 ?_
  refine WP 5 ?_
  refine WP 6 ?_
  refine VV 7 ?_
  refine WP 8 ?_
  refine WP 9 ?_
  refine WP 10 ?_
  refine WP 11 ?_
  refine WP 12 ?_
  refine WP 13 ?_
  refine WH.only 14 rfl rfl (by kernel_rfl) rfl (OP.callRO rfl rfl (hps) (fun _ _ => trivial) rfl rfl ⟨fun _ => II, ?_⟩)
  refine WH.only 15 rfl rfl (by kernel_rfl) rfl (OP.call (pre := [rdsk p Dk]) rfl rfl hwr PS rfl rfl (fun x M hM => ?_))
  unfold RWrPost at hM
  rw [if_pos ⟨by omega, hS64⟩, ← hwd, Int.toNat_natCast] at hM
  obtain ⟨rfl, rfl⟩ := hM
  refine ⟨(fun h => nomatch h), ?_⟩
  refine DN ?_
  repeat (first | refine GD ?_ | refine NW fun _ => ?_)
  exact ⟨k + 1, by omega, by omega, ⟨rfl, rfl, rfl, rfl, rfl, trivial⟩, by rw [hst]; exact II⟩
end Go.Proofs.YtanjfjiaheghcaaGreatDoor
