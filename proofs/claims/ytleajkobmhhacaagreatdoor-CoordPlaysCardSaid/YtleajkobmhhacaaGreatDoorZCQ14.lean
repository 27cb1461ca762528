/- Contracts of functions of the given program, and plain laws: parts of the proofs of laws. -/
import Derived.Test.YtleajkobmhhacaaGreatDoorZCQ4
import Derived.Test.YtleajkobmhhacaaGreatDoorZCQ13
import Derived.Test.YtleajkobmhhacaaGreatDoorZCQ11
import Derived.Test.YtleajkobmhhacaaGreatDoorZCQ12
/- Contracts of functions of the given program, and plain laws on what they compute: parts of the proofs of laws. -/

namespace Go.Proofs.YtleajkobmhhacaaGreatDoor
open Go Go.GL

theorem headOf_slot {b : List UInt8} {slot : Int} {h : Hd} (e : headOf b slot = some h) : h.turn % 2 = slot := by
  unfold headOf at e
  split at e
  · rename_i hc
    simp only [Option.some.injEq] at e
    subst e
    exact hc.2.2.2.2.1
  · cases e
/-- what the document's Open knows of the heads -/
theorem heads_cases (a b : List UInt8) : ∃ T0 F0 G0 L0 T1 F1 G1 L1 : Int, QHeadV a 0 = .tuple #[.int .i64 T0, .int .i64 F0, .int .i64 G0, .int .i64 L0] ∧ QHeadV b 1 = .tuple #[.int .i64 T1, .int .i64 F1, .int .i64 G1, .int .i64 L1] ∧
    (T1 < T0 → newestM a b = some ⟨T0, F0, G0, L0⟩) ∧ (T0 < T1 → newestM a b = some ⟨T1, F1, G1, L1⟩) ∧ (T0 = T1 → T0 = -1 ∧ newestM a b = if a = zero64 ∧ b = zero64 then some hd0 else none) ∧ -1 ≤ T0 ∧ -1 ≤ T1 := by
  unfold QHeadV newestM
  cases ha : headOf a 0 with
  | none =>
    cases hb : headOf b 1 with
    | none => exact ⟨_, _, _, _, _, _, _, _, rfl, rfl, fun h => by omega, fun h => by omega, fun _ => ⟨rfl, rfl⟩, by decide, by decide⟩
    | some y =>
      have := headOf_wide hb
      exact ⟨_, _, _, _, _, _, _, _, rfl, rfl, fun h => by omega, fun _ => rfl, fun h => by omega, by decide, by omega⟩
  | some x =>
    have hx := headOf_wide ha
    have sx := headOf_slot ha
    cases hb : headOf b 1 with
    | none => exact ⟨_, _, _, _, _, _, _, _, rfl, rfl, fun _ => rfl, fun h => by omega, fun h => by omega, by omega, by decide⟩
    | some y =>
      have hy := headOf_wide hb
      have sy := headOf_slot hb
      refine ⟨_, _, _, _, _, _, _, _, rfl, rfl, fun h => ?_, fun h => ?_, fun h => by omega, by omega, by omega⟩
      · dsimp only; rw [if_neg (by omega)]
      · dsimp only; rw [if_pos h]
theorem zeros_two {a b : List UInt8} (ha : a.length = 64) : (ba a ++ ba b = ba (List.replicate 128 0)) ↔ (a = zero64 ∧ b = zero64) := by
  rw [ba_app]
  constructor
  · intro h
    have h2 := ba_inj h
    have h3 : a ++ b = zero64 ++ zero64 := h2.trans (by unfold zero64; rw [List.replicate_append_replicate])
    exact List.append_inj h3 (by rw [ha]; rfl)
  · rintro ⟨rfl, rfl⟩
    unfold zero64
    rw [List.replicate_append_replicate]
def ROpenJ (p : Nat) (D : Dsk) (ring : Int) (v : Value) (M : List Assn) : Prop := match openM D ring with
  | .ok (J, D') => ∃ j, v = .tuple #[.pointer (some ⟨j, 0, none⟩), .int .i64 0] ∧ M = [rjrn j p J, rdsk p D']
  | .error c => v = .tuple #[.pointer none, .int .i64 c] ∧ M = [rdsk p D]
theorem decR_err {l : List UInt8} {c : Int} (h : decR l = .error c) : c ≠ 0 := by
  unfold decR at h
  split at h
  · split at h <;> cases h; decide
  · cases h; decide
set_option maxHeartbeats 16000000 in
set_option maxRecDepth 10000 in
theorem ropen_ok (p : Nat) (D : Dsk) (ring : Int) (hD : D.ok) (hw : D.W.length < 10000) (hr64 : -9223372036854775808 ≤ ring ∧ ring ≤ 9223372036854775807) :
    Triple G 150 [.pointer (some ⟨p, 0, none⟩), .int .i64 ring] [rdsk p D] (ROpenJ p D ring) := by
  refine Triple.enter Tryz.func150 rfl (by decide) rfl Tryz.ntmps150 rfl (fun F => ?_)
  have hwd : widest = 1152921504606846975 := rfl
  have hfew := hD.few
  have hdef : openM D ring = if ring < 1 ∨ 512 < ring ∨ (D.S.length : Int) < 2 + ring then .error 1
    else match newestM (D.cur 0) (D.cur 1) with
    | none => .error 4
    | some h => .ok (⟨ring.toNat, { h with gen := h.gen + 1, turn := h.turn + 1 }, scanM D ring.toNat h⟩, saveM D { h with gen := h.gen + 1, turn := h.turn + 1 }) := rfl
  by_cases h1 : ring < 1
  · have hop : openM D ring = .error 1 := by rw [hdef, if_pos (.inl h1)]
    repeat (first | refine GD ?_ | refine NW fun _ => ?_)
    refine ret2 rfl rfl ⟨[rdsk p D], ?_, Imp.refl _⟩
    unfold ROpenJ
    rw [hop]
    exact ⟨rfl, rfl⟩
  by_cases h2 : 512 < ring
  · have hop : openM D ring = .error 1 := by rw [hdef, if_pos (.inr (.inl h2))]
    repeat (first | refine GD ?_ | refine NW fun _ => ?_)
    refine ret2 rfl rfl ⟨[rdsk p D], ?_, Imp.refl _⟩
    unfold ROpenJ
    rw [hop]
    exact ⟨rfl, rfl⟩
  refine WC.open P1 (fun x => ?_)
  unfold rdskL
  dsimp only [List.cons_append, List.nil_append]
  by_cases h3 : (D.S.length : Int) < 2 + ring
  · have hop : openM D ring = .error 1 := by rw [hdef, if_pos (.inr (.inr h3))]
    repeat (first | refine GD ?_ | refine NW fun _ => ?_)
    refine ret2 rfl rfl ⟨[rdsk p D], ?_, Imp.trans II (rdskFold p D x)⟩
    unfold ROpenJ
    rw [hop]
    exact ⟨rfl, rfl⟩
  rw [if_neg (by omega)] at hdef
  obtain ⟨n, rfl⟩ : ∃ n : Nat, ring = n := ⟨ring.toNat, by omega⟩
  rw [Int.toNat_natCast] at hdef
  have hr0 : RRdV D 0 = .tuple #[.string (ba (D.cur 0)), .int .i64 0] := by unfold RRdV; rw [if_pos (by omega)]; rfl
  have hr1 : RRdV D 1 = .tuple #[.string (ba (D.cur 1)), .int .i64 0] := by unfold RRdV; rw [if_pos (by omega)]; rfl
  have hrd0 := rdread_ro p D 0 (by omega)
  have hrd1 := rdread_ro p D 1 (by omega)
  rw [hr0] at hrd0
  rw [hr1] at hrd1
  have ha64 := Dsk.cur_64 hD (show 0 < D.S.length by omega)
  have hb64 := Dsk.cur_64 hD (show 1 < D.S.length by omega)
  have hwide := fun h => @newestM_wide (D.cur 0) (D.cur 1) h
  generalize D.cur 0 = a at *
  generalize D.cur 1 = b at *
  have hq0 := qhead_ro a 0 (by omega)
  have hq1 := qhead_ro b 1 (by omega)
  obtain ⟨T0, F0, G0, L0, T1, F1, G1, L1, e0, e1, c10, c01, ceq, m0, m1⟩ := heads_cases a b
  rw [e0] at hq0
  rw [e1] at hq1
  have hz := zeros_two (b := b) ha64
  have za := ba_size a
  have zb := ba_size b
  repeat (first | refine GD ?_ | refine NW fun _ => ?_)
  refine WL.imp (Imp.trans II (rdskFold p D x (N := [F]))) ?_
  refine WL.step rfl (OP.callRO rfl rfl hrd0 (Ent.at (up_rdsk _ _) MM) rfl rfl ?_)
  repeat (first | refine GD ?_ | refine NW fun _ => ?_)
  refine WL.step rfl (OP.callRO rfl rfl hrd1 (Ent.at (up_rdsk _ _) MM) rfl rfl ?_)
  repeat (first | refine GD ?_ | refine NW fun _ => ?_)
  rename_i j
  refine WL.step rfl (OP.callRO rfl rfl hq0 (fun _ _ => trivial) rfl rfl ?_)
  repeat (first | refine GD ?_ | refine NW fun _ => ?_)
  refine WL.step rfl (OP.callRO rfl rfl hq1 (fun _ _ => trivial) rfl rfl ?_)
  by_cases hT10 : T1 < T0
  · repeat (first | refine GD ?_ | refine NW fun _ => ?_)
    obtain ⟨⟨w1, w2⟩, ⟨w3, w4⟩, ⟨w5, w6⟩⟩ := hwide _ (c10 hT10)
    dsimp only at w1 w2 w3 w4 w5 w6
    rw [(c10 hT10)] at hdef
    dsimp only at hdef
    have hsl := scanM_len D n ⟨T0, F0, G0, L0⟩
    refine WC.loop (σ := Nat × List Held × Int) (fun s => s.2.1.length + s.1 = n ∧ scanF D n ⟨T0, F0, G0, L0⟩ s.1 s.2.1 s.2.2 = scanM D n ⟨T0, F0, G0, L0⟩)
      (fun s => [(0, .val (.pointer (some ⟨p, 0, none⟩))), (1, .val (.int .i64 n)), (10, .val (.pointer (some ⟨j, 0, none⟩))), (19, .val (.int .i64 s.2.2))])
      (fun s => [rjrn j p ⟨n, ⟨T0, F0, G0, L0⟩, s.2.1⟩, rdsk p D, F]) (fun s => s.1) (n, [], L0) ⟨by simp, rfl⟩ ⟨rfl, rfl, rfl, rfl, trivial⟩ ?_ ?_
    · exact (Imp.nilS 116 5).trans ((Imp.nilS 3 1).trans (Imp.trans II (rjrnFold j p ⟨n, ⟨T0, F0, G0, L0⟩, []⟩ (none, 0, none, 0))))
    rintro ⟨k, l, low⟩ ⟨hk, hs⟩
    dsimp only at hk hs ⊢
    have hll : l.length ≤ n := by omega
    refine WC.open P1 (fun y => ?_)
    unfold rjrnL
    dsimp only [List.cons_append, List.nil_append]
    cases k with
    | zero =>
      have hout : scanM D n ⟨T0, F0, G0, L0⟩ = l := hs.symm
      have hkl : n = l.length := by omega
      repeat (first | refine GD ?_ | refine NW fun _ => ?_)
      refine WL.imp (M := [rjrn j p ⟨n, ⟨T0, F0, G0 + 1, L0⟩, l⟩, rdsk p D, F]) (Imp.trans II (rjrnFold j p ⟨n, ⟨T0, F0, G0 + 1, L0⟩, l⟩ y)) ?_
      refine WL.step rfl (OP.call (pre := [rjrn j p ⟨n, ⟨T0, F0, G0 + 1, L0⟩, l⟩, rdsk p D]) rfl rfl (rsave_ok j p ⟨n, ⟨T0, F0, G0 + 1, L0⟩, l⟩ D ⟨w1, by dsimp only; omega⟩ hD (by omega) hw) PS rfl rfl ?_)
      rintro _ _ ⟨rfl, rfl⟩
      repeat (first | refine GD ?_ | refine NW fun _ => ?_)
      refine ret2 rfl rfl ⟨_, ?_, Imp.refl _⟩
      unfold ROpenJ
      rw [hdef, hout]
      exact ⟨j, rfl, rfl⟩
    | succ k =>
      have hkl : l.length < n := by omega
      have hpb := pos_bd (show 1 ≤ n by omega) (F0 + l.length)
      have hmm := Int.emod_nonneg (F0 + l.length) (b := (n : Int)) (by omega)
      have hpe : 2 + (F0 + l.length) % n = ((posM n (F0 + l.length) : Nat) : Int) := by unfold posM; omega
      have hfit : scanF D n ⟨T0, F0, G0, L0⟩ (k + 1) l low = match fits (D.cur (posM n (F0 + l.length))) (F0 + l.length) low G0 with
        | some x => scanF D n ⟨T0, F0, G0, L0⟩ k (l ++ [x]) x.1
        | none => l := rfl
      rw [hfit] at hs
      have h64 := Dsk.cur_64 hD (show posM n (F0 + l.length) < D.S.length by omega)
      have hrd := rdread_ro p D (posM n (F0 + l.length)) (by omega)
      unfold RRdV at hrd
      rw [if_pos (by omega), Int.toNat_natCast] at hrd
      generalize D.cur (posM n (F0 + l.length)) = c at *
      have hdc := qdecode_ro c (by omega)
      unfold DecQ at hdc
      repeat (first | refine GD ?_ | refine NW fun _ => ?_)
      refine RD 11 11 (_) ?_
      refine WP 0 ?_
      refine WP 1 ?_
      refine WP 2 ?_
      refine VV 3 ?_
      refine WP 4 ?_
      refine WP 5 ?_
      refine WP 6 ?_
      refine VV 7 ?_
      refine WP 8 ?_
      refine WP 9 ?_
      refine WP 10 ?_
      refine DN ?_
      repeat (first | refine GD ?_ | refine NW fun _ => ?_)
      rw [hpe]
      refine WL.step rfl (OP.callRO rfl rfl hrd (Ent.at (up_rdsk _ _) MM) rfl rfl ?_)
      repeat (first | refine GD ?_ | refine NW fun _ => ?_)
      refine WL.step rfl (OP.callRO rfl rfl hdc (fun _ _ => trivial) rfl rfl ?_)
      cases hq : decR c with
      | error ec =>
        have hec := decR_err hq
        have hfn : fits c (F0 + l.length) low G0 = none := fits_none (fun x hx => by rw [hq] at hx; cases hx)
        rw [hfn] at hs
        have hout : scanM D n ⟨T0, F0, G0, L0⟩ = l := hs.symm
        repeat (first | refine GD ?_ | refine NW fun _ => ?_)
        refine WL.imp (M := [rjrn j p ⟨n, ⟨T0, F0, G0 + 1, L0⟩, l⟩, rdsk p D, F]) (Imp.trans II (rjrnFold j p ⟨n, ⟨T0, F0, G0 + 1, L0⟩, l⟩ y)) ?_
        refine WL.step rfl (OP.call (pre := [rjrn j p ⟨n, ⟨T0, F0, G0 + 1, L0⟩, l⟩, rdsk p D]) rfl rfl (rsave_ok j p ⟨n, ⟨T0, F0, G0 + 1, L0⟩, l⟩ D ⟨w1, by dsimp only; omega⟩ hD (by omega) hw) PS rfl rfl ?_)
        rintro _ _ ⟨rfl, rfl⟩
        repeat (first | refine GD ?_ | refine NW fun _ => ?_)
        refine ret2 rfl rfl ⟨_, ?_, Imp.refl _⟩
        unfold ROpenJ
        rw [hdef, hout]
        exact ⟨j, rfl, rfl⟩
      | ok yy =>
        obtain ⟨g, r⟩ := yy
        dsimp only
        by_cases h1 : r.1 = F0 + l.length
        rotate_left
        · have hfn : fits c (F0 + l.length) low G0 = none := by unfold fits; rw [hq]; dsimp only; rw [if_neg (fun h => h1 h.1)]
          rw [hfn] at hs
          have hout : scanM D n ⟨T0, F0, G0, L0⟩ = l := hs.symm
          repeat (first | refine GD ?_ | refine NW fun _ => ?_)
          refine WL.imp (M := [rjrn j p ⟨n, ⟨T0, F0, G0 + 1, L0⟩, l⟩, rdsk p D, F]) (Imp.trans II (rjrnFold j p ⟨n, ⟨T0, F0, G0 + 1, L0⟩, l⟩ y)) ?_
          refine WL.step rfl (OP.call (pre := [rjrn j p ⟨n, ⟨T0, F0, G0 + 1, L0⟩, l⟩, rdsk p D]) rfl rfl (rsave_ok j p ⟨n, ⟨T0, F0, G0 + 1, L0⟩, l⟩ D ⟨w1, by dsimp only; omega⟩ hD (by omega) hw) PS rfl rfl ?_)
          rintro _ _ ⟨rfl, rfl⟩
          repeat (first | refine GD ?_ | refine NW fun _ => ?_)
          refine ret2 rfl rfl ⟨_, ?_, Imp.refl _⟩
          unfold ROpenJ
          rw [hdef, hout]
          exact ⟨j, rfl, rfl⟩
        by_cases h2 : low ≤ g
        rotate_left
        · have hfn : fits c (F0 + l.length) low G0 = none := by unfold fits; rw [hq]; dsimp only; rw [if_neg (fun h => h2 h.2.1)]
          rw [hfn] at hs
          have hout : scanM D n ⟨T0, F0, G0, L0⟩ = l := hs.symm
          repeat (first | refine GD ?_ | refine NW fun _ => ?_)
          refine WL.imp (M := [rjrn j p ⟨n, ⟨T0, F0, G0 + 1, L0⟩, l⟩, rdsk p D, F]) (Imp.trans II (rjrnFold j p ⟨n, ⟨T0, F0, G0 + 1, L0⟩, l⟩ y)) ?_
          refine WL.step rfl (OP.call (pre := [rjrn j p ⟨n, ⟨T0, F0, G0 + 1, L0⟩, l⟩, rdsk p D]) rfl rfl (rsave_ok j p ⟨n, ⟨T0, F0, G0 + 1, L0⟩, l⟩ D ⟨w1, by dsimp only; omega⟩ hD (by omega) hw) PS rfl rfl ?_)
          rintro _ _ ⟨rfl, rfl⟩
          repeat (first | refine GD ?_ | refine NW fun _ => ?_)
          refine ret2 rfl rfl ⟨_, ?_, Imp.refl _⟩
          unfold ROpenJ
          rw [hdef, hout]
          exact ⟨j, rfl, rfl⟩
        by_cases h3 : g ≤ G0
        rotate_left
        · have hfn : fits c (F0 + l.length) low G0 = none := by unfold fits; rw [hq]; dsimp only; rw [if_neg (fun h => h3 h.2.2)]
          rw [hfn] at hs
          have hout : scanM D n ⟨T0, F0, G0, L0⟩ = l := hs.symm
          repeat (first | refine GD ?_ | refine NW fun _ => ?_)
          refine WL.imp (M := [rjrn j p ⟨n, ⟨T0, F0, G0 + 1, L0⟩, l⟩, rdsk p D, F]) (Imp.trans II (rjrnFold j p ⟨n, ⟨T0, F0, G0 + 1, L0⟩, l⟩ y)) ?_
          refine WL.step rfl (OP.call (pre := [rjrn j p ⟨n, ⟨T0, F0, G0 + 1, L0⟩, l⟩, rdsk p D]) rfl rfl (rsave_ok j p ⟨n, ⟨T0, F0, G0 + 1, L0⟩, l⟩ D ⟨w1, by dsimp only; omega⟩ hD (by omega) hw) PS rfl rfl ?_)
          rintro _ _ ⟨rfl, rfl⟩
          repeat (first | refine GD ?_ | refine NW fun _ => ?_)
          refine ret2 rfl rfl ⟨_, ?_, Imp.refl _⟩
          unfold ROpenJ
          rw [hdef, hout]
          exact ⟨j, rfl, rfl⟩
        have hfn : fits c (F0 + l.length) low G0 = some (g, r) := by unfold fits; rw [hq]; dsimp only; rw [if_pos ⟨h1, h2, h3⟩]
        rw [hfn] at hs
        dsimp only at hs
        repeat (first | refine GD ?_ | refine NW fun _ => ?_)
        refine RD 7 11 (_) ?_
        refine WP 0 ?_
        refine WP 1 ?_
        refine WP 2 ?_
        refine WP 3 ?_
        refine VV 4 ?_
        refine VL 5 (.agg (encR r).toArray) rfl rfl rfl rfl (.inr ⟨rfl, encR r, rfl, rfl, Ent.whole MM⟩) ?_
        refine WH.only 6 rfl rfl (by kernel_rfl) rfl (OP.sliceLit (c := encR r) rfl rfl rfl rfl rfl rfl rfl rfl (fun b2 => ⟨fun _ => II, ?_⟩))
        refine WH.only 7 rfl rfl (by kernel_rfl) rfl (OP.append rfl rfl rfl rfl rfl rfl rfl rfl rfl P1 (Ent.own MM) rfl (by omega) (by omega) rfl rfl (fun a' cap' => ⟨(fun h => nomatch h), ?_⟩))
        refine WP 8 ?_
        refine WP 9 ?_
        refine WH.only 10 rfl rfl (by kernel_rfl) rfl (OP.store rfl rfl rfl rfl rfl rfl rfl UP rfl ⟨(fun h => nomatch h), ?_⟩)
        refine DN ?_
        repeat (first | refine GD ?_ | refine NW fun _ => ?_)
        refine WL.step rfl (OP.append (ds := [.int .i64 g]) rfl rfl rfl rfl rfl rfl rfl rfl rfl P1 (Ent.own MM) rfl (by omega) (by omega) rfl rfl (fun a3 cap3 => ?_))
        repeat (first | refine GD ?_ | refine NW fun _ => ?_)
        refine ⟨(k, l ++ [(g, r)], g), ⟨by simp; omega, hs⟩, Nat.lt_succ_self k, ⟨rfl, rfl, rfl, rfl, trivial⟩, ?_⟩
        dsimp only
        refine Imp.trans ?_ (rjrnFold j p ⟨n, ⟨T0, F0, G0, L0⟩, l ++ [(g, r)]⟩ (a', cap', a3, cap3))
        dsimp only
        rw [List.length_append, List.flatMap_append, List.flatMap_cons, List.flatMap_nil, List.append_nil, List.map_append]
        exact II
  by_cases hT01 : T0 < T1
  · by_cases hn0 : T0 < 0
    all_goals
      repeat (first | refine GD ?_ | refine NW fun _ => ?_)
      obtain ⟨⟨w1, w2⟩, ⟨w3, w4⟩, ⟨w5, w6⟩⟩ := hwide _ (c01 hT01)
      dsimp only at w1 w2 w3 w4 w5 w6
      rw [(c01 hT01)] at hdef
      dsimp only at hdef
      have hsl := scanM_len D n ⟨T1, F1, G1, L1⟩
      refine WC.loop (σ := Nat × List Held × Int) (fun s => s.2.1.length + s.1 = n ∧ scanF D n ⟨T1, F1, G1, L1⟩ s.1 s.2.1 s.2.2 = scanM D n ⟨T1, F1, G1, L1⟩)
        (fun s => [(0, .val (.pointer (some ⟨p, 0, none⟩))), (1, .val (.int .i64 n)), (10, .val (.pointer (some ⟨j, 0, none⟩))), (19, .val (.int .i64 s.2.2))])
        (fun s => [rjrn j p ⟨n, ⟨T1, F1, G1, L1⟩, s.2.1⟩, rdsk p D, F]) (fun s => s.1) (n, [], L1) ⟨by simp, rfl⟩ ⟨rfl, rfl, rfl, rfl, trivial⟩ ?_ ?_
      · exact (Imp.nilS 116 5).trans ((Imp.nilS 3 1).trans (Imp.trans II (rjrnFold j p ⟨n, ⟨T1, F1, G1, L1⟩, []⟩ (none, 0, none, 0))))
      rintro ⟨k, l, low⟩ ⟨hk, hs⟩
      dsimp only at hk hs ⊢
      have hll : l.length ≤ n := by omega
      refine WC.open P1 (fun y => ?_)
      unfold rjrnL
      dsimp only [List.cons_append, List.nil_append]
      cases k with
      | zero =>
        have hout : scanM D n ⟨T1, F1, G1, L1⟩ = l := hs.symm
        have hkl : n = l.length := by omega
        repeat (first | refine GD ?_ | refine NW fun _ => ?_)
        refine WL.imp (M := [rjrn j p ⟨n, ⟨T1, F1, G1 + 1, L1⟩, l⟩, rdsk p D, F]) (Imp.trans II (rjrnFold j p ⟨n, ⟨T1, F1, G1 + 1, L1⟩, l⟩ y)) ?_
        refine WL.step rfl (OP.call (pre := [rjrn j p ⟨n, ⟨T1, F1, G1 + 1, L1⟩, l⟩, rdsk p D]) rfl rfl (rsave_ok j p ⟨n, ⟨T1, F1, G1 + 1, L1⟩, l⟩ D ⟨w1, by dsimp only; omega⟩ hD (by omega) hw) PS rfl rfl ?_)
        rintro _ _ ⟨rfl, rfl⟩
        repeat (first | refine GD ?_ | refine NW fun _ => ?_)
        refine ret2 rfl rfl ⟨_, ?_, Imp.refl _⟩
        unfold ROpenJ
        rw [hdef, hout]
        exact ⟨j, rfl, rfl⟩
      | succ k =>
        have hkl : l.length < n := by omega
        have hpb := pos_bd (show 1 ≤ n by omega) (F1 + l.length)
        have hmm := Int.emod_nonneg (F1 + l.length) (b := (n : Int)) (by omega)
        have hpe : 2 + (F1 + l.length) % n = ((posM n (F1 + l.length) : Nat) : Int) := by unfold posM; omega
        have hfit : scanF D n ⟨T1, F1, G1, L1⟩ (k + 1) l low = match fits (D.cur (posM n (F1 + l.length))) (F1 + l.length) low G1 with
          | some x => scanF D n ⟨T1, F1, G1, L1⟩ k (l ++ [x]) x.1
          | none => l := rfl
        rw [hfit] at hs
        have h64 := Dsk.cur_64 hD (show posM n (F1 + l.length) < D.S.length by omega)
        have hrd := rdread_ro p D (posM n (F1 + l.length)) (by omega)
        unfold RRdV at hrd
        rw [if_pos (by omega), Int.toNat_natCast] at hrd
        generalize D.cur (posM n (F1 + l.length)) = c at *
        have hdc := qdecode_ro c (by omega)
        unfold DecQ at hdc
        repeat (first | refine GD ?_ | refine NW fun _ => ?_)
        refine RD 11 11 (_) ?_
        refine WP 0 ?_
        refine WP 1 ?_
        refine WP 2 ?_
        refine VV 3 ?_
        refine WP 4 ?_
        refine WP 5 ?_
        refine WP 6 ?_
        refine VV 7 ?_
        refine WP 8 ?_
        refine WP 9 ?_
        refine WP 10 ?_
        refine DN ?_
        repeat (first | refine GD ?_ | refine NW fun _ => ?_)
        rw [hpe]
        refine WL.step rfl (OP.callRO rfl rfl hrd (Ent.at (up_rdsk _ _) MM) rfl rfl ?_)
        repeat (first | refine GD ?_ | refine NW fun _ => ?_)
        refine WL.step rfl (OP.callRO rfl rfl hdc (fun _ _ => trivial) rfl rfl ?_)
        cases hq : decR c with
        | error ec =>
          have hec := decR_err hq
          have hfn : fits c (F1 + l.length) low G1 = none := fits_none (fun x hx => by rw [hq] at hx; cases hx)
          rw [hfn] at hs
          have hout : scanM D n ⟨T1, F1, G1, L1⟩ = l := hs.symm
          repeat (first | refine GD ?_ | refine NW fun _ => ?_)
          refine WL.imp (M := [rjrn j p ⟨n, ⟨T1, F1, G1 + 1, L1⟩, l⟩, rdsk p D, F]) (Imp.trans II (rjrnFold j p ⟨n, ⟨T1, F1, G1 + 1, L1⟩, l⟩ y)) ?_
          refine WL.step rfl (OP.call (pre := [rjrn j p ⟨n, ⟨T1, F1, G1 + 1, L1⟩, l⟩, rdsk p D]) rfl rfl (rsave_ok j p ⟨n, ⟨T1, F1, G1 + 1, L1⟩, l⟩ D ⟨w1, by dsimp only; omega⟩ hD (by omega) hw) PS rfl rfl ?_)
          rintro _ _ ⟨rfl, rfl⟩
          repeat (first | refine GD ?_ | refine NW fun _ => ?_)
          refine ret2 rfl rfl ⟨_, ?_, Imp.refl _⟩
          unfold ROpenJ
          rw [hdef, hout]
          exact ⟨j, rfl, rfl⟩
        | ok yy =>
          obtain ⟨g, r⟩ := yy
          dsimp only
          by_cases h1 : r.1 = F1 + l.length
          rotate_left
          · have hfn : fits c (F1 + l.length) low G1 = none := by unfold fits; rw [hq]; dsimp only; rw [if_neg (fun h => h1 h.1)]
            rw [hfn] at hs
            have hout : scanM D n ⟨T1, F1, G1, L1⟩ = l := hs.symm
            repeat (first | refine GD ?_ | refine NW fun _ => ?_)
            refine WL.imp (M := [rjrn j p ⟨n, ⟨T1, F1, G1 + 1, L1⟩, l⟩, rdsk p D, F]) (Imp.trans II (rjrnFold j p ⟨n, ⟨T1, F1, G1 + 1, L1⟩, l⟩ y)) ?_
            refine WL.step rfl (OP.call (pre := [rjrn j p ⟨n, ⟨T1, F1, G1 + 1, L1⟩, l⟩, rdsk p D]) rfl rfl (rsave_ok j p ⟨n, ⟨T1, F1, G1 + 1, L1⟩, l⟩ D ⟨w1, by dsimp only; omega⟩ hD (by omega) hw) PS rfl rfl ?_)
            rintro _ _ ⟨rfl, rfl⟩
            repeat (first | refine GD ?_ | refine NW fun _ => ?_)
            refine ret2 rfl rfl ⟨_, ?_, Imp.refl _⟩
            unfold ROpenJ
            rw [hdef, hout]
            exact ⟨j, rfl, rfl⟩
          by_cases h2 : low ≤ g
          rotate_left
          · have hfn : fits c (F1 + l.length) low G1 = none := by unfold fits; rw [hq]; dsimp only; rw [if_neg (fun h => h2 h.2.1)]
            rw [hfn] at hs
            have hout : scanM D n ⟨T1, F1, G1, L1⟩ = l := hs.symm
            repeat (first | refine GD ?_ | refine NW fun _ => ?_)
            refine WL.imp (M := [rjrn j p ⟨n, ⟨T1, F1, G1 + 1, L1⟩, l⟩, rdsk p D, F]) (Imp.trans II (rjrnFold j p ⟨n, ⟨T1, F1, G1 + 1, L1⟩, l⟩ y)) ?_
            refine WL.step rfl (OP.call (pre := [rjrn j p ⟨n, ⟨T1, F1, G1 + 1, L1⟩, l⟩, rdsk p D]) rfl rfl (rsave_ok j p ⟨n, ⟨T1, F1, G1 + 1, L1⟩, l⟩ D ⟨w1, by dsimp only; omega⟩ hD (by omega) hw) PS rfl rfl ?_)
            rintro _ _ ⟨rfl, rfl⟩
            repeat (first | refine GD ?_ | refine NW fun _ => ?_)
            refine ret2 rfl rfl ⟨_, ?_, Imp.refl _⟩
            unfold ROpenJ
            rw [hdef, hout]
            exact ⟨j, rfl, rfl⟩
          by_cases h3 : g ≤ G1
          rotate_left
          · have hfn : fits c (F1 + l.length) low G1 = none := by unfold fits; rw [hq]; dsimp only; rw [if_neg (fun h => h3 h.2.2)]
            rw [hfn] at hs
            have hout : scanM D n ⟨T1, F1, G1, L1⟩ = l := hs.symm
            repeat (first | refine GD ?_ | refine NW fun _ => ?_)
            refine WL.imp (M := [rjrn j p ⟨n, ⟨T1, F1, G1 + 1, L1⟩, l⟩, rdsk p D, F]) (Imp.trans II (rjrnFold j p ⟨n, ⟨T1, F1, G1 + 1, L1⟩, l⟩ y)) ?_
            refine WL.step rfl (OP.call (pre := [rjrn j p ⟨n, ⟨T1, F1, G1 + 1, L1⟩, l⟩, rdsk p D]) rfl rfl (rsave_ok j p ⟨n, ⟨T1, F1, G1 + 1, L1⟩, l⟩ D ⟨w1, by dsimp only; omega⟩ hD (by omega) hw) PS rfl rfl ?_)
            rintro _ _ ⟨rfl, rfl⟩
            repeat (first | refine GD ?_ | refine NW fun _ => ?_)
            refine ret2 rfl rfl ⟨_, ?_, Imp.refl _⟩
            unfold ROpenJ
            rw [hdef, hout]
            exact ⟨j, rfl, rfl⟩
          have hfn : fits c (F1 + l.length) low G1 = some (g, r) := by unfold fits; rw [hq]; dsimp only; rw [if_pos ⟨h1, h2, h3⟩]
          rw [hfn] at hs
          dsimp only at hs
          repeat (first | refine GD ?_ | refine NW fun _ => ?_)
          refine RD 7 11 (_) ?_
          refine WP 0 ?_
          refine WP 1 ?_
          refine WP 2 ?_
          refine WP 3 ?_
          refine VV 4 ?_
          refine VL 5 (.agg (encR r).toArray) rfl rfl rfl rfl (.inr ⟨rfl, encR r, rfl, rfl, Ent.whole MM⟩) ?_
          refine WH.only 6 rfl rfl (by kernel_rfl) rfl (OP.sliceLit (c := encR r) rfl rfl rfl rfl rfl rfl rfl rfl (fun b2 => ⟨fun _ => II, ?_⟩))
          refine WH.only 7 rfl rfl (by kernel_rfl) rfl (OP.append rfl rfl rfl rfl rfl rfl rfl rfl rfl P1 (Ent.own MM) rfl (by omega) (by omega) rfl rfl (fun a' cap' => ⟨(fun h => nomatch h), ?_⟩))
          refine WP 8 ?_
          refine WP 9 ?_
          refine WH.only 10 rfl rfl (by kernel_rfl) rfl (OP.store rfl rfl rfl rfl rfl rfl rfl UP rfl ⟨(fun h => nomatch h), ?_⟩)
          refine DN ?_
          repeat (first | refine GD ?_ | refine NW fun _ => ?_)
          refine WL.step rfl (OP.append (ds := [.int .i64 g]) rfl rfl rfl rfl rfl rfl rfl rfl rfl P1 (Ent.own MM) rfl (by omega) (by omega) rfl rfl (fun a3 cap3 => ?_))
          repeat (first | refine GD ?_ | refine NW fun _ => ?_)
          refine ⟨(k, l ++ [(g, r)], g), ⟨by simp; omega, hs⟩, Nat.lt_succ_self k, ⟨rfl, rfl, rfl, rfl, trivial⟩, ?_⟩
          dsimp only
          refine Imp.trans ?_ (rjrnFold j p ⟨n, ⟨T1, F1, G1, L1⟩, l ++ [(g, r)]⟩ (a', cap', a3, cap3))
          dsimp only
          rw [List.length_append, List.flatMap_append, List.flatMap_cons, List.flatMap_nil, List.append_nil, List.map_append]
          exact II
  obtain ⟨hm1, hnew⟩ := ceq (by omega)
  have hm2 : T1 = -1 := by omega
  subst hm1 hm2
  repeat (first | refine GD ?_ | refine NW fun _ => ?_)
  refine WL.guardT rfl rfl rfl rfl (OP.makeS (z := [.int .u8 0]) rfl rfl rfl rfl rfl rfl rfl rfl (by decide) (by decide) (by decide) rfl rfl (fun bz => ?_))
  refine WL.guardT rfl rfl rfl rfl (OP.toStr (sv := ba (List.replicate 128 0)) rfl rfl rfl rfl rfl rfl rfl rfl (by rw [strCells_ba, ← repL_bytes]; exact Ent.own (T := 5) MM) rfl rfl ?_)
  by_cases hzz : a = zero64 ∧ b = zero64
  rotate_left
  · have hop : openM D n = .error 4 := by rw [hdef, hnew, if_neg hzz]
    have hz' : ¬ ba a ++ ba b = ba (List.replicate 128 0) := fun h => hzz (hz.1 h)
    generalize ba a ++ ba b = zab at *
    generalize ba (List.replicate 128 0) = zz at *
    repeat (first | refine GD ?_ | refine NW fun _ => ?_)
    refine ret2 rfl rfl ⟨[rdsk p D], ?_, II⟩
    unfold ROpenJ
    rw [hop]
    exact ⟨rfl, rfl⟩
  have hzt := hz.2 hzz
  have hnew' : newestM a b = some ⟨0, 1, 0, 0⟩ := by rw [hnew, if_pos hzz]; rfl
  clear hz
  rw [hzt]
  generalize ba (List.replicate 128 0) = zz at *
  repeat (first | refine GD ?_ | refine NW fun _ => ?_)
  rw [decide_eq_true (rfl : zz = zz)]
  repeat (first | refine GD ?_ | refine NW fun _ => ?_)
  obtain ⟨⟨w1, w2⟩, ⟨w3, w4⟩, ⟨w5, w6⟩⟩ := hwide _ hnew'
  dsimp only at w1 w2 w3 w4 w5 w6
  rw [hnew'] at hdef
  dsimp only at hdef
  have hsl := scanM_len D n ⟨0, 1, 0, 0⟩
  refine WC.loop (σ := Nat × List Held × Int) (fun s => s.2.1.length + s.1 = n ∧ scanF D n ⟨0, 1, 0, 0⟩ s.1 s.2.1 s.2.2 = scanM D n ⟨0, 1, 0, 0⟩)
    (fun s => [(0, .val (.pointer (some ⟨p, 0, none⟩))), (1, .val (.int .i64 n)), (10, .val (.pointer (some ⟨j, 0, none⟩))), (19, .val (.int .i64 s.2.2))])
    (fun s => [rjrn j p ⟨n, ⟨0, 1, 0, 0⟩, s.2.1⟩, rdsk p D, F]) (fun s => s.1) (n, [], 0) ⟨by simp, rfl⟩ ⟨rfl, rfl, rfl, rfl, trivial⟩ ?_ ?_
  · exact (Imp.nilS 116 5).trans ((Imp.nilS 3 1).trans (Imp.trans II (rjrnFold j p ⟨n, ⟨0, 1, 0, 0⟩, []⟩ (none, 0, none, 0))))
  rintro ⟨k, l, low⟩ ⟨hk, hs⟩
  dsimp only at hk hs ⊢
  have hll : l.length ≤ n := by omega
  refine WC.open P1 (fun y => ?_)
  unfold rjrnL
  dsimp only [List.cons_append, List.nil_append]
  cases k with
  | zero =>
    have hout : scanM D n ⟨0, 1, 0, 0⟩ = l := hs.symm
    have hkl : n = l.length := by omega
    repeat (first | refine GD ?_ | refine NW fun _ => ?_)
    refine WL.imp (M := [rjrn j p ⟨n, ⟨(0 : Int), (1 : Int), (0 : Int) + 1, (0 : Int)⟩, l⟩, rdsk p D, F]) (Imp.trans II (rjrnFold j p ⟨n, ⟨(0 : Int), (1 : Int), (0 : Int) + 1, (0 : Int)⟩, l⟩ y)) ?_
    refine WL.step rfl (OP.call (pre := [rjrn j p ⟨n, ⟨(0 : Int), (1 : Int), (0 : Int) + 1, (0 : Int)⟩, l⟩, rdsk p D]) rfl rfl (rsave_ok j p ⟨n, ⟨(0 : Int), (1 : Int), (0 : Int) + 1, (0 : Int)⟩, l⟩ D ⟨w1, by dsimp only; omega⟩ hD (by omega) hw) PS rfl rfl ?_)
    rintro _ _ ⟨rfl, rfl⟩
    repeat (first | refine GD ?_ | refine NW fun _ => ?_)
    refine ret2 rfl rfl ⟨_, ?_, Imp.refl _⟩
    unfold ROpenJ
    rw [hdef, hout]
    exact ⟨j, rfl, rfl⟩
  | succ k =>
    have hkl : l.length < n := by omega
    have hpb := pos_bd (show 1 ≤ n by omega) ((1 : Int) + l.length)
    have hmm := Int.emod_nonneg ((1 : Int) + l.length) (b := (n : Int)) (by omega)
    have hpe : 2 + ((1 : Int) + l.length) % n = ((posM n ((1 : Int) + l.length) : Nat) : Int) := by unfold posM; omega
    have hfit : scanF D n ⟨0, 1, 0, 0⟩ (k + 1) l low = match fits (D.cur (posM n ((1 : Int) + l.length))) ((1 : Int) + l.length) low (0 : Int) with
      | some x => scanF D n ⟨0, 1, 0, 0⟩ k (l ++ [x]) x.1
      | none => l := rfl
    rw [hfit] at hs
    have h64 := Dsk.cur_64 hD (show posM n ((1 : Int) + l.length) < D.S.length by omega)
    have hrd := rdread_ro p D (posM n ((1 : Int) + l.length)) (by omega)
    unfold RRdV at hrd
    rw [if_pos (by omega), Int.toNat_natCast] at hrd
    generalize D.cur (posM n ((1 : Int) + l.length)) = c at *
    have hdc := qdecode_ro c (by omega)
    unfold DecQ at hdc
    repeat (first | refine GD ?_ | refine NW fun _ => ?_)
    refine RD 11 11 (_) ?_
    refine WP 0 ?_
    refine WP 1 ?_
    refine WP 2 ?_
    refine VV 3 ?_
    refine WP 4 ?_
    refine WP 5 ?_
    refine WP 6 ?_
    refine VV 7 ?_
    refine WP 8 ?_
    refine WP 9 ?_
    refine WP 10 ?_
    refine DN ?_
    repeat (first | refine GD ?_ | refine NW fun _ => ?_)
    rw [hpe]
    refine WL.step rfl (OP.callRO rfl rfl hrd (Ent.at (up_rdsk _ _) MM) rfl rfl ?_)
    repeat (first | refine GD ?_ | refine NW fun _ => ?_)
    refine WL.step rfl (OP.callRO rfl rfl hdc (fun _ _ => trivial) rfl rfl ?_)
    cases hq : decR c with
    | error ec =>
      have hec := decR_err hq
      have hfn : fits c ((1 : Int) + l.length) low (0 : Int) = none := fits_none (fun x hx => by rw [hq] at hx; cases hx)
      rw [hfn] at hs
      have hout : scanM D n ⟨0, 1, 0, 0⟩ = l := hs.symm
      repeat (first | refine GD ?_ | refine NW fun _ => ?_)
      refine WL.imp (M := [rjrn j p ⟨n, ⟨(0 : Int), (1 : Int), (0 : Int) + 1, (0 : Int)⟩, l⟩, rdsk p D, F]) (Imp.trans II (rjrnFold j p ⟨n, ⟨(0 : Int), (1 : Int), (0 : Int) + 1, (0 : Int)⟩, l⟩ y)) ?_
      refine WL.step rfl (OP.call (pre := [rjrn j p ⟨n, ⟨(0 : Int), (1 : Int), (0 : Int) + 1, (0 : Int)⟩, l⟩, rdsk p D]) rfl rfl (rsave_ok j p ⟨n, ⟨(0 : Int), (1 : Int), (0 : Int) + 1, (0 : Int)⟩, l⟩ D ⟨w1, by dsimp only; omega⟩ hD (by omega) hw) PS rfl rfl ?_)
      rintro _ _ ⟨rfl, rfl⟩
      repeat (first | refine GD ?_ | refine NW fun _ => ?_)
      refine ret2 rfl rfl ⟨_, ?_, Imp.refl _⟩
      unfold ROpenJ
      rw [hdef, hout]
      exact ⟨j, rfl, rfl⟩
    | ok yy =>
      obtain ⟨g, r⟩ := yy
      dsimp only
      by_cases h1 : r.1 = (1 : Int) + l.length
      rotate_left
      · have hfn : fits c ((1 : Int) + l.length) low (0 : Int) = none := by unfold fits; rw [hq]; dsimp only; rw [if_neg (fun h => h1 h.1)]
        rw [hfn] at hs
        have hout : scanM D n ⟨0, 1, 0, 0⟩ = l := hs.symm
        repeat (first | refine GD ?_ | refine NW fun _ => ?_)
        refine WL.imp (M := [rjrn j p ⟨n, ⟨(0 : Int), (1 : Int), (0 : Int) + 1, (0 : Int)⟩, l⟩, rdsk p D, F]) (Imp.trans II (rjrnFold j p ⟨n, ⟨(0 : Int), (1 : Int), (0 : Int) + 1, (0 : Int)⟩, l⟩ y)) ?_
        refine WL.step rfl (OP.call (pre := [rjrn j p ⟨n, ⟨(0 : Int), (1 : Int), (0 : Int) + 1, (0 : Int)⟩, l⟩, rdsk p D]) rfl rfl (rsave_ok j p ⟨n, ⟨(0 : Int), (1 : Int), (0 : Int) + 1, (0 : Int)⟩, l⟩ D ⟨w1, by dsimp only; omega⟩ hD (by omega) hw) PS rfl rfl ?_)
        rintro _ _ ⟨rfl, rfl⟩
        repeat (first | refine GD ?_ | refine NW fun _ => ?_)
        refine ret2 rfl rfl ⟨_, ?_, Imp.refl _⟩
        unfold ROpenJ
        rw [hdef, hout]
        exact ⟨j, rfl, rfl⟩
      by_cases h2 : low ≤ g
      rotate_left
      · have hfn : fits c ((1 : Int) + l.length) low (0 : Int) = none := by unfold fits; rw [hq]; dsimp only; rw [if_neg (fun h => h2 h.2.1)]
        rw [hfn] at hs
        have hout : scanM D n ⟨0, 1, 0, 0⟩ = l := hs.symm
        repeat (first | refine GD ?_ | refine NW fun _ => ?_)
        refine WL.imp (M := [rjrn j p ⟨n, ⟨(0 : Int), (1 : Int), (0 : Int) + 1, (0 : Int)⟩, l⟩, rdsk p D, F]) (Imp.trans II (rjrnFold j p ⟨n, ⟨(0 : Int), (1 : Int), (0 : Int) + 1, (0 : Int)⟩, l⟩ y)) ?_
        refine WL.step rfl (OP.call (pre := [rjrn j p ⟨n, ⟨(0 : Int), (1 : Int), (0 : Int) + 1, (0 : Int)⟩, l⟩, rdsk p D]) rfl rfl (rsave_ok j p ⟨n, ⟨(0 : Int), (1 : Int), (0 : Int) + 1, (0 : Int)⟩, l⟩ D ⟨w1, by dsimp only; omega⟩ hD (by omega) hw) PS rfl rfl ?_)
        rintro _ _ ⟨rfl, rfl⟩
        repeat (first | refine GD ?_ | refine NW fun _ => ?_)
        refine ret2 rfl rfl ⟨_, ?_, Imp.refl _⟩
        unfold ROpenJ
        rw [hdef, hout]
        exact ⟨j, rfl, rfl⟩
      by_cases h3 : g ≤ (0 : Int)
      rotate_left
      · have hfn : fits c ((1 : Int) + l.length) low (0 : Int) = none := by unfold fits; rw [hq]; dsimp only; rw [if_neg (fun h => h3 h.2.2)]
        rw [hfn] at hs
        have hout : scanM D n ⟨0, 1, 0, 0⟩ = l := hs.symm
        repeat (first | refine GD ?_ | refine NW fun _ => ?_)
        refine WL.imp (M := [rjrn j p ⟨n, ⟨(0 : Int), (1 : Int), (0 : Int) + 1, (0 : Int)⟩, l⟩, rdsk p D, F]) (Imp.trans II (rjrnFold j p ⟨n, ⟨(0 : Int), (1 : Int), (0 : Int) + 1, (0 : Int)⟩, l⟩ y)) ?_
        refine WL.step rfl (OP.call (pre := [rjrn j p ⟨n, ⟨(0 : Int), (1 : Int), (0 : Int) + 1, (0 : Int)⟩, l⟩, rdsk p D]) rfl rfl (rsave_ok j p ⟨n, ⟨(0 : Int), (1 : Int), (0 : Int) + 1, (0 : Int)⟩, l⟩ D ⟨w1, by dsimp only; omega⟩ hD (by omega) hw) PS rfl rfl ?_)
        rintro _ _ ⟨rfl, rfl⟩
        repeat (first | refine GD ?_ | refine NW fun _ => ?_)
        refine ret2 rfl rfl ⟨_, ?_, Imp.refl _⟩
        unfold ROpenJ
        rw [hdef, hout]
        exact ⟨j, rfl, rfl⟩
      have hfn : fits c ((1 : Int) + l.length) low (0 : Int) = some (g, r) := by unfold fits; rw [hq]; dsimp only; rw [if_pos ⟨h1, h2, h3⟩]
      rw [hfn] at hs
      dsimp only at hs
      repeat (first | refine GD ?_ | refine NW fun _ => ?_)
      refine RD 7 11 (_) ?_
      refine WP 0 ?_
      refine WP 1 ?_
      refine WP 2 ?_
      refine WP 3 ?_
      refine VV 4 ?_
      refine VL 5 (.agg (encR r).toArray) rfl rfl rfl rfl (.inr ⟨rfl, encR r, rfl, rfl, Ent.whole MM⟩) ?_
      refine WH.only 6 rfl rfl (by kernel_rfl) rfl (OP.sliceLit (c := encR r) rfl rfl rfl rfl rfl rfl rfl rfl (fun b2 => ⟨fun _ => II, ?_⟩))
      refine WH.only 7 rfl rfl (by kernel_rfl) rfl (OP.append rfl rfl rfl rfl rfl rfl rfl rfl rfl P1 (Ent.own MM) rfl (by omega) (by omega) rfl rfl (fun a' cap' => ⟨(fun h => nomatch h), ?_⟩))
      refine WP 8 ?_
      refine WP 9 ?_
      refine WH.only 10 rfl rfl (by kernel_rfl) rfl (OP.store rfl rfl rfl rfl rfl rfl rfl UP rfl ⟨(fun h => nomatch h), ?_⟩)
      refine DN ?_
      repeat (first | refine GD ?_ | refine NW fun _ => ?_)
      refine WL.step rfl (OP.append (ds := [.int .i64 g]) rfl rfl rfl rfl rfl rfl rfl rfl rfl P1 (Ent.own MM) rfl (by omega) (by omega) rfl rfl (fun a3 cap3 => ?_))
      repeat (first | refine GD ?_ | refine NW fun _ => ?_)
      refine ⟨(k, l ++ [(g, r)], g), ⟨by simp; omega, hs⟩, Nat.lt_succ_self k, ⟨rfl, rfl, rfl, rfl, trivial⟩, ?_⟩
      dsimp only
      refine Imp.trans ?_ (rjrnFold j p ⟨n, ⟨0, 1, 0, 0⟩, l ++ [(g, r)]⟩ (a', cap', a3, cap3))
      dsimp only
      rw [List.length_append, List.flatMap_append, List.flatMap_cons, List.flatMap_nil, List.append_nil, List.map_append]
      exact II
end Go.Proofs.YtleajkobmhhacaaGreatDoor
/- Contracts of functions of the given program, and plain laws on what they compute: parts of the proofs of laws. -/

namespace Go.Proofs.YtleajkobmhhacaaGreatDoor
open Go Go.GL

/-! the document's group, folded -/
def qgrpL (g : Nat) (f : List Bool) (ch : List Ch) (x : Option Addr × Nat) : List Assn := refL g x.1 ch.length x.2 f ch
def qgrp (g : Nat) (f : List Bool) (ch : List Ch) : Assn := exA (qgrpL g f ch)
theorem up_qgrp (g : Nat) (f : List Bool) (ch : List Ch) : Up (qgrp g f ch) := up_exA _
theorem qgrp_R {g : Nat} {f : List Bool} {ch : List Ch} {x : Option Addr × Nat} {h : Hp} (s : stars (qgrpL g f ch x) h) : refR g x.1 x.2 f ch h :=
  (Ent.and (Ent.whole (List.Mem.head _)) (Ent.own (List.Mem.tail _ (List.Mem.head _)))) h s
theorem qgat_rt (g : Nat) (f : List Bool) (ch : List Ch) (m : Int) (hf : f.length = 4) (hi : Inc ch) (hv : Vols ch) (hs : ch.length ≤ 100) :
    RT G 34 [.pointer (some ⟨g, 0, none⟩), .int .i64 m] (qgrp g f ch) (Ints (listM (atM m f ch))) := by
  rw [← listQ_at hi hv hf m]
  refine RT.ofEx (R := fun x : Option Addr × Nat => stars (qgrpL g f ch x)) (qat_ok g none 0 f ch m hf (by omega)).enters (fun _ => up_stars _) (fun x h s => ?_)
  have H := qat_ok g x.1 x.2 f ch m hf (by omega)
  exact ⟨H.enters, fun M w he hw => H.calls M w (fun k s => qgrp_R (he k s)) hw⟩
theorem qglast_ro (g : Nat) (f : List Bool) (ch : List Ch) (hf : f.length = 4) (hs : ch.length ≤ 100) :
    RO G 36 [.pointer (some ⟨g, 0, none⟩)] (qgrp g f ch) (.int .i64 (lastM ch)) := by
  refine RO.ofEx (R := fun x : Option Addr × Nat => stars (qgrpL g f ch x)) (qlast_ro g none 0 f ch hf (by omega)).enters (fun x h s => ?_)
  have H := qlast_ro g x.1 x.2 f ch hf (by omega)
  exact ⟨H.enters, fun w hw => H.calls w (qgrp_R hw)⟩
def codeM (o : Option Int) : Int := match o with | some c => c | none => 0
theorem qgchange (g : Nat) (f : List Bool) (ch : List Ch) (v m : Int) (d : Bool) (hf : f.length = 4) (hi : Inc ch) (hv : Vols ch) (hs : ch.length ≤ 100) :
    Triple G 97 [.pointer (some ⟨g, 0, none⟩), .int .i64 v, .int .i64 m, .bool d] [qgrp g f ch] (fun w M => w = .int .i64 (codeM (putM f ch (m, v, d))) ∧ M = [qgrp g f (putCh f ch (m, v, d))]) := by
  refine Triple.ofEx (qchange_ok g none 0 f ch v m d hf hi hv hs).enters fun x _ _ => Triple.pre ?_ (by rw [List.append_nil]; exact Imp.refl _)
  refine (qchange_ok g x.1 x.2 f ch v m d hf hi hv hs).mono (fun w M h => ?_)
  unfold QChPost at h
  unfold putCh codeM
  cases hp : putM f ch (m, v, d) with
  | some code =>
    rw [hp] at h
    obtain ⟨h1, rfl⟩ := h
    refine ⟨_, ⟨h1, rfl⟩, ?_⟩
    have := Imp.fold (Ls := qgrpL g f ch) x (M := [])
    rw [List.append_nil] at this
    exact this
  | none =>
    rw [hp] at h
    obtain ⟨h1, a', cap', rfl⟩ := h
    refine ⟨_, ⟨h1, rfl⟩, ?_⟩
    have := Imp.fold (Ls := qgrpL g f (ch ++ [(m, v, d)])) (a', cap') (M := [])
    rw [List.append_nil] at this
    unfold qgrpL at this
    have e : qgrp g f (ch ++ [(m, v, d)]) = exA (fun x : Option Addr × Nat => refL g x.1 (ch.length + 1) x.2 f (ch ++ [(m, v, d)])) := by
      unfold qgrp qgrpL
      simp only [List.length_append, List.length_cons, List.length_nil, Nat.zero_add]
    dsimp only
    rw [e]
    simp only [List.length_append, List.length_cons, List.length_nil, Nat.zero_add] at this
    exact this
theorem know_inc (f : List Bool) : ∀ (l : List Rec) (s : Int × List Ch), Inc s.2 → Inc (l.foldl (knowM f) s).2
  | [], _, h => h
  | r :: l, s, h => know_inc f l _ (by
      unfold knowM
      split
      · exact h
      · split
        · exact inc_put h
        · exact h)
theorem CInv.inc {C : Crd} {B : Int} (I : CInv C B) : Inc C.ch := by
  have h := know_inc C.f (C.J.held.map Prod.snd) (0, []) .nil
  have e := I.know
  unfold knowAll at e
  rw [← e] at h
  exact h
/-! the document's coordinator -/
abbrev nqT : TypeId := 50
abbrev gqT : TypeId := 194
abbrev NQh := Nat × Nat × Nat
def nodC (q : Nat) (fv : Fst) (C : Crd) (x : NQh) : List Value := [.pointer (some ⟨q, 0, none⟩), .pointer (some ⟨x.1, 0, none⟩), .int .i64 C.J.ring, .slice fv.1 fv.2.1 fv.2.2, .pointer (some ⟨x.2.1, 0, none⟩), .pointer (some ⟨x.2.2, 0, none⟩), .int .i64 C.last, .int .i64 C.marked]
def nodL (n q : Nat) (fv : Fst) (C : Crd) (x : NQh) : List Assn := [blk n (nodC q fv C x) nqT, rjrn x.1 q C.J, qgrp x.2.1 C.f C.ch, qrnd x.2.2 C.R]
def nodA (n q : Nat) (fv : Fst) (C : Crd) : Assn := exA (nodL n q fv C)
theorem up_nodA (n q : Nat) (fv : Fst) (C : Crd) : Up (nodA n q fv C) := up_exA _
theorem nodFold (n q : Nat) (fv : Fst) (C : Crd) (x : NQh) {N : List Assn} : Imp (blk n (nodC q fv C x) nqT :: rjrn x.1 q C.J :: qgrp x.2.1 C.f C.ch :: qrnd x.2.2 C.R :: N) (nodA n q fv C :: N) := Imp.fold (Ls := nodL n q fv C) x
end Go.Proofs.YtleajkobmhhacaaGreatDoor
/- Contracts of functions of the given program, and plain laws on what they compute: parts of the proofs of laws. -/

namespace Go.Proofs.YtleajkobmhhacaaGreatDoor
open Go Go.GL

abbrev grT : TypeId := 185
def crdL (p q g : Nat) (fv : Fst) (C : Crd) (j : Nat) : List Assn := [rnd p ndT (restC C.last C.marked q C.J.ring (.pointer (some ⟨j, 0, none⟩)) fv g) C.R, jrn j q C.J, grp g C.f C.ch]
def crdA (p q g : Nat) (fv : Fst) (C : Crd) : Assn := exA (crdL p q g fv C)
theorem up_crdA (p q g : Nat) (fv : Fst) (C : Crd) : Up (crdA p q g fv C) := up_exA _
theorem crdFold (p q g : Nat) (fv : Fst) (C : Crd) (j : Nat) {N : List Assn} : Imp (rnd p ndT (restC C.last C.marked q C.J.ring (.pointer (some ⟨j, 0, none⟩)) fv g) C.R :: jrn j q C.J :: grp g C.f C.ch :: N) (crdA p q g fv C :: N) := Imp.fold (Ls := crdL p q g fv C) j
theorem openM_ring {D : Dsk} {ring : Int} {J : Jrn} {D' : Dsk} (h : openM D ring = .ok (J, D')) : (J.ring : Int) = ring ∧ 1 ≤ ring := by
  unfold openM at h
  split at h
  · cases h
  · split at h
    · cases h
    · cases h
      dsimp only
      omega
set_option maxHeartbeats 8000000 in
set_option maxRecDepth 10000 in
theorem cstart_ok (p q g : Nat) (R0 : Rnd) (x0 : RHd) (l0 m0 : Int) (ring : Int) (jv : Value) (fv : Fst) (fb : List Bool) (a0 : Option Addr) (n0 c0 : Nat) (D : Dsk) (V : Assn) (hV : Up V) (fl : List Int) (f : List Bool)
    (hr : ∀ h, V h → readS fv.1 fv.2.1 1 (fl.map vI) h) (hn : fv.2.1 < 1000000) (hfl : newM fl f0 = .ok f) (hfb : fb.length = 4) (hD : D.ok) (hw : D.W.length < 10000) (hr64 : -9223372036854775808 ≤ ring ∧ ring ≤ 9223372036854775807)
    {J : Jrn} {D' : Dsk} (ho : openM D ring = .ok (J, D')) (hJ : J.rng) (hR : ∀ x ∈ J.held, RightR x.2) :
    Triple G 77 [.pointer (some ⟨p, 0, none⟩)] [blk p (rndC R0 x0 ++ restC l0 m0 q ring jv fv g) ndT, blk g (bools fb ++ [.slice a0 n0 c0]) grT, dsk q D, V]
      (fun v M => v = .nilIface ∧ M = [crdA p q g fv (startC f J D'), dsk q D', V]) := by
  refine Triple.enter Tryz.func77 rfl (by decide) rfl Tryz.ntmps77 rfl (fun F => ?_)
  have hE : ∀ {L}, V ∈ L → Ent L (readS fv.1 fv.2.1 1 (fl.map vI)) := fun m => Ent.mem m hV hr
  have hop := jopen_ok q D ring hD hw hr64
  unfold OpenJ at hop
  rw [ho] at hop
  obtain ⟨hring, _⟩ := openM_ring ho
  have hf4 : f.length = 4 := newM_length hfl
  obtain ⟨b0, b1, b2, b3, rfl⟩ := four hfb
  obtain ⟨g0, g1, g2, g3, hg⟩ := four hf4
  obtain ⟨fa, fn, fc⟩ := fv
  dsimp only at hE hn hr
  unfold rndC restC bools
  dsimp only [List.cons_append, List.nil_append, List.map_cons, List.map_nil]
  repeat (first | refine GD ?_ | refine NW fun _ => ?_)
  refine RD 8 14 (_) ?_
  refine WP 0 ?_
  refine WP 1 ?_
  refine WP 2 ?_
  refine VV 3 ?_
  refine WP 4 ?_
  refine WP 5 ?_
  refine WP 6 ?_
  refine VV 7 ?_
  refine WH.only 8 rfl rfl (by kernel_rfl) rfl (OP.call (pre := [dsk q D]) rfl rfl hop PS rfl rfl (fun v M hM => ?_))
  obtain ⟨j, rfl, rfl⟩ := hM
  refine ⟨(fun h => nomatch h), ?_⟩
  refine WP 9 ?_
  refine WP 10 ?_
  refine WP 11 ?_
  refine WP 12 ?_
  refine WP 13 ?_
  refine DN ?_
  repeat (first | refine GD ?_ | refine NW fun _ => ?_)
  refine WL.step rfl (OP.callRT rfl rfl (new_ok fa fn fc fl hn) (hE MM) rfl rfl ?_)
  intro v E hN
  unfold NewPost at hN
  rw [show newM fl [false, false, false, false] = .ok f from hfl, hg] at hN
  obtain ⟨pg, rfl, rfl⟩ := hN
  unfold bools
  dsimp only [List.cons_append, List.nil_append, List.map_cons, List.map_nil]
  repeat (first | refine GD ?_ | refine NW fun _ => ?_)
  refine RD 8 9 (_) ?_
  refine WP 0 ?_
  refine WP 1 ?_
  refine WP 2 ?_
  refine VV 3 ?_
  refine WP 4 ?_
  refine WP 5 ?_
  refine VV 6 ?_
  refine WP 7 ?_
  refine WH.only 8 rfl rfl (by kernel_rfl) rfl (OP.store rfl rfl rfl rfl rfl rfl rfl UP rfl ⟨(fun h => nomatch h), ?_⟩)
  refine DN ?_
  repeat (first | refine GD ?_ | refine NW fun _ => ?_)
  have hrec := jrecords_rt j q J hJ
  refine WL.imp (M := [rnd p ndT (restC 0 0 q ring (.pointer (some ⟨j, 0, none⟩)) (fa, fn, fc) g) rnd0, grp g f [], jrn j q J, dsk q D', V, F]) ?_ ?_
  · have e1 := rndFold p ndT (restC 0 0 q ring (.pointer (some ⟨j, 0, none⟩)) (fa, fn, fc) g) rnd0 (none, 0, none) (N := [grp g f [], jrn j q J, dsk q D', V, F])
    refine Imp.trans ?_ e1
    have e2 := Imp.fold (Ls := fun x : Option Addr × Nat => grpL g x.1 ([] : List Ch).length x.2 f []) (none, 0) (M := [jrn j q J, dsk q D', V, F])
    have e3 : Imp (ansO (fun _ => false) 0 none :: grpL g none ([] : List Ch).length 0 f [] ++ [jrn j q J, dsk q D', V, F]) (ansO (fun _ => false) 0 none :: grp g f [] :: [jrn j q J, dsk q D', V, F]) := Imp.cons e2
    refine Imp.trans ?_ (Imp.cons (Imp.cons e3))
    unfold grpL
    rw [hg]
    refine Imp.trans (Imp.nilS 3 1) (Imp.trans (Imp.nilS 187 3) ?_)
    refine Imp.trans (Imp.pureB (p := (∀ m : Int, (fun _ => false) m = false) ∧ (0 : Int) = 0) ⟨fun _ => rfl, rfl⟩) ?_
    exact II
  refine WL.step rfl (OP.callRT rfl rfl hrec (Ent.at (up_jrn _ _ _) MM) rfl rfl ?_)
  rintro _ _ ⟨ar, cr, rfl, rfl⟩
  have hlen := hJ.len
  have hrg := hJ.ring
  generalize hK : J.held = held at *
  have hkn : ∀ k, (0 ≤ (knowAll f ((held.map Prod.snd).take k)).1 ∧ (knowAll f ((held.map Prod.snd).take k)).1 ≤ widest) ∧ Vols (knowAll f ((held.map Prod.snd).take k)).2 ∧ (knowAll f ((held.map Prod.snd).take k)).2.length ≤ 100 := by
    intro k
    induction k with
    | zero => exact ⟨(by decide : (0 : Int) ≤ 0 ∧ (0 : Int) ≤ widest), (fun _ h => nomatch h), Nat.zero_le _⟩
    | succ k ih =>
      by_cases hk : k < (held.map Prod.snd).length
      · rw [← List.take_append_getElem hk, knowAll_snoc]
        refine knowM_inv ih.1 ?_ ih.2.1 ih.2.2
        rw [List.getElem_map]
        exact hR _ (List.getElem_mem _)
      · rw [List.take_of_length_le (by omega)] at ih ⊢
        exact ih
  repeat (first | refine GD ?_ | refine NW fun _ => ?_)
  refine WC.loop (σ := Nat) (fun k => k ≤ held.length)
    (fun k => [(0, .val (.pointer (some ⟨p, 0, none⟩))), (54, .val (.slice ar held.length cr)), (55, .val (.int .i64 held.length)), (56, .val (.int .i64 k))])
    (fun k => [rnd p ndT (restC (knowAll f ((held.map Prod.snd).take k)).1 0 q ring (.pointer (some ⟨j, 0, none⟩)) (fa, fn, fc) g) rnd0, grp g f (knowAll f ((held.map Prod.snd).take k)).2, ownS ar held.length cr 116 5 (held.flatMap (fun x => encR x.2)), jrn j q J, dsk q D', V, F]) (fun k => held.length - k) 0 (Nat.zero_le _) ⟨rfl, rfl, rfl, rfl, trivial⟩ II ?_
  intro k hk
  by_cases hlt : k < held.length
  rotate_left
  · have he : k = held.length := by omega
    subst he
    rw [List.take_of_length_le (by rw [List.length_map]; exact Nat.le_refl _)]
    repeat (first | refine GD ?_ | refine NW fun _ => ?_)
    refine ret1 rfl ⟨[crdA p q g (fa, fn, fc) (startC f J D'), dsk q D', V], ⟨rfl, rfl⟩, ?_⟩
    refine Imp.trans ?_ (crdFold p q g (fa, fn, fc) (startC f J D') j)
    unfold startC
    dsimp only
    rw [hK, hring]
    exact II
  refine WC.fact (Ent.some (Ent.own (a := ar) (n := held.length) (cap := cr) (T := 116) (size := 5) (cs := held.flatMap (fun x => encR x.2)) MM) (by omega)) ?_
  rintro ⟨b, off, rfl⟩
  have hkk := hkn k
  have hkl : k < (held.map Prod.snd).length := by rw [List.length_map]; exact hlt
  have hsn : knowAll f ((held.map Prod.snd).take (k + 1)) = knowM f (knowAll f ((held.map Prod.snd).take k)) (held[k]).2 := by
    rw [← List.take_append_getElem hkl, knowAll_snoc, List.getElem_map]
  generalize knowAll f ((held.map Prod.snd).take k) = ka at *
  obtain ⟨la, cha⟩ := ka
  dsimp only at hkk ⊢
  repeat (first | refine GD ?_ | refine NW fun _ => ?_)
  refine WL.step rfl (OP.loadA (l := encR held[k].2) rfl rfl rfl rfl (Ent.elA (f := fun x : Held => encR x.2) (fun _ => rfl) (Ent.own (T := 116) MM) hlt) rfl rfl rfl ?_)
  generalize held[k].2 = r at *
  obtain ⟨seq, kind, block, data, num⟩ := r
  have hkw := cknow_ok p rnd0 la 0 q ring (.pointer (some ⟨j, 0, none⟩)) (fa, fn, fc) g f cha (seq, kind, block, data, num) hf4 hkk.2.1 hkk.2.2 hkk.1
  rw [show encR (seq, kind, block, data, num) = [.int .i64 seq, .int .i64 kind, .int .i64 block, .string data, .int .i64 num] from rfl] at hkw ⊢
  repeat (first | refine GD ?_ | refine NW fun _ => ?_)
  refine WL.step rfl (OP.call (pre := [rnd p ndT (restC la 0 q ring (.pointer (some ⟨j, 0, none⟩)) (fa, fn, fc) g) rnd0, grp g f cha]) rfl rfl hkw PS rfl rfl ?_)
  rintro _ _ ⟨rfl, rfl⟩
  repeat (first | refine GD ?_ | refine NW fun _ => ?_)
  exact ⟨k + 1, hlt, by omega, ⟨rfl, rfl, rfl, rfl, trivial⟩, by rw [hsn]; exact II⟩
end Go.Proofs.YtleajkobmhhacaaGreatDoor
/- Contracts of functions of the given program, and plain laws on what they compute: parts of the proofs of laws. -/

namespace Go.Proofs.YtleajkobmhhacaaGreatDoor
open Go Go.GL

set_option maxHeartbeats 4000000 in
set_option maxRecDepth 10000 in
/-- the document's journal can't be opened -/
theorem qstart_er (n q : Nat) (l0 m0 : Int) (ring : Int) (jv gv rv : Value) (fv : Fst) (D : Dsk) (hD : D.ok) (hw : D.W.length < 10000) (hr64 : -9223372036854775808 ≤ ring ∧ ring ≤ 9223372036854775807) {c : Int} (ho : openM D ring = .error c) (hc0 : c ≠ 0) :
    Triple G 79 [.pointer (some ⟨n, 0, none⟩)] [blk n [.pointer (some ⟨q, 0, none⟩), jv, .int .i64 ring, .slice fv.1 fv.2.1 fv.2.2, gv, rv, .int .i64 l0, .int .i64 m0] nqT, rdsk q D]
      (fun v M => v = .int .i64 c ∧ M = [rdsk q D]) := by
  refine Triple.enter Tryz.func79 rfl (by decide) rfl Tryz.ntmps79 rfl (fun F => ?_)
  have hop := ropen_ok q D ring hD hw hr64
  unfold ROpenJ at hop
  rw [ho] at hop
  repeat (first | refine GD ?_ | refine NW fun _ => ?_)
  refine RD 8 14 (_) ?_
  refine WP 0 ?_
  refine WP 1 ?_
  refine WP 2 ?_
  refine VV 3 ?_
  refine WP 4 ?_
  refine WP 5 ?_
  refine WP 6 ?_
  refine VV 7 ?_
  refine WH.only 8 rfl rfl (by kernel_rfl) rfl (OP.call (pre := [rdsk q D]) rfl rfl hop PS rfl rfl (fun v M hM => ?_))
  obtain ⟨rfl, rfl⟩ := hM
  refine ⟨(fun h => nomatch h), ?_⟩
  refine WP 9 ?_
  refine WP 10 ?_
  refine WP 11 ?_
  refine WP 12 ?_
  refine WP 13 ?_
  refine DN ?_
  repeat (first | refine GD ?_ | refine NW fun _ => ?_)
  exact ret1 rfl ⟨[rdsk q D], ⟨rfl, rfl⟩, II⟩
theorem kind_of {r : Rec} (h : RightR r) : r.2.1 = 2 ∨ r.2.1 = 1 := by
  rcases h.2 with h | h
  · exact .inl h.1
  · exact .inr h.1
set_option maxHeartbeats 16000000 in
set_option maxRecDepth 10000 in
theorem qstart_ok (n q : Nat) (l0 m0 : Int) (ring : Int) (jv gv rv : Value) (fv : Fst) (D : Dsk) (V : Assn) (hV : Up V) (fl : List Int) (f : List Bool)
    (hr : ∀ h, V h → readS fv.1 fv.2.1 1 (fl.map vI) h) (hn : fv.2.1 < 1000000) (hfl : newM fl f0 = .ok f) (hD : D.ok) (hw : D.W.length < 10000) (hr64 : -9223372036854775808 ≤ ring ∧ ring ≤ 9223372036854775807)
    {J : Jrn} {D' : Dsk} (ho : openM D ring = .ok (J, D')) (hJ : J.rng) (hR : ∀ x ∈ J.held, RightR x.2) :
    Triple G 79 [.pointer (some ⟨n, 0, none⟩)] [blk n [.pointer (some ⟨q, 0, none⟩), jv, .int .i64 ring, .slice fv.1 fv.2.1 fv.2.2, gv, rv, .int .i64 l0, .int .i64 m0] nqT, rdsk q D, V]
      (fun v M => v = .int .i64 0 ∧ M = [nodA n q fv (startC f J D'), rdsk q D', V]) := by
  refine Triple.enter Tryz.func79 rfl (by decide) rfl Tryz.ntmps79 rfl (fun F => ?_)
  have hE : ∀ {L}, V ∈ L → Ent L (readS fv.1 fv.2.1 1 (fl.map vI)) := fun m => Ent.mem m hV hr
  have hop := ropen_ok q D ring hD hw hr64
  unfold ROpenJ at hop
  rw [ho] at hop
  obtain ⟨hring, _⟩ := openM_ring ho
  have hf4 : f.length = 4 := newM_length hfl
  have hwd : widest = 1152921504606846975 := rfl
  obtain ⟨fa, fn, fc⟩ := fv
  dsimp only at hE hn hr
  dsimp only
  repeat (first | refine GD ?_ | refine NW fun _ => ?_)
  refine RD 8 14 (_) ?_
  refine WP 0 ?_
  refine WP 1 ?_
  refine WP 2 ?_
  refine VV 3 ?_
  refine WP 4 ?_
  refine WP 5 ?_
  refine WP 6 ?_
  refine VV 7 ?_
  refine WH.only 8 rfl rfl (by kernel_rfl) rfl (OP.call (pre := [rdsk q D]) rfl rfl hop PS rfl rfl (fun v M hM => ?_))
  obtain ⟨j, rfl, rfl⟩ := hM
  refine ⟨(fun h => nomatch h), ?_⟩
  refine WP 9 ?_
  refine WP 10 ?_
  refine WP 11 ?_
  refine WP 12 ?_
  refine WP 13 ?_
  refine DN ?_
  repeat (first | refine GD ?_ | refine NW fun _ => ?_)
  refine WL.step rfl (OP.callRT rfl rfl (qnew_ok fa fn fc fl hn) (hE MM) rfl rfl ?_)
  intro v E hN
  unfold QNewPost at hN
  rw [show newM fl [false, false, false, false] = .ok f from hfl] at hN
  obtain ⟨pg, rfl, rfl⟩ := hN
  repeat (first | refine GD ?_ | refine NW fun _ => ?_)
  rename_i rq
  have hlen := hJ.len
  have hrg := hJ.ring
  have hkn : ∀ k, (0 ≤ (knowAll f ((J.held.map Prod.snd).take k)).1 ∧ (knowAll f ((J.held.map Prod.snd).take k)).1 ≤ widest) ∧ Vols (knowAll f ((J.held.map Prod.snd).take k)).2 ∧ (knowAll f ((J.held.map Prod.snd).take k)).2.length ≤ 100 := by
    intro k
    induction k with
    | zero => exact ⟨(by decide : (0 : Int) ≤ 0 ∧ (0 : Int) ≤ widest), (fun _ h => nomatch h), Nat.zero_le _⟩
    | succ k ih =>
      by_cases hk : k < (J.held.map Prod.snd).length
      · rw [← List.take_append_getElem hk, knowAll_snoc]
        refine knowM_inv ih.1 ?_ ih.2.1 ih.2.2
        rw [List.getElem_map]
        exact hR _ (List.getElem_mem _)
      · rw [List.take_of_length_le (by omega)] at ih ⊢
        exact ih
  refine WL.imp (M := [qrnd rq rnd0, qgrp pg f [], blk n [.pointer (some ⟨q, 0, none⟩), .pointer (some ⟨j, 0, none⟩), .int .i64 ring, .slice fa fn fc, .pointer (some ⟨pg, 0, none⟩), .pointer (some ⟨rq, 0, none⟩), .int .i64 0, .int .i64 0] nqT, rjrn j q J, rdsk q D', V, F]) ?_ ?_
  · refine Imp.trans ?_ (qrndFold rq rnd0 (none, 0, none, 0))
    refine Imp.trans ?_ (Imp.cons (Imp.cons (Imp.cons (Imp.fold (Ls := qgrpL pg f []) (none, 0)))))
    exact Imp.trans (Imp.nilS 3 1) (Imp.trans (Imp.nilS 4 1) (Imp.trans (Imp.nilS 196 3) II))
  refine WL.open (Ls := rjrnL j q J) (show Imp _ (rjrn j q J :: _) from P1) (fun y => ?_)
  unfold rjrnL
  dsimp only [List.cons_append, List.nil_append]
  obtain ⟨ya, yc, za, zc⟩ := y
  dsimp only
  repeat (first | refine GD ?_ | refine NW fun _ => ?_)
  refine WC.loop (σ := Nat) (fun k => k ≤ J.held.length)
    (fun k => [(0, .val (.pointer (some ⟨n, 0, none⟩))), (3, .val (.pointer (some ⟨j, 0, none⟩))), (53, .val (.int .i64 J.held.length)), (54, .val (.int .i64 k))])
    (fun k => [blk n [.pointer (some ⟨q, 0, none⟩), .pointer (some ⟨j, 0, none⟩), .int .i64 ring, .slice fa fn fc, .pointer (some ⟨pg, 0, none⟩), .pointer (some ⟨rq, 0, none⟩), .int .i64 (knowAll f ((J.held.map Prod.snd).take k)).1, .int .i64 0] nqT, qgrp pg f (knowAll f ((J.held.map Prod.snd).take k)).2,
      blk j [.pointer (some ⟨q, 0, none⟩), .int .i64 J.ring, .int .i64 J.hd.turn, .int .i64 J.hd.first, .int .i64 J.hd.gen, .int .i64 J.hd.low, .slice ya J.held.length yc, .slice za J.held.length zc] 178,
      ownS ya J.held.length yc 116 5 (J.held.flatMap (fun x => encR x.2)), ownS za J.held.length zc 3 1 (J.held.map genC), qrnd rq rnd0, rdsk q D', V, F]) (fun k => J.held.length - k) 0 (Nat.zero_le _) ⟨rfl, rfl, rfl, rfl, trivial⟩ II ?_
  intro k hk
  by_cases hlt : k < J.held.length
  rotate_left
  · have he : k = J.held.length := by omega
    subst he
    rw [List.take_of_length_le (by rw [List.length_map]; exact Nat.le_refl _)]
    repeat (first | refine GD ?_ | refine NW fun _ => ?_)
    refine ret1 rfl ⟨[nodA n q (fa, fn, fc) (startC f J D'), rdsk q D', V], ⟨rfl, rfl⟩, ?_⟩
    refine Imp.trans ?_ (nodFold n q (fa, fn, fc) (startC f J D') (j, pg, rq))
    refine Imp.trans ?_ (Imp.cons (rjrnFold j q J (ya, yc, za, zc)))
    unfold startC nodC
    dsimp only
    rw [hring]
    exact II
  refine WC.fact (Ent.some (Ent.own (a := ya) (n := J.held.length) (cap := yc) (T := 116) (size := 5) (cs := J.held.flatMap (fun x => encR x.2)) MM) (by omega)) ?_
  rintro ⟨b, off, rfl⟩
  have hkk := hkn k
  have hkl : k < (J.held.map Prod.snd).length := by rw [List.length_map]; exact hlt
  have hsn : knowAll f ((J.held.map Prod.snd).take (k + 1)) = knowM f (knowAll f ((J.held.map Prod.snd).take k)) (J.held[k]).2 := by
    rw [← List.take_append_getElem hkl, knowAll_snoc, List.getElem_map]
  have hin : Inc (knowAll f ((J.held.map Prod.snd).take k)).2 := know_inc f _ (0, []) .nil
  have hRk := hR _ (List.getElem_mem hlt)
  have hck := kind_of hRk
  generalize knowAll f ((J.held.map Prod.snd).take k) = ka at *
  obtain ⟨la, cha⟩ := ka
  dsimp only at hkk hin ⊢
  repeat (first | refine GD ?_ | refine NW fun _ => ?_)
  refine WL.step rfl (OP.loadA (l := encR J.held[k].2) rfl rfl rfl rfl (Ent.elA (f := fun x : Held => encR x.2) (fun _ => rfl) (Ent.own (T := 116) MM) hlt) rfl rfl rfl ?_)
  generalize J.held[k].2 = r at *
  obtain ⟨seq, kind, block, data, num⟩ := r
  dsimp only at hck
  have hdef : knowM f (la, cha) (seq, kind, block, data, num) = if kind = 2 then (if la < num then num else la, cha)
    else if data = plusB ∨ data = minusB then (la, putCh f cha (la + 1, block, decide (data ≠ plusB))) else (la, cha) := rfl
  have hchg := fun d => qgchange pg f cha block (la + 1) d hf4 hin hkk.2.1 hkk.2.2
  rw [show encR (seq, kind, block, data, num) = [.int .i64 seq, .int .i64 kind, .int .i64 block, .string data, .int .i64 num] from rfl]
  have hlb := hkk.1
  repeat (first | refine GD ?_ | refine NW fun _ => ?_)
  rename_i bc
  rcases hck with rfl | rfl
  · rw [if_pos rfl] at hdef
    by_cases hgt : la < num
    · rw [if_pos hgt] at hdef
      refine RD 12 12 (_) ?_
      refine WP 0 ?_
      refine VV 1 ?_
      refine WP 2 ?_
      refine WP 3 ?_
      refine WP 4 ?_
      refine VV 5 ?_
      refine WP 6 ?_
      refine WP 7 ?_
      refine WP 8 ?_
      refine VV 9 ?_
      refine WP 10 ?_
      rw [decide_eq_true hgt]
      refine WP 11 ?_
      refine DN ?_
      repeat (first | refine GD ?_ | refine NW fun _ => ?_)
      exact ⟨k + 1, hlt, by omega, ⟨rfl, rfl, rfl, rfl, trivial⟩, by rw [hsn, hdef]; exact II⟩
    · rw [if_neg hgt] at hdef
      refine RD 12 12 (_) ?_
      refine WP 0 ?_
      refine VV 1 ?_
      refine WP 2 ?_
      refine WP 3 ?_
      refine WP 4 ?_
      refine VV 5 ?_
      refine WP 6 ?_
      refine WP 7 ?_
      refine WP 8 ?_
      refine VV 9 ?_
      refine WP 10 ?_
      rw [decide_eq_false hgt]
      refine WP 11 ?_
      refine DN ?_
      repeat (first | refine GD ?_ | refine NW fun _ => ?_)
      exact ⟨k + 1, hlt, by omega, ⟨rfl, rfl, rfl, rfl, trivial⟩, by rw [hsn, hdef]; exact II⟩
  rw [if_neg (by decide)] at hdef
  refine RD 12 12 (_) ?_
  refine WP 0 ?_
  refine VV 1 ?_
  refine WP 2 ?_
  refine WP 3 ?_
  refine WP 4 ?_
  refine VV 5 ?_
  refine WP 6 ?_
  refine WP 7 ?_
  refine WP 8 ?_
  refine VV 9 ?_
  refine WP 10 ?_
  refine WP 11 ?_
  refine DN ?_
  by_cases hp : data = plusB
  · subst hp
    rw [if_pos (.inl rfl), show decide (plusB ≠ plusB) = false from decide_eq_false (not_not_intro rfl)] at hdef
    repeat (first | refine GD ?_ | refine NW fun _ => ?_)
    refine RD 14 15 (_) ?_
    refine WP 0 ?_
    refine WP 1 ?_
    refine WP 2 ?_
    refine VV 3 ?_
    refine WP 4 ?_
    refine VV 5 ?_
    refine WP 6 ?_
    refine WP 7 ?_
    refine WP 8 ?_
    refine VV 9 ?_
    refine WP 10 ?_
    refine WP 11 ?_
    refine VV 12 ?_
    refine WP 13 ?_
    refine WH.only 14 rfl rfl (by kernel_rfl) rfl (OP.call (pre := [qgrp pg f cha]) rfl rfl (hchg false) PS rfl rfl (fun v M hM => ?_))
    obtain ⟨rfl, rfl⟩ := hM
    refine ⟨(fun h => nomatch h), ?_⟩
    refine DN ?_
    repeat (first | refine GD ?_ | refine NW fun _ => ?_)
    exact ⟨k + 1, hlt, by omega, ⟨rfl, rfl, rfl, rfl, trivial⟩, by rw [hsn, hdef]; exact II⟩
  by_cases hm : data = minusB
  · subst hm
    rw [if_pos (.inr rfl), show decide (minusB ≠ plusB) = true by decide] at hdef
    repeat (first | refine GD ?_ | refine NW fun _ => ?_)
    refine RD 14 15 (_) ?_
    refine WP 0 ?_
    refine WP 1 ?_
    refine WP 2 ?_
    refine VV 3 ?_
    refine WP 4 ?_
    refine VV 5 ?_
    refine WP 6 ?_
    refine WP 7 ?_
    refine WP 8 ?_
    refine VV 9 ?_
    refine WP 10 ?_
    refine WP 11 ?_
    refine VV 12 ?_
    refine WP 13 ?_
    refine WH.only 14 rfl rfl (by kernel_rfl) rfl (OP.call (pre := [qgrp pg f cha]) rfl rfl (hchg true) PS rfl rfl (fun v M hM => ?_))
    obtain ⟨rfl, rfl⟩ := hM
    refine ⟨(fun h => nomatch h), ?_⟩
    refine DN ?_
    repeat (first | refine GD ?_ | refine NW fun _ => ?_)
    exact ⟨k + 1, hlt, by omega, ⟨rfl, rfl, rfl, rfl, trivial⟩, by rw [hsn, hdef]; exact II⟩
  · rw [if_neg (by rintro (h | h); exact hp h; exact hm h)] at hdef
    have hp' : ¬ data = ⟨#[43]⟩ := hp
    have hm' : ¬ data = ⟨#[45]⟩ := hm
    repeat (first | refine GD ?_ | refine NW fun _ => ?_)
    exact ⟨k + 1, hlt, by omega, ⟨rfl, rfl, rfl, rfl, trivial⟩, by rw [hsn, hdef]; exact II⟩
end Go.Proofs.YtleajkobmhhacaaGreatDoor
/- Contracts of functions of the given program, and plain laws on what they compute: parts of the proofs of laws. -/

namespace Go.Proofs.YtleajkobmhhacaaGreatDoor
open Go Go.GL

set_option maxHeartbeats 4000000 in
set_option maxRecDepth 10000 in
/-- the journal can't be opened -/
theorem cstart_er (p q g : Nat) (R0 : Rnd) (x0 : RHd) (l0 m0 : Int) (ring : Int) (jv : Value) (fv : Fst) (D : Dsk) (hD : D.ok) (hw : D.W.length < 10000) (hr64 : -9223372036854775808 ≤ ring ∧ ring ≤ 9223372036854775807) {c : Int} (ho : openM D ring = .error c) :
    Triple G 77 [.pointer (some ⟨p, 0, none⟩)] [blk p (rndC R0 x0 ++ restC l0 m0 q ring jv fv g) ndT, dsk q D]
      (fun v M => ∃ E, IsEr (some ([(jrnT, ring)], c)) v E ∧ M = E) := by
  refine Triple.enter Tryz.func77 rfl (by decide) rfl Tryz.ntmps77 rfl (fun F => ?_)
  have hop := jopen_ok q D ring hD hw hr64
  unfold OpenJ at hop
  rw [ho] at hop
  unfold rndC restC
  dsimp only [List.cons_append, List.nil_append]
  repeat (first | refine GD ?_ | refine NW fun _ => ?_)
  refine RD 8 14 (_) ?_
  refine WP 0 ?_
  refine WP 1 ?_
  refine WP 2 ?_
  refine VV 3 ?_
  refine WP 4 ?_
  refine WP 5 ?_
  refine WP 6 ?_
  refine VV 7 ?_
  refine WH.only 8 rfl rfl (by kernel_rfl) rfl (OP.call (pre := [dsk q D]) rfl rfl hop PS rfl rfl (fun v M hM => ?_))
  obtain ⟨e, E, hE, rfl, rfl⟩ := hM
  refine ⟨(fun h => nomatch h), ?_⟩
  refine WP 9 ?_
  refine WP 10 ?_
  refine WP 11 ?_
  refine WP 12 ?_
  refine WP 13 ?_
  refine DN ?_
  obtain ⟨ch, hc1, rfl, rfl⟩ := hE
  cases ch with
  | nil => cases hc1
  | cons y ch =>
  dsimp only [valOf]
  repeat (first | refine GD ?_ | refine NW fun _ => ?_)
  refine ret1 rfl ⟨_, ⟨_, ⟨y :: ch, hc1, rfl, rfl⟩, rfl⟩, II⟩
theorem newM_ne0 {l : List Int} {v c : Int} (h : newM l f0 = .error (v, c)) : c ≠ 0 := by
  rcases newM_code h with h | h <;> omega
def OpenCo (q : Nat) (fv : Fst) (V : Assn) (D : Dsk) (ring : Int) (fl : List Int) (v : Value) (M : List Assn) : Prop := match openC D ring fl with
  | .ok C => ∃ p g, v = .tuple #[.pointer (some ⟨p, 0, none⟩), .nilIface] ∧ M = [crdA p q g fv C, dsk q C.D, V]
  | .error (l, c) => ∃ e E, IsEr (some (l, c)) e E ∧ v = .tuple #[.pointer none, e] ∧ M = E ++ [V]
theorem isEr_one {l : List (ByteArray × Int)} {c : Int} {v : Value} {E : List Assn} (h : IsEr (some (l, c)) v E) (hl : l ≠ []) : ∃ y ch, ((y :: ch : Chain).map Prod.snd = l) ∧ v = .iface 248 (.pointer (some ⟨y.1, 0, none⟩)) ∧ E = [chainR (y :: ch) c] := by
  obtain ⟨ch, h1, h2, h3⟩ := h
  cases ch with
  | nil => exact absurd h1.symm hl
  | cons y ch => exact ⟨y, ch, h1, h2, h3⟩
set_option maxHeartbeats 8000000 in
set_option maxRecDepth 10000 in
theorem copen_ok (q : Nat) (ring : Int) (fv : Fst) (D : Dsk) (V : Assn) (hV : Up V) (fl : List Int) (hr : ∀ h, V h → readS fv.1 fv.2.1 1 (fl.map vI) h) (hn : fv.2.1 < 1000000) (hD : D.ok) (hw : D.W.length < 10000) (hr64 : -9223372036854775808 ≤ ring ∧ ring ≤ 9223372036854775807)
    (hJ : ∀ J D', openM D ring = .ok (J, D') → J.rng ∧ ∀ x ∈ J.held, RightR x.2) :
    Triple G 15 [.pointer (some ⟨q, 0, none⟩), .int .i64 ring, .slice fv.1 fv.2.1 fv.2.2] [dsk q D, V] (OpenCo q fv V D ring fl) := by
  refine Triple.enter Tryz.func15 rfl (by decide) rfl Tryz.ntmps15 rfl (fun F => ?_)
  have hE : ∀ {L}, V ∈ L → Ent L (readS fv.1 fv.2.1 1 (fl.map vI)) := fun m => Ent.mem m hV hr
  have hnew := new_ok fv.1 fv.2.1 fv.2.2 fl hn
  have hdef : openC D ring fl = match newM fl f0 with
    | .error (v, c) => .error ([(coordT, 0), (memT, v)], c)
    | .ok f => match openM D ring with
      | .error c => .error ([(coordT, 0), (jrnT, ring)], c)
      | .ok (J, D') => .ok (startC f J D') := rfl
  repeat (first | refine GD ?_ | refine NW fun _ => ?_)
  refine WL.step rfl (OP.callRT rfl rfl hnew (hE MM) rfl rfl ?_)
  intro v E hN
  unfold NewPost at hN
  cases hnw : newM fl f0 with
  | error vc =>
    obtain ⟨bv, c⟩ := vc
    rw [hnw] at hdef
    dsimp only at hdef
    rw [show newM fl [false, false, false, false] = .error (bv, c) from hnw] at hN
    obtain ⟨e, rfl, hF⟩ := hN
    obtain ⟨M', hi, hm⟩ := hF.isEr
    obtain ⟨y, ch, hc1, rfl, rfl⟩ := isEr_one hi (by simp)
    have hwr := cwrong_ok 0 (y :: ch) c (fun h => nomatch h.1)
    dsimp only [valOf] at hwr
    refine WL.imp (Imp.app hm _) ?_
    repeat (first | refine GD ?_ | refine NW fun _ => ?_)
    refine WL.step rfl (OP.call (pre := [chainR (y :: ch) c]) rfl rfl hwr PS rfl rfl ?_)
    intro v M hM
    rw [hc1] at hM
    repeat (first | refine GD ?_ | refine NW fun _ => ?_)
    refine ret2 rfl rfl ⟨M ++ [V], ?_, ?_⟩
    · unfold OpenCo
      rw [hdef]
      exact ⟨v, M, hM, rfl, rfl⟩
    · rw [List.append_assoc]
      exact Imp.appL II _
  | ok f =>
    rw [hnw] at hdef
    dsimp only at hdef
    rw [show newM fl [false, false, false, false] = .ok f from hnw] at hN
    obtain ⟨g, rfl, rfl⟩ := hN
    have hf4 : f.length = 4 := newM_length hnw
    repeat (first | refine GD ?_ | refine NW fun _ => ?_)
    rename_i p
    cases ho : openM D ring with
    | error c =>
      rw [ho] at hdef
      dsimp only at hdef
      have hst := cstart_er p q g rnd0 (none, 0, none) 0 0 ring (.pointer none) fv D hD hw hr64 ho
      unfold rndC restC at hst
      dsimp only [List.cons_append, List.nil_append] at hst
      refine WL.step rfl (OP.call (pre := [blk p _ ndT, dsk q D]) rfl rfl hst PS rfl rfl ?_)
      rintro v _ ⟨E, hEr, rfl⟩
      obtain ⟨y, ch, hc1, rfl, rfl⟩ := isEr_one hEr (by simp)
      have hwr := cwrong_ok 0 (y :: ch) c (fun h => nomatch h.1)
      dsimp only [valOf] at hwr
      repeat (first | refine GD ?_ | refine NW fun _ => ?_)
      refine WL.step rfl (OP.call (pre := [chainR (y :: ch) c]) rfl rfl hwr PS rfl rfl ?_)
      intro v M hM
      rw [hc1] at hM
      repeat (first | refine GD ?_ | refine NW fun _ => ?_)
      refine ret2 rfl rfl ⟨M ++ [V], ?_, ?_⟩
      · unfold OpenCo
        rw [hdef]
        exact ⟨v, M, hM, rfl, rfl⟩
      · rw [List.append_assoc]
        exact Imp.appL II _
    | ok y =>
      obtain ⟨J, D'⟩ := y
      rw [ho] at hdef
      dsimp only at hdef
      obtain ⟨j1, j2⟩ := hJ J D' ho
      have hst := cstart_ok p q g rnd0 (none, 0, none) 0 0 ring (.pointer none) fv f none 0 0 D V hV fl f hr hn hnw hf4 hD hw hr64 ho j1 j2
      unfold rndC restC at hst
      dsimp only [List.cons_append, List.nil_append] at hst
      refine WL.step rfl (OP.call (pre := [blk p _ ndT, blk g (bools f ++ [.slice none 0 0]) grT, dsk q D, V]) rfl rfl hst PS rfl rfl ?_)
      rintro _ _ ⟨rfl, rfl⟩
      repeat (first | refine GD ?_ | refine NW fun _ => ?_)
      refine ret2 rfl rfl ⟨[crdA p q g fv (startC f J D'), dsk q D', V], ?_, Imp.refl _⟩
      unfold OpenCo
      rw [hdef]
      exact ⟨p, g, rfl, rfl⟩
set_option maxHeartbeats 4000000 in
set_option maxRecDepth 10000 in
theorem ccrash_ok (p q g : Nat) (fv : Fst) (C : Crd) (B : Int) (I : CInv C B) (hB : B + 4 ≤ widest) (keep : Int) (hk : 0 ≤ keep ∧ keep < 18446744073709551616) (V : Assn) (hV : Up V) (fl : List Int) (hr : ∀ h, V h → readS fv.1 fv.2.1 1 (fl.map vI) h) (hn : fv.2.1 < 1000000) (hfl : newM fl f0 = .ok C.f) :
    Triple G 29 [.pointer (some ⟨p, 0, none⟩), .int .u64 keep] [crdA p q g fv C, dsk q C.D, V]
      (fun v M => v = .nilIface ∧ ∃ J' D', openM (C.D.crash keep) C.J.ring = .ok (J', D') ∧ J'.ring = C.J.ring ∧ J'.held = C.J.held ∧ startC C.f J' D' = { C with J := J', D := D', R := rnd0, marked := 0 } ∧ CInv { C with J := J', D := D', R := rnd0, marked := 0 } (B + 2) ∧ M = [crdA p q g fv { C with J := J', D := D', R := rnd0, marked := 0 }, dsk q D', V]) := by
  refine Triple.enter Tryz.func29 rfl (by decide) rfl Tryz.ntmps29 rfl (fun F => ?_)
  obtain ⟨J', D', ho, e1, e2, e3, I'⟩ := I.crash hB keep
  have hcw : (C.D.crash keep).W.length < 10000 := by show (0 : Nat) < 10000; decide
  have hring := I.J.ring
  have hst := fun x0 jv a0 n0 c0 => cstart_ok p q g C.R x0 C.last C.marked C.J.ring jv fv C.f a0 n0 c0 (C.D.crash keep) V hV fl C.f hr hn hfl I.f4 (Dsk.settle_ok I.J.dok _) hcw (by omega) ho (I'.J.rng (by omega)) I'.J.right
  have hdc := dcrash_ok q C.D keep hk I.J.dok (by rw [I.W]; decide)
  rw [e3] at hst I'
  refine WC.open (M := [dsk q C.D, V, F]) (Ls := crdL p q g fv C) II (fun j => ?_)
  unfold crdL
  dsimp only [List.cons_append, List.nil_append]
  refine WC.open (M := [jrn j q C.J, grp g C.f C.ch, dsk q C.D, V, F]) (Ls := rndL p ndT (restC C.last C.marked q C.J.ring (.pointer (some ⟨j, 0, none⟩)) fv g) C.R) II (fun x => ?_)
  refine WC.open (M := rndL p ndT (restC C.last C.marked q C.J.ring (.pointer (some ⟨j, 0, none⟩)) fv g) C.R x ++ [jrn j q C.J, dsk q C.D, V, F]) (Ls := fun x : Option Addr × Nat => grpL g x.1 C.ch.length x.2 C.f C.ch) (by unfold rndL; exact II) (fun y => ?_)
  have hst2 := hst x (.pointer (some ⟨j, 0, none⟩)) y.1 C.ch.length y.2
  unfold rndL grpL
  unfold rndC restC at *
  dsimp only [List.cons_append, List.nil_append] at *
  repeat (first | refine GD ?_ | refine NW fun _ => ?_)
  refine WL.step rfl (OP.call (pre := [dsk q C.D]) rfl rfl hdc PS rfl rfl ?_)
  rintro _ _ ⟨rfl, rfl⟩
  repeat (first | refine GD ?_ | refine NW fun _ => ?_)
  refine WL.step rfl (OP.call (pre := [blk p _ ndT, blk g (bools C.f ++ [.slice y.1 C.ch.length y.2]) grT, dsk q (C.D.crash keep), V]) rfl rfl hst2 PS rfl rfl ?_)
  rintro _ _ ⟨rfl, rfl⟩
  repeat (first | refine GD ?_ | refine NW fun _ => ?_)
  refine WL.step rfl (OP.callRO rfl rfl (cwrong_nil 0) (fun _ _ => trivial) rfl rfl ?_)
  repeat (first | refine GD ?_ | refine NW fun _ => ?_)
  exact ret1 rfl ⟨[crdA p q g fv { C with J := J', D := D', R := rnd0, marked := 0 }, dsk q D', V], ⟨rfl, J', D', ho, e1, e2, e3, I', rfl⟩, II⟩
end Go.Proofs.YtleajkobmhhacaaGreatDoor
