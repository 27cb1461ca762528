/- Contracts of functions of the given program, and plain laws on what they compute: parts of the proofs of laws. -/
import Derived.Test.YtkoakmaihcheaacDoorGLt
import Derived.Test.YtkoakmaihcheaacDoorQ5
import Derived.Test.YtkoakmaihcheaacDoorR13

namespace Go.Proofs.YtkoakmaihcheaacDoor
open Go Go.GL

set_option maxHeartbeats 1000000 in
set_option maxRecDepth 10000 in
theorem qtextR_ok (r : Nat) (s : PR) (hl : s.1.length < 1000000) (most : Int) :
    Triple G 34 [.pointer (some ⟨r, 0, none⟩), .int .i64 most] [qrd r s] (fun v M => v = .string (textR most s).1 ∧ M = [qrd r (textR most s).2]) := by
  refine Triple.enter Tryd.func34 rfl (by decide) rfl Tryd.ntmps34 rfl (fun F => ?_)
  repeat (first | refine GO ?_ | refine NW fun _ => ?_)
  refine WL.step rfl (OP.call (pre := [qrd r s]) rfl rfl (qnum_ok r s hl) PS rfl rfl ?_)
  rintro _ _ ⟨rfl, rfl⟩
  have hbd := numR_bd s
  unfold textR
  generalize numR s = y at *
  obtain ⟨x, l, e⟩ := y
  dsimp only at hbd ⊢
  have hsz := ba_size l
  unfold qrd
  by_cases he : e = 0
  rotate_left
  · rw [if_pos he]
    repeat (first | refine GD ?_ | refine NW fun _ => ?_)
    exact ret1 rfl ⟨_, ⟨rfl, rfl⟩, Imp.refl _⟩
  subst he
  rw [if_neg (by simp)]
  by_cases h1 : most < x
  · rw [if_pos h1]
    repeat (first | refine GD ?_ | refine NW fun _ => ?_)
    refine WL.step rfl (OP.call (pre := [blk r [.string (ba l), .int .i64 0] 84]) rfl rfl (qwrong_ok r _ 0 1) PS rfl rfl ?_)
    rintro _ _ ⟨rfl, rfl⟩
    repeat (first | refine GD ?_ | refine NW fun _ => ?_)
    exact ret1 rfl ⟨_, ⟨rfl, rfl⟩, Imp.refl _⟩
  rw [if_neg h1]
  by_cases h2 : (l.length : Int) < x
  · rw [if_pos h2]
    repeat (first | refine GD ?_ | refine NW fun _ => ?_)
    refine WL.step rfl (OP.call (pre := [blk r [.string (ba l), .int .i64 0] 84]) rfl rfl (qwrong_ok r _ 0 2) PS rfl rfl ?_)
    rintro _ _ ⟨rfl, rfl⟩
    repeat (first | refine GD ?_ | refine NW fun _ => ?_)
    exact ret1 rfl ⟨_, ⟨rfl, rfl⟩, Imp.refl _⟩
  rw [if_neg h2]
  repeat (first | refine GD ?_ | refine NW fun _ => ?_)
  rw [ba_take, ba_drop]
  exact ret1 rfl ⟨_, ⟨rfl, rfl⟩, Imp.refl _⟩
def OpenQ (l : List UInt8) : Value := if OpenOk l then .tuple #[.string (ba (l.take (l.length - 4))), .bool true] else .tuple #[.string ⟨#[]⟩, .bool false]
set_option maxHeartbeats 1000000 in
set_option maxRecDepth 10000 in
theorem qopen_ro (l : List UInt8) (hs : l.length < 100000) : RO G 32 [.string (ba l)] (fun _ => True) (OpenQ l) := by
  refine RO.enter Tryd.func32 rfl (by decide) rfl Tryd.ntmps32 rfl (fun A hu hA => ?_) (fun _ _ _ h => h)
  have hsz := ba_size l
  unfold OpenQ
  by_cases h4 : l.length < 4
  · rw [if_neg (fun h => by have := h.1; omega)]
    repeat (first | refine GD ?_ | refine NW fun _ => ?_)
    exact ret2 rfl rfl ⟨rfl, MM⟩
  have hcut : (ba l).extract 0 ((ba l).size - 4 : Int).toNat = ba (l.take (l.length - 4)) := by
    rw [ba_take, hsz]; congr 2; omega
  repeat (first | refine GD ?_ | refine NW fun _ => ?_)
  refine WL.guardT rfl rfl rfl rfl (OP.pure (nw := false) rfl (by first | exact trivial | (simp only [Holds]; omega) | (simp [Holds]; done) | (simp [Holds]; omega)) rfl rfl ?_)
  repeat (first | refine GD ?_ | refine NW fun _ => ?_)
  rw [hcut]
  refine WL.guardT rfl rfl rfl rfl (OP.callRO rfl rfl (qseal_ro (l.take (l.length - 4)) (by rw [List.length_take]; omega)) (fun _ _ => trivial) rfl rfl ?_)
  have hiff : ba (l.take (l.length - 4) ++ tailM (l.take (l.length - 4))) = ba l ↔ OpenOk l := by
    constructor
    · intro h
      have h1 := ba_inj h
      refine ⟨by omega, ?_⟩
      have h2 : l.take (l.length - 4) ++ tailM (l.take (l.length - 4)) = l.take (l.length - 4) ++ l.drop (l.length - 4) := by rw [h1, List.take_append_drop]
      exact List.append_cancel_left h2
    · intro h
      rw [h.2, List.take_append_drop]
  by_cases ho : OpenOk l
  · rw [if_pos ho]
    have he := hiff.2 ho
    repeat (first | refine GD ?_ | refine NW fun _ => ?_)
    rw [hcut]
    exact ret2 rfl rfl ⟨rfl, MM⟩
  · rw [if_neg ho]
    have he : ¬ ba (l.take (l.length - 4) ++ tailM (l.take (l.length - 4))) = ba l := fun h => ho (hiff.1 h)
    repeat (first | refine GD ?_ | refine NW fun _ => ?_)
    exact ret2 rfl rfl ⟨rfl, MM⟩
theorem rdN_wide : ∀ (l : List UInt8) (i n : Nat) {m : Nat} {t : List UInt8}, i ≤ 8 → n < 128 ^ i → rdN i n l = .ok (m, t) → (m : Int) ≤ widest
  | [], _, _, _, _, _, _, h => by cases h
  | c :: l, i, n, m, t, hi, hn, h => by
    rw [rdN_cons] at h
    split at h
    · cases h
    · rename_i hc
      have h127 : c.toNat % 128 * 128 ^ i ≤ 127 * 128 ^ i := Nat.mul_le_mul_right _ (by omega)
      have hlt : n + c.toNat % 128 * 128 ^ i < 128 ^ (i + 1) := by rw [Nat.pow_succ]; omega
      split at h
      · cases h
        by_cases h8 : i = 8
        · have : ¬ widest < ((n + c.toNat % 128 * 128 ^ i : Nat) : Int) := fun h => hc (.inl ⟨h8, .inr h⟩)
          omega
        · have : (128 : Nat) ^ (i + 1) ≤ 128 ^ 8 := Nat.pow_le_pow_right (by decide) (by omega)
          unfold widest
          omega
      · rename_i hc2
        have : ¬ i = 8 := fun h8 => hc (.inl ⟨h8, .inl (by omega)⟩)
        exact rdN_wide l (i + 1) _ (by omega) hlt h
theorem numR_wide (s : PR) : 0 ≤ (numR s).1 ∧ (numR s).1 ≤ widest := by
  refine ⟨(numR_bd s).2.1, ?_⟩
  by_cases he : s.2 = 0
  · obtain ⟨l, e⟩ := s
    obtain rfl : e = 0 := he
    rw [numR_zero]
    cases h : rdN 0 0 l with
    | ok x => obtain ⟨m, t⟩ := x; exact rdN_wide l 0 0 (by omega) (by simp) h
    | error e => simp [numF, widest]
  · rw [numR_err he]; simp [widest]
def DecQ (l : List UInt8) : Value := match decR l with
  | .ok (g, r) => .tuple #[.int .i64 g, .agg (encR r).toArray, .int .i64 0]
  | .error c => .tuple #[.int .i64 0, .agg (encR rec0).toArray, .int .i64 c]
set_option maxHeartbeats 4000000 in
set_option maxRecDepth 10000 in
theorem qdecode_ro (l : List UInt8) (hs : l.length < 100000) : RO G 14 [.string (ba l)] (fun _ => True) (DecQ l) := by
  refine RO.enter Tryd.func14 rfl (by decide) rfl Tryd.ntmps14 rfl (fun A hu hA => ?_) (fun _ _ _ h => h)
  have hsz := ba_size l
  repeat (first | refine GO ?_ | refine NW fun _ => ?_)
  refine WL.step rfl (OP.callRO rfl rfl (qopen_ro l hs) (fun _ _ => trivial) rfl rfl ?_)
  unfold OpenQ
  by_cases ho : OpenOk l
  rotate_left
  · rw [if_neg ho]
    have hdec : decR l = .error 4 := by unfold decR; rw [if_neg (fun h => ho h.1)]
    repeat (first | refine GD ?_ | refine NW fun _ => ?_)
    refine RD 2 4 (_) ?_
    refine VV 0 ?_
    refine VV 1 ?_
    refine WH.only 2 rfl rfl (by kernel_rfl) rfl (OP.store rfl rfl rfl rfl rfl rfl rfl UP rfl ⟨(fun h => nomatch h), ?_⟩)
    refine WW 3 ?_
    refine DN ?_
    repeat (first | refine GD ?_ | refine NW fun _ => ?_)
    refine ret3c rfl rfl rfl rfl rfl rfl (HasCut.ent (n := 5) HC).1 ⟨?_, MM⟩
    unfold DecQ
    rw [hdec]
    rfl
  rw [if_pos ho]
  by_cases h64 : l.length = 64
  rotate_left
  · have hdec : decR l = .error 4 := by unfold decR; rw [if_neg (fun h => h64 h.2)]
    repeat (first | refine GD ?_ | refine NW fun _ => ?_)
    refine RD 2 4 (_) ?_
    refine VV 0 ?_
    refine VV 1 ?_
    refine WH.only 2 rfl rfl (by kernel_rfl) rfl (OP.store rfl rfl rfl rfl rfl rfl rfl UP rfl ⟨(fun h => nomatch h), ?_⟩)
    refine WW 3 ?_
    refine DN ?_
    repeat (first | refine GD ?_ | refine NW fun _ => ?_)
    refine ret3c rfl rfl rfl rfl rfl rfl (HasCut.ent (n := 5) HC).1 ⟨?_, MM⟩
    unfold DecQ
    rw [hdec]
    rfl
  have e60 : l.take (l.length - 4) = l.take 60 := by rw [h64]
  rw [e60]
  have hl60 : (l.take 60).length = 60 := by rw [List.length_take]; omega
  have hdR : decR l = if (readM (l.take 60, 0)).2.2 = 0 ∧ (RightR (readM (l.take 60, 0)).1.2 ∧ (0 ≤ (readM (l.take 60, 0)).1.1 ∧ (readM (l.take 60, 0)).1.1 ≤ widest)) ∧ sectorM (bodyM (readM (l.take 60, 0)).1.1 (readM (l.take 60, 0)).1.2) = l then .ok (readM (l.take 60, 0)).1 else .error 1 := by
    unfold decR; rw [if_pos ⟨ho, by omega⟩]
  have hsz2 := readM_size (l.take 60, 0)
  unfold readM at hdR hsz2
  obtain ⟨s, hs0⟩ : ∃ s : PR, s = (l.take 60, 0) := ⟨_, rfl⟩
  have hsl : s.1.length = 60 := by rw [hs0]; exact hl60
  have hq : ∀ r, blk r [.string (ba (l.take 60)), .int .i64 0] 84 = qrd r s := fun r => by rw [hs0]; rfl
  rw [← hs0] at hdR hsz2
  have b1 := numR_bd s
  have w1 := numR_wide s
  have b2 := numR_bd (numR s).2
  have b3 := numR_bd (numR (numR s).2).2
  have b4 := numR_bd (numR (numR (numR s).2).2).2
  repeat (first | refine GD ?_ | refine NW fun _ => ?_)
  rename_i p3 p5 pr
  rw [hq pr]
  refine WL.step rfl (OP.call (pre := [qrd pr s]) rfl rfl (qnum_ok pr s (by omega)) PS rfl rfl ?_)
  rintro _ _ ⟨rfl, rfl⟩
  repeat (first | refine GO ?_ | refine NW fun _ => ?_)
  refine WL.step rfl (OP.call (pre := [qrd pr (numR s).2]) rfl rfl (qnum_ok pr (numR s).2 (by omega)) PS rfl rfl ?_)
  rintro _ _ ⟨rfl, rfl⟩
  repeat (first | refine GO ?_ | refine NW fun _ => ?_)
  refine WL.step rfl (OP.call (pre := [qrd pr (numR (numR s).2).2]) rfl rfl (qnum_ok pr (numR (numR s).2).2 (by omega)) PS rfl rfl ?_)
  rintro _ _ ⟨rfl, rfl⟩
  generalize numR s = y1 at *
  generalize numR y1.2 = y2 at *
  generalize numR y2.2 = y3 at *
  by_cases hk : y3.1 = 1
  · rw [if_pos hk] at hdR hsz2
    repeat (first | refine GD ?_ | refine NW fun _ => ?_)
    refine WL.step rfl (OP.call (pre := [qrd pr y3.2]) rfl rfl (qnum_ok pr y3.2 (by omega)) PS rfl rfl ?_)
    rintro _ _ ⟨rfl, rfl⟩
    generalize numR y3.2 = y4 at *
    repeat (first | refine GD ?_ | refine NW fun _ => ?_)
    refine WL.step rfl (OP.call (pre := [qrd pr y4.2]) rfl rfl (qtextR_ok pr y4.2 (by omega) 16) PS rfl rfl ?_)
    rintro _ _ ⟨rfl, rfl⟩
    generalize textR 16 y4.2 = y5 at *
    unfold qrd
    dsimp only at hdR hsz2
    by_cases he : y5.2.2 = 0
    rotate_left
    · have hdec : decR l = .error 1 := by rw [hdR, if_neg (fun h => he h.1)]
      repeat (first | refine GD ?_ | refine NW fun _ => ?_)
      refine RD 2 4 (_) ?_
      refine VV 0 ?_
      refine VV 1 ?_
      refine WH.only 2 rfl rfl (by kernel_rfl) rfl (OP.store rfl rfl rfl rfl rfl rfl rfl UP rfl ⟨(fun h => nomatch h), ?_⟩)
      refine WW 3 ?_
      refine DN ?_
      repeat (first | refine GD ?_ | refine NW fun _ => ?_)
      refine ret3c rfl rfl rfl rfl rfl rfl (HasCut.ent (n := 5) HC).1 ⟨?_, MM⟩
      unfold DecQ
      rw [hdec]
      rfl
    have hr1 := qright_ro (y2.1, y3.1, y4.1, y5.1, 0) (by dsimp only; omega)
    repeat (first | refine GD ?_ | refine NW fun _ => ?_)
    refine WL.guardT rfl rfl rfl rfl (OP.callRO rfl rfl hr1 (fun _ _ => trivial) rfl rfl ?_)
    by_cases hr : RightR (y2.1, y3.1, y4.1, y5.1, 0)
    rotate_left
    · have hdec : decR l = .error 1 := by rw [hdR, if_neg (fun h => hr h.2.1.1)]
      rw [decide_eq_false hr]
      repeat (first | refine GD ?_ | refine NW fun _ => ?_)
      refine RD 2 4 (_) ?_
      refine VV 0 ?_
      refine VV 1 ?_
      refine WH.only 2 rfl rfl (by kernel_rfl) rfl (OP.store rfl rfl rfl rfl rfl rfl rfl UP rfl ⟨(fun h => nomatch h), ?_⟩)
      refine WW 3 ?_
      refine DN ?_
      repeat (first | refine GD ?_ | refine NW fun _ => ?_)
      refine ret3c rfl rfl rfl rfl rfl rfl (HasCut.ent (n := 5) HC).1 ⟨?_, MM⟩
      unfold DecQ
      rw [hdec]
      rfl
    rw [decide_eq_true hr]
    repeat (first | refine GD ?_ | refine NW fun _ => ?_)
    refine WL.guardT rfl rfl rfl rfl (OP.callRO rfl rfl (qbytes_ro y1.1 (y2.1, y3.1, y4.1, y5.1, 0) hr) (fun _ _ => trivial) rfl rfl ?_)
    by_cases hb : sectorM (bodyM y1.1 (y2.1, y3.1, y4.1, y5.1, 0)) = l
    rotate_left
    · have hdec : decR l = .error 1 := by rw [hdR, if_neg (fun h => hb h.2.2)]
      have hbb : ¬ ba (sectorM (bodyM y1.1 (y2.1, y3.1, y4.1, y5.1, 0))) = ba l := fun h => hb (ba_inj h)
      repeat (first | refine GD ?_ | refine NW fun _ => ?_)
      refine RD 2 4 (_) ?_
      refine VV 0 ?_
      refine VV 1 ?_
      refine WH.only 2 rfl rfl (by kernel_rfl) rfl (OP.store rfl rfl rfl rfl rfl rfl rfl UP rfl ⟨(fun h => nomatch h), ?_⟩)
      refine WW 3 ?_
      refine DN ?_
      repeat (first | refine GD ?_ | refine NW fun _ => ?_)
      refine ret3c rfl rfl rfl rfl rfl rfl (HasCut.ent (n := 5) HC).1 ⟨?_, MM⟩
      unfold DecQ
      rw [hdec]
      rfl
    have hbb : ba (sectorM (bodyM y1.1 (y2.1, y3.1, y4.1, y5.1, 0))) = ba l := congrArg ba hb
    have hdec : decR l = .ok (y1.1, (y2.1, y3.1, y4.1, y5.1, 0)) := by rw [hdR, if_pos ⟨he, ⟨hr, w1⟩, hb⟩]
    repeat (first | refine GD ?_ | refine NW fun _ => ?_)
    refine RD 3 5 (_) ?_
    refine VV 0 ?_
    refine VV 1 ?_
    refine VV 2 ?_
    refine WH.only 3 rfl rfl (by kernel_rfl) rfl (OP.store rfl rfl rfl rfl rfl rfl rfl UP rfl ⟨(fun h => nomatch h), ?_⟩)
    refine WW 4 ?_
    refine DN ?_
    repeat (first | refine GD ?_ | refine NW fun _ => ?_)
    refine ret3c rfl rfl rfl rfl rfl rfl (HasCut.ent (n := 5) HC).1 ⟨?_, MM⟩
    unfold DecQ
    rw [hdec]
    rfl
  · rw [if_neg hk] at hdR hsz2
    repeat (first | refine GD ?_ | refine NW fun _ => ?_)
    refine WL.step rfl (OP.call (pre := [qrd pr y3.2]) rfl rfl (qnum_ok pr y3.2 (by omega)) PS rfl rfl ?_)
    rintro _ _ ⟨rfl, rfl⟩
    generalize numR y3.2 = y4 at *
    unfold qrd
    dsimp only at hdR hsz2
    by_cases he : y4.2.2 = 0
    rotate_left
    · have hdec : decR l = .error 1 := by rw [hdR, if_neg (fun h => he h.1)]
      repeat (first | refine GD ?_ | refine NW fun _ => ?_)
      refine RD 2 4 (_) ?_
      refine VV 0 ?_
      refine VV 1 ?_
      refine WH.only 2 rfl rfl (by kernel_rfl) rfl (OP.store rfl rfl rfl rfl rfl rfl rfl UP rfl ⟨(fun h => nomatch h), ?_⟩)
      refine WW 3 ?_
      refine DN ?_
      repeat (first | refine GD ?_ | refine NW fun _ => ?_)
      refine ret3c rfl rfl rfl rfl rfl rfl (HasCut.ent (n := 5) HC).1 ⟨?_, MM⟩
      unfold DecQ
      rw [hdec]
      rfl
    have hr1 := qright_ro (y2.1, y3.1, 0, ⟨#[]⟩, y4.1) (by dsimp only; omega)
    repeat (first | refine GD ?_ | refine NW fun _ => ?_)
    refine WL.guardT rfl rfl rfl rfl (OP.callRO rfl rfl hr1 (fun _ _ => trivial) rfl rfl ?_)
    by_cases hr : RightR (y2.1, y3.1, 0, ⟨#[]⟩, y4.1)
    rotate_left
    · have hdec : decR l = .error 1 := by rw [hdR, if_neg (fun h => hr h.2.1.1)]
      rw [decide_eq_false hr]
      repeat (first | refine GD ?_ | refine NW fun _ => ?_)
      refine RD 2 4 (_) ?_
      refine VV 0 ?_
      refine VV 1 ?_
      refine WH.only 2 rfl rfl (by kernel_rfl) rfl (OP.store rfl rfl rfl rfl rfl rfl rfl UP rfl ⟨(fun h => nomatch h), ?_⟩)
      refine WW 3 ?_
      refine DN ?_
      repeat (first | refine GD ?_ | refine NW fun _ => ?_)
      refine ret3c rfl rfl rfl rfl rfl rfl (HasCut.ent (n := 5) HC).1 ⟨?_, MM⟩
      unfold DecQ
      rw [hdec]
      rfl
    rw [decide_eq_true hr]
    repeat (first | refine GD ?_ | refine NW fun _ => ?_)
    refine WL.guardT rfl rfl rfl rfl (OP.callRO rfl rfl (qbytes_ro y1.1 (y2.1, y3.1, 0, ⟨#[]⟩, y4.1) hr) (fun _ _ => trivial) rfl rfl ?_)
    by_cases hb : sectorM (bodyM y1.1 (y2.1, y3.1, 0, ⟨#[]⟩, y4.1)) = l
    rotate_left
    · have hdec : decR l = .error 1 := by rw [hdR, if_neg (fun h => hb h.2.2)]
      have hbb : ¬ ba (sectorM (bodyM y1.1 (y2.1, y3.1, 0, ⟨#[]⟩, y4.1))) = ba l := fun h => hb (ba_inj h)
      repeat (first | refine GD ?_ | refine NW fun _ => ?_)
      refine RD 2 4 (_) ?_
      refine VV 0 ?_
      refine VV 1 ?_
      refine WH.only 2 rfl rfl (by kernel_rfl) rfl (OP.store rfl rfl rfl rfl rfl rfl rfl UP rfl ⟨(fun h => nomatch h), ?_⟩)
      refine WW 3 ?_
      refine DN ?_
      repeat (first | refine GD ?_ | refine NW fun _ => ?_)
      refine ret3c rfl rfl rfl rfl rfl rfl (HasCut.ent (n := 5) HC).1 ⟨?_, MM⟩
      unfold DecQ
      rw [hdec]
      rfl
    have hbb : ba (sectorM (bodyM y1.1 (y2.1, y3.1, 0, ⟨#[]⟩, y4.1))) = ba l := congrArg ba hb
    have hdec : decR l = .ok (y1.1, (y2.1, y3.1, 0, ⟨#[]⟩, y4.1)) := by rw [hdR, if_pos ⟨he, ⟨hr, w1⟩, hb⟩]
    repeat (first | refine GD ?_ | refine NW fun _ => ?_)
    refine RD 3 5 (_) ?_
    refine VV 0 ?_
    refine VV 1 ?_
    refine VV 2 ?_
    refine WH.only 3 rfl rfl (by kernel_rfl) rfl (OP.store rfl rfl rfl rfl rfl rfl rfl UP rfl ⟨(fun h => nomatch h), ?_⟩)
    refine WW 4 ?_
    refine DN ?_
    repeat (first | refine GD ?_ | refine NW fun _ => ?_)
    refine ret3c rfl rfl rfl rfl rfl rfl (HasCut.ent (n := 5) HC).1 ⟨?_, MM⟩
    unfold DecQ
    rw [hdec]
    rfl
end Go.Proofs.YtkoakmaihcheaacDoor
