/- Contracts of functions of the given program, and plain laws on what they compute: parts of the proofs of laws. -/
import Derived.Test.YtkoakmaihcheaacDoorGLt
import Derived.Test.YtkoakmaihcheaacDoorR12

namespace Go.Proofs.YtkoakmaihcheaacDoor
open Go Go.GL

theorem textR_size (most : Int) (s : PR) (hm : 0 ≤ most) : ((textR most s).1.size : Int) ≤ most := by
  have := numR_bd s
  unfold textR
  split
  · exact hm
  · split
    · exact hm
    · split
      · exact hm
      · simp only [ba_size, List.length_take]; omega
theorem readM_size (s : PR) : (readM s).1.2.2.2.2.1.size ≤ 16 := by
  unfold readM
  split
  · have := textR_size 16 (numR (numR (numR (numR s).2).2).2).2 (by decide); dsimp only; omega
  · exact Nat.zero_le _
def decR (l : List UInt8) : Except Int (Int × Rec) :=
  if OpenOk l ∧ l.length = 64 then
    if (readM (l.take 60, 0)).2.2 = 0 ∧ (RightR (readM (l.take 60, 0)).1.2 ∧ (0 ≤ (readM (l.take 60, 0)).1.1 ∧ (readM (l.take 60, 0)).1.1 ≤ widest)) ∧ sectorM (bodyM (readM (l.take 60, 0)).1.1 (readM (l.take 60, 0)).1.2) = l then .ok (readM (l.take 60, 0)).1 else .error 1
  else .error 4
def rec0 : Rec := (0, 0, 0, ⟨#[]⟩, 0)
def DecPost (l : List UInt8) (v : Value) (E : List Assn) : Prop :=
  match decR l with
  | .ok (g, r) => v = .tuple #[.int .i64 g, .agg (encR r).toArray, .nilIface] ∧ E = []
  | .error c => ∃ e, v = .tuple #[.int .i64 0, .agg (encR rec0).toArray, e] ∧ Fault recW 0 c e E
set_option maxHeartbeats 4000000 in
set_option maxRecDepth 10000 in
theorem decode5_ok (a : Option Addr) (n c : Nat) (l : List UInt8) (hn : n = l.length) (hc : n ≤ c) (hs : n < 1000000) : RT G 12 [.slice a n c] (readS a n 1 (l.map byteV)) (DecPost l) := by
  refine RT.enter Tryd.func12 rfl (by decide) rfl Tryd.ntmps12 rfl (fun A hu hA => ?_)
  have hE : ∀ {L}, A ∈ L → Ent L (readS a n 1 (l.map byteV)) := fun m => Ent.mem m hu hA
  repeat (first | refine GD ?_ | refine NW fun _ => ?_)
  refine WL.step rfl (OP.callRT rfl rfl (open_ok a n c l hn hc hs) (hE MM) rfl rfl ?_)
  rintro v E hO
  unfold OpenPost at hO
  by_cases ho : OpenOk l
  rotate_left
  · rw [if_neg ho] at hO
    obtain ⟨rfl, rfl⟩ := hO
    have hdec : decR l = .error 4 := by unfold decR; rw [if_neg (fun h => ho h.1)]
    repeat (first | refine GD ?_ | refine NW fun _ => ?_)
    refine WL.step rfl (OP.call (pre := []) (F := _) rfl rfl (wrap_ok _ _ _ (by decide)) (Imp.refl _) rfl rfl ?_)
    rintro v' E ⟨b', rfl, rfl⟩
    repeat (first | refine GD ?_ | refine NW fun _ => ?_)
    refine ret3c rfl rfl rfl rfl rfl rfl (HasCut.ent (n := 5) HC).1 ⟨[_], ?_, II⟩
    unfold DecPost
    rw [hdec]
    exact ⟨_, rfl, _, rfl, rfl⟩
  rw [if_pos ho] at hO
  obtain ⟨v1, rfl, a2, cap2, rfl, rfl⟩ := hO
  by_cases h64 : n = 64
  rotate_left
  · have hdec : decR l = .error 4 := by unfold decR; rw [if_neg (fun h => h64 (by omega))]
    repeat (first | refine GD ?_ | refine NW fun _ => ?_)
    refine WL.step rfl (OP.call (pre := []) (F := _) rfl rfl (wrap_ok _ _ _ (by decide)) (Imp.refl _) rfl rfl ?_)
    rintro v' E ⟨b', rfl, rfl⟩
    repeat (first | refine GD ?_ | refine NW fun _ => ?_)
    refine ret3c rfl rfl rfl rfl rfl rfl (HasCut.ent (n := 5) HC).1 ⟨[_], ?_, II⟩
    unfold DecPost
    rw [hdec]
    exact ⟨_, rfl, _, rfl, rfl⟩
  have e60 : l.take (l.length - 4) = l.take 60 := by rw [← hn, h64]
  have hl60 : (l.take 60).length = 60 := by rw [List.length_take]; omega
  rw [e60, hl60]
  refine WL.fact (Ent.ownLe (a := a2) (n := 60) (cap := cap2) (T := 5) (size := 1) (cs := (l.take 60).map byteV) MM) (fun hc2 => ?_)
  have hby : Bytes (ownS a2 60 cap2 5 1 ((l.take 60).map byteV)) (l.take 60) (.slice a2 60 cap2) := ⟨a2, 60, cap2, rfl, hl60.symm, hc2, fun h x => read_of_own x⟩
  repeat (first | refine GD ?_ | refine NW fun _ => ?_)
  refine WL.step rfl (OP.callRT rfl rfl (read0_ok a2 60 cap2) (fun _ _ => trivial) rfl rfl ?_)
  rintro v E ⟨r, rfl, rfl⟩
  repeat (first | refine GD ?_ | refine NW fun _ => ?_)
  refine WL.step rfl (OP.call (pre := [blk r [.slice a2 60 cap2, .int .i64 0] 107, ownS a2 60 cap2 5 1 ((l.take 60).map byteV)]) rfl rfl (read5_ok r _ (l.take 60, 0) (ownS a2 60 cap2 5 1 ((l.take 60).map byteV)) (up_ownS _ _ _ _ _ _) hby (by dsimp only; omega)) PS rfl rfl ?_)
  rintro _ _ ⟨rfl, v2, hv2, rfl⟩
  have hsz := readM_size (l.take 60, 0)
  have hdR : decR l = if (readM (l.take 60, 0)).2.2 = 0 ∧ (RightR (readM (l.take 60, 0)).1.2 ∧ (0 ≤ (readM (l.take 60, 0)).1.1 ∧ (readM (l.take 60, 0)).1.1 ≤ widest)) ∧ sectorM (bodyM (readM (l.take 60, 0)).1.1 (readM (l.take 60, 0)).1.2) = l then .ok (readM (l.take 60, 0)).1 else .error 1 := by
    unfold decR; rw [if_pos ⟨ho, by omega⟩]
  generalize readM (l.take 60, 0) = y at *
  obtain ⟨⟨g, q⟩, ⟨l2, e2⟩⟩ := y
  dsimp only at hsz hdR hv2 ⊢
  repeat (first | refine GD ?_ | refine NW fun _ => ?_)
  refine WL.step rfl (OP.callRT rfl rfl (encode_ok g q (by omega)) (fun _ _ => trivial) rfl rfl ?_)
  rintro v E hEnc
  unfold EncPost at hEnc
  by_cases hr : RightR q ∧ (0 ≤ g ∧ g ≤ widest)
  rotate_left
  · rw [if_neg hr] at hEnc
    obtain ⟨e, rfl, b1, rfl, rfl⟩ := hEnc
    have hdec : decR l = .error 1 := by rw [hdR, if_neg (fun h => hr h.2.1)]
    repeat (first | refine GD ?_ | refine NW fun _ => ?_)
    refine WL.step rfl (OP.callRO rfl rfl (err_ro r v2 e2) (Ent.whole (T := 107) MM) rfl rfl ?_)
    by_cases he2 : e2 = 0
    · repeat (first | refine GD ?_ | refine NW fun _ => ?_)
      refine WL.step rfl (OP.call (pre := []) (F := _) rfl rfl (wrap_ok _ _ _ (by decide)) (Imp.refl _) rfl rfl ?_)
      rintro v' E ⟨b', rfl, rfl⟩
      repeat (first | refine GD ?_ | refine NW fun _ => ?_)
      refine ret3c rfl rfl rfl rfl rfl rfl (HasCut.ent (n := 5) HC).1 ⟨[_], ?_, II⟩
      unfold DecPost
      rw [hdec]
      exact ⟨_, rfl, _, rfl, rfl⟩
    · repeat (first | refine GD ?_ | refine NW fun _ => ?_)
      refine WL.step rfl (OP.call (pre := []) (F := _) rfl rfl (wrap_ok _ _ _ (by decide)) (Imp.refl _) rfl rfl ?_)
      rintro v' E ⟨b', rfl, rfl⟩
      repeat (first | refine GD ?_ | refine NW fun _ => ?_)
      refine ret3c rfl rfl rfl rfl rfl rfl (HasCut.ent (n := 5) HC).1 ⟨[_], ?_, II⟩
      unfold DecPost
      rw [hdec]
      exact ⟨_, rfl, _, rfl, rfl⟩
  rw [if_pos hr] at hEnc
  obtain ⟨v3, rfl, a3, cap3, rfl, rfl⟩ := hEnc
  repeat (first | refine GD ?_ | refine NW fun _ => ?_)
  refine WL.step rfl (OP.callRO rfl rfl (err_ro r v2 e2) (Ent.whole (T := 107) MM) rfl rfl ?_)
  by_cases he2 : e2 = 0
  rotate_left
  · have hdec : decR l = .error 1 := by rw [hdR, if_neg (fun h => he2 h.1)]
    repeat (first | refine GD ?_ | refine NW fun _ => ?_)
    refine WL.step rfl (OP.call (pre := []) (F := _) rfl rfl (wrap_ok _ _ _ (by decide)) (Imp.refl _) rfl rfl ?_)
    rintro v' E ⟨b', rfl, rfl⟩
    repeat (first | refine GD ?_ | refine NW fun _ => ?_)
    refine ret3c rfl rfl rfl rfl rfl rfl (HasCut.ent (n := 5) HC).1 ⟨[_], ?_, II⟩
    unfold DecPost
    rw [hdec]
    exact ⟨_, rfl, _, rfl, rfl⟩
  repeat (first | refine GD ?_ | refine NW fun _ => ?_)
  refine WL.guardT rfl rfl rfl rfl (OP.callRO rfl rfl (beq_ro a3 a _ cap3 n c (sectorM (bodyM g q)) l) (Ent.and (Ent.own (T := 5) MM) (hE MM)) rfl rfl ?_)
  by_cases heq : sectorM (bodyM g q) = l
  rotate_left
  · have hdec : decR l = .error 1 := by rw [hdR, if_neg (fun h => heq h.2.2)]
    rw [decide_eq_false heq]
    repeat (first | refine GD ?_ | refine NW fun _ => ?_)
    refine WL.step rfl (OP.call (pre := []) (F := _) rfl rfl (wrap_ok _ _ _ (by decide)) (Imp.refl _) rfl rfl ?_)
    rintro v' E ⟨b', rfl, rfl⟩
    repeat (first | refine GD ?_ | refine NW fun _ => ?_)
    refine ret3c rfl rfl rfl rfl rfl rfl (HasCut.ent (n := 5) HC).1 ⟨[_], ?_, II⟩
    unfold DecPost
    rw [hdec]
    exact ⟨_, rfl, _, rfl, rfl⟩
  have hdec : decR l = .ok (g, q) := by rw [hdR, if_pos ⟨he2, hr, heq⟩]
  rw [decide_eq_true heq]
  repeat (first | refine GD ?_ | refine NW fun _ => ?_)
  refine RD 3 5 (_) ?_
  refine VV 0 ?_; refine VV 1 ?_; refine VV 2 ?_
  refine WH.only 3 rfl rfl (by kernel_rfl) rfl (OP.store rfl rfl rfl rfl rfl rfl rfl UP rfl ⟨(fun h => nomatch h), ?_⟩)
  refine WW 4 ?_
  refine DN ?_
  repeat (first | refine GD ?_ | refine NW fun _ => ?_)
  refine ret3c rfl rfl rfl rfl rfl rfl (HasCut.ent (n := 5) HC).1 ⟨[], ?_, II⟩
  unfold DecPost
  rw [hdec]
  exact ⟨rfl, rfl⟩
end Go.Proofs.YtkoakmaihcheaacDoor
