/- Contracts of functions of the given program, and plain laws: parts of the proofs of laws. -/
import Derived.Test.YtleajkobmhhacaaGreatDoorZPQ4
import Derived.Test.YtleajkobmhhacaaGreatDoorZPQ6
import Derived.Scope
/- Contracts of functions of the given program, and plain laws on what they compute: parts of the proofs of laws. -/

namespace Go.Proofs.YtleajkobmhhacaaGreatDoor
open Go Go.GL

set_option maxHeartbeats 1000000 in
set_option maxRecDepth 10000 in
theorem beq_ro (a1 a2 : Option Addr) (n1 c1 n2 c2 : Nat) (l1 l2 : List UInt8) : RO G 215 [.slice a1 n1 c1, .slice a2 n2 c2] (fun h => readS a1 n1 1 (l1.map byteV) h ∧ readS a2 n2 1 (l2.map byteV) h) (.bool (decide (l1 = l2))) := by
  refine RO.enter Tryz.func215 rfl (by decide) rfl Tryz.ntmps215 rfl (fun A hu hA => ?_) (up_and (up_readS _ _ _ _) (up_readS _ _ _ _))
  have hE1 : ∀ {L}, A ∈ L → Ent L (readS a1 n1 1 (l1.map byteV)) := fun m => Ent.mem m hu fun k x => (hA k x).1
  have hE2 : ∀ {L}, A ∈ L → Ent L (readS a2 n2 1 (l2.map byteV)) := fun m => Ent.mem m hu fun k x => (hA k x).2
  repeat (first | refine GO ?_ | refine NW fun _ => ?_)
  refine WL.step rfl (OP.toStr (sv := ba l1) rfl rfl rfl rfl rfl rfl rfl rfl (by rw [strCells_ba]; exact hE1 MM) rfl rfl ?_)
  repeat (first | refine GO ?_ | refine NW fun _ => ?_)
  refine WL.step rfl (OP.toStr (sv := ba l2) rfl rfl rfl rfl rfl rfl rfl rfl (by rw [strCells_ba]; exact hE2 MM) rfl rfl ?_)
  repeat (first | refine GO ?_ | refine NW fun _ => ?_)
  refine ret1 rfl ⟨?_, MM⟩
  congr 1
  by_cases h : l1 = l2
  · rw [decide_eq_true h, decide_eq_true (by rw [h])]
  · rw [decide_eq_false h, decide_eq_false (fun e => h (ba_inj e))]
set_option maxHeartbeats 1000000 in
set_option maxRecDepth 10000 in
theorem seq_ro (a1 a2 : Option Addr) (n1 c1 n2 c2 : Nat) (l1 l2 : List UInt8) (h1 : n1 = l1.length) (h2 : n2 = l2.length) (hs : n1 < 1000000) : RO G 238 [.slice a1 n1 c1, .slice a2 n2 c2] (fun h => readS a1 n1 1 (l1.map byteV) h ∧ readS a2 n2 1 (l2.map byteV) h) (.bool (decide (l1 = l2))) := by
  refine RO.enter Tryz.func238 rfl (by decide) rfl Tryz.ntmps238 rfl (fun A hu hA => ?_) (up_and (up_readS _ _ _ _) (up_readS _ _ _ _))
  have hE1 : ∀ {L}, A ∈ L → Ent L (readS a1 n1 1 (l1.map byteV)) := fun m => Ent.mem m hu fun k x => (hA k x).1
  have hE2 : ∀ {L}, A ∈ L → Ent L (readS a2 n2 1 (l2.map byteV)) := fun m => Ent.mem m hu fun k x => (hA k x).2
  by_cases hne : n1 = n2
  rotate_left
  · have : l1 ≠ l2 := fun e => hne (by rw [h1, h2, e])
    repeat (first | refine GD ?_ | refine NW fun _ => ?_)
    exact ret1 rfl ⟨by simp [this], MM⟩
  subst hne
  repeat (first | refine GD ?_ | refine NW fun _ => ?_)
  refine WC.loop (σ := Nat) (fun k => k ≤ n1 ∧ ∀ j, j < k → l1[j]? = l2[j]?)
    (fun k => [(0, .val (.slice a1 n1 c1)), (1, .val (.slice a2 n1 c2)), (12, .val (.int .i64 n1)), (13, .val (.int .i64 k))])
    (fun k => [A]) (fun k => n1 - k) 0 ⟨Nat.zero_le _, fun j hj => by omega⟩ ⟨rfl, rfl, rfl, rfl, trivial⟩ (Imp.refl _) ?_
  rintro k ⟨hk, hall⟩
  by_cases hlt : k < n1
  rotate_left
  · repeat (first | refine GD ?_ | refine NW fun _ => ?_)
    refine ret1 rfl ⟨?_, MM⟩
    have : l1 = l2 := List.ext_getElem? fun i => by
      by_cases hi : i < k
      · exact hall i hi
      · rw [List.getElem?_eq_none (by omega), List.getElem?_eq_none (by omega)]
    simp [this]
  have hl1 : k < l1.length := by omega
  have hl2 : k < l2.length := by omega
  repeat (first | refine GD ?_ | refine NW fun _ => ?_)
  refine WC.fact (Ent.some (hE1 MM) (by omega)) ?_
  rintro ⟨b, off, rfl⟩
  refine WC.fact (Ent.some (hE2 MM) (by omega)) ?_
  rintro ⟨b', off', rfl⟩
  refine RD 9 9 (_) ?_
  refine VV 0 ?_; refine VV 1 ?_; refine VV 2 ?_
  refine VQ 3 rfl (Quiet.load (v := byteV l1[k]) rfl rfl rfl (.inl ⟨rfl, Ent.elem (i := k * 1) (hE1 MM) rfl (by simp [hl1])⟩)) ?_
  refine VV 4 ?_; refine VV 5 ?_; refine VV 6 ?_
  refine VQ 7 rfl (Quiet.load (v := byteV l2[k]) rfl rfl rfl (.inl ⟨rfl, Ent.elem (i := k * 1) (hE2 MM) rfl (by simp [hl2])⟩)) ?_
  unfold byteV
  refine VV 8 ?_
  refine DN ?_
  by_cases he : l1[k] = l2[k]
  · have he2 : (l1[k].toNat : Int) = (l2[k].toNat : Int) := by rw [he]
    rw [decide_eq_true he2]
    repeat (first | refine GD ?_ | refine NW fun _ => ?_)
    exact ⟨k + 1, ⟨by omega, fun j hj => by
      by_cases e : j = k
      · subst e; rw [List.getElem?_eq_getElem hl1, List.getElem?_eq_getElem hl2, he]
      · exact hall j (by omega)⟩, by omega, ⟨rfl, rfl, rfl, rfl, trivial⟩, Imp.refl _⟩
  · have he2 : ¬ (l1[k].toNat : Int) = (l2[k].toNat : Int) := fun e => he (UInt8.toNat_inj.1 (by omega))
    rw [decide_eq_false he2]
    repeat (first | refine GD ?_ | refine NW fun _ => ?_)
    refine ret1 rfl ⟨?_, MM⟩
    have : l1 ≠ l2 := fun e => he (by subst e; rfl)
    simp [this]
set_option maxHeartbeats 1000000 in
set_option maxRecDepth 10000 in
theorem clone_ok (a : Addr) (n c : Nat) (l : List UInt8) (hn : n = l.length) (hs : n < 1000000) : RT G 240 [.slice (some a) n c] (readS (some a) n 1 (l.map byteV)) (BytesNew l) := by
  refine RT.enter Tryz.func240 rfl (by decide) rfl Tryz.ntmps240 rfl (fun A hu hA => ?_)
  have hE : ∀ {L}, A ∈ L → Ent L (readS (some a) n 1 (l.map byteV)) := fun m => Ent.mem m hu hA
  repeat (first | refine GO ?_ | refine NW fun _ => ?_)
  refine WL.step rfl (OP.lit0 (size := 1) rfl rfl rfl rfl rfl rfl (fun b => ?_))
  repeat (first | refine GO ?_ | refine NW fun _ => ?_)
  refine WL.step rfl (OP.append rfl rfl rfl rfl rfl rfl rfl rfl rfl P1 (hE MM) (allOne_bytes _) (by omega) (by omega) rfl rfl (fun a2' cap2 => ?_))
  rw [Nat.zero_add, List.nil_append]
  repeat (first | refine GO ?_ | refine NW fun _ => ?_)
  exact ret1 rfl ⟨[ownS a2' n cap2 5 1 (l.map byteV)], ⟨a2', cap2, by rw [hn], by rw [hn]⟩, II⟩
def OpenOk (l : List UInt8) : Prop := 4 ≤ l.length ∧ tailM (l.take (l.length - 4)) = l.drop (l.length - 4)
instance (l : List UInt8) : Decidable (OpenOk l) := by unfold OpenOk; infer_instance
def OpenPost (l : List UInt8) (v : Value) (E : List Assn) : Prop :=
  if OpenOk l then ∃ v1, v = .tuple #[v1, .bool true] ∧ BytesNew (l.take (l.length - 4)) v1 E else v = .tuple #[.slice none 0 0, .bool false] ∧ E = []
set_option maxHeartbeats 1000000 in
set_option maxRecDepth 10000 in
theorem open_ok (a : Option Addr) (n c : Nat) (l : List UInt8) (hn : n = l.length) (hc : n ≤ c) (hs : n < 1000000) : RT G 216 [.slice a n c] (readS a n 1 (l.map byteV)) (OpenPost l) := by
  refine RT.enter Tryz.func216 rfl (by decide) rfl Tryz.ntmps216 rfl (fun A hu hA => ?_)
  have hE : ∀ {L}, A ∈ L → Ent L (readS a n 1 (l.map byteV)) := fun m => Ent.mem m hu hA
  repeat (first | refine GO ?_ | refine NW fun _ => ?_)
  refine RD 13 13 ([A]) ?_
  by_cases h4 : n < 4
  · refine VV 0 ?_; refine VV 1 ?_
    rw [decide_eq_true (show (n : Int) - 4 < 0 by omega)]
    refine VV 2 ?_
    refine VF 3 ?_; refine VF 4 ?_; refine VF 5 ?_; refine VF 6 ?_; refine VF 7 ?_; refine VF 8 ?_; refine VF 9 ?_; refine VF 10 ?_; refine VF 11 ?_
    refine VQ 12 rfl (Quiet.pickT rfl rfl rfl) ?_
    refine DN ?_
    repeat (first | refine GD ?_ | refine NW fun _ => ?_)
    refine ret2 rfl rfl ⟨[], ?_, II⟩
    unfold OpenPost
    rw [if_neg (fun h => by have := h.1; omega)]
    exact ⟨rfl, rfl⟩
  refine VV 0 ?_; refine VV 1 ?_
  rw [decide_eq_false (show ¬ (n : Int) - 4 < 0 by omega)]
  refine VV 2 ?_; refine VV 3 ?_; refine VV 4 ?_; refine VV 5 ?_
  refine VV 7 ?_; refine VV 8 ?_; refine VV 9 ?_
  rw [show ((n : Int) - 4).toNat = n - 4 by omega]
  have hEt : ∀ {L}, A ∈ L → Ent L (readS a (n - 4) 1 ((l.take (n - 4)).map byteV)) := fun m => Ent.mem m hu fun h hh => by
    have := readS_take (m := n - 4) (hA h hh) (by omega)
    rw [Nat.mul_one, ← List.map_take] at this
    exact this
  have hEd : ∀ {L}, A ∈ L → Ent L (readS (cutA a c (n - 4) 1) (n - (n - 4)) 1 ((l.drop (n - 4)).map byteV)) := fun m => Ent.mem m hu fun h hh => by
    have := readS_cut (i := n - 4) (hA h hh) (by omega) hc
    rw [Nat.mul_one, ← List.map_drop] at this
    exact this
  refine WH.onlyG (q := true) 6 rfl rfl rfl rfl rfl rfl rfl (by kernel_rfl) rfl (.inl rfl) (fun _ => OP.callRT rfl rfl (tail_ok a (n - 4) c (l.take (n - 4)) (by rw [List.length_take]; omega) (by omega)) (hEt MM) rfl rfl (fun v E hE' => ?_)) (fun h => nomatch h)
  obtain ⟨a1, cap1, rfl, rfl⟩ := hE'
  refine ⟨fun _ => II, ?_⟩
  refine WH.onlyG (q := true) 10 rfl rfl rfl rfl rfl rfl rfl (by kernel_rfl) rfl (.inl rfl) (fun _ => OP.callRO rfl rfl (seq_ro a1 (cutA a c (n - 4) 1) _ cap1 (n - (n - 4)) (c - (n - 4)) (tailM (l.take (n - 4))) (l.drop (n - 4)) rfl (by rw [List.length_drop]; omega) (by rw [tailM_len]; decide)) (Ent.and (Ent.own (T := 5) MM) (hEd MM)) rfl rfl ⟨fun _ => II, ?_⟩) (fun h => nomatch h)
  by_cases heq : tailM (l.take (n - 4)) = l.drop (n - 4)
  · rw [decide_eq_true heq]
    refine VV 11 ?_; refine VV 12 ?_
    refine DN ?_
    refine WC.fact (Ent.some (hE MM) (by omega)) ?_
    rintro ⟨b, off, rfl⟩
    repeat (first | refine GD ?_ | refine NW fun _ => ?_)
    rw [show ((n : Int) - 4).toNat = n - 4 by omega]
    refine WL.step rfl (OP.callRT rfl rfl (clone_ok ⟨b, off, none⟩ (n - 4) c (l.take (n - 4)) (by rw [List.length_take]; omega) (by omega)) (hEt MM) rfl rfl ?_)
    rintro v E ⟨a2, cap2, rfl, rfl⟩
    repeat (first | refine GD ?_ | refine NW fun _ => ?_)
    refine ret2 rfl rfl ⟨[_], ?_, II⟩
    unfold OpenPost
    rw [if_pos ⟨by omega, by rw [← hn]; exact heq⟩, ← hn]
    exact ⟨_, rfl, a2, cap2, rfl, rfl⟩
  · rw [decide_eq_false heq]
    refine VV 11 ?_; refine VV 12 ?_
    refine DN ?_
    repeat (first | refine GD ?_ | refine NW fun _ => ?_)
    refine ret2 rfl rfl ⟨[], ?_, II⟩
    unfold OpenPost
    rw [if_neg (fun h => heq (by have := h.2; rwa [← hn] at this))]
    exact ⟨rfl, rfl⟩
end Go.Proofs.YtleajkobmhhacaaGreatDoor
/- Contracts of functions of the given program, and plain laws on what they compute: parts of the proofs of laws. -/

namespace Go.Proofs.YtleajkobmhhacaaGreatDoor
open Go Go.GL

theorem textR_size (most : Int) (s : PR) (hm : 0 ≤ most) : ((textR most s).1.size : Int) ≤ most := by
  have := numR_bd s
  unfold textR
  split
  · exact hm
  · split
    · exact hm
    · split
      · exact hm
      · simp only [ba_size, List.length_take]; omega
theorem readM_size (s : PR) : (readM s).1.2.2.2.2.1.size ≤ 16 := by
  unfold readM
  split
  · have := textR_size 16 (numR (numR (numR (numR s).2).2).2).2 (by decide); dsimp only; omega
  · exact Nat.zero_le _
def decR (l : List UInt8) : Except Int (Int × Rec) :=
  if OpenOk l ∧ l.length = 64 then
    if (readM (l.take 60, 0)).2.2 = 0 ∧ (RightR (readM (l.take 60, 0)).1.2 ∧ (0 ≤ (readM (l.take 60, 0)).1.1 ∧ (readM (l.take 60, 0)).1.1 ≤ widest)) ∧ sectorM (bodyM (readM (l.take 60, 0)).1.1 (readM (l.take 60, 0)).1.2) = l then .ok (readM (l.take 60, 0)).1 else .error 1
  else .error 4
def rec0 : Rec := (0, 0, 0, ⟨#[]⟩, 0)
def DecPost (l : List UInt8) (v : Value) (E : List Assn) : Prop :=
  match decR l with
  | .ok (g, r) => v = .tuple #[.int .i64 g, .agg (encR r).toArray, .nilIface] ∧ E = []
  | .error c => ∃ e, v = .tuple #[.int .i64 0, .agg (encR rec0).toArray, e] ∧ Fault recW 0 c e E
set_option maxHeartbeats 4000000 in
set_option maxRecDepth 10000 in
theorem decode5_ok (a : Option Addr) (n c : Nat) (l : List UInt8) (hn : n = l.length) (hc : n ≤ c) (hs : n < 1000000) : RT G 233 [.slice a n c] (readS a n 1 (l.map byteV)) (DecPost l) := by
  refine RT.enter Tryz.func233 rfl (by decide) rfl Tryz.ntmps233 rfl (fun A hu hA => ?_)
  have hE : ∀ {L}, A ∈ L → Ent L (readS a n 1 (l.map byteV)) := fun m => Ent.mem m hu hA
  repeat (first | refine GD ?_ | refine NW fun _ => ?_)
  refine WL.step rfl (OP.callRT rfl rfl (open_ok a n c l hn hc hs) (hE MM) rfl rfl ?_)
  rintro v E hO
  unfold OpenPost at hO
  by_cases ho : OpenOk l
  rotate_left
  · rw [if_neg ho] at hO
    obtain ⟨rfl, rfl⟩ := hO
    have hdec : decR l = .error 4 := by unfold decR; rw [if_neg (fun h => ho h.1)]
    repeat (first | refine GD ?_ | refine NW fun _ => ?_)
    refine WL.step rfl (OP.call (pre := []) (F := _) rfl rfl (wrap_ok _ _ _ (by decide)) (Imp.refl _) rfl rfl ?_)
    rintro v' E ⟨b', rfl, rfl⟩
    repeat (first | refine GD ?_ | refine NW fun _ => ?_)
    refine ret3c rfl rfl rfl rfl rfl rfl (HasCut.ent (n := 5) HC).1 ⟨[_], ?_, II⟩
    unfold DecPost
    rw [hdec]
    exact ⟨_, rfl, _, rfl, rfl⟩
  rw [if_pos ho] at hO
  obtain ⟨v1, rfl, a2, cap2, rfl, rfl⟩ := hO
  by_cases h64 : n = 64
  rotate_left
  · have hdec : decR l = .error 4 := by unfold decR; rw [if_neg (fun h => h64 (by omega))]
    repeat (first | refine GD ?_ | refine NW fun _ => ?_)
    refine WL.step rfl (OP.call (pre := []) (F := _) rfl rfl (wrap_ok _ _ _ (by decide)) (Imp.refl _) rfl rfl ?_)
    rintro v' E ⟨b', rfl, rfl⟩
    repeat (first | refine GD ?_ | refine NW fun _ => ?_)
    refine ret3c rfl rfl rfl rfl rfl rfl (HasCut.ent (n := 5) HC).1 ⟨[_], ?_, II⟩
    unfold DecPost
    rw [hdec]
    exact ⟨_, rfl, _, rfl, rfl⟩
  have e60 : l.take (l.length - 4) = l.take 60 := by rw [← hn, h64]
  have hl60 : (l.take 60).length = 60 := by rw [List.length_take]; omega
  rw [e60, hl60]
  refine WL.fact (Ent.ownLe (a := a2) (n := 60) (cap := cap2) (T := 5) (size := 1) (cs := (l.take 60).map byteV) MM) (fun hc2 => ?_)
  have hby : Bytes (ownS a2 60 cap2 5 1 ((l.take 60).map byteV)) (l.take 60) (.slice a2 60 cap2) := ⟨a2, 60, cap2, rfl, hl60.symm, hc2, fun h x => read_of_own x⟩
  repeat (first | refine GD ?_ | refine NW fun _ => ?_)
  refine WL.step rfl (OP.callRT rfl rfl (read0_ok a2 60 cap2) (fun _ _ => trivial) rfl rfl ?_)
  rintro v E ⟨r, rfl, rfl⟩
  repeat (first | refine GD ?_ | refine NW fun _ => ?_)
  refine WL.step rfl (OP.call (pre := [blk r [.slice a2 60 cap2, .int .i64 0] 356, ownS a2 60 cap2 5 1 ((l.take 60).map byteV)]) rfl rfl (read5_ok r _ (l.take 60, 0) (ownS a2 60 cap2 5 1 ((l.take 60).map byteV)) (up_ownS _ _ _ _ _ _) hby (by dsimp only; omega)) PS rfl rfl ?_)
  rintro _ _ ⟨rfl, v2, hv2, rfl⟩
  have hsz := readM_size (l.take 60, 0)
  have hdR : decR l = if (readM (l.take 60, 0)).2.2 = 0 ∧ (RightR (readM (l.take 60, 0)).1.2 ∧ (0 ≤ (readM (l.take 60, 0)).1.1 ∧ (readM (l.take 60, 0)).1.1 ≤ widest)) ∧ sectorM (bodyM (readM (l.take 60, 0)).1.1 (readM (l.take 60, 0)).1.2) = l then .ok (readM (l.take 60, 0)).1 else .error 1 := by
    unfold decR; rw [if_pos ⟨ho, by omega⟩]
  generalize readM (l.take 60, 0) = y at *
  obtain ⟨⟨g, q⟩, ⟨l2, e2⟩⟩ := y
  dsimp only at hsz hdR hv2 ⊢
  repeat (first | refine GD ?_ | refine NW fun _ => ?_)
  refine WL.step rfl (OP.callRT rfl rfl (encode_ok g q (by omega)) (fun _ _ => trivial) rfl rfl ?_)
  rintro v E hEnc
  unfold EncPost at hEnc
  by_cases hr : RightR q ∧ (0 ≤ g ∧ g ≤ widest)
  rotate_left
  · rw [if_neg hr] at hEnc
    obtain ⟨e, rfl, b1, rfl, rfl⟩ := hEnc
    have hdec : decR l = .error 1 := by rw [hdR, if_neg (fun h => hr h.2.1)]
    repeat (first | refine GD ?_ | refine NW fun _ => ?_)
    refine WL.step rfl (OP.callRO rfl rfl (err_ro r v2 e2) (Ent.whole (T := 356) MM) rfl rfl ?_)
    by_cases he2 : e2 = 0
    · repeat (first | refine GD ?_ | refine NW fun _ => ?_)
      refine WL.step rfl (OP.call (pre := []) (F := _) rfl rfl (wrap_ok _ _ _ (by decide)) (Imp.refl _) rfl rfl ?_)
      rintro v' E ⟨b', rfl, rfl⟩
      repeat (first | refine GD ?_ | refine NW fun _ => ?_)
      refine ret3c rfl rfl rfl rfl rfl rfl (HasCut.ent (n := 5) HC).1 ⟨[_], ?_, II⟩
      unfold DecPost
      rw [hdec]
      exact ⟨_, rfl, _, rfl, rfl⟩
    · repeat (first | refine GD ?_ | refine NW fun _ => ?_)
      refine WL.step rfl (OP.call (pre := []) (F := _) rfl rfl (wrap_ok _ _ _ (by decide)) (Imp.refl _) rfl rfl ?_)
      rintro v' E ⟨b', rfl, rfl⟩
      repeat (first | refine GD ?_ | refine NW fun _ => ?_)
      refine ret3c rfl rfl rfl rfl rfl rfl (HasCut.ent (n := 5) HC).1 ⟨[_], ?_, II⟩
      unfold DecPost
      rw [hdec]
      exact ⟨_, rfl, _, rfl, rfl⟩
  rw [if_pos hr] at hEnc
  obtain ⟨v3, rfl, a3, cap3, rfl, rfl⟩ := hEnc
  repeat (first | refine GD ?_ | refine NW fun _ => ?_)
  refine WL.step rfl (OP.callRO rfl rfl (err_ro r v2 e2) (Ent.whole (T := 356) MM) rfl rfl ?_)
  by_cases he2 : e2 = 0
  rotate_left
  · have hdec : decR l = .error 1 := by rw [hdR, if_neg (fun h => he2 h.1)]
    repeat (first | refine GD ?_ | refine NW fun _ => ?_)
    refine WL.step rfl (OP.call (pre := []) (F := _) rfl rfl (wrap_ok _ _ _ (by decide)) (Imp.refl _) rfl rfl ?_)
    rintro v' E ⟨b', rfl, rfl⟩
    repeat (first | refine GD ?_ | refine NW fun _ => ?_)
    refine ret3c rfl rfl rfl rfl rfl rfl (HasCut.ent (n := 5) HC).1 ⟨[_], ?_, II⟩
    unfold DecPost
    rw [hdec]
    exact ⟨_, rfl, _, rfl, rfl⟩
  repeat (first | refine GD ?_ | refine NW fun _ => ?_)
  refine WL.guardT rfl rfl rfl rfl (OP.callRO rfl rfl (beq_ro a3 a _ cap3 n c (sectorM (bodyM g q)) l) (Ent.and (Ent.own (T := 5) MM) (hE MM)) rfl rfl ?_)
  by_cases heq : sectorM (bodyM g q) = l
  rotate_left
  · have hdec : decR l = .error 1 := by rw [hdR, if_neg (fun h => heq h.2.2)]
    rw [decide_eq_false heq]
    repeat (first | refine GD ?_ | refine NW fun _ => ?_)
    refine WL.step rfl (OP.call (pre := []) (F := _) rfl rfl (wrap_ok _ _ _ (by decide)) (Imp.refl _) rfl rfl ?_)
    rintro v' E ⟨b', rfl, rfl⟩
    repeat (first | refine GD ?_ | refine NW fun _ => ?_)
    refine ret3c rfl rfl rfl rfl rfl rfl (HasCut.ent (n := 5) HC).1 ⟨[_], ?_, II⟩
    unfold DecPost
    rw [hdec]
    exact ⟨_, rfl, _, rfl, rfl⟩
  have hdec : decR l = .ok (g, q) := by rw [hdR, if_pos ⟨he2, hr, heq⟩]
  rw [decide_eq_true heq]
  repeat (first | refine GD ?_ | refine NW fun _ => ?_)
  refine RD 3 5 (_) ?_
  refine VV 0 ?_; refine VV 1 ?_; refine VV 2 ?_
  refine WH.only 3 rfl rfl (by kernel_rfl) rfl (OP.store rfl rfl rfl rfl rfl rfl rfl UP rfl ⟨(fun h => nomatch h), ?_⟩)
  refine WW 4 ?_
  refine DN ?_
  repeat (first | refine GD ?_ | refine NW fun _ => ?_)
  refine ret3c rfl rfl rfl rfl rfl rfl (HasCut.ent (n := 5) HC).1 ⟨[], ?_, II⟩
  unfold DecPost
  rw [hdec]
  exact ⟨rfl, rfl⟩
end Go.Proofs.YtleajkobmhhacaaGreatDoor
/- Contracts of functions of the given program, and plain laws on what they compute: parts of the proofs of laws. -/

namespace Go.Proofs.YtleajkobmhhacaaGreatDoor
open Go Go.GL

theorem textR_textB {d : ByteArray} (hd : d.size ≤ 16) (rest : List UInt8) : textR 16 (textB d ++ rest, 0) = (d, (rest, 0)) := by
  have hw : (16 : Int) ≤ widest := by decide
  have hl : d.data.toList.length = d.size := Array.length_toList
  have hc := clamp_nat d.size (by omega)
  have h := numR_numB (x := (d.size : Int)) (by omega) (d.data.toList ++ rest)
  rw [hc] at h
  unfold textB textR
  rw [List.append_assoc, h]
  dsimp only
  rw [if_neg (by simp), if_neg (by omega), if_neg (by rw [List.length_append]; omega), Int.toNat_natCast, ← hl, List.take_left, List.drop_left, ba_data]
theorem readM_body {g : Int} {r : Rec} (hr : RightR r) (hg : 0 ≤ g ∧ g ≤ widest) (rest : List UInt8) : readM (bodyM g r ++ rest, 0) = ((g, r), (rest, 0)) := by
  obtain ⟨s1, k1, b1, d1, n1⟩ := r
  obtain ⟨hs1, hc1⟩ := hr
  have hw : (8 : Int) ≤ widest := by decide
  dsimp only at hs1 hc1
  unfold bodyM
  dsimp only
  simp only [List.append_assoc]
  unfold readM
  rw [numR_numB hg, numR_numB (by omega), numR_numB (by omega)]
  by_cases hk : k1 = 1
  · rw [if_pos hk, if_pos hk]
    have hc1 := hc1.resolve_left (fun x => by omega)
    simp only [List.append_assoc]
    rw [numR_numB (by omega), textR_textB hc1.2.2.1, hc1.2.2.2]
  · rw [if_neg hk, if_neg hk]
    have hc1 := hc1.resolve_right (fun x => hk x.1)
    rw [numR_numB (by omega), hc1.2.2.1, hc1.2.2.2]
theorem decR_enc {g : Int} {r : Rec} (hr : RightR r) (hg : 0 ≤ g ∧ g ≤ widest) : decR (sectorM (bodyM g r)) = .ok (g, r) := by
  have hp := padM_len (bodyM_len (gen := g) hr)
  have hl := sectorM_len (bodyM_len (gen := g) hr)
  have e1 : (sectorM (bodyM g r)).take 60 = padM (bodyM g r) := by unfold sectorM; rw [List.take_left' hp]
  have e2 : (sectorM (bodyM g r)).drop 60 = tailM (padM (bodyM g r)) := by unfold sectorM; rw [List.drop_left' hp]
  have ho : OpenOk (sectorM (bodyM g r)) := by
    unfold OpenOk
    rw [hl]
    exact ⟨by omega, by rw [e1, e2]⟩
  unfold decR
  rw [if_pos ⟨ho, hl⟩, e1]
  have := readM_body hr hg (List.replicate (60 - (bodyM g r).length) 0)
  unfold padM
  rw [this, if_pos ⟨rfl, ⟨hr, hg⟩, rfl⟩]
theorem decR_ok {l : List UInt8} {g : Int} {r : Rec} (h : decR l = .ok (g, r)) : RightR r ∧ (0 ≤ g ∧ g ≤ widest) ∧ sectorM (bodyM g r) = l ∧ r.2.2.2.1.size ≤ 16 := by
  have hsz := readM_size (l.take 60, 0)
  unfold decR at h
  split at h
  · split at h
    · rename_i hc
      simp only [Except.ok.injEq] at h
      rw [h] at hc hsz
      exact ⟨hc.2.1.1, hc.2.1.2, hc.2.2, hsz⟩
    · cases h
  · cases h
end Go.Proofs.YtleajkobmhhacaaGreatDoor
/- Memory under a name: predicates that hide their addresses; reading out of memory that is lent. -/
namespace Go.GL
open Go
/-- There is an x for which these hold of separate parts. -/
def exA {ι : Type} (Ls : ι → List Assn) : Assn := fun h => ∃ x, stars (Ls x) h
theorem up_exA {ι : Type} (Ls : ι → List Assn) : Up (exA Ls) := fun _ _ l ⟨x, s⟩ => ⟨x, stars_mono l s⟩
theorem stars_open {ι : Type} {Ls : ι → List Assn} {L : List Assn} {h : Hp} (s : stars (exA Ls :: L) h) : ∃ x, stars (Ls x ++ L) h := by
  obtain ⟨x, s⟩ := stars_ex (A := fun x => stars (Ls x)) s
  exact ⟨x, stars_append.2 s⟩
theorem Imp.fold {ι : Type} {Ls : ι → List Assn} (x : ι) {M : List Assn} : Imp (Ls x ++ M) (exA Ls :: M) := fun _ s => stars_head_mono (fun _ hk => ⟨x, hk⟩) (stars_append.1 s)
/-- fold, the parts wherever they are -/
theorem Imp.foldP {ι : Type} {Ls : ι → List Assn} (x : ι) {L N M : List Assn} (p : Picks L (Ls x) N) (i : Imp (exA Ls :: N) M) : Imp L M := (p.imp.trans (Imp.fold x)).trans i
theorem Imp.appL {L M : List Assn} (i : Imp L M) : ∀ (E : List Assn), Imp (E ++ L) (E ++ M)
  | [] => i
  | _ :: E => (Imp.appL i E).cons
theorem Ent.of {A : Assn} {Ls L : List Assn} {R : Assn} (hu : Up A) (hA : ∀ k, A k → stars Ls k) (m : A ∈ L) (e : Ent Ls R) : Ent L R := Ent.mem m hu fun k a => e k (hA k a)
theorem Ent.at {A : Assn} {L : List Assn} (hu : Up A) (m : A ∈ L) : Ent L A := Ent.mem m hu fun _ a => a
theorem Ent.ofImp {L M : List Assn} (i : Imp L M) : Ent L (stars M) := fun h s => i h s
theorem Ent.ex {ι : Type} {Ls : ι → List Assn} {L : List Assn} (m : exA Ls ∈ L) : Ent L (exA Ls) := Ent.mem m (up_exA _) fun _ a => a
theorem Ent.exI {ι : Type} {Ls : ι → List Assn} {L : List Assn} (x : ι) (i : Imp L (Ls x)) : Ent L (exA Ls) := fun h s => ⟨x, i h s⟩
section
variable {G : Ctx} {N : Nat} {env : Env} {L M S : List Assn} {k : Kont} {ops : Array Oper} {rest : List Oper} {o : Oper} {c : Code} {ι : Type} {Ls : ι → List Assn}
theorem WC.open (i : Imp L (exA Ls :: M)) (h : ∀ x, WC G N c env (Ls x ++ M) k) : WC G N c env L k := .mk fun a w ha hs => by
  obtain ⟨x, s⟩ := stars_open (i.sat hs)
  exact (h x) a w ha s
theorem WL.open (i : Imp L (exA Ls :: M)) (h : ∀ x, WL G N ops rest env (Ls x ++ M) k) : WL G N ops rest env L k := .mk fun a w ha hs => by
  obtain ⟨x, s⟩ := stars_open (i.sat hs)
  exact (h x) a w ha s
theorem OP.open {post : Env → List Assn → Prop} (i : Imp L (exA Ls :: M)) (h : ∀ x, OP G N o env (Ls x ++ M) post) : OP G N o env L post := .mk fun a w ha hs => by
  obtain ⟨x, s⟩ := stars_open (i.sat hs)
  exact (h x) a w ha s
theorem RO.enterEx {f : FuncId} {fn : Func} {c : Code} {vs : List Value} {rs : List ResultVar} {v : Value} (hf : G.P.funcs[f]? = some fn) (hb : fn.body = some c) (hname : (fn.name == "runtime.NumGoroutine") = false) (hr : fn.results = rs.toArray) (hn : fn.ntmps = N)
    (hv : Nat.ble vs.length N = true) (h : ∀ x A, Up A → (∀ k, A k → stars (Ls x) k) → WC G N c (args0 0 vs) [A] (retK G rs (fun v' M => v' = v ∧ A ∈ M))) : RO G f vs (exA Ls) v :=
  ⟨⟨fn, c, hf, hname, hb⟩, fun w ⟨x, hw⟩ => (body_calls hf hb hr hn hv (h x (old w) (up_old w) (fun _ l => stars_mono l hw)) w (Sat.old w)).mono fun _ _ ⟨_, _, e, ⟨e1, e2⟩, s⟩ => ⟨by rw [e, e1], ext_of_old e2 s⟩⟩
theorem RT.enterEx {f : FuncId} {fn : Func} {c : Code} {vs : List Value} {rs : List ResultVar} {p : Value → List Assn → Prop} (hf : G.P.funcs[f]? = some fn) (hb : fn.body = some c) (hname : (fn.name == "runtime.NumGoroutine") = false) (hr : fn.results = rs.toArray) (hn : fn.ntmps = N)
    (hv : Nat.ble vs.length N = true) (h : ∀ x A, Up A → (∀ k, A k → stars (Ls x) k) → WC G N c (args0 0 vs) [A] (retK G rs (fun v M => ∃ E, p v E ∧ Imp M (E ++ [A])))) : RT G f vs (exA Ls) p := by
  refine ⟨⟨fn, c, hf, hname, hb⟩, fun M w he hs => ?_⟩
  obtain ⟨x, hx⟩ := he _ hs
  refine (body_calls hf hb hr hn hv (h x (fun k => stars M k ∧ stars (Ls x) k) (up_and (up_stars _) (up_stars _)) (fun _ a => a.2)) w (stars_one.1 hs |> fun _ => ?_)).mono ?_
  · exact ⟨hpOf w, Hp.empty, fun _ => .inr rfl, by funext b; simp [Hp.join, Hp.empty], ⟨hs, hx⟩, trivial⟩
  · rintro _ w' ⟨v, L, e, ⟨E, h1, h2⟩, s⟩
    exact ⟨v, E, e, h1, stars_app_one.2 (Imp.appL (fun _ s => stars_head_mono (fun _ a => a.1) s) E _ (h2 _ s))⟩
/-- a test parts the ways -/
theorem WC.split {c : Operand} {x y : Code} {p : Prop} [Decidable p] (hc : rd none env c = some (none, .bool (decide p))) (ht : p → WC G N x env L k) (hf : ¬ p → WC G N y env L k) : WC G N (.cond c x y) env L k :=
  .cond hc (fun h => ht (of_decide_eq_true h)) (fun h => hf (of_decide_eq_false h))
theorem WC.splitN {c : Operand} {x y : Code} {p : Prop} [Decidable p] (hc : rd none env c = some (none, .bool (!decide p))) (ht : ¬ p → WC G N x env L k) (hf : p → WC G N y env L k) : WC G N (.cond c x y) env L k :=
  .cond hc (fun h => ht (by simpa using h)) (fun h => hf (by simpa using h))
end
/-! ### elements of several cells -/
theorem flat_len {α : Type} {f : α → List Value} {z : Nat} (hz : ∀ x, (f x).length = z) : ∀ (l : List α), (l.flatMap f).length = l.length * z
  | [] => by simp
  | x :: l => by rw [List.flatMap_cons, List.length_append, hz, flat_len hz l, List.length_cons, Nat.succ_mul, Nat.add_comm]
theorem flat_drop {α : Type} {f : α → List Value} {z : Nat} (hz : ∀ x, (f x).length = z) : ∀ (l : List α) (k : Nat), (l.flatMap f).drop (k * z) = (l.drop k).flatMap f
  | [], k => by simp
  | x :: l, 0 => by simp
  | x :: l, k + 1 => by
    rw [List.flatMap_cons, List.drop_succ_cons, ← flat_drop hz l k, Nat.succ_mul, Nat.add_comm, ← List.drop_drop]
    congr 1
    rw [List.drop_append_of_le_length (by rw [hz]; exact Nat.le_refl _), List.drop_eq_nil_of_le (by rw [hz]; exact Nat.le_refl _), List.nil_append]
theorem flat_take {α : Type} {f : α → List Value} {z : Nat} (hz : ∀ x, (f x).length = z) : ∀ (l : List α) (k : Nat), (l.flatMap f).take (k * z) = (l.take k).flatMap f
  | [], k => by simp
  | x :: l, 0 => by simp
  | x :: l, k + 1 => by
    rw [List.flatMap_cons, List.take_succ_cons, List.flatMap_cons, ← flat_take hz l k, Nat.succ_mul, Nat.add_comm, List.take_append, List.take_of_length_le (by rw [hz]; omega), hz]
    congr 2
    omega
theorem flat_cut {α : Type} {f : α → List Value} {z : Nat} (hz : ∀ x, (f x).length = z) (l : List α) (k : Nat) (h : k < l.length) : f l[k] = ((l.flatMap f).drop (k * z)).take z := by
  rw [flat_drop hz, List.drop_eq_getElem_cons h, List.flatMap_cons, List.take_append_of_le_length (by rw [hz]; exact Nat.le_refl _), List.take_of_length_le (by rw [hz]; exact Nat.le_refl _)]
theorem flat_get {α : Type} {f : α → List Value} {z : Nat} (hz : ∀ x, (f x).length = z) (l : List α) (k j : Nat) (h : k < l.length) (hj : j < z) : (l.flatMap f)[k * z + j]? = (f l[k])[j]? := by
  rw [flat_cut hz l k h, List.getElem?_take, if_pos hj, List.getElem?_drop]
theorem flat_set {α : Type} {f : α → List Value} {z : Nat} (hz : ∀ x, (f x).length = z) : ∀ (l : List α) (k : Nat) (x : α), k < l.length → setMany (l.flatMap f) (k * z) (f x) = some ((l.set k x).flatMap f) := by
  intro l k x h
  have h1 : l.flatMap f = (l.take k).flatMap f ++ f l[k] ++ (l.drop (k + 1)).flatMap f := by
    conv => lhs; rw [← List.take_append_drop k l, List.drop_eq_getElem_cons h]
    rw [List.flatMap_append, List.flatMap_cons, List.append_assoc]
  have h2 : (l.set k x).flatMap f = (l.take k).flatMap f ++ f x ++ (l.drop (k + 1)).flatMap f := by
    rw [List.set_eq_take_append_cons_drop, if_pos h, List.flatMap_append, List.flatMap_cons, List.append_assoc]
  rw [h2, h1]
  have h3 := setMany_mid (f x) ((l.take k).flatMap f) (f l[k]) ((l.drop (k + 1)).flatMap f) (by rw [hz, hz])
  rw [flat_len hz, List.length_take, Nat.min_eq_left (by omega)] at h3
  exact h3
/-- a field of an element of a slice that is read -/
theorem Ent.elF {L : List Assn} {α : Type} {f : α → List Value} {z : Nat} (hz : ∀ x, (f x).length = z) {l : List α} {n k j b off : Nat} {v : Value} (hr : Ent L (readS (Option.some ⟨b, off, Option.none⟩) n z (l.flatMap f))) (h : k < l.length) (hj : Nat.blt j z = true) (hv : (f l[k])[j]? = Option.some v) :
    Ent L (cellAt b (off + k * z + j) v) := by
  rw [Nat.add_assoc]
  exact Ent.elem hr rfl ((flat_get hz l k j h (by simpa [Nat.blt_eq] using hj)).trans hv)
/-- an element as a whole -/
theorem Ent.elA {L : List Assn} {α : Type} {f : α → List Value} {z : Nat} (hz : ∀ x, (f x).length = z) {l : List α} {n k b off : Nat} (hr : Ent L (readS (Option.some ⟨b, off, Option.none⟩) n z (l.flatMap f))) (h : k < l.length) :
    Ent L (cellsAt b (off + k * z) (f l[k])) := Ent.elems hr rfl (by rw [hz]; exact flat_cut hz l k h)
theorem Ent.ofOwn {L : List Assn} {a : Option Addr} {n cap : Nat} {T : TypeId} {size : Nat} {cs : List Value} (m : ownS a n cap T size cs ∈ L) : Ent L (readS a n size cs) := Ent.own m
end Go.GL
/- Stores into what a slice owns. -/
namespace Go.GL
open Go
theorem setMany_app : ∀ (vs pre cs post : List Value) (i : Nat) {cs' : List Value}, setMany cs i vs = some cs' → setMany (pre ++ cs ++ post) (pre.length + i) vs = some (pre ++ cs' ++ post) ∧ cs'.length = cs.length
  | [], pre, cs, post, i, cs', h => by cases h; exact ⟨rfl, rfl⟩
  | v :: vs, pre, cs, post, i, cs', h => by
    simp only [setMany] at h
    split at h
    · rename_i c2 hc2
      obtain ⟨e, hlt⟩ := setOne_eq hc2
      obtain ⟨h1, h2⟩ := setMany_app vs pre c2 post (i + 1) h
      have h3 : setOne (pre ++ cs ++ post) (pre.length + i) v = some (pre ++ c2 ++ post) := by
        rw [setOne_lt _ (by simp; omega), e]
        congr 1
        rw [List.append_assoc, List.set_append_right _ _ (by omega), Nat.add_sub_cancel_left, List.set_append_left _ _ hlt, List.append_assoc]
      simp only [setMany, h3]
      exact ⟨h1, h2.trans (by rw [e, List.length_set])⟩
    · cases h
section
variable {G : Ctx} {N : Nat} {env : Env} {L : List Assn} {o : Oper} {post : Env → List Assn → Prop}
/-- a store into an element -/
theorem OP.storeO {t : TypeId} {x y : Operand} {b off i n cap size : Nat} {T : TypeId} {ti : TI} {v : Value} {vs cs cs' : List Value} {F : List Assn} (ho : o.op = .store t x y) (hx : rd none env x = some (none, .pointer (some ⟨b, off + i, none⟩)))
    (hy : rd none env y = some (none, v)) (ht : G.T.find t = some ti) (hv : cellsOf v = some vs) (h1 : allOne vs = true) (hl : vs.length = ti.size) (hL : Imp L (ownS (some ⟨b, off, none⟩) n cap T size cs :: F)) (hs : setMany cs i vs = some cs') (hd : o.dst = none)
    (h : post env (ownS (some ⟨b, off, none⟩) n cap T size cs' :: F)) : OP G N o env L post := .mk fun a w ha hsat => by
  obtain ⟨h1', h2, d, e', ⟨hcl, hle, hown⟩, rest⟩ := hL.sat hsat
  rcases hown with ⟨e, _⟩ | ⟨b', pre, post', e, hcap, hblk⟩
  · cases e
  · obtain ⟨hb, hoff⟩ : b = b' ∧ off = pre.length := by
      simp only [Option.some.injEq, Addr.mk.injEq] at e; exact ⟨e.1, e.2.1⟩
    subst hb hoff
    obtain ⟨s1, s2⟩ := setMany_app vs pre cs post' i hs
    have hsat' : Sat (blk b (pre ++ cs ++ post') T :: F) w := ⟨h1', h2, d, e', hblk, rest⟩
    refine wp_oper_mono ?_ (fun _ _ _ h => h) ((OP.store (G := G) (N := N) (L := blk b (pre ++ cs ++ post') T :: F) (post := fun e M => e = env ∧ M = blk b (pre ++ cs' ++ post') T :: F) ho hx hy ht hv h1 hl (UpdM.here s1) hd ⟨rfl, rfl⟩).go a w ha hsat')
    rintro a' w' ⟨e1, M, x, y, rfl, rfl⟩
    exact ⟨e1, _, x, stars_head_mono (fun k hk => ⟨s2.trans hcl, hle, .inr ⟨b, pre, post', rfl, by rw [s2]; exact hcap, hk⟩⟩) y, h⟩
end
/-! ### elements of several cells, where the elements of the list at hand have so many -/
theorem flatM_len {α : Type} {f : α → List Value} {z : Nat} : ∀ {l : List α}, (∀ x ∈ l, (f x).length = z) → (l.flatMap f).length = l.length * z
  | [], _ => by simp
  | x :: l, h => by rw [List.flatMap_cons, List.length_append, h x List.mem_cons_self, flatM_len (fun y hy => h y (List.mem_cons_of_mem _ hy)), List.length_cons, Nat.succ_mul, Nat.add_comm]
theorem flatM_drop {α : Type} {f : α → List Value} {z : Nat} : ∀ {l : List α} (_ : ∀ x ∈ l, (f x).length = z) (k : Nat), (l.flatMap f).drop (k * z) = (l.drop k).flatMap f
  | [], _, k => by simp
  | x :: l, _, 0 => by simp
  | x :: l, h, k + 1 => by
    have hx := h x List.mem_cons_self
    rw [List.flatMap_cons, List.drop_succ_cons, ← flatM_drop (fun y hy => h y (List.mem_cons_of_mem _ hy)) k, Nat.succ_mul, Nat.add_comm, ← List.drop_drop]
    congr 1
    rw [List.drop_append_of_le_length (by rw [hx]; exact Nat.le_refl _), List.drop_eq_nil_of_le (by rw [hx]; exact Nat.le_refl _), List.nil_append]
theorem flatM_cut {α : Type} {f : α → List Value} {z : Nat} {l : List α} (h : ∀ x ∈ l, (f x).length = z) {k : Nat} (hk : k < l.length) : f l[k] = ((l.flatMap f).drop (k * z)).take z := by
  have hx := h l[k] (List.getElem_mem hk)
  rw [flatM_drop h, List.drop_eq_getElem_cons hk, List.flatMap_cons, List.take_append_of_le_length (by rw [hx]; exact Nat.le_refl _), List.take_of_length_le (by rw [hx]; exact Nat.le_refl _)]
theorem flatM_get {α : Type} {f : α → List Value} {z : Nat} {l : List α} (h : ∀ x ∈ l, (f x).length = z) {k j : Nat} (hk : k < l.length) (hj : j < z) : (l.flatMap f)[k * z + j]? = (f l[k])[j]? := by
  rw [flatM_cut h hk, List.getElem?_take, if_pos hj, List.getElem?_drop]
theorem flatM_set {α : Type} {f : α → List Value} {z : Nat} {l : List α} (h : ∀ x ∈ l, (f x).length = z) {k : Nat} {x : α} (hk : k < l.length) (hx : (f x).length = z) : setMany (l.flatMap f) (k * z) (f x) = some ((l.set k x).flatMap f) := by
  have h1 : l.flatMap f = (l.take k).flatMap f ++ f l[k] ++ (l.drop (k + 1)).flatMap f := by
    conv => lhs; rw [← List.take_append_drop k l, List.drop_eq_getElem_cons hk]
    rw [List.flatMap_append, List.flatMap_cons, List.append_assoc]
  have h2 : (l.set k x).flatMap f = (l.take k).flatMap f ++ f x ++ (l.drop (k + 1)).flatMap f := by
    rw [List.set_eq_take_append_cons_drop, if_pos hk, List.flatMap_append, List.flatMap_cons, List.append_assoc]
  rw [h2, h1]
  have h3 := setMany_mid (f x) ((l.take k).flatMap f) (f l[k]) ((l.drop (k + 1)).flatMap f) (by rw [hx, h _ (List.getElem_mem hk)])
  rw [flatM_len (z := z) (fun y hy => h y (List.mem_of_mem_take hy)), List.length_take, Nat.min_eq_left (by omega)] at h3
  exact h3
theorem Ent.elMF {L : List Assn} {α : Type} {f : α → List Value} {z : Nat} {l : List α} (hz : ∀ x ∈ l, (f x).length = z) {n k j b off : Nat} {v : Value} (hr : Ent L (readS (Option.some ⟨b, off, Option.none⟩) n z (l.flatMap f))) (h : k < l.length) (hj : Nat.blt j z = true) (hv : (f l[k])[j]? = Option.some v) :
    Ent L (cellAt b (off + k * z + j) v) := by
  rw [Nat.add_assoc]
  exact Ent.elem hr rfl ((flatM_get hz h (by simpa [Nat.blt_eq] using hj)).trans hv)
theorem Ent.elMA {L : List Assn} {α : Type} {f : α → List Value} {z : Nat} {l : List α} (hz : ∀ x ∈ l, (f x).length = z) {n k b off : Nat} (hr : Ent L (readS (Option.some ⟨b, off, Option.none⟩) n z (l.flatMap f))) (h : k < l.length) :
    Ent L (cellsAt b (off + k * z) (f l[k])) := Ent.elems hr rfl (by rw [hz _ (List.getElem_mem h)]; exact flatM_cut hz h)
theorem setMany_all {old vs : List Value} (h : old.length = vs.length) : setMany old 0 vs = some vs := by
  have := setMany_mid vs [] old [] h
  simpa using this
theorem takeL_all : ∀ (l : List Value), takeL l l.length = some l
  | [] => rfl
  | x :: r => by simp only [List.length_cons, takeL, takeL_all r]
theorem cutL_all {l : List Value} {n : Nat} (h : l.length = n) : cutL l 0 n = some l := by subst h; cases l <;> exact takeL_all _
end Go.GL
/- Contracts of functions of the given program, and plain laws on what they compute: parts of the proofs of laws. -/
namespace Go.Proofs.YtleajkobmhhacaaGreatDoor
open Go Go.GL

/-- a disk: its sectors, its loose writes -/
structure Dsk where
  S : List (List UInt8)
  W : List (Nat × List UInt8)
def zero64 : List UInt8 := List.replicate 64 0
structure Dsk.ok (D : Dsk) : Prop where
  s64 : ∀ s ∈ D.S, s.length = 64
  w64 : ∀ x ∈ D.W, x.1 < D.S.length ∧ x.2.length = 64
  few : D.S.length ≤ 1024
def Dsk.new (n : Int) : Dsk := ⟨List.replicate (max 0 (min n 1024)).toNat zero64, []⟩
def curF (i : Nat) (s : List UInt8) (W : List (Nat × List UInt8)) : List UInt8 := W.foldl (fun s x => if x.1 = i then x.2 else s) s
/-- what a sector reads as -/
def Dsk.cur (D : Dsk) (i : Nat) : List UInt8 := curF i (D.S.getD i []) D.W
def settleF (kept : Nat → Bool) : Nat → List (Nat × List UInt8) → List (List UInt8) → List (List UInt8)
  | _, [], S => S
  | k, x :: r, S => settleF kept (k + 1) r (if kept k = true then S.set x.1 x.2 else S)
def Dsk.settle (D : Dsk) (kept : Nat → Bool) : Dsk := ⟨settleF kept 0 D.W D.S, []⟩
def Dsk.flush (D : Dsk) : Dsk := D.settle (fun _ => true)
def keeps (keep : Int) (k : Nat) : Bool := keep.toNat.testBit (k % 64)
def Dsk.crash (D : Dsk) (keep : Int) : Dsk := D.settle (keeps keep)
/-- a write that can be -/
def Dsk.put (D : Dsk) (i : Nat) (b : List UInt8) : Dsk := ⟨D.S, D.W ++ [(i, b)]⟩

theorem settleF_length (kept : Nat → Bool) : ∀ (W : List (Nat × List UInt8)) (k : Nat) (S : List (List UInt8)), (settleF kept k W S).length = S.length
  | [], _, _ => rfl
  | x :: r, k, S => by
    rw [settleF, settleF_length kept r]
    split <;> simp
theorem settleF_64 (kept : Nat → Bool) : ∀ (W : List (Nat × List UInt8)) (k : Nat) (S : List (List UInt8)), (∀ s ∈ S, s.length = 64) → (∀ x ∈ W, x.2.length = 64) → ∀ s ∈ settleF kept k W S, s.length = 64
  | [], _, _, h, _ => h
  | x :: r, k, S, h, hw => by
    rw [settleF]
    refine settleF_64 kept r (k + 1) _ ?_ (fun y hy => hw y (List.mem_cons_of_mem _ hy))
    split
    · intro s hs
      rcases List.mem_or_eq_of_mem_set hs with h1 | h1
      · exact h s h1
      · rw [h1]; exact hw x List.mem_cons_self
    · exact h
theorem Dsk.settle_ok {D : Dsk} (h : D.ok) (kept : Nat → Bool) : (D.settle kept).ok :=
  ⟨settleF_64 kept D.W 0 D.S h.s64 (fun x hx => (h.w64 x hx).2), (by intro x hx; cases hx), by show (settleF kept 0 D.W D.S).length ≤ 1024; rw [settleF_length]; exact h.few⟩
theorem Dsk.settle_len (D : Dsk) (kept : Nat → Bool) : (D.settle kept).S.length = D.S.length := settleF_length _ _ _ _
theorem Dsk.put_ok {D : Dsk} (h : D.ok) {i : Nat} {b : List UInt8} (hi : i < D.S.length) (hb : b.length = 64) : (D.put i b).ok :=
  ⟨h.s64, fun x hx => by
    rcases List.mem_append.1 hx with hx | hx
    · exact h.w64 x hx
    · rw [List.mem_singleton.1 hx]; exact ⟨hi, hb⟩, h.few⟩
theorem Dsk.new_ok (n : Int) : (Dsk.new n).ok :=
  ⟨fun s hs => by rw [List.eq_of_mem_replicate hs]; exact List.length_replicate, (by intro x hx; cases hx), by simp only [Dsk.new, List.length_replicate]; omega⟩
theorem curF_snoc (i : Nat) (s : List UInt8) (W : List (Nat × List UInt8)) (x : Nat × List UInt8) : curF i s (W ++ [x]) = if x.1 = i then x.2 else curF i s W := by
  unfold curF; rw [List.foldl_append]; rfl
theorem curF_64 {i : Nat} {s : List UInt8} {W : List (Nat × List UInt8)} (hs : s.length = 64) (hw : ∀ x ∈ W, x.2.length = 64) : (curF i s W).length = 64 := by
  unfold curF
  induction W generalizing s with
  | nil => exact hs
  | cons x r ih =>
    rw [List.foldl_cons]
    refine ih ?_ (fun y hy => hw y (List.mem_cons_of_mem _ hy))
    split
    · exact hw x List.mem_cons_self
    · exact hs
theorem Dsk.cur_64 {D : Dsk} (h : D.ok) {i : Nat} (hi : i < D.S.length) : (D.cur i).length = 64 :=
  curF_64 (h.s64 _ (by rw [List.getD_eq_getElem?_getD, List.getElem?_eq_getElem hi]; exact List.getElem_mem hi)) (fun x hx => (h.w64 x hx).2)
theorem settleF_snoc (kept : Nat → Bool) : ∀ (W : List (Nat × List UInt8)) (k : Nat) (S : List (List UInt8)) (x : Nat × List UInt8), settleF kept k (W ++ [x]) S = if kept (k + W.length) = true then (settleF kept k W S).set x.1 x.2 else settleF kept k W S
  | [], k, S, x => by simp [settleF]
  | y :: r, k, S, x => by
    rw [List.cons_append, settleF, settleF, settleF_snoc kept r (k + 1) _ x, List.length_cons]
    rw [show k + 1 + r.length = k + (r.length + 1) by omega]
/-- what reads the same before and behind a flush -/
theorem settle_true_get : ∀ (W : List (Nat × List UInt8)) (k : Nat) (S : List (List UInt8)) (i : Nat), i < S.length → (settleF (fun _ => true) k W S).getD i [] = curF i (S.getD i []) W
  | [], _, _, _, _ => rfl
  | x :: r, k, S, i, hi => by
    rw [settleF, if_pos rfl, settle_true_get r (k + 1) _ i (by simpa using hi)]
    unfold curF
    rw [List.foldl_cons]
    congr 1
    by_cases h : x.1 = i
    · subst h; simp [hi]
    · rw [if_neg h, List.getD_eq_getElem?_getD, List.getD_eq_getElem?_getD, List.getElem?_set_ne h]
theorem Dsk.flush_cur (D : Dsk) {i : Nat} (hi : i < D.S.length) : D.flush.cur i = D.cur i := settle_true_get D.W 0 D.S i hi
end Go.Proofs.YtleajkobmhhacaaGreatDoor
/- copy; function values, and calls of them. -/
namespace Go.GL
open Go
section
variable {G : Ctx} {N : Nat} {env : Env} {L : List Assn} {o : Oper} {post : Env → List Assn → Prop} {d : Nat}
theorem run_firstCellsK {P : Program} {w : World} {a : Option Addr} {n k size c : Nat} {cs : List Value} (h : readS a n size cs (hpOf w)) (hk : k ≤ n) : (Builtin.firstCells size k (.slice a n c)).run P w = .ok (cs.take (k * size)).toArray w := by
  have h2 := readS_take h hk
  obtain ⟨e, ⟨rfl, rfl⟩ | ⟨b, off, rfl, hc⟩⟩ := h2
  · have : cs.take (0 * size) = [] := by simp
    rw [this]
    simp only [Builtin.firstCells, Sem.run_pure]; try rfl
  · have := run_cells (P := P) hc (cs.take (k * size)).length 0 #[] (by omega)
    simp only [List.drop_zero, Array.empty_append] at this
    rw [e] at this
    simp only [Builtin.firstCells, loadCells, this]
/-- copy(x, y), x cells of a block -/
theorem OP.copyB {x y : Operand} {t t2 e : TypeId} {ti tsl : TI} {b off n cap m c2 sz : Nat} {a2 : Option Addr} {ds vs : List Value} {M : List Assn} (ho : o.op = .call ⟨.builtin .copy, #[x, y], #[t, t2]⟩)
    (hx : rd none env x = some (none, .slice (some ⟨b, off, none⟩) n cap)) (hy : rd none env y = some (none, .slice a2 m c2)) (ht : G.T.find t = some tsl) (htd : tsl.desc = .slice e) (hte : G.T.find e = some ti) (hsz : sizeL ti = some sz)
    (hr : Ent L (readS a2 m sz ds)) (hv : ds.take (min m n * sz) = vs) (hone : allOne vs = true) (hu : UpdM L b off vs M) (hd : o.dst = some d) (hN : Nat.blt d N = true) (h : post ((d, .val (.int .i64 (min m n : Nat))) :: env) M) : OP G N o env L post := .mk fun ac w ha hs => by
  have es := sizeL_eq hsz
  have hu1 : G.P.underlying t = some (.slice e) := htd ▸ (Tab.find_ok G.ok ht).desc
  have eE := Tab.find_ok G.ok hte
  obtain ⟨c, c', T, hc, hu⟩ := hu.upd
  obtain ⟨w', r, s⟩ := run_stores (P := G.P) vs off 0 c c' L M w (allOne_mem hone) hc hu hs
  have hf := run_firstCellsK (P := G.P) (c := c2) (hr _ hs) (show min m n ≤ m from Nat.min_le_left _ _)
  rw [hv] at hf
  unfold Oper.wp
  have : (execOp ac.eval o).run G.P w = .ok (.value (.int .i64 (min m n : Nat))) w' := by
    rw [execOp, ho]
    have hmin : Nat.min m n = min m n := rfl
    simp [resolve, invoke, builtin, rd_plain hx ha, rd_plain hy ha, Builtin.copy_, run_underlying hu1, Builtin.lenOf, run_size eE, es, hmin, hf, r, goInt]
  rw [this]
  simp only [Oper.upon, hd]
  exact ⟨_, _, ha.put hN _, s, h⟩
/-- a function value with what it has caught -/
theorem OP.makeF {f : FuncId} {xs : List Operand} {vs : List Value} (ho : o.op = .makeFunc (.func f) #[] xs.toArray) (hv : rdAll env xs = some vs) (hd : o.dst = some d) (hN : Nat.blt d N = true) (h : post ((d, .val (.func (.func f) #[] vs.toArray)) :: env) L) : OP G N o env L post :=
  .run (fun a w ha _ => by
    rw [execOp, ho]
    have := rdAll_ok ha hv
    simp [Instr.makeFunc, ← this]) hd hN h
theorem run_callV {P : Program} {f : FuncId} {x : Operand} {xs : List Operand} {ats : Array TypeId} {a : Act} {vs caps : List Value} (he : Enters P f) (hx : a.eval x = .func (.func f) #[] caps.toArray) (hv : xs.map a.eval = vs) (dst : Option Tmp) (ty : TypeId) (pos : String) (after : Array Edge) (guard : Option (Nat × Bool)) (w : World) :
    (execOp a.eval ⟨dst, .call ⟨.value x, xs.toArray, ats⟩, ty, pos, after, guard⟩).run P w = .ok (.enter f (vs ++ caps).toArray) w := by
  obtain ⟨fn, c, h1, h2, h3⟩ := he.ex
  simp only [execOp, resolve, hx, Deferred.ofValue, Sem.run_bind, Sem.run_pure, Result.andThen_ok, invoke, callFunc, run_program, h1]
  simp [h2, h3, ← hv]
/-- a call of a function value -/
theorem OP.callV {f : FuncId} {x : Operand} {xs : List Operand} {ats : Array TypeId} {vs caps : List Value} {pre F : List Assn} {p : Value → List Assn → Prop} (ho : o.op = .call ⟨.value x, xs.toArray, ats⟩) (hx : rd none env x = some (none, .func (.func f) #[] caps.toArray)) (hv : rdAll env xs = some vs)
    (ht : Triple G f (vs ++ caps) pre p) (hi : Imp L (pre ++ F)) (hd : o.dst = some d) (hN : Nat.blt d N = true) (h : ∀ v M, p v M → post ((d, .val v) :: env) (M ++ F)) : OP G N o env L post := .mk fun a w ha hs => by
  obtain ⟨dst, op, type, pos, after, guard⟩ := o
  simp only at ho hd
  subst ho hd
  unfold Oper.wp
  rw [run_callV ht.enters (rd_plain hx ha) (rdAll_ok ha hv)]
  simp only [Oper.upon]
  refine (ht.calls F w (hi.sat hs)).mono ?_
  rintro e w' ⟨v, M, rfl, hp, s⟩
  exact ⟨_, _, ha.put hN v, s, h v M hp⟩
theorem OP.callVRO {f : FuncId} {x : Operand} {xs : List Operand} {ats : Array TypeId} {vs caps : List Value} {R : Assn} {v : Value} (ho : o.op = .call ⟨.value x, xs.toArray, ats⟩) (hx : rd none env x = some (none, .func (.func f) #[] caps.toArray)) (hv : rdAll env xs = some vs)
    (ht : RO G f (vs ++ caps) R v) (he : Ent L R) (hd : o.dst = some d) (hN : Nat.blt d N = true) (h : post ((d, .val v) :: env) L) : OP G N o env L post :=
  .callV (F := []) ho hx hv (ht.triple he) (by rw [List.append_nil]; exact Imp.refl _) hd hN (fun v' M ⟨e1, e2⟩ => by rw [List.append_nil, e1, e2]; exact h)
end
/-- a slice's literal of one part that has several cells -/
theorem evLit1 {T : Tab} {env : Env} {e : Nat} {ti : TI} {y : Operand} {vs : List Value} (ht : T.find e = some ti) (hy : rd none env y = some (none, .agg vs.toArray)) (hl : vs.length = ti.size) (hz : ti.zero.length = ti.size) (h1 : Nat.ble ti.size 1000 = true) (h2 : Nat.ble 1 ti.size = true) : evSliceLit T env e 1 [(0, y)] = some vs := by
  unfold evSliceLit
  rw [ht]
  have hp : rdParts env [(0, y)] = some [(0, .agg vs.toArray)] := by simp only [rdParts, hy]
  rw [hp]
  simp only [Nat.one_mul, h1, h2]
  have hr : repL ti.zero 1 = ti.zero := by simp [repL]
  rw [hr]
  have hb : Nat.beq vs.length ti.size = true := by rw [hl]; exact Nat.beq_refl _
  have hs := setMany_all (old := ti.zero) (vs := vs) (by rw [hz, hl])
  show (match (match Nat.blt 0 1 with | true => some (0 * ti.size, ti.size) | false => none), cellsOf (.agg vs.toArray) with
    | some (off, size), some vs => (match Nat.beq vs.length size, setMany ti.zero off vs with
      | true, some c' => fillL _ c' []
      | _, _ => none)
    | _, _ => none) = some vs
  simp only [Nat.zero_mul, cellsOf, hb, hs, fillL, Nat.blt]
theorem retc2 {G : Ctx} {env : Env} {L : List Assn} {p : Value → List Assn → Prop} {t u ty b off : Nat} {ti : TI} {v : Value} {l : List Value} (h2 : Env.get env u = some (.val (.pointer (some ⟨b, off, none⟩)))) (h1 : Env.get env t = some (.val v)) (ht : G.T.find ty = some ti) (hg : ti.agg = true) (hl : l.length = ti.size) (hc : Ent L (cellsAt b off l)) (h : p (.tuple #[.agg l.toArray, v]) L) :
    retK G [.cell u ty, .tmp t] p .ret env L := ⟨[.agg l.toArray, v], ⟨b, off, _, [v], ti, rfl, h2, ht, .inr ⟨hg, l, rfl, hl, hc⟩, v, [], rfl, h1, rfl⟩, h⟩
/-- a body that has a label, to which nothing jumps -/
def scopeK (k : Kont) : Kont
  | .goto _, _, _ => False
  | e, env, L => k e env L
theorem WC.scope {G : Ctx} {N : Nat} {env : Env} {L : List Assn} {k : Kont} {c : Code} (h : WC G N c env L (scopeK k)) : WC G N (.scope c) env L k := .mk fun a w ha hs =>
  wp_scope_straight (Code.wp_mono (fun e a w ⟨env, L, x, s, z⟩ => by
    cases e with
    | goto l => exact z
    | _ => exact ⟨env, L, x, s, z⟩) (h.go a w ha hs))
theorem scopeK.normal {k : Kont} {env : Env} {L : List Assn} (h : k .normal env L) : scopeK k .normal env L := h
theorem scopeK.exit {k : Kont} {env : Env} {L : List Assn} {i : Nat} (h : k (.exit i) env L) : scopeK k (.exit i) env L := h
theorem scopeK.ret {k : Kont} {env : Env} {L : List Assn} (h : k .ret env L) : scopeK k .ret env L := h
end Go.GL
/- Contracts of functions of the given program, and plain laws on what they compute: parts of the proofs of laws. -/

namespace Go.Proofs.YtleajkobmhhacaaGreatDoor
open Go Go.GL

/-- an error: its faults' blocks, places and numbers, the outermost one first; the number that it comes from -/
abbrev Chain := List (Nat × ByteArray × Int)
def valOf : Chain → Int → Value
  | [], c => .iface 91 (.int .i64 c)
  | x :: _, _ => .iface 248 (.pointer (some ⟨x.1, 0, none⟩))
def chainR : Chain → Int → Assn
  | [], _ => fun _ => True
  | x :: r, c => fun h => cellsAt x.1 0 [.string x.2.1, .int .i64 x.2.2, valOf r c] h ∧ chainR r c h
theorem up_chainR : ∀ (ch : Chain) (c : Int), Up (chainR ch c)
  | [], _ => fun _ _ _ h => h
  | _ :: r, c => up_and (up_cellsAt _ _ _) (up_chainR r c)
/-- what an error is: none; or faults and a number -/
abbrev Er := Option (List (ByteArray × Int) × Int)
def IsEr (e : Er) (v : Value) (E : List Assn) : Prop := match e with
  | none => v = .nilIface ∧ E = []
  | some (l, c) => ∃ ch : Chain, ch.map Prod.snd = l ∧ v = valOf ch c ∧ E = [chainR ch c]
def wrapE (op : ByteArray) (at_ : Int) : Er → Er
  | none => none
  | some (l, c) => some ((op, at_) :: l, c)
theorem Imp.chain {ch : Chain} {c : Int} {b : Nat} {op : ByteArray} {at_ : Int} {L : List Assn} : Imp (blk b [.string op, .int .i64 at_, valOf ch c] 250 :: chainR ch c :: L) (chainR ((b, op, at_) :: ch) c :: L) := by
  rintro h ⟨h1, h2, d, e, ⟨fr, hb, hf⟩, h3, h4, d', e', hc, rest⟩
  subst e'
  have d13 : Hp.disj h1 h3 := Hp.disj_mono d (Hp.le_refl _) (Hp.le_join_left _ _)
  have d14 : Hp.disj h1 h4 := Hp.disj_mono d (Hp.le_refl _) (Hp.le_join_right d')
  refine ⟨Hp.join h1 h3, h4, Hp.disj_join d14 d', by rw [e, Hp.join_assoc], ⟨?_, up_chainR ch c _ _ (Hp.le_join_right d13) hc⟩, rest⟩
  exact up_cellsAt _ _ _ _ _ (Hp.le_join_left _ _) ⟨_, _, fr, hb, fun i v hi => by simpa using hi⟩
set_option maxRecDepth 10000 in
theorem wrapC_ok (op : ByteArray) (at_ : Int) (ch : Chain) (c : Int) (h : ¬ (ch = [] ∧ c = 0)) : Triple G 145 [.string op, .int .i64 at_, valOf ch c] [chainR ch c] (IsEr (some ((op, at_) :: ch.map Prod.snd, c))) := by
  refine Triple.enter Tryz.func145 rfl (by decide) rfl Tryz.ntmps145 rfl (fun F => ?_)
  cases ch with
  | nil =>
    have hc : ¬ c = 0 := fun e => h ⟨rfl, e⟩
    repeat (first | refine GD ?_ | refine NW fun _ => ?_)
    exact ret1 rfl ⟨_, ⟨(_, op, at_) :: [], rfl, rfl, rfl⟩, Imp.chain (ch := [])⟩
  | cons x r =>
    repeat (first | refine GD ?_ | refine NW fun _ => ?_)
    exact ret1 rfl ⟨_, ⟨(_, op, at_) :: x :: r, rfl, rfl, rfl⟩, Imp.chain (ch := x :: r)⟩
set_option maxRecDepth 10000 in
theorem wrap_nil (op : ByteArray) (at_ : Int) : RO G 145 [.string op, .int .i64 at_, .nilIface] (fun _ => True) .nilIface := by
  refine RO.enter Tryz.func145 rfl (by decide) rfl Tryz.ntmps145 rfl (fun A hu hA => ?_) (fun _ _ _ h => h)
  repeat (first | refine GD ?_ | refine NW fun _ => ?_)
  exact ret1 rfl ⟨rfl, MM⟩
theorem Imp.chain1 {c : Int} {b : Nat} {op : ByteArray} {at_ : Int} {L : List Assn} : Imp (blk b [.string op, .int .i64 at_, .iface 91 (.int .i64 c)] 250 :: L) (chainR [(b, op, at_)] c :: L) :=
  fun _ s => stars_head_mono (fun _ ⟨fr, hb, _⟩ => ⟨⟨_, _, fr, hb, fun i v hi => by
    have hi' : ([.string op, .int .i64 at_, .iface 91 (.int .i64 c)] : List Value)[i]? = some v := hi
    simpa using hi'⟩, trivial⟩) s
theorem Fault.isEr {op : ByteArray} {at_ c : Int} {v : Value} {M : List Assn} (h : Fault op at_ c v M) : ∃ M', IsEr (some ([(op, at_)], c)) v M' ∧ Imp M M' := by
  obtain ⟨b, rfl, rfl⟩ := h
  exact ⟨_, ⟨[(b, op, at_)], rfl, rfl, rfl⟩, Imp.chain1⟩
end Go.Proofs.YtleajkobmhhacaaGreatDoor
/- Contracts of functions of the given program, and plain laws on what they compute: parts of the proofs of laws. -/

namespace Go.Proofs.YtleajkobmhhacaaGreatDoor
open Go Go.GL

/-! the disk -/
def secC (s : List UInt8) : List Value := s.map byteV
def looC (x : Nat × List UInt8) : List Value := .int .i64 x.1 :: x.2.map byteV
def dskL (p : Nat) (D : Dsk) (x : Option Addr × Nat × Option Addr × Nat) : List Assn :=
  [blk p [.slice x.1 D.S.length x.2.1, .slice x.2.2.1 D.W.length x.2.2.2] 155,
   ownS x.1 D.S.length x.2.1 198 64 (D.S.flatMap secC),
   ownS x.2.2.1 D.W.length x.2.2.2 200 65 (D.W.flatMap looC)]
def dsk (p : Nat) (D : Dsk) : Assn := exA (dskL p D)
theorem up_dsk (p : Nat) (D : Dsk) : Up (dsk p D) := up_exA _
theorem repL_sec (n : Nat) : repL (List.replicate 64 (.int .u8 0)) n = (List.replicate n zero64).flatMap secC := by
  induction n with
  | zero => rfl
  | succ n ih => rw [repL, ih, List.replicate_succ (a := zero64), List.flatMap_cons]; rfl
theorem secC_len {D : Dsk} (h : D.ok) : ∀ s ∈ D.S, (secC s).length = 64 := fun s hs => by unfold secC; rw [List.length_map, h.s64 s hs]
theorem looC_len {D : Dsk} (h : D.ok) : ∀ x ∈ D.W, (looC x).length = 65 := fun x hx => by unfold looC; rw [List.length_cons, List.length_map, (h.w64 x hx).2]
set_option maxRecDepth 10000 in
theorem dnew_rt (n : Int) : RT G 13 [.int .i64 n] (fun _ => True) (fun v E => ∃ p, v = .pointer (some ⟨p, 0, none⟩) ∧ E = [dsk p (Dsk.new n)]) := by
  refine RT.enter Tryz.func13 rfl (by decide) rfl Tryz.ntmps13 rfl (fun A hu hA => ?_)
  repeat (first | refine GO ?_ | refine NW fun _ => ?_)
  have e : (if 0 < (if 1024 < n then 1024 else n) then (if 1024 < n then 1024 else n) else 0) = max 0 (min n 1024) := by split <;> split <;> omega
  rw [e]
  have hb : 0 ≤ max 0 (min n 1024) ∧ max 0 (min n 1024) ≤ 1024 := by omega
  have hd : Dsk.new n = ⟨List.replicate (max 0 (min n 1024)).toNat zero64, []⟩ := rfl
  rw [hd]
  generalize max 0 (min n 1024) = m at *
  refine WL.step rfl (OP.makeS (z := List.replicate 64 (.int .u8 0)) rfl rfl rfl rfl rfl rfl rfl rfl hb.1 (by omega) (by omega) rfl rfl (fun b => ?_))
  rw [repL_sec m.toNat]
  repeat (first | refine GO ?_ | refine NW fun _ => ?_)
  rename_i p
  refine ret1 rfl ⟨_, ⟨p, rfl, rfl⟩, (Imp.nilS 200 65).trans <| Imp.foldP (some ⟨b, 0, none⟩, m.toNat, none, 0) (by dsimp only [dskL]; rw [List.length_replicate]; exact (by repeat (first | exact Picks.nil _ | apply Picks.cons | exact Pick.here _ _ | apply Pick.there))) (Imp.refl _)⟩
theorem dlen_ro (p : Nat) (D : Dsk) : RO G 37 [.pointer (some ⟨p, 0, none⟩)] (dsk p D) (.int .i64 D.S.length) := by
  refine RO.enterEx Tryz.func37 rfl (by decide) rfl Tryz.ntmps37 rfl (fun x A hu hA => ?_)
  have hE : ∀ {L}, A ∈ L → Ent L (cellsAt p 0 [.slice x.1 D.S.length x.2.1, .slice x.2.2.1 D.W.length x.2.2.2]) := fun m => Ent.of hu hA m (Ent.whole (List.Mem.head _))
  repeat (first | refine GD ?_ | refine NW fun _ => ?_)
  refine WL.step rfl (OP.load1 (v := .slice x.1 D.S.length x.2.1) rfl rfl rfl rfl (Ent.one (i := 0) (hE MM) rfl) rfl rfl ?_)
  repeat (first | refine GD ?_ | refine NW fun _ => ?_)
  exact ret1 rfl ⟨rfl, MM⟩
theorem in_case (i : Int) (n : Nat) : (0 ≤ i ∧ i < n) ∨ ¬ (0 ≤ i ∧ i < n) := Classical.em _
def diskT : ByteArray := ⟨#[100, 105, 115, 107]⟩
set_option maxRecDepth 10000 in
theorem dthere_rt (p : Nat) (D : Dsk) (i : Int) : RT G 103 [.pointer (some ⟨p, 0, none⟩), .int .i64 i] (dsk p D) (IsEr (if 0 ≤ i ∧ i < D.S.length then none else some ([(diskT, i)], 5))) := by
  refine RT.enter Tryz.func103 rfl (by decide) rfl Tryz.ntmps103 rfl (fun A hu hA => ?_)
  have hE : ∀ {L}, A ∈ L → Ent L (dsk p D) := fun m => Ent.mem m hu hA
  by_cases h0 : i < 0
  · rw [if_neg (by omega)]
    repeat (first | refine GD ?_ | refine NW fun _ => ?_)
    refine WL.step rfl (OP.call (pre := []) rfl rfl (wrap_ok diskT i 5 (by decide)) PS rfl rfl ?_)
    intro v M hF
    obtain ⟨M', h1, h2⟩ := hF.isEr
    repeat (first | refine GD ?_ | refine NW fun _ => ?_)
    exact ret1 rfl ⟨M', h1, Imp.app h2 _⟩
  repeat (first | refine GD ?_ | refine NW fun _ => ?_)
  refine WL.guardT rfl rfl rfl rfl (OP.callRO rfl rfl (dlen_ro p D) (hE MM) rfl rfl ?_)
  by_cases h1 : i < D.S.length
  · rw [if_pos (by omega)]
    repeat (first | refine GD ?_ | refine NW fun _ => ?_)
    exact ret1 rfl ⟨[], ⟨rfl, rfl⟩, Imp.refl _⟩
  · rw [if_neg (by omega)]
    repeat (first | refine GD ?_ | refine NW fun _ => ?_)
    refine WL.step rfl (OP.call (pre := []) rfl rfl (wrap_ok diskT i 5 (by decide)) PS rfl rfl ?_)
    intro v M hF
    obtain ⟨M', h1, h2⟩ := hF.isEr
    repeat (first | refine GD ?_ | refine NW fun _ => ?_)
    exact ret1 rfl ⟨M', h1, Imp.app h2 _⟩
/-- Write: the answer, the memory -/
def WrPost (p : Nat) (D : Dsk) (i : Int) (l : List UInt8) (v : Value) (M : List Assn) : Prop :=
  if (0 ≤ i ∧ i < D.S.length) ∧ l.length = 64 then v = .nilIface ∧ M = [dsk p (D.put i.toNat l)]
  else ∃ E, IsEr (some ([(diskT, i)], if 0 ≤ i ∧ i < D.S.length then 1 else 5)) v E ∧ M = E ++ [dsk p D]
theorem min_lt {a b : Nat} (h : a < b) : min a b = a := by omega
set_option maxHeartbeats 1000000 in
set_option maxRecDepth 10000 in
theorem dwrite_ok (p : Nat) (D : Dsk) (i : Int) (l : List UInt8) (a : Option Addr) (cap : Nat) (hw : D.W.length < 1000000) (hl : l.length < 1000000) :
    Triple G 116 [.pointer (some ⟨p, 0, none⟩), .int .i64 i, .slice a l.length cap] [dsk p D, ownS a l.length cap 5 1 (l.map byteV)] (WrPost p D i l) := by
  refine Triple.enter Tryz.func116 rfl (by decide) rfl Tryz.ntmps116 rfl (fun F => ?_)
  repeat (first | refine GO ?_ | refine NW fun _ => ?_)
  refine WL.step rfl (OP.callRT rfl rfl (dthere_rt p D i) (Ent.at (up_dsk p D) MM) rfl rfl ?_)
  by_cases hi : 0 ≤ i ∧ i < D.S.length
  rotate_left
  · rw [if_neg hi]
    rintro _ _ ⟨ch, h1, rfl, rfl⟩
    cases ch with
    | nil => cases h1
    | cons x r =>
      dsimp only [valOf]
      repeat (first | refine GD ?_ | refine NW fun _ => ?_)
      refine ret1 rfl ⟨[chainR (x :: r) 5, dsk p D], ?_, II⟩
      unfold WrPost
      rw [if_neg (fun h => hi h.1), if_neg hi]
      exact ⟨_, ⟨x :: r, h1, rfl, rfl⟩, rfl⟩
  rw [if_pos hi]
  rintro _ _ ⟨rfl, rfl⟩
  repeat (first | refine GO ?_ | refine NW fun _ => ?_)
  rename_i x
  have hcells : ∃ w, w.length = min l.length 64 ∧ ((l.map byteV).take (min l.length 64 * 1)) = w := ⟨_, by simp, rfl⟩
  obtain ⟨w, hwl, hw1⟩ := hcells
  have hone : allOne w = true := by rw [← hw1, ← List.map_take]; exact allOne_bytes _
  refine WL.imp (M := [blk x (.int .i64 i :: List.replicate 64 (.int .u8 0)) 200, dsk p D, ownS a l.length cap 5 1 (l.map byteV), F]) (Imp.refl _) ?_
  refine WL.step rfl (OP.copyB (M := [blk x (.int .i64 i :: (w ++ List.replicate (64 - w.length) (.int .u8 0))) 200, dsk p D, ownS a l.length cap 5 1 (l.map byteV), F]) rfl rfl rfl rfl rfl rfl rfl (Ent.own MM) hw1 hone (UpdM.here ?_) rfl rfl ?_)
  · have h := setMany_mid w [.int .i64 i] (List.replicate w.length (.int .u8 0)) (List.replicate (64 - w.length) (.int .u8 0)) (by simp)
    rw [List.append_assoc, List.replicate_append_replicate, show w.length + (64 - w.length) = 64 by omega] at h
    simpa using h
  by_cases hm : 64 < l.length
  · rw [show min l.length 64 = 64 by omega]
    have h64 : ¬ l.length = 64 := by omega
    repeat (first | refine GD ?_ | refine NW fun _ => ?_)
    refine WL.step rfl (OP.call (pre := []) rfl rfl (wrap_ok diskT i 1 (by decide)) PS rfl rfl ?_)
    intro v M hF
    obtain ⟨M', h1, h2⟩ := hF.isEr
    repeat (first | refine GD ?_ | refine NW fun _ => ?_)
    refine ret1 rfl ⟨M' ++ [dsk p D], ?_, ?_⟩
    · unfold WrPost
      rw [if_neg (fun h => h64 h.2), if_pos hi]
      exact ⟨M', h1, rfl⟩
    · rw [List.append_assoc]
      exact (Imp.app h2 _).trans (Imp.appL II _)
  rw [show min l.length 64 = l.length by omega]
  by_cases h64 : l.length = 64
  rotate_left
  · repeat (first | refine GD ?_ | refine NW fun _ => ?_)
    refine WL.step rfl (OP.call (pre := []) rfl rfl (wrap_ok diskT i 1 (by decide)) PS rfl rfl ?_)
    intro v M hF
    obtain ⟨M', h1, h2⟩ := hF.isEr
    repeat (first | refine GD ?_ | refine NW fun _ => ?_)
    refine ret1 rfl ⟨M' ++ [dsk p D], ?_, ?_⟩
    · unfold WrPost
      rw [if_neg (fun h => h64 h.2), if_pos hi]
      exact ⟨M', h1, rfl⟩
    · rw [List.append_assoc]
      exact (Imp.app h2 _).trans (Imp.appL II _)
  have hwb : w = l.map byteV := by rw [← hw1, List.take_of_length_le]; simp; omega
  subst hwb
  rw [show List.replicate (64 - (l.map byteV).length) (Value.int .u8 0) = [] by rw [List.length_map, h64]; rfl, List.append_nil]
  have hii : (i.toNat : Int) = i := by omega
  have hlo : Value.int .i64 i :: l.map byteV = looC (i.toNat, l) := by unfold looC; rw [hii]
  rw [hlo]
  have hlen : (looC (i.toNat, l)).length = 65 := by rw [← hlo]; simp [h64]
  repeat (first | refine GD ?_ | refine NW fun _ => ?_)
  refine WC.open P1 (fun y => ?_)
  refine WC.imp (M := dskL p D y ++ [blk x (looC (i.toNat, l)) 200, F]) II ?_
  unfold dskL
  dsimp only [List.cons_append, List.nil_append]
  refine RD 7 11 (_) ?_
  refine WP 0 ?_
  refine WP 1 ?_
  refine WP 2 ?_
  refine WP 3 ?_
  refine VV 4 ?_
  refine VL 5 (.agg (looC (i.toNat, l)).toArray) rfl rfl rfl rfl (.inr ⟨rfl, looC (i.toNat, l), rfl, hlen, Ent.whole MM⟩) ?_
  refine WH.only 6 rfl rfl (by kernel_rfl) rfl (OP.sliceLit rfl rfl rfl rfl rfl (evLit1 rfl rfl hlen rfl rfl rfl) rfl rfl (fun b2 => ⟨fun _ => II, ?_⟩))
  refine WH.only 7 rfl rfl (by kernel_rfl) rfl (OP.append rfl rfl rfl rfl rfl rfl rfl rfl rfl P1 (Ent.own MM) (by rw [← hlo]; exact allOne_bytes l) (by omega) (by omega) rfl rfl (fun a' cap' => ⟨(fun h => nomatch h), ?_⟩))
  refine WP 8 ?_
  refine WP 9 ?_
  refine WH.only 10 rfl rfl (by kernel_rfl) rfl (OP.store rfl rfl rfl rfl rfl rfl rfl UP rfl ⟨(fun h => nomatch h), ?_⟩)
  refine DN ?_
  repeat (first | refine GD ?_ | refine NW fun _ => ?_)
  refine ret1 rfl ⟨[dsk p (D.put i.toNat l)], ?_, ?_⟩
  · unfold WrPost
    rw [if_pos ⟨hi, h64⟩]
    exact ⟨rfl, rfl⟩
  · refine Imp.foldP (N := [ownS (some ⟨b2, 0, none⟩) 1 1 200 65 (looC (i.toNat, l)), blk x (looC (i.toNat, l)) 200, F]) (y.1, y.2.1, a', cap') ?_ II
    unfold dskL Dsk.put
    dsimp only
    rw [List.length_append, List.flatMap_append, List.flatMap_cons, List.flatMap_nil, List.append_nil]
    exact (by repeat (first | exact Picks.nil _ | apply Picks.cons | exact Pick.here _ _ | apply Pick.there))
theorem Imp.blkR {b n : Nat} {c : List Value} {T : TypeId} {L : List Assn} (h : c.length = n) : Imp (blk b c T :: L) (readS (some ⟨b, 0, none⟩) n 1 c :: L) :=
  fun _ s => stars_head_mono (fun _ ⟨fr, hb, _⟩ => ⟨by omega, .inr ⟨b, 0, rfl, _, T, fr, hb, fun i v hi => by simpa using hi⟩⟩) s
theorem cut_all {L : List Assn} {b : Nat} {x : Value} {l : List Value} {T : TypeId} {n : Nat} (m : blk b (x :: l) T ∈ L) (h : l.length = n) : HasCut L b 1 n l := by
  have e : cutL (x :: l) 1 n = some l := cutL_all h
  induction L with
  | nil => cases m
  | cons A L ih => rcases List.mem_cons.1 m with h1 | h1
                   · subst h1; exact HasCut.here e
                   · exact HasCut.there (ih h1)
theorem Dsk.cur_def (D : Dsk) (i : Nat) : D.cur i = curF i (D.S.getD i []) D.W := rfl
/-- Read: the answer, what is new -/
def DReadPost (D : Dsk) (i : Int) (v : Value) (E : List Assn) : Prop :=
  if 0 ≤ i ∧ i < D.S.length then ∃ b, v = .tuple #[.slice (some ⟨b, 0, none⟩) 64 64, .nilIface] ∧ E = [readS (some ⟨b, 0, none⟩) 64 1 ((D.cur i.toNat).map byteV)]
  else ∃ e, IsEr (some ([(diskT, i)], 5)) e E ∧ v = .tuple #[.slice none 0 0, e]
theorem allOne_loo (x : Nat × List UInt8) : allOne (looC x) = true := allOne_bytes x.2
set_option maxHeartbeats 1000000 in
set_option maxRecDepth 10000 in
theorem dread_rt (p : Nat) (D : Dsk) (i : Int) (hD : D.ok) (hw : D.W.length < 1000000) : RT G 38 [.pointer (some ⟨p, 0, none⟩), .int .i64 i] (dsk p D) (DReadPost D i) := by
  refine RT.enterEx Tryz.func38 rfl (by decide) rfl Tryz.ntmps38 rfl (fun y A hu hA => ?_)
  have hE : ∀ {L}, A ∈ L → Ent L (dsk p D) := fun m => Ent.mem m hu fun k a => ⟨y, hA k a⟩
  have hF : ∀ {L}, A ∈ L → Ent L (cellsAt p 0 [.slice y.1 D.S.length y.2.1, .slice y.2.2.1 D.W.length y.2.2.2]) := fun m => Ent.of hu hA m (Ent.whole (List.Mem.head _))
  have hS : ∀ {L}, A ∈ L → Ent L (readS y.1 D.S.length 64 (D.S.flatMap secC)) := fun m => Ent.of hu hA m (Ent.own (List.Mem.tail _ (List.Mem.head _)))
  have hW : ∀ {L}, A ∈ L → Ent L (readS y.2.2.1 D.W.length 65 (D.W.flatMap looC)) := fun m => Ent.of hu hA m (Ent.own (List.Mem.tail _ (List.Mem.tail _ (List.Mem.head _))))
  repeat (first | refine GO ?_ | refine NW fun _ => ?_)
  refine WL.step rfl (OP.callRT rfl rfl (dthere_rt p D i) (hE MM) rfl rfl ?_)
  by_cases hi : 0 ≤ i ∧ i < D.S.length
  rotate_left
  · rw [if_neg hi]
    rintro _ _ ⟨ch, h1, rfl, rfl⟩
    cases ch with
    | nil => cases h1
    | cons x r =>
      dsimp only [valOf]
      repeat (first | refine GD ?_ | refine NW fun _ => ?_)
      refine ret2 rfl rfl ⟨[chainR (x :: r) 5], ?_, II⟩
      unfold DReadPost
      rw [if_neg hi]
      exact ⟨_, ⟨x :: r, h1, rfl, rfl⟩, rfl⟩
  rw [if_pos hi]
  rintro _ _ ⟨rfl, rfl⟩
  obtain ⟨k, rfl⟩ : ∃ k : Nat, i = k := ⟨i.toNat, by omega⟩
  have hk : k < D.S.length := by omega
  have hs64 := hD.s64 D.S[k] (List.getElem_mem hk)
  repeat (first | refine GD ?_ | refine NW fun _ => ?_)
  refine WL.step rfl (OP.load1 (v := .slice y.1 D.S.length y.2.1) rfl rfl rfl rfl (Ent.one (i := 0) (hF MM) rfl) rfl rfl ?_)
  refine WL.fact (Ent.some (hS MM) (by omega)) ?_
  rintro ⟨bs, off, hys⟩
  rw [hys]
  rw [hys] at hS
  repeat (first | refine GD ?_ | refine NW fun _ => ?_)
  refine WL.step rfl (OP.loadA (l := secC D.S[k]) rfl rfl rfl rfl ((Ent.elMA (secC_len hD) (hS MM) hk)) (secC_len hD _ (List.getElem_mem hk)) rfl rfl ?_)
  repeat (first | refine GD ?_ | refine NW fun _ => ?_)
  rename_i x
  refine WL.step rfl (OP.store (vs := secC D.S[k]) (M := [blk x (secC D.S[k]) 198, A]) rfl rfl rfl rfl rfl (allOne_bytes _) (secC_len hD _ (List.getElem_mem hk)) (UpdM.here (setMany_all (by rw [secC_len hD _ (List.getElem_mem hk)]; rfl))) rfl ?_)
  repeat (first | refine GO ?_ | refine NW fun _ => ?_)
  refine WL.step rfl (OP.load1 (v := .slice y.2.2.1 D.W.length y.2.2.2) rfl rfl rfl rfl (Ent.one (i := 1) (hF MM) rfl) rfl rfl ?_)
  repeat (first | refine GO ?_ | refine NW fun _ => ?_)
  have hcu : ∀ j, (secC (curF k D.S[k] (D.W.take j))).length = 64 := fun j => by
    unfold secC; rw [List.length_map]; exact curF_64 hs64 (fun x hx => (hD.w64 x (List.mem_of_mem_take hx)).2)
  refine WC.loop (σ := Nat) (fun j => j ≤ D.W.length)
    (fun j => [(0, .val (.pointer (some ⟨p, 0, none⟩))), (1, .val (.int .i64 k)), (7, .val (.pointer (some ⟨x, 0, none⟩))), (26, .val (.slice y.2.2.1 D.W.length y.2.2.2)), (27, .val (.int .i64 D.W.length)), (28, .val (.int .i64 j))])
    (fun j => [blk x (secC (curF k D.S[k] (D.W.take j))) 198, A]) (fun j => D.W.length - j) 0 (Nat.zero_le _) ⟨rfl, rfl, rfl, rfl, rfl, rfl, trivial⟩ (Imp.refl _) ?_
  rintro j hj
  by_cases hlt : j < D.W.length
  rotate_left
  · have hje : j = D.W.length := by omega
    subst hje
    have hcl := hcu D.W.length
    rw [List.take_length] at *
    have hcur : D.cur k = curF k D.S[k] D.W := by rw [Dsk.cur_def, List.getD_eq_getElem?_getD, List.getElem?_eq_getElem hk]; rfl
    repeat (first | refine GD ?_ | refine NW fun _ => ?_)
    refine ret2 rfl rfl ⟨[readS (some ⟨x, 0, none⟩) 64 1 ((D.cur k).map byteV)], ?_, ?_⟩
    · unfold DReadPost
      rw [if_pos hi]
      exact ⟨x, rfl, rfl⟩
    · rw [hcur]
      exact Imp.blkR hcl
  have hsn : curF k D.S[k] (D.W.take (j + 1)) = if (D.W[j]).1 = k then (D.W[j]).2 else curF k D.S[k] (D.W.take j) := by
    rw [← List.take_append_getElem hlt, curF_snoc]
  have hxl := looC_len hD _ (List.getElem_mem hlt)
  obtain ⟨hx1, hx2⟩ := hD.w64 _ (List.getElem_mem hlt)
  refine WC.fact (Ent.some (hW MM) (by omega)) ?_
  rintro ⟨bw, offw, hyw⟩
  rw [hyw]
  rw [hyw] at hW
  repeat (first | refine GD ?_ | refine NW fun _ => ?_)
  refine WL.step rfl (OP.loadA (l := looC D.W[j]) rfl rfl rfl rfl ((Ent.elMA (looC_len hD) (hW MM) hlt)) hxl rfl rfl ?_)
  generalize D.W[j] = e at *
  obtain ⟨ei, eb⟩ := e
  dsimp only at hsn hx1 hx2
  repeat (first | refine GD ?_ | refine NW fun _ => ?_)
  rename_i x9
  refine WL.step rfl (OP.store (vs := looC (ei, eb)) (M := [blk x9 (looC (ei, eb)) 200, blk x (secC (curF k D.S[k] (D.W.take j))) 198, A]) rfl rfl rfl rfl rfl (allOne_loo _) hxl (UpdM.here (setMany_all (by rw [hxl]; rfl))) rfl ?_)
  by_cases hek : ei = k
  · rw [if_pos hek] at hsn
    subst hek
    repeat (first | refine GD ?_ | refine NW fun _ => ?_)
    refine WL.step rfl (OP.loadA (l := secC eb) rfl rfl rfl rfl (cut_all (n := 64) (x := .int .i64 ei) (T := 200) MM (by simp [secC, hx2])).ent.1 (by simp [secC, hx2]) rfl rfl ?_)
    refine WL.step rfl (OP.store (vs := secC eb) (M := [blk x9 (looC (ei, eb)) 200, blk x (secC eb) 198, A]) rfl rfl rfl rfl rfl (allOne_bytes _) (by simp [secC, hx2]) (UpdM.there (UpdM.here (setMany_all (by rw [hcu]; simp [secC, hx2])))) rfl ?_)
    repeat (first | refine GD ?_ | refine NW fun _ => ?_)
    exact ⟨j + 1, by omega, by omega, ⟨rfl, rfl, rfl, rfl, rfl, rfl, trivial⟩, by rw [hsn]; exact II⟩
  · rw [if_neg hek] at hsn
    have hne : ¬ (ei : Int) = k := by omega
    repeat (first | refine GD ?_ | refine NW fun _ => ?_)
    exact ⟨j + 1, by omega, by omega, ⟨rfl, rfl, rfl, rfl, rfl, rfl, trivial⟩, by rw [hsn]; exact II⟩
theorem settleF_succ (kept : Nat → Bool) (W : List (Nat × List UInt8)) (S : List (List UInt8)) (j : Nat) (h : j < W.length) : settleF kept 0 (W.take (j + 1)) S = if kept j = true then (settleF kept 0 (W.take j) S).set (W[j]).1 (W[j]).2 else settleF kept 0 (W.take j) S := by
  rw [← List.take_append_getElem h, settleF_snoc, List.length_take, Nat.zero_add, Nat.min_eq_left (by omega)]
set_option maxHeartbeats 2000000 in
set_option maxRecDepth 10000 in
theorem dsettle_ok (p : Nat) (D : Dsk) (hD : D.ok) (hw : D.W.length < 1000000) (f : FuncId) (caps : List Value) (K : Assn) (hK : Up K) (kept : Nat → Bool) (hf : ∀ j : Nat, j < D.W.length → RO G f ([.int .i64 j] ++ caps) K (.bool (kept j))) :
    Triple G 166 [.pointer (some ⟨p, 0, none⟩), .func (.func f) #[] caps.toArray] [dsk p D, K] (fun v M => v = .tuple #[] ∧ M = [dsk p (D.settle kept), K]) := by
  refine Triple.enter Tryz.func166 rfl (by decide) rfl Tryz.ntmps166 rfl (fun F => ?_)
  refine WC.open P1 (fun y => ?_)
  unfold dskL
  dsimp only [List.cons_append, List.nil_append]
  repeat (first | refine GO ?_ | refine NW fun _ => ?_)
  refine WC.loop (σ := Nat) (fun j => j ≤ D.W.length)
    (fun j => [(0, .val (.pointer (some ⟨p, 0, none⟩))), (1, .val (.func (.func f) #[] caps.toArray)), (11, .val (.slice y.2.2.1 D.W.length y.2.2.2)), (12, .val (.int .i64 D.W.length)), (13, .val (.int .i64 j))])
    (fun j => [blk p [.slice y.1 D.S.length y.2.1, .slice y.2.2.1 D.W.length y.2.2.2] 155,
      ownS y.1 D.S.length y.2.1 198 64 ((settleF kept 0 (D.W.take j) D.S).flatMap secC), ownS y.2.2.1 D.W.length y.2.2.2 200 65 (D.W.flatMap looC), K, F]) (fun j => D.W.length - j) 0 (Nat.zero_le _) ⟨rfl, rfl, rfl, rfl, rfl, trivial⟩ II ?_
  rintro j hj
  by_cases hlt : j < D.W.length
  rotate_left
  · have hje : j = D.W.length := by omega
    subst hje
    rw [List.take_length]
    repeat (first | refine GD ?_ | refine NW fun _ => ?_)
    refine ret0n ⟨_, ⟨rfl, rfl⟩, (Imp.nilS 200 65).trans (Imp.foldP (N := [ownS y.2.2.1 D.W.length y.2.2.2 200 65 (D.W.flatMap looC), K, F]) (y.1, y.2.1, none, 0) ?_ II)⟩
    unfold dskL Dsk.settle
    dsimp only
    rw [settleF_length]
    exact (by repeat (first | exact Picks.nil _ | apply Picks.cons | exact Pick.here _ _ | apply Pick.there))
  have hsn := settleF_succ kept D.W D.S j hlt
  have hxl := looC_len hD _ (List.getElem_mem hlt)
  obtain ⟨hx1, hx2⟩ := hD.w64 _ (List.getElem_mem hlt)
  have hRl := settleF_length kept (D.W.take j) 0 D.S
  have hR64 := settleF_64 kept (D.W.take j) 0 D.S hD.s64 (fun x hx => (hD.w64 x (List.mem_of_mem_take hx)).2)
  generalize settleF kept 0 (D.W.take j) D.S = R at *
  have hRc : ∀ s ∈ R, (secC s).length = 64 := fun s hs => by unfold secC; rw [List.length_map, hR64 s hs]
  refine WC.fact (Ent.some (Ent.own (a := y.2.2.1) (n := D.W.length) (cap := y.2.2.2) (T := 200) (size := 65) (cs := D.W.flatMap looC) MM) (by omega)) ?_
  rintro ⟨bw, offw, hyw⟩
  refine WC.fact (Ent.some (Ent.own (a := y.1) (n := D.S.length) (cap := y.2.1) (T := 198) (size := 64) (cs := R.flatMap secC) MM) (by omega)) ?_
  rintro ⟨bs, offs, hys⟩
  rw [hyw, hys]
  repeat (first | refine GD ?_ | refine NW fun _ => ?_)
  refine WL.step rfl (OP.loadA (l := looC D.W[j]) rfl rfl rfl rfl ((Ent.elMA (looC_len hD) (Ent.own MM) hlt)) hxl rfl rfl ?_)
  generalize D.W[j] = e at *
  obtain ⟨ei, eb⟩ := e
  dsimp only at hsn hx1 hx2
  repeat (first | refine GD ?_ | refine NW fun _ => ?_)
  rename_i x9
  refine WL.step rfl (OP.store (vs := looC (ei, eb)) (M := [blk x9 (looC (ei, eb)) 200, blk p [.slice (some ⟨bs, offs, none⟩) D.S.length y.2.1, .slice (some ⟨bw, offw, none⟩) D.W.length y.2.2.2] 155,
      ownS (some ⟨bs, offs, none⟩) D.S.length y.2.1 198 64 (R.flatMap secC), ownS (some ⟨bw, offw, none⟩) D.W.length y.2.2.2 200 65 (D.W.flatMap looC), K, F]) rfl rfl rfl rfl rfl (allOne_loo _) hxl (UpdM.here (setMany_all (by rw [hxl]; rfl))) rfl ?_)
  repeat (first | refine GD ?_ | refine NW fun _ => ?_)
  refine WL.step rfl (OP.callVRO (vs := [.int .i64 j]) rfl rfl rfl (hf j hlt) (Ent.at hK MM) rfl rfl ?_)
  cases hkj : kept j
  · rw [hkj, if_neg (by simp)] at hsn
    repeat (first | refine GD ?_ | refine NW fun _ => ?_)
    exact ⟨j + 1, by omega, by omega, ⟨rfl, rfl, rfl, rfl, rfl, trivial⟩, by rw [hsn]; exact II⟩
  · rw [hkj, if_pos rfl] at hsn
    repeat (first | refine GD ?_ | refine NW fun _ => ?_)
    have hel : (secC eb).length = 64 := by simp [secC, hx2]
    refine RD 9 10 (_) ?_
    refine WP 0 ?_
    refine WP 1 ?_
    refine WP 2 ?_
    refine VV 3 ?_
    refine WP 4 ?_
    refine VV 5 ?_
    refine WP 6 ?_
    refine VL 7 (.agg (secC eb).toArray) rfl rfl rfl rfl (.inr ⟨rfl, secC eb, rfl, hel, (cut_all (n := 64) (x := .int .i64 ei) (T := 200) MM hel).ent.1⟩) ?_
    refine WP 8 ?_
    refine WH.only 9 rfl rfl (by kernel_rfl) rfl (OP.storeO (vs := secC eb) (i := ei * 64) rfl rfl rfl rfl rfl (allOne_bytes _) hel P1 (flatM_set hRc (k := ei) (by omega) hel) rfl ⟨(fun h => nomatch h), ?_⟩)
    refine DN ?_
    repeat (first | refine GD ?_ | refine NW fun _ => ?_)
    exact ⟨j + 1, by omega, by omega, ⟨rfl, rfl, rfl, rfl, rfl, trivial⟩, by rw [hsn]; exact II⟩
theorem Imp.emp {L : List Assn} : Imp L ((fun _ => True) :: L) := fun h s => ⟨Hp.empty, h, fun _ => .inl rfl, by funext b; simp [Hp.join, Hp.empty], trivial, s⟩
theorem dflush1_ro (j : Int) : RO G 181 [.int .i64 j] (fun _ => True) (.bool true) := by
  refine RO.enter Tryz.func181 rfl (by decide) rfl Tryz.ntmps181 rfl (fun A hu hA => ?_) (fun _ _ _ h => h)
  repeat (first | refine GD ?_ | refine NW fun _ => ?_)
  exact ret1 rfl ⟨rfl, MM⟩
theorem dflush_ok (p : Nat) (D : Dsk) (hD : D.ok) (hw : D.W.length < 1000000) : Triple G 118 [.pointer (some ⟨p, 0, none⟩)] [dsk p D] (fun v M => v = .tuple #[] ∧ M = [dsk p D.flush]) := by
  refine Triple.enter Tryz.func118 rfl (by decide) rfl Tryz.ntmps118 rfl (fun F => ?_)
  repeat (first | refine GO ?_ | refine NW fun _ => ?_)
  refine WL.step rfl (OP.call (pre := [dsk p D, fun _ => True]) rfl rfl (dsettle_ok p D hD hw 181 [] (fun _ => True) (fun _ _ _ h => h) (fun _ => true) (fun j _ => dflush1_ro j)) (Imp.emp.trans PS) rfl rfl ?_)
  rintro _ _ ⟨rfl, rfl⟩
  repeat (first | refine GO ?_ | refine NW fun _ => ?_)
  exact ret0n ⟨_, ⟨rfl, rfl⟩, II⟩
end Go.Proofs.YtleajkobmhhacaaGreatDoor
