/- Contracts of functions of the given program, and plain laws on what they compute: parts of the proofs of laws. -/
import Derived.Test.YtkoakmaihcheaacDoorGLt
import Derived.Test.YtkoakmaihcheaacDoorR11

namespace Go.Proofs.YtkoakmaihcheaacDoor
open Go Go.GL

set_option maxHeartbeats 1000000 in
set_option maxRecDepth 10000 in
theorem beq_ro (a1 a2 : Option Addr) (n1 c1 n2 c2 : Nat) (l1 l2 : List UInt8) : RO G 30 [.slice a1 n1 c1, .slice a2 n2 c2] (fun h => readS a1 n1 1 (l1.map byteV) h ∧ readS a2 n2 1 (l2.map byteV) h) (.bool (decide (l1 = l2))) := by
  refine RO.enter Tryd.func30 rfl (by decide) rfl Tryd.ntmps30 rfl (fun A hu hA => ?_) (up_and (up_readS _ _ _ _) (up_readS _ _ _ _))
  have hE1 : ∀ {L}, A ∈ L → Ent L (readS a1 n1 1 (l1.map byteV)) := fun m => Ent.mem m hu fun k x => (hA k x).1
  have hE2 : ∀ {L}, A ∈ L → Ent L (readS a2 n2 1 (l2.map byteV)) := fun m => Ent.mem m hu fun k x => (hA k x).2
  repeat (first | refine GO ?_ | refine NW fun _ => ?_)
  refine WL.step rfl (OP.toStr (sv := ba l1) rfl rfl rfl rfl rfl rfl rfl rfl (by rw [strCells_ba]; exact hE1 MM) rfl rfl ?_)
  repeat (first | refine GO ?_ | refine NW fun _ => ?_)
  refine WL.step rfl (OP.toStr (sv := ba l2) rfl rfl rfl rfl rfl rfl rfl rfl (by rw [strCells_ba]; exact hE2 MM) rfl rfl ?_)
  repeat (first | refine GO ?_ | refine NW fun _ => ?_)
  refine ret1 rfl ⟨?_, MM⟩
  congr 1
  by_cases h : l1 = l2
  · rw [decide_eq_true h, decide_eq_true (by rw [h])]
  · rw [decide_eq_false h, decide_eq_false (fun e => h (ba_inj e))]
set_option maxHeartbeats 1000000 in
set_option maxRecDepth 10000 in
theorem seq_ro (a1 a2 : Option Addr) (n1 c1 n2 c2 : Nat) (l1 l2 : List UInt8) (h1 : n1 = l1.length) (h2 : n2 = l2.length) (hs : n1 < 1000000) : RO G 46 [.slice a1 n1 c1, .slice a2 n2 c2] (fun h => readS a1 n1 1 (l1.map byteV) h ∧ readS a2 n2 1 (l2.map byteV) h) (.bool (decide (l1 = l2))) := by
  refine RO.enter Tryd.func46 rfl (by decide) rfl Tryd.ntmps46 rfl (fun A hu hA => ?_) (up_and (up_readS _ _ _ _) (up_readS _ _ _ _))
  have hE1 : ∀ {L}, A ∈ L → Ent L (readS a1 n1 1 (l1.map byteV)) := fun m => Ent.mem m hu fun k x => (hA k x).1
  have hE2 : ∀ {L}, A ∈ L → Ent L (readS a2 n2 1 (l2.map byteV)) := fun m => Ent.mem m hu fun k x => (hA k x).2
  by_cases hne : n1 = n2
  rotate_left
  · have : l1 ≠ l2 := fun e => hne (by rw [h1, h2, e])
    repeat (first | refine GD ?_ | refine NW fun _ => ?_)
    exact ret1 rfl ⟨by simp [this], MM⟩
  subst hne
  repeat (first | refine GD ?_ | refine NW fun _ => ?_)
  refine WC.loop (σ := Nat) (fun k => k ≤ n1 ∧ ∀ j, j < k → l1[j]? = l2[j]?)
    (fun k => [(0, .val (.slice a1 n1 c1)), (1, .val (.slice a2 n1 c2)), (12, .val (.int .i64 n1)), (13, .val (.int .i64 k))])
    (fun k => [A]) (fun k => n1 - k) 0 ⟨Nat.zero_le _, fun j hj => by omega⟩ ⟨rfl, rfl, rfl, rfl, trivial⟩ (Imp.refl _) ?_
  rintro k ⟨hk, hall⟩
  by_cases hlt : k < n1
  rotate_left
  · repeat (first | refine GD ?_ | refine NW fun _ => ?_)
    refine ret1 rfl ⟨?_, MM⟩
    have : l1 = l2 := List.ext_getElem? fun i => by
      by_cases hi : i < k
      · exact hall i hi
      · rw [List.getElem?_eq_none (by omega), List.getElem?_eq_none (by omega)]
    simp [this]
  have hl1 : k < l1.length := by omega
  have hl2 : k < l2.length := by omega
  repeat (first | refine GD ?_ | refine NW fun _ => ?_)
  refine WC.fact (Ent.some (hE1 MM) (by omega)) ?_
  rintro ⟨b, off, rfl⟩
  refine WC.fact (Ent.some (hE2 MM) (by omega)) ?_
  rintro ⟨b', off', rfl⟩
  refine RD 9 9 (_) ?_
  refine VV 0 ?_; refine VV 1 ?_; refine VV 2 ?_
  refine VQ 3 rfl (Quiet.load (v := byteV l1[k]) rfl rfl rfl (.inl ⟨rfl, Ent.elem (i := k * 1) (hE1 MM) rfl (by simp [hl1])⟩)) ?_
  refine VV 4 ?_; refine VV 5 ?_; refine VV 6 ?_
  refine VQ 7 rfl (Quiet.load (v := byteV l2[k]) rfl rfl rfl (.inl ⟨rfl, Ent.elem (i := k * 1) (hE2 MM) rfl (by simp [hl2])⟩)) ?_
  unfold byteV
  refine VV 8 ?_
  refine DN ?_
  by_cases he : l1[k] = l2[k]
  · have he2 : (l1[k].toNat : Int) = (l2[k].toNat : Int) := by rw [he]
    rw [decide_eq_true he2]
    repeat (first | refine GD ?_ | refine NW fun _ => ?_)
    exact ⟨k + 1, ⟨by omega, fun j hj => by
      by_cases e : j = k
      · subst e; rw [List.getElem?_eq_getElem hl1, List.getElem?_eq_getElem hl2, he]
      · exact hall j (by omega)⟩, by omega, ⟨rfl, rfl, rfl, rfl, trivial⟩, Imp.refl _⟩
  · have he2 : ¬ (l1[k].toNat : Int) = (l2[k].toNat : Int) := fun e => he (UInt8.toNat_inj.1 (by omega))
    rw [decide_eq_false he2]
    repeat (first | refine GD ?_ | refine NW fun _ => ?_)
    refine ret1 rfl ⟨?_, MM⟩
    have : l1 ≠ l2 := fun e => he (by subst e; rfl)
    simp [this]
set_option maxHeartbeats 1000000 in
set_option maxRecDepth 10000 in
theorem clone_ok (a : Addr) (n c : Nat) (l : List UInt8) (hn : n = l.length) (hs : n < 1000000) : RT G 48 [.slice (some a) n c] (readS (some a) n 1 (l.map byteV)) (BytesNew l) := by
  refine RT.enter Tryd.func48 rfl (by decide) rfl Tryd.ntmps48 rfl (fun A hu hA => ?_)
  have hE : ∀ {L}, A ∈ L → Ent L (readS (some a) n 1 (l.map byteV)) := fun m => Ent.mem m hu hA
  repeat (first | refine GO ?_ | refine NW fun _ => ?_)
  refine WL.step rfl (OP.lit0 (size := 1) rfl rfl rfl rfl rfl rfl (fun b => ?_))
  repeat (first | refine GO ?_ | refine NW fun _ => ?_)
  refine WL.step rfl (OP.append rfl rfl rfl rfl rfl rfl rfl rfl rfl P1 (hE MM) (allOne_bytes _) (by omega) (by omega) rfl rfl (fun a2' cap2 => ?_))
  rw [Nat.zero_add, List.nil_append]
  repeat (first | refine GO ?_ | refine NW fun _ => ?_)
  exact ret1 rfl ⟨[ownS a2' n cap2 5 1 (l.map byteV)], ⟨a2', cap2, by rw [hn], by rw [hn]⟩, II⟩
def OpenOk (l : List UInt8) : Prop := 4 ≤ l.length ∧ tailM (l.take (l.length - 4)) = l.drop (l.length - 4)
instance (l : List UInt8) : Decidable (OpenOk l) := by unfold OpenOk; infer_instance
def OpenPost (l : List UInt8) (v : Value) (E : List Assn) : Prop :=
  if OpenOk l then ∃ v1, v = .tuple #[v1, .bool true] ∧ BytesNew (l.take (l.length - 4)) v1 E else v = .tuple #[.slice none 0 0, .bool false] ∧ E = []
set_option maxHeartbeats 1000000 in
set_option maxRecDepth 10000 in
theorem open_ok (a : Option Addr) (n c : Nat) (l : List UInt8) (hn : n = l.length) (hc : n ≤ c) (hs : n < 1000000) : RT G 26 [.slice a n c] (readS a n 1 (l.map byteV)) (OpenPost l) := by
  refine RT.enter Tryd.func26 rfl (by decide) rfl Tryd.ntmps26 rfl (fun A hu hA => ?_)
  have hE : ∀ {L}, A ∈ L → Ent L (readS a n 1 (l.map byteV)) := fun m => Ent.mem m hu hA
  repeat (first | refine GO ?_ | refine NW fun _ => ?_)
  refine RD 13 13 ([A]) ?_
  by_cases h4 : n < 4
  · refine VV 0 ?_; refine VV 1 ?_
    rw [decide_eq_true (show (n : Int) - 4 < 0 by omega)]
    refine VV 2 ?_
    refine VF 3 ?_; refine VF 4 ?_; refine VF 5 ?_; refine VF 6 ?_; refine VF 7 ?_; refine VF 8 ?_; refine VF 9 ?_; refine VF 10 ?_; refine VF 11 ?_
    refine VQ 12 rfl (Quiet.pickT rfl rfl rfl) ?_
    refine DN ?_
    repeat (first | refine GD ?_ | refine NW fun _ => ?_)
    refine ret2 rfl rfl ⟨[], ?_, II⟩
    unfold OpenPost
    rw [if_neg (fun h => by have := h.1; omega)]
    exact ⟨rfl, rfl⟩
  refine VV 0 ?_; refine VV 1 ?_
  rw [decide_eq_false (show ¬ (n : Int) - 4 < 0 by omega)]
  refine VV 2 ?_; refine VV 3 ?_; refine VV 4 ?_; refine VV 5 ?_
  refine VV 7 ?_; refine VV 8 ?_; refine VV 9 ?_
  rw [show ((n : Int) - 4).toNat = n - 4 by omega]
  have hEt : ∀ {L}, A ∈ L → Ent L (readS a (n - 4) 1 ((l.take (n - 4)).map byteV)) := fun m => Ent.mem m hu fun h hh => by
    have := readS_take (m := n - 4) (hA h hh) (by omega)
    rw [Nat.mul_one, ← List.map_take] at this
    exact this
  have hEd : ∀ {L}, A ∈ L → Ent L (readS (cutA a c (n - 4) 1) (n - (n - 4)) 1 ((l.drop (n - 4)).map byteV)) := fun m => Ent.mem m hu fun h hh => by
    have := readS_cut (i := n - 4) (hA h hh) (by omega) hc
    rw [Nat.mul_one, ← List.map_drop] at this
    exact this
  refine WH.onlyG (q := true) 6 rfl rfl rfl rfl rfl rfl rfl (by kernel_rfl) rfl (.inl rfl) (fun _ => OP.callRT rfl rfl (tail_ok a (n - 4) c (l.take (n - 4)) (by rw [List.length_take]; omega) (by omega)) (hEt MM) rfl rfl (fun v E hE' => ?_)) (fun h => nomatch h)
  obtain ⟨a1, cap1, rfl, rfl⟩ := hE'
  refine ⟨fun _ => II, ?_⟩
  refine WH.onlyG (q := true) 10 rfl rfl rfl rfl rfl rfl rfl (by kernel_rfl) rfl (.inl rfl) (fun _ => OP.callRO rfl rfl (seq_ro a1 (cutA a c (n - 4) 1) _ cap1 (n - (n - 4)) (c - (n - 4)) (tailM (l.take (n - 4))) (l.drop (n - 4)) rfl (by rw [List.length_drop]; omega) (by rw [tailM_len]; decide)) (Ent.and (Ent.own (T := 5) MM) (hEd MM)) rfl rfl ⟨fun _ => II, ?_⟩) (fun h => nomatch h)
  by_cases heq : tailM (l.take (n - 4)) = l.drop (n - 4)
  · rw [decide_eq_true heq]
    refine VV 11 ?_; refine VV 12 ?_
    refine DN ?_
    refine WC.fact (Ent.some (hE MM) (by omega)) ?_
    rintro ⟨b, off, rfl⟩
    repeat (first | refine GD ?_ | refine NW fun _ => ?_)
    rw [show ((n : Int) - 4).toNat = n - 4 by omega]
    refine WL.step rfl (OP.callRT rfl rfl (clone_ok ⟨b, off, none⟩ (n - 4) c (l.take (n - 4)) (by rw [List.length_take]; omega) (by omega)) (hEt MM) rfl rfl ?_)
    rintro v E ⟨a2, cap2, rfl, rfl⟩
    repeat (first | refine GD ?_ | refine NW fun _ => ?_)
    refine ret2 rfl rfl ⟨[_], ?_, II⟩
    unfold OpenPost
    rw [if_pos ⟨by omega, by rw [← hn]; exact heq⟩, ← hn]
    exact ⟨_, rfl, a2, cap2, rfl, rfl⟩
  · rw [decide_eq_false heq]
    refine VV 11 ?_; refine VV 12 ?_
    refine DN ?_
    repeat (first | refine GD ?_ | refine NW fun _ => ?_)
    refine ret2 rfl rfl ⟨[], ?_, II⟩
    unfold OpenPost
    rw [if_neg (fun h => heq (by have := h.2; rwa [← hn] at this))]
    exact ⟨rfl, rfl⟩
end Go.Proofs.YtkoakmaihcheaacDoor
