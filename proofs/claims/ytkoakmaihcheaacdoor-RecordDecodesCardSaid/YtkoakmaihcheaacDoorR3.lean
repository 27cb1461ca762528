/- Contracts of functions of the given program, and plain laws on what they compute: parts of the proofs of laws. -/
import Derived.Test.YtkoakmaihcheaacDoorGLt
import Derived.Test.YtkoakmaihcheaacDoorR2
import Derived.Test.YtkoakmaihcheaacDoorF1

namespace Go.Proofs.YtkoakmaihcheaacDoor
open Go Go.GL

theorem repL_bytes (n : Nat) : repL [Value.int .u8 0] n = (List.replicate n (0 : UInt8)).map byteV := by
  induction n with
  | zero => rfl
  | succ n ih => simp only [repL, ih, List.replicate_succ, List.map_cons, List.singleton_append]; rfl
theorem allOne_bytes (l : List UInt8) : allOne (l.map byteV) = true := by
  induction l with
  | nil => rfl
  | cons x r ih => simpa [allOne, one, byteV] using ih
def textB (s : ByteArray) : List UInt8 := numB s.size ++ s.data.toList
theorem clamp_nat (n : Nat) (h : (n : Int) ≤ widest) : clampN n = n := by unfold clampN widest at *; omega
set_option maxHeartbeats 1000000 in
set_option maxRecDepth 10000 in
theorem text_ok (a : Option Addr) (n cap : Nat) (l : List UInt8) (s : ByteArray) (hn : n < 100000) (hs : s.size < 100000) :
    Triple G 24 [.slice a n cap, .string s] [ownS a n cap 5 1 (l.map byteV)] (NumPost n l (textB s)) := by
  refine Triple.enter Tryd.func24 rfl (by decide) rfl Tryd.ntmps24 rfl (fun F => ?_)
  repeat (first | refine GO ?_ | refine NW fun _ => ?_)
  refine WL.step rfl (OP.call (pre := [ownS a n cap 5 1 (l.map byteV)]) rfl rfl (number_ok a n cap l s.size (by omega)) PS rfl rfl ?_)
  rintro _ _ ⟨a1, cap1, rfl, rfl⟩
  have h9 := numB_nine s.size
  have hcl := clamp_nat s.size (by unfold widest; omega)
  rw [hcl] at h9 ⊢
  repeat (first | refine GO ?_ | refine NW fun _ => ?_)
  refine WL.step rfl (OP.appendStr rfl rfl rfl rfl rfl rfl rfl rfl rfl rfl P1 (by omega) rfl rfl (fun a2 cap2 => ?_))
  repeat (first | refine GO ?_ | refine NW fun _ => ?_)
  have hsl : s.data.toList.length = s.size := Array.length_toList
  have e : n + (numB s.size).length + s.size = n + (textB s).length := by unfold textB; rw [List.length_append, hsl]; omega
  refine ret1 rfl ⟨[_], ⟨a2, cap2, by rw [e], ?_⟩, II⟩
  rw [e]
  unfold textB
  rw [← List.append_assoc, List.map_append (l₁ := l ++ numB s.size)]
  rfl
set_option maxRecDepth 10000 in
theorem num_ro (x least : Int) : RO G 21 [.int .i64 x, .int .i64 least] (fun _ => True) (.bool (decide (least ≤ x ∧ x ≤ widest))) := by
  refine RO.enter Tryd.func21 rfl (by decide) rfl Tryd.ntmps21 rfl (fun A _ hA => ?_) (fun _ _ _ h => h)
  by_cases h1 : least ≤ x
  · by_cases h2 : x ≤ 1152921504606846975
    · repeat (first | refine GD ?_ | refine NW fun _ => ?_)
      exact ret1 rfl ⟨by unfold widest; simp [h1, h2], MM⟩
    · repeat (first | refine GD ?_ | refine NW fun _ => ?_)
      exact ret1 rfl ⟨by unfold widest; simp [h2], MM⟩
  · repeat (first | refine GD ?_ | refine NW fun _ => ?_)
    exact ret1 rfl ⟨by simp [h1], MM⟩
set_option maxRecDepth 10000 in
theorem grow_ok (n : Nat) (hn : n < 10000000) : RT G 67 [.slice none 0 0, .int .i64 n] (fun _ => True) (fun v E => ∃ a cap, v = .slice a 0 cap ∧ E = [ownS a 0 cap 5 1 []]) := by
  refine RT.enter Tryd.func67 rfl (by decide) rfl Tryd.ntmps67 rfl (fun A hu hA => ?_)
  by_cases h0 : n = 0
  · subst h0
    rw [show ((0 : Nat) : Int) = 0 from rfl]
    repeat (first | refine GD ?_ | refine NW fun _ => ?_)
    exact ret1 rfl ⟨[_], ⟨none, 0, rfl, rfl⟩, Imp.nilS 5 1⟩
  · repeat (first | refine GD ?_ | refine NW fun _ => ?_)
    refine WL.step rfl (OP.appendZ rfl rfl rfl rfl rfl rfl rfl rfl rfl rfl (by omega) (by omega) (by omega) (by omega) rfl rfl (fun b cap hcap => ?_))
    refine WL.imp (Imp.ownTake (m := 0) (by omega)) ?_
    repeat (first | refine GD ?_ | refine NW fun _ => ?_)
    exact ret1 rfl ⟨[_], ⟨_, cap, rfl, by simp⟩, Imp.refl _⟩
/-- two slices, one behind the other -/
def TwoS (a : Option Addr) (a1 a2 : Option Addr) (n1 c1 n2 c2 : Nat) (l1 l2 : List UInt8) : Assn := fun h => readS a 2 1 [.slice a1 n1 c1, .slice a2 n2 c2] h ∧ readS a1 n1 1 (l1.map byteV) h ∧ readS a2 n2 1 (l2.map byteV) h
set_option maxHeartbeats 1000000 in
set_option maxRecDepth 10000 in
theorem concat_ok (a a1 a2 : Option Addr) (c n1 c1 n2 c2 : Nat) (l1 l2 : List UInt8) (h1 : n1 = l1.length) (h2 : n2 = l2.length) (hs1 : n1 < 1000000) (hs2 : n2 < 1000000) :
    RT G 45 [.slice a 2 c] (TwoS a a1 a2 n1 c1 n2 c2 l1 l2) (BytesNew (l1 ++ l2)) := by
  refine RT.enter Tryd.func45 rfl (by decide) rfl Tryd.ntmps45 rfl (fun A hu hA => ?_)
  have hE : ∀ {L}, A ∈ L → Ent L (readS a 2 1 [.slice a1 n1 c1, .slice a2 n2 c2]) := fun m => Ent.mem m hu fun h x => (hA h x).1
  have hE1 : ∀ {L}, A ∈ L → Ent L (readS a1 n1 1 (l1.map byteV)) := fun m => Ent.mem m hu fun h x => (hA h x).2.1
  have hE2 : ∀ {L}, A ∈ L → Ent L (readS a2 n2 1 (l2.map byteV)) := fun m => Ent.mem m hu fun h x => (hA h x).2.2
  refine WC.fact (Ent.some (hE MM) (by decide)) ?_
  rintro ⟨b, off, rfl⟩
  repeat (first | refine GO ?_ | refine NW fun _ => ?_)
  refine WC.loop (σ := Nat × Int) (fun s => s.1 ≤ 2 ∧ (s.1 = 0 → s.2 = 0) ∧ (s.1 = 1 → s.2 = n1) ∧ (s.1 = 2 → s.2 = (n1 : Int) + n2))
    (fun s => [(0, .val (.slice (some ⟨b, off, none⟩) 2 c)), (3, .val (.int .i64 s.2)), (9, .val (.slice (some ⟨b, off, none⟩) 2 c)), (10, .val (.int .i64 2)), (11, .val (.int .i64 s.1))])
    (fun s => [A]) (fun s => 2 - s.1) (0, 0) ⟨by simp, by simp, by simp, by simp⟩ ⟨rfl, rfl, rfl, rfl, rfl, trivial⟩ (Imp.refl _) ?_
  rintro ⟨k, t⟩ ⟨hk, ht0, ht1, ht2⟩
  dsimp only at hk ht0 ht1 ht2 ⊢
  obtain rfl | rfl | rfl : k = 0 ∨ k = 1 ∨ k = 2 := by omega
  · obtain rfl := ht0 rfl
    repeat (first | refine GD ?_ | refine NW fun _ => ?_)
    refine WL.step rfl (OP.load1 (v := .slice a1 n1 c1) rfl rfl rfl rfl (Ent.elem (i := 0) (hE MM) rfl rfl) rfl rfl ?_)
    repeat (first | refine GD ?_ | refine NW fun _ => ?_)
    exact ⟨(1, 0 + n1), ⟨by simp, by simp, by simp, by simp⟩, by simp, ⟨rfl, rfl, rfl, rfl, rfl, trivial⟩, Imp.refl _⟩
  · obtain rfl := ht1 rfl
    repeat (first | refine GD ?_ | refine NW fun _ => ?_)
    refine WL.step rfl (OP.load1 (v := .slice a2 n2 c2) rfl rfl rfl rfl (Ent.elem (i := 1) (hE MM) rfl rfl) rfl rfl ?_)
    repeat (first | refine GD ?_ | refine NW fun _ => ?_)
    exact ⟨(2, (n1 : Int) + n2), ⟨by simp, by simp, by simp, by simp⟩, by simp, ⟨rfl, rfl, rfl, rfl, rfl, trivial⟩, Imp.refl _⟩
  obtain rfl := ht2 rfl
  rw [← Int.natCast_add]
  repeat (first | refine GD ?_ | refine NW fun _ => ?_)
  refine WL.step rfl (OP.callRT rfl rfl (grow_ok (n1 + n2) (by omega)) (fun _ _ => trivial) rfl rfl ?_)
  rintro v E ⟨ag, cg, rfl, rfl⟩
  repeat (first | refine GD ?_ | refine NW fun _ => ?_)
  refine WC.loop (σ := Nat × Option Addr × Nat × Nat × List UInt8) (fun s => s.1 ≤ 2 ∧ s.2.2.1 = s.2.2.2.2.length ∧ (s.1 = 0 → s.2.2.2.2 = []) ∧ (s.1 = 1 → s.2.2.2.2 = l1) ∧ (s.1 = 2 → s.2.2.2.2 = l1 ++ l2))
    (fun s => [(25, .val (.slice (some ⟨b, off, none⟩) 2 c)), (6, .val (.slice s.2.1 s.2.2.1 s.2.2.2.1)), (26, .val (.int .i64 2)), (27, .val (.int .i64 s.1))])
    (fun s => [ownS s.2.1 s.2.2.1 s.2.2.2.1 5 1 (s.2.2.2.2.map byteV), A]) (fun s => 2 - s.1) (0, ag, 0, cg, []) ⟨by simp, rfl, by simp, by simp, by simp⟩ ⟨rfl, rfl, rfl, rfl, trivial⟩ II ?_
  rintro ⟨k, a', n', cap', l⟩ ⟨hk, hn', ht0, ht1, ht2⟩
  dsimp only at hk hn' ht0 ht1 ht2 ⊢
  obtain rfl | rfl | rfl : k = 0 ∨ k = 1 ∨ k = 2 := by omega
  · obtain rfl := ht0 rfl
    obtain rfl : n' = 0 := hn'
    repeat (first | refine GD ?_ | refine NW fun _ => ?_)
    refine WL.step rfl (OP.load1 (v := .slice a1 n1 c1) rfl rfl rfl rfl (Ent.elem (i := 0) (hE MM) rfl rfl) rfl rfl ?_)
    repeat (first | refine GD ?_ | refine NW fun _ => ?_)
    refine WL.step rfl (OP.append rfl rfl rfl rfl rfl rfl rfl rfl rfl P1 (hE1 MM) (allOne_bytes _) (by omega) (by omega) rfl rfl (fun a2' cap2 => ?_))
    repeat (first | refine GD ?_ | refine NW fun _ => ?_)
    exact ⟨(1, a2', 0 + n1, cap2, l1), ⟨by simp, by simp [h1], by simp, by simp, by simp⟩, by simp, ⟨rfl, rfl, rfl, rfl, trivial⟩, II⟩
  · obtain rfl := ht1 rfl
    repeat (first | refine GD ?_ | refine NW fun _ => ?_)
    refine WL.step rfl (OP.load1 (v := .slice a2 n2 c2) rfl rfl rfl rfl (Ent.elem (i := 1) (hE MM) rfl rfl) rfl rfl ?_)
    repeat (first | refine GD ?_ | refine NW fun _ => ?_)
    refine WL.step rfl (OP.append rfl rfl rfl rfl rfl rfl rfl rfl rfl P1 (hE2 MM) (allOne_bytes _) (by omega) (by omega) rfl rfl (fun a2' cap2 => ?_))
    repeat (first | refine GD ?_ | refine NW fun _ => ?_)
    exact ⟨(2, a2', n' + n2, cap2, l ++ l2), ⟨by simp, by simp [hn', h2], by simp, by simp, by simp⟩, by simp, ⟨rfl, rfl, rfl, rfl, trivial⟩, by rw [List.map_append]; exact II⟩
  · obtain rfl := ht2 rfl
    subst hn'
    repeat (first | refine GD ?_ | refine NW fun _ => ?_)
    exact ret1 rfl ⟨[_], ⟨a', cap', rfl, rfl⟩, II⟩
end Go.Proofs.YtkoakmaihcheaacDoor
