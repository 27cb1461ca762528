/- Contracts of functions of the given program, and plain laws on what they compute: parts of the proofs of laws. -/
import Derived.Test.YtkoakmaihcheaacDoorGLt
import Derived.Test.YtkoakmaihcheaacDoorR3

namespace Go.Proofs.YtkoakmaihcheaacDoor
open Go Go.GL

theorem tailM_len (l : List UInt8) : (tailM l).length = 4 := rfl
set_option maxHeartbeats 1000000 in
set_option maxRecDepth 10000 in
theorem seal_ok (a : Option Addr) (n cap : Nat) (l : List UInt8) (hn : n = l.length) (hs : n < 1000000) : RT G 44 [.slice a n cap] (readS a n 1 (l.map byteV)) (BytesNew (l ++ tailM l)) := by
  refine RT.enter Tryd.func44 rfl (by decide) rfl Tryd.ntmps44 rfl (fun A hu hA => ?_)
  have hE : ∀ {L}, A ∈ L → Ent L (readS a n 1 (l.map byteV)) := fun m => Ent.mem m hu hA
  repeat (first | refine GO ?_ | refine NW fun _ => ?_)
  refine WL.step rfl (OP.callRT rfl rfl (tail_ok a n cap l hn hs) (hE MM) rfl rfl ?_)
  rintro v E ⟨a1, cap1, rfl, rfl⟩
  repeat (first | refine GO ?_ | refine NW fun _ => ?_)
  refine WL.step rfl (OP.callRT rfl rfl (concat_ok _ a a1 2 n cap 4 cap1 l (tailM l) hn rfl hs (by decide)) (Ent.and (Ent.own MM) (Ent.and (hE MM) (Ent.own (T := 5) MM))) rfl rfl ?_)
  rintro v E ⟨a2, cap2, rfl, rfl⟩
  repeat (first | refine GO ?_ | refine NW fun _ => ?_)
  exact ret1 rfl ⟨[_], ⟨a2, cap2, rfl, rfl⟩, II⟩
def padM (l : List UInt8) : List UInt8 := l ++ List.replicate (60 - l.length) 0
def sectorM (l : List UInt8) : List UInt8 := padM l ++ tailM (padM l)
theorem padM_len {l : List UInt8} (h : l.length ≤ 60) : (padM l).length = 60 := by unfold padM; rw [List.length_append, List.length_replicate]; omega
theorem sectorM_len {l : List UInt8} (h : l.length ≤ 60) : (sectorM l).length = 64 := by unfold sectorM; rw [List.length_append, padM_len h, tailM_len]
set_option maxHeartbeats 1000000 in
set_option maxRecDepth 10000 in
theorem sector_ok (a : Option Addr) (n cap : Nat) (l : List UInt8) (hn : n = l.length) (hs : n ≤ 60) : RT G 25 [.slice a n cap] (readS a n 1 (l.map byteV)) (fun v E => ∃ v1, v = .tuple #[v1, .bool true] ∧ BytesNew (sectorM l) v1 E) := by
  refine RT.enter Tryd.func25 rfl (by decide) rfl Tryd.ntmps25 rfl (fun A hu hA => ?_)
  have hE : ∀ {L}, A ∈ L → Ent L (readS a n 1 (l.map byteV)) := fun m => Ent.mem m hu hA
  repeat (first | refine GD ?_ | refine NW fun _ => ?_)
  refine WL.step rfl (OP.makeS rfl rfl rfl rfl rfl rfl rfl rfl (by omega) (by omega) (by omega) rfl rfl (fun b => ?_))
  rw [repL_bytes]
  repeat (first | refine GD ?_ | refine NW fun _ => ?_)
  refine WL.step rfl (OP.callRT rfl rfl (concat_ok _ a (some ⟨b, 0, none⟩) 2 n cap _ _ l (List.replicate ((60 : Int) - n).toNat 0) hn (by rw [List.length_replicate]) (by omega) (by omega)) (Ent.and (Ent.own MM) (Ent.and (hE MM) (Ent.own (T := 5) MM))) rfl rfl ?_)
  rintro v E ⟨a2, cap2, rfl, rfl⟩
  repeat (first | refine GD ?_ | refine NW fun _ => ?_)
  have hp : l ++ List.replicate ((60 : Int) - n).toNat 0 = padM l := by unfold padM; rw [show ((60 : Int) - n).toNat = 60 - l.length by omega]
  rw [hp]
  have hpl := padM_len (l := l) (by omega)
  refine WL.step rfl (OP.callRT rfl rfl (seal_ok a2 _ cap2 (padM l) rfl (by omega)) (Ent.own MM) rfl rfl ?_)
  rintro v E ⟨a3, cap3, rfl, rfl⟩
  repeat (first | refine GD ?_ | refine NW fun _ => ?_)
  exact ret2 rfl rfl ⟨[_], ⟨_, rfl, a3, cap3, rfl, rfl⟩, II⟩

/-- a record: number, kind, block, data, marker -/
abbrev Rec := Int × Int × Int × ByteArray × Int
def encR (r : Rec) : List Value := [.int .i64 r.1, .int .i64 r.2.1, .int .i64 r.2.2.1, .string r.2.2.2.1, .int .i64 r.2.2.2.2]
def RightR (r : Rec) : Prop := (1 ≤ r.1 ∧ r.1 ≤ widest) ∧ ((r.2.1 = 2 ∧ (1 ≤ r.2.2.2.2 ∧ r.2.2.2.2 ≤ widest) ∧ r.2.2.2.1 = ⟨#[]⟩ ∧ r.2.2.1 = 0) ∨ (r.2.1 = 1 ∧ (0 ≤ r.2.2.1 ∧ r.2.2.1 < 8) ∧ r.2.2.2.1.size ≤ 16 ∧ r.2.2.2.2 = 0))
instance (r : Rec) : Decidable (RightR r) := by unfold RightR; infer_instance
set_option maxHeartbeats 4000000 in
set_option maxRecDepth 10000 in
theorem right_ro (r : Rec) (hsz : r.2.2.2.1.size < 1000000) : RO G 20 [.agg (encR r).toArray] (fun _ => True) (.bool (decide (RightR r))) := by
  refine RO.enter Tryd.func20 rfl (by decide) rfl Tryd.ntmps20 rfl (fun A hu hA => ?_) (fun _ _ _ h => h)
  obtain ⟨seq, kind, block, data, num⟩ := r
  unfold RightR widest
  dsimp only at hsz ⊢
  rw [show encR (seq, kind, block, data, num) = [.int .i64 seq, .int .i64 kind, .int .i64 block, .string data, .int .i64 num] from rfl]
  repeat (first | refine GO ?_ | refine NW fun _ => ?_)
  refine WL.step rfl (OP.callRO rfl rfl (num_ro _ _) (fun _ _ => trivial) rfl rfl ?_)
  unfold widest
  by_cases h2 : kind = 2
  · by_cases hs : 1 ≤ seq ∧ seq ≤ 1152921504606846975
    rotate_left
    · rw [decide_eq_false hs]
      repeat (first | refine GD ?_ | refine NW fun _ => ?_)
      exact ret1 rfl ⟨by first | (simp; omega) | (simp [*]; omega) | simp [*], MM⟩
    rw [decide_eq_true hs]
    repeat (first | refine GD ?_ | refine NW fun _ => ?_)
    refine WL.guardT rfl rfl rfl rfl (OP.callRO rfl rfl (num_ro _ _) (fun _ _ => trivial) rfl rfl ?_)
    unfold widest
    by_cases hn : 1 ≤ num ∧ num ≤ 1152921504606846975
    rotate_left
    · rw [decide_eq_false hn]
      repeat (first | refine GD ?_ | refine NW fun _ => ?_)
      exact ret1 rfl ⟨by first | (simp; omega) | (simp [*]; omega) | simp [*], MM⟩
    rw [decide_eq_true hn]
    by_cases hd : data = ⟨#[]⟩
    rotate_left
    · repeat (first | refine GD ?_ | refine NW fun _ => ?_)
      exact ret1 rfl ⟨by first | (simp; omega) | (simp [*]; omega) | simp [*], MM⟩
    have hsz0 : data.size = 0 := by rw [hd]; rfl
    by_cases hb0 : 0 ≤ block
    rotate_left
    · repeat (first | refine GD ?_ | refine NW fun _ => ?_)
      exact ret1 rfl ⟨by first | (simp; omega) | (simp [*]; omega) | simp [*], MM⟩
    by_cases hb8 : block < 8
    rotate_left
    · repeat (first | refine GD ?_ | refine NW fun _ => ?_)
      exact ret1 rfl ⟨by first | (simp; omega) | (simp [*]; omega) | simp [*], MM⟩
    by_cases hb : block = 0
    · repeat (first | refine GD ?_ | refine NW fun _ => ?_)
      exact ret1 rfl ⟨by first | (simp; omega) | (simp [*]; omega) | simp [*], MM⟩
    · repeat (first | refine GD ?_ | refine NW fun _ => ?_)
      exact ret1 rfl ⟨by first | (simp; omega) | (simp [*]; omega) | simp [*], MM⟩
  · by_cases h1 : kind = 1
    rotate_left
    · repeat (first | refine GD ?_ | refine NW fun _ => ?_)
      exact ret1 rfl ⟨by first | (simp; omega) | (simp [*]; omega) | simp [*], MM⟩
    by_cases hs : 1 ≤ seq ∧ seq ≤ 1152921504606846975
    rotate_left
    · rw [decide_eq_false hs]
      repeat (first | refine GD ?_ | refine NW fun _ => ?_)
      exact ret1 rfl ⟨by first | (simp; omega) | (simp [*]; omega) | simp [*], MM⟩
    rw [decide_eq_true hs]
    by_cases hb0 : 0 ≤ block
    rotate_left
    · repeat (first | refine GD ?_ | refine NW fun _ => ?_)
      exact ret1 rfl ⟨by first | (simp; omega) | (simp [*]; omega) | simp [*], MM⟩
    by_cases hb8 : block < 8
    rotate_left
    · repeat (first | refine GD ?_ | refine NW fun _ => ?_)
      exact ret1 rfl ⟨by first | (simp; omega) | (simp [*]; omega) | simp [*], MM⟩
    by_cases hs16 : data.size ≤ 16
    rotate_left
    · repeat (first | refine GD ?_ | refine NW fun _ => ?_)
      exact ret1 rfl ⟨by first | (simp; omega) | (simp [*]; omega) | simp [*], MM⟩
    by_cases hn0 : num = 0
    · repeat (first | refine GD ?_ | refine NW fun _ => ?_)
      exact ret1 rfl ⟨by first | (simp; omega) | (simp [*]; omega) | simp [*], MM⟩
    · repeat (first | refine GD ?_ | refine NW fun _ => ?_)
      exact ret1 rfl ⟨by first | (simp; omega) | (simp [*]; omega) | simp [*], MM⟩
end Go.Proofs.YtkoakmaihcheaacDoor
