/- Contracts of functions of the given program, and plain laws on what they compute: parts of the proofs of laws. -/
import Derived.Test.YtkoakmaihcheaacDoorGLt
import Derived.Test.YtkoakmaihcheaacDoorTab
import Derived.Test.YtkoakmaihcheaacDoorGLp

namespace Go.Proofs.YtkoakmaihcheaacDoor
open Go Go.GL

def widest : Int := 1152921504606846975
/-- a number as bytes -/
def numB (n : Nat) : List UInt8 := if n < 128 then [UInt8.ofNat n] else UInt8.ofNat (n % 128 + 128) :: numB (n / 128)
termination_by n
decreasing_by omega
theorem numB_lt {n : Nat} (h : n < 128) : numB n = [UInt8.ofNat n] := by rw [numB, if_pos h]
theorem numB_ge {n : Nat} (h : ¬ n < 128) : numB n = UInt8.ofNat (n % 128 + 128) :: numB (n / 128) := by rw [numB, if_neg h]
theorem numB_len : ∀ (k n : Nat), n < 128 ^ (k + 1) → (numB n).length ≤ k + 1
  | 0, n, h => by rw [numB_lt (by simpa using h)]; simp
  | k + 1, n, h => by
    by_cases hn : n < 128
    · rw [numB_lt hn]; simp
    · rw [numB_ge hn, List.length_cons]
      have := numB_len k (n / 128) (by rw [Nat.div_lt_iff_lt_mul (by omega), ← Nat.pow_succ]; exact h)
      omega
def clampN (x : Int) : Nat := (max 0 (min x widest)).toNat
theorem clamp_le (x : Int) : (clampN x : Int) ≤ widest := by unfold clampN widest; omega
theorem numB_nine (x : Int) : (numB (clampN x)).length ≤ 9 := numB_len 8 _ (by have := clamp_le x; unfold widest at this; omega)
theorem wrap_u8 (y : Nat) : IntKind.u8.wrap (y : Int) = ((y % 256 : Nat) : Int) := by
  simp [IntKind.wrap, IntKind.signed, IntKind.bits]
set_option maxRecDepth 10000 in
theorem or_small : ∀ z : Fin 256, bitsV .or .u8 (z.val : Int) 128 = ((z.val % 128 + 128 : Nat) : Int) := by decide
theorem or_byte (y : Nat) : Value.int .u8 (bitsV .or .u8 (IntKind.u8.wrap (y : Int)) 128) = byteV (UInt8.ofNat (y % 128 + 128)) := by
  unfold byteV
  rw [wrap_u8]
  have := or_small ⟨y % 256, by omega⟩
  simp only at this
  rw [this]
  congr 1
  rw [UInt8.toNat_ofNat']
  omega
theorem low_byte (y : Nat) (h : y < 128) : Value.int .u8 (y : Int) = byteV (UInt8.ofNat y) := by
  unfold byteV
  congr 1
  rw [UInt8.toNat_ofNat']
  omega
theorem shr7 (y : Nat) : shrV .i64 (y : Int) 7 = ((y / 128 : Nat) : Int) := by
  unfold shrV
  simp [IntKind.bits]
  rw [Int.fdiv_eq_ediv_of_nonneg _ (by omega)]
def NumPost (n : Nat) (l l2 : List UInt8) (v : Value) (M : List Assn) : Prop := ∃ a' cap', v = .slice a' (n + l2.length) cap' ∧ M = [ownS a' (n + l2.length) cap' 5 1 ((l ++ l2).map byteV)]

set_option maxHeartbeats 1000000 in
set_option maxRecDepth 10000 in
theorem number_ok (a : Option Addr) (n cap : Nat) (l : List UInt8) (x : Int) (hn : n < 1000000) :
    Triple G 23 [.slice a n cap, .int .i64 x] [ownS a n cap 5 1 (l.map byteV)] (NumPost n l (numB (clampN x))) := by
  refine Triple.enter Tryd.func23 rfl (by decide) rfl Tryd.ntmps23 rfl (fun F => ?_)
  repeat (first | refine GO ?_ | refine NW fun _ => ?_)
  have hcl : (if (0 : Int) < (if (1152921504606846975 : Int) < x then (1152921504606846975 : Int) else x) then (if (1152921504606846975 : Int) < x then (1152921504606846975 : Int) else x) else 0) = (clampN x : Int) := by
    unfold clampN widest
    split <;> split <;> omega
  rw [hcl]
  have hc1 := clamp_le x
  unfold widest at hc1
  have h9 := numB_nine x
  generalize clampN x = y0 at *
  unfold NumPost
  generalize hfin : l ++ numB y0 = fin
  have hfl : n + (numB y0).length = n + (fin.length - l.length) := by rw [← hfin, List.length_append]; omega
  refine WC.fact (Ent.len (Ent.own (a := a) (n := n) (cap := cap) (T := 5) (size := 1) (cs := l.map byteV) MM)) (fun hlen => ?_)
  have hln : l.length = n := by simpa using hlen
  refine WC.loop (σ := Option Addr × Nat × Nat × List UInt8 × Nat) (fun s => s.2.1 = s.2.2.2.1.length ∧ s.2.2.2.1 ++ numB s.2.2.2.2 = fin ∧ s.2.2.2.2 ≤ y0)
    (fun s => [(0, .val (.slice s.1 s.2.1 s.2.2.1)), (1, .val (.int .i64 s.2.2.2.2))])
    (fun s => [ownS s.1 s.2.1 s.2.2.1 5 1 (s.2.2.2.1.map byteV), F]) (fun s => s.2.2.2.2) (a, n, cap, l, y0) ⟨hln.symm, hfin, Nat.le_refl _⟩ ⟨rfl, rfl, trivial⟩ II ?_
  rintro ⟨a1, n1, cap1, l1, y⟩ ⟨hn1, hl1, hy⟩
  dsimp only at hn1 hl1 hy ⊢
  have hlen1 : l1.length + (numB y).length = fin.length := by rw [← hl1, List.length_append]
  have hlen2 : l.length + (numB y0).length = fin.length := by rw [← hfin, List.length_append]
  by_cases hge : 128 ≤ y
  · rw [numB_ge (by omega)] at hl1
    repeat (first | refine GD ?_ | refine NW fun _ => ?_)
    rw [or_byte y]
    repeat (first | refine GD ?_ | refine NW fun _ => ?_)
    refine WL.step rfl (OP.append rfl rfl rfl rfl rfl rfl rfl rfl rfl P1 (Ent.own MM) rfl (by omega) (by omega) rfl rfl (fun a2 cap2 => ?_))
    repeat (first | refine GD ?_ | refine NW fun _ => ?_)
    rw [shr7 y]
    exact ⟨(a2, n1 + 1, cap2, l1 ++ [UInt8.ofNat (y % 128 + 128)], y / 128), ⟨by simp [hn1], by simp only []; rw [List.append_assoc]; exact hl1, by dsimp only; omega⟩, by dsimp only; omega, ⟨rfl, rfl, trivial⟩, by rw [List.map_append]; exact II⟩
  · rw [numB_lt (by omega)] at hl1
    repeat (first | refine GD ?_ | refine NW fun _ => ?_)
    rw [low_byte y (by omega)]
    repeat (first | refine GD ?_ | refine NW fun _ => ?_)
    refine WL.step rfl (OP.append rfl rfl rfl rfl rfl rfl rfl rfl rfl P1 (Ent.own MM) rfl (by omega) (by omega) rfl rfl (fun a2 cap2 => ?_))
    repeat (first | refine GD ?_ | refine NW fun _ => ?_)
    have e : n + (numB y0).length = n1 + 1 := by
      have : fin.length = n1 + 1 := by rw [← hl1, List.length_append, List.length_singleton, hn1]
      omega
    refine ret1 rfl ⟨[_], ⟨a2, cap2, by rw [e], by rw [e, ← hl1, List.map_append]⟩, II⟩
end Go.Proofs.YtkoakmaihcheaacDoor
