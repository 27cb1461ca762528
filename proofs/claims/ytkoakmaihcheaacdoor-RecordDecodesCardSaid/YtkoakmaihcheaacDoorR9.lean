/- Contracts of functions of the given program, and plain laws on what they compute: parts of the proofs of laws. -/
import Derived.Test.YtkoakmaihcheaacDoorGLt
import Derived.Test.YtkoakmaihcheaacDoorR6

namespace Go.Proofs.YtkoakmaihcheaacDoor
open Go Go.GL

/-- what is left to read, and what was wrong -/
abbrev PR := List UInt8 × Int
def rdN : Nat → Nat → List UInt8 → Except Int (Nat × List UInt8)
  | _, _, [] => .error 2
  | i, n, c :: t =>
    if (i = 8 ∧ (128 ≤ c.toNat ∨ widest < ((n + c.toNat % 128 * 128 ^ i : Nat) : Int))) ∨ (0 < i ∧ c.toNat = 0) then .error 1
    else if c.toNat < 128 then .ok (n + c.toNat % 128 * 128 ^ i, t)
    else rdN (i + 1) (n + c.toNat % 128 * 128 ^ i) t
theorem rdN_cons (i n : Nat) (c : UInt8) (t : List UInt8) : rdN i n (c :: t) =
    if (i = 8 ∧ (128 ≤ c.toNat ∨ widest < ((n + c.toNat % 128 * 128 ^ i : Nat) : Int))) ∨ (0 < i ∧ c.toNat = 0) then .error 1
    else if c.toNat < 128 then .ok (n + c.toNat % 128 * 128 ^ i, t)
    else rdN (i + 1) (n + c.toNat % 128 * 128 ^ i) t := rfl
def numR (s : PR) : Int × PR :=
  if s.2 ≠ 0 then (0, s) else match rdN 0 0 s.1 with
    | .ok (n, t) => ((n : Int), (t, 0))
    | .error e => (0, ([], e))
def RdPost (r : Nat) (A : Assn) (x : Value) (s : PR) (v : Value) (M : List Assn) : Prop := v = x ∧ ∃ v', Bytes A s.1 v' ∧ M = [blk r [v', .int .i64 s.2] 107, A]
theorem bytes_nil (A : Assn) : Bytes A [] (.slice none 0 0) := ⟨none, 0, 0, rfl, rfl, Nat.le_refl _, fun _ _ => ⟨rfl, .inl ⟨rfl, rfl⟩⟩⟩
set_option maxRecDepth 10000 in
theorem err_ro (r : Nat) (v : Value) (e : Int) : RO G 29 [.pointer (some ⟨r, 0, none⟩)] (cellsAt r 0 [v, .int .i64 e]) (.int .i64 e) := by
  refine RO.enter Tryd.func29 rfl (by decide) rfl Tryd.ntmps29 rfl (fun A hu hA => ?_) (up_cellsAt _ _ _)
  repeat (first | refine GO ?_ | refine NW fun _ => ?_)
  refine WL.step rfl (OP.load1 (v := .int .i64 e) rfl rfl rfl rfl (Ent.mem (A := A) MM hu (fun h x => cellsAt_one (i := 1) (hA h x) rfl)) rfl rfl ?_)
  repeat (first | refine GO ?_ | refine NW fun _ => ?_)
  exact ret1 rfl ⟨rfl, MM⟩
set_option maxRecDepth 10000 in
theorem wrong5_ok (r : Nat) (A : Assn) (v : Value) (e code : Int) : Triple G 69 [.pointer (some ⟨r, 0, none⟩), .int .i64 code] [blk r [v, .int .i64 e] 107, A] (RdPost r A (.int .i64 0) ([], code)) := by
  refine Triple.enter Tryd.func69 rfl (by decide) rfl Tryd.ntmps69 rfl (fun F => ?_)
  repeat (first | refine GO ?_ | refine NW fun _ => ?_)
  exact ret1 rfl ⟨_, ⟨rfl, _, bytes_nil A, rfl⟩, Imp.refl _⟩
set_option maxRecDepth 10000 in
theorem andnot_small : ∀ z : Fin 256, bitsV .andNot .u8 (z.val : Int) 128 = ((z.val % 128 : Nat) : Int) := by decide
theorem andnot_byte (c : UInt8) : bitsV .andNot .u8 (c.toNat : Int) 128 = ((c.toNat % 128 : Nat) : Int) := andnot_small ⟨c.toNat, c.toNat_lt⟩
theorem pow128 (i : Nat) (h : i ≤ 8) : (128 : Nat) ^ i ≤ 128 ^ 8 := Nat.pow_le_pow_right (by decide) h
theorem shl_num (x i : Nat) (hx : x < 128) (hi : i ≤ 8) : shlV .i64 (x : Int) (7 * (i : Int)) = ((x * 128 ^ i : Nat) : Int) := by
  have hp := pow128 i hi
  have h1 : x * 128 ^ i ≤ 127 * 128 ^ 8 := Nat.mul_le_mul (by omega) hp
  have e : (2 : Int) ^ (min (7 * (i : Int)).toNat IntKind.i64.bits) = ((128 ^ i : Nat) : Int) := by
    have : min (7 * (i : Int)).toNat IntKind.i64.bits = 7 * i := by
      show min (7 * (i : Int)).toNat 64 = 7 * i
      omega
    rw [this, show (128 : Nat) ^ i = 2 ^ (7 * i) by rw [Nat.pow_mul], Int.natCast_pow]
    rfl
  unfold shlV
  rw [e, ← Int.natCast_mul]
  exact wrap_fit (k := .i64) (by unfold Fit; omega)
theorem or_num (n x i : Nat) (hn : n < 128 ^ i) (hx : x < 128) (hi : i ≤ 8) : bitsV .or .i64 (n : Int) ((x * 128 ^ i : Nat) : Int) = ((n + x * 128 ^ i : Nat) : Int) := by
  have hp := pow128 i hi
  have h1 : x * 128 ^ i ≤ 127 * 128 ^ 8 := Nat.mul_le_mul (by omega) hp
  have hor : n ||| x * 128 ^ i = n + x * 128 ^ i := by
    have e : (128 : Nat) ^ i = 2 ^ (7 * i) := by rw [Nat.pow_mul]
    rw [e] at hn ⊢
    have := Nat.shiftLeft_add_eq_or_of_lt hn x
    rw [Nat.shiftLeft_eq] at this
    rw [Nat.or_comm, ← this, Nat.add_comm]
  unfold bitsV
  show IntKind.i64.wrap (((BitVec.ofInt 64 (n : Int)) ||| (BitVec.ofInt 64 ((x * 128 ^ i : Nat) : Int))).toNat : Int) = _
  rw [BitVec.ofInt_natCast, BitVec.ofInt_natCast, BitVec.toNat_or, BitVec.toNat_ofNat, BitVec.toNat_ofNat, Nat.mod_eq_of_lt (by omega), Nat.mod_eq_of_lt (by omega), hor]
  exact wrap_fit (k := .i64) (by unfold Fit; omega)
end Go.Proofs.YtkoakmaihcheaacDoor
