/- Contracts of functions of the given program, and plain laws: parts of the proofs of laws. -/
import Derived.Test.YtleajkobmhhacaaGreatDoorZPQ4
import Derived.Test.YtleajkobmhhacaaGreatDoorZPQ5
import Derived.Test.YtleajkobmhhacaaGreatDoorZPQ3
/- Contracts of functions of the given program, and plain laws on what they compute: parts of the proofs of laws. -/

namespace Go.Proofs.YtleajkobmhhacaaGreatDoor
open Go Go.GL

def widest : Int := 1152921504606846975
/-- a number as bytes -/
def numB (n : Nat) : List UInt8 := if n < 128 then [UInt8.ofNat n] else UInt8.ofNat (n % 128 + 128) :: numB (n / 128)
termination_by n
decreasing_by omega
theorem numB_lt {n : Nat} (h : n < 128) : numB n = [UInt8.ofNat n] := by rw [numB, if_pos h]
theorem numB_ge {n : Nat} (h : ¬ n < 128) : numB n = UInt8.ofNat (n % 128 + 128) :: numB (n / 128) := by rw [numB, if_neg h]
theorem numB_len : ∀ (k n : Nat), n < 128 ^ (k + 1) → (numB n).length ≤ k + 1
  | 0, n, h => by rw [numB_lt (by simpa using h)]; simp
  | k + 1, n, h => by
    by_cases hn : n < 128
    · rw [numB_lt hn]; simp
    · rw [numB_ge hn, List.length_cons]
      have := numB_len k (n / 128) (by rw [Nat.div_lt_iff_lt_mul (by omega), ← Nat.pow_succ]; exact h)
      omega
def clampN (x : Int) : Nat := (max 0 (min x widest)).toNat
theorem clamp_le (x : Int) : (clampN x : Int) ≤ widest := by unfold clampN widest; omega
theorem numB_nine (x : Int) : (numB (clampN x)).length ≤ 9 := numB_len 8 _ (by have := clamp_le x; unfold widest at this; omega)
theorem wrap_u8 (y : Nat) : IntKind.u8.wrap (y : Int) = ((y % 256 : Nat) : Int) := by
  simp [IntKind.wrap, IntKind.signed, IntKind.bits]
set_option maxRecDepth 10000 in
theorem or_small : ∀ z : Fin 256, bitsV .or .u8 (z.val : Int) 128 = ((z.val % 128 + 128 : Nat) : Int) := by decide
theorem or_byte (y : Nat) : Value.int .u8 (bitsV .or .u8 (IntKind.u8.wrap (y : Int)) 128) = byteV (UInt8.ofNat (y % 128 + 128)) := by
  unfold byteV
  rw [wrap_u8]
  have := or_small ⟨y % 256, by omega⟩
  simp only at this
  rw [this]
  congr 1
  rw [UInt8.toNat_ofNat']
  omega
theorem low_byte (y : Nat) (h : y < 128) : Value.int .u8 (y : Int) = byteV (UInt8.ofNat y) := by
  unfold byteV
  congr 1
  rw [UInt8.toNat_ofNat']
  omega
theorem shr7 (y : Nat) : shrV .i64 (y : Int) 7 = ((y / 128 : Nat) : Int) := by
  unfold shrV
  simp [IntKind.bits]
  rw [Int.fdiv_eq_ediv_of_nonneg _ (by omega)]
def NumPost (n : Nat) (l l2 : List UInt8) (v : Value) (M : List Assn) : Prop := ∃ a' cap', v = .slice a' (n + l2.length) cap' ∧ M = [ownS a' (n + l2.length) cap' 5 1 ((l ++ l2).map byteV)]

set_option maxHeartbeats 1000000 in
set_option maxRecDepth 10000 in
theorem number_ok (a : Option Addr) (n cap : Nat) (l : List UInt8) (x : Int) (hn : n < 1000000) :
    Triple G 180 [.slice a n cap, .int .i64 x] [ownS a n cap 5 1 (l.map byteV)] (NumPost n l (numB (clampN x))) := by
  refine Triple.enter Tryz.func180 rfl (by decide) rfl Tryz.ntmps180 rfl (fun F => ?_)
  repeat (first | refine GO ?_ | refine NW fun _ => ?_)
  have hcl : (if (0 : Int) < (if (1152921504606846975 : Int) < x then (1152921504606846975 : Int) else x) then (if (1152921504606846975 : Int) < x then (1152921504606846975 : Int) else x) else 0) = (clampN x : Int) := by
    unfold clampN widest
    split <;> split <;> omega
  rw [hcl]
  have hc1 := clamp_le x
  unfold widest at hc1
  have h9 := numB_nine x
  generalize clampN x = y0 at *
  unfold NumPost
  generalize hfin : l ++ numB y0 = fin
  have hfl : n + (numB y0).length = n + (fin.length - l.length) := by rw [← hfin, List.length_append]; omega
  refine WC.fact (Ent.len (Ent.own (a := a) (n := n) (cap := cap) (T := 5) (size := 1) (cs := l.map byteV) MM)) (fun hlen => ?_)
  have hln : l.length = n := by simpa using hlen
  refine WC.loop (σ := Option Addr × Nat × Nat × List UInt8 × Nat) (fun s => s.2.1 = s.2.2.2.1.length ∧ s.2.2.2.1 ++ numB s.2.2.2.2 = fin ∧ s.2.2.2.2 ≤ y0)
    (fun s => [(0, .val (.slice s.1 s.2.1 s.2.2.1)), (1, .val (.int .i64 s.2.2.2.2))])
    (fun s => [ownS s.1 s.2.1 s.2.2.1 5 1 (s.2.2.2.1.map byteV), F]) (fun s => s.2.2.2.2) (a, n, cap, l, y0) ⟨hln.symm, hfin, Nat.le_refl _⟩ ⟨rfl, rfl, trivial⟩ II ?_
  rintro ⟨a1, n1, cap1, l1, y⟩ ⟨hn1, hl1, hy⟩
  dsimp only at hn1 hl1 hy ⊢
  have hlen1 : l1.length + (numB y).length = fin.length := by rw [← hl1, List.length_append]
  have hlen2 : l.length + (numB y0).length = fin.length := by rw [← hfin, List.length_append]
  by_cases hge : 128 ≤ y
  · rw [numB_ge (by omega)] at hl1
    repeat (first | refine GD ?_ | refine NW fun _ => ?_)
    rw [or_byte y]
    repeat (first | refine GD ?_ | refine NW fun _ => ?_)
    refine WL.step rfl (OP.append rfl rfl rfl rfl rfl rfl rfl rfl rfl P1 (Ent.own MM) rfl (by omega) (by omega) rfl rfl (fun a2 cap2 => ?_))
    repeat (first | refine GD ?_ | refine NW fun _ => ?_)
    rw [shr7 y]
    exact ⟨(a2, n1 + 1, cap2, l1 ++ [UInt8.ofNat (y % 128 + 128)], y / 128), ⟨by simp [hn1], by simp only []; rw [List.append_assoc]; exact hl1, by dsimp only; omega⟩, by dsimp only; omega, ⟨rfl, rfl, trivial⟩, by rw [List.map_append]; exact II⟩
  · rw [numB_lt (by omega)] at hl1
    repeat (first | refine GD ?_ | refine NW fun _ => ?_)
    rw [low_byte y (by omega)]
    repeat (first | refine GD ?_ | refine NW fun _ => ?_)
    refine WL.step rfl (OP.append rfl rfl rfl rfl rfl rfl rfl rfl rfl P1 (Ent.own MM) rfl (by omega) (by omega) rfl rfl (fun a2 cap2 => ?_))
    repeat (first | refine GD ?_ | refine NW fun _ => ?_)
    have e : n + (numB y0).length = n1 + 1 := by
      have : fin.length = n1 + 1 := by rw [← hl1, List.length_append, List.length_singleton, hn1]
      omega
    refine ret1 rfl ⟨[_], ⟨a2, cap2, by rw [e], by rw [e, ← hl1, List.map_append]⟩, II⟩
end Go.Proofs.YtleajkobmhhacaaGreatDoor
/- Contracts of functions of the given program, and plain laws on what they compute: parts of the proofs of laws. -/

namespace Go.Proofs.YtleajkobmhhacaaGreatDoor
open Go Go.GL

abbrev W32 := BitVec 32
def u32V (c : W32) : Value := .int .u32 (c.toNat : Int)
def tbl : List W32 := [0#32, 274646895#32, 549293790#32, 820201905#32, 1098587580#32, 1361435347#32, 1640403810#32, 1905808397#32, 2197175160#32, 2460548119#32, 2722870694#32, 2987750089#32, 3280807620#32, 3553878443#32, 3811616794#32, 4084100981#32]
def half (c : W32) : W32 := (c >>> 4) ^^^ (tbl.getD (c &&& 15#32).toNat 0)
def crcStep (c : W32) (x : UInt8) : W32 := half (half (c ^^^ BitVec.ofNat 32 x.toNat))
def crcF (c : W32) (l : List UInt8) : W32 := l.foldl crcStep c
def crc (l : List UInt8) : W32 := ~~~ (crcF (BitVec.allOnes 32) l)
theorem ofInt_u32 (c : W32) : BitVec.ofInt IntKind.u32.bits (c.toNat : Int) = c := by
  show BitVec.ofInt 32 (c.toNat : Int) = c
  rw [BitVec.ofInt_natCast, BitVec.ofNat_toNat, BitVec.setWidth_eq]
theorem wrap_u32 (c : W32) : IntKind.u32.wrap (c.toNat : Int) = (c.toNat : Int) := wrap_fit (k := .u32) (by have := c.isLt; unfold Fit; omega)
theorem xor_u32 (c d : W32) : bitsV .xor .u32 (c.toNat : Int) (d.toNat : Int) = ((c ^^^ d).toNat : Int) := by
  unfold bitsV
  simp only [ofInt_u32]
  exact wrap_u32 (c ^^^ d)
theorem and_u32 (c d : W32) : bitsV .and .u32 (c.toNat : Int) (d.toNat : Int) = ((c &&& d).toNat : Int) := by
  unfold bitsV
  simp only [ofInt_u32]
  exact wrap_u32 (c &&& d)
theorem shr_u32 (c : W32) (n : Nat) (hn : n ≤ 32) : shrV .u32 (c.toNat : Int) (n : Int) = ((c >>> n).toNat : Int) := by
  unfold shrV
  rw [Int.toNat_natCast, show min n IntKind.u32.bits = n from Nat.min_eq_left hn, Int.fdiv_eq_ediv_of_nonneg _ (by exact Int.le_of_lt (Int.pow_pos (by decide))), BitVec.toNat_ushiftRight, Nat.shiftRight_eq_div_pow]
  rw [Int.natCast_ediv]
  norm_cast
def tblV : List Value := [.int .u32 0, .int .u32 274646895, .int .u32 549293790, .int .u32 820201905, .int .u32 1098587580, .int .u32 1361435347, .int .u32 1640403810, .int .u32 1905808397, .int .u32 2197175160, .int .u32 2460548119, .int .u32 2722870694, .int .u32 2987750089, .int .u32 3280807620, .int .u32 3553878443, .int .u32 3811616794, .int .u32 4084100981]
theorem tbl_cells (i : Nat) (h : i < 16) : tblV[i]? = some (.int .u32 ((tbl.getD i 0).toNat : Int)) := by
  obtain rfl | rfl | rfl | rfl | rfl | rfl | rfl | rfl | rfl | rfl | rfl | rfl | rfl | rfl | rfl | rfl : i = 0 ∨ i = 1 ∨ i = 2 ∨ i = 3 ∨ i = 4 ∨ i = 5 ∨ i = 6 ∨ i = 7 ∨ i = 8 ∨ i = 9 ∨ i = 10 ∨ i = 11 ∨ i = 12 ∨ i = 13 ∨ i = 14 ∨ i = 15 := by omega
  all_goals rfl
set_option maxHeartbeats 1000000 in
set_option maxRecDepth 10000 in
theorem half_ro (c : W32) : RO G 247 [u32V c] (fun _ => True) (u32V (half c)) := by
  refine RO.enter Tryz.func247 rfl (by decide) rfl Tryz.ntmps247 rfl (fun A hu hA => ?_) (fun _ _ _ h => h)
  unfold u32V
  repeat (first | refine GO ?_ | refine NW fun _ => ?_)
  have ha := and_u32 c 15#32
  rw [show (((15#32 : W32).toNat : Nat) : Int) = 15 from rfl] at ha
  have hlt : (c &&& 15#32).toNat < 16 := by
    rw [BitVec.toNat_and]
    exact Nat.lt_of_le_of_lt Nat.and_le_right (by decide)
  have hs := shr_u32 c 4 (by decide)
  rw [show (((4 : Nat) : Int)) = 4 from rfl] at hs
  rw [ha, hs]
  repeat (first | refine GO ?_ | refine NW fun _ => ?_)
  refine WL.step rfl (OP.load1 (v := .int .u32 ((tbl.getD (c &&& 15#32).toNat 0).toNat : Int)) rfl rfl rfl rfl (Ent.blk (c := tblV) MM (by simpa using tbl_cells _ hlt)) rfl rfl ?_)
  repeat (first | refine GO ?_ | refine NW fun _ => ?_)
  rw [xor_u32]
  exact ret1 rfl ⟨rfl, MM⟩
set_option maxHeartbeats 1000000 in
set_option maxRecDepth 10000 in
theorem of_ro (a : Option Addr) (n cap : Nat) (l : List UInt8) (hn : n = l.length) (hs : n < 1000000) : RO G 246 [.slice a n cap] (readS a n 1 (l.map byteV)) (u32V (crc l)) := by
  refine RO.enter Tryz.func246 rfl (by decide) rfl Tryz.ntmps246 rfl (fun A hu hA => ?_) (up_readS _ _ _ _)
  have hE : ∀ {L}, A ∈ L → Ent L (readS a n 1 (l.map byteV)) := fun m => Ent.mem m hu hA
  repeat (first | refine GO ?_ | refine NW fun _ => ?_)
  refine WC.loop (σ := Nat) (fun k => k ≤ n)
    (fun k => [(3, .val (u32V (crcF (BitVec.allOnes 32) (l.take k)))), (6, .val (.slice a n cap)), (7, .val (.int .i64 n)), (8, .val (.int .i64 k))])
    (fun k => [A]) (fun k => n - k) 0 (Nat.zero_le _) ⟨rfl, rfl, rfl, rfl, trivial⟩ (Imp.refl _) ?_
  rintro k hk
  by_cases hlt : k < n
  rotate_left
  · have : l.take k = l := List.take_of_length_le (by omega)
    rw [this]
    unfold u32V
    repeat (first | refine GD ?_ | refine NW fun _ => ?_)
    have hx := xor_u32 (BitVec.allOnes 32) (crcF (BitVec.allOnes 32) l)
    have e : (if IntKind.u32.signed = true then (-1 : Int) else IntKind.u32.max) = ((BitVec.allOnes 32).toNat : Int) := rfl
    rw [e, hx, BitVec.allOnes_xor]
    exact ret1 rfl ⟨rfl, MM⟩
  have hl1 : k < l.length := by omega
  have hsn : crcF (BitVec.allOnes 32) (l.take (k + 1)) = crcStep (crcF (BitVec.allOnes 32) (l.take k)) l[k] := by
    unfold crcF
    rw [List.take_succ_eq_append_getElem hl1, List.foldl_append]
    rfl
  generalize crcF (BitVec.allOnes 32) (l.take k) = c at *
  unfold u32V
  repeat (first | refine GD ?_ | refine NW fun _ => ?_)
  refine WL.fact (Ent.some (hE MM) (by omega)) ?_
  rintro ⟨b, off, rfl⟩
  repeat (first | refine GD ?_ | refine NW fun _ => ?_)
  refine WL.step rfl (OP.load1 (v := byteV l[k]) rfl rfl rfl rfl (Ent.elem (i := k * 1) (hE MM) rfl (by simp [hl1])) rfl rfl ?_)
  generalize l[k] = x at *
  have hx8 : x.toNat < 256 := x.toNat_lt
  unfold byteV
  repeat (first | refine GD ?_ | refine NW fun _ => ?_)
  have hx := xor_u32 c (BitVec.ofNat 32 x.toNat)
  have hb : ((BitVec.ofNat 32 x.toNat).toNat : Int) = x.toNat := by rw [BitVec.toNat_ofNat]; omega
  rw [hb] at hx
  rw [hx]
  refine WL.step rfl (OP.callRO rfl rfl (half_ro _) (fun _ _ => trivial) rfl rfl ?_)
  repeat (first | refine GD ?_ | refine NW fun _ => ?_)
  refine WL.step rfl (OP.callRO rfl rfl (half_ro _) (fun _ _ => trivial) rfl rfl ?_)
  repeat (first | refine GD ?_ | refine NW fun _ => ?_)
  exact ⟨k + 1, by omega, by omega, ⟨by rw [hsn]; rfl, rfl, rfl, rfl, trivial⟩, Imp.refl _⟩
def le4 (c : W32) : List UInt8 := [UInt8.ofNat (c.toNat % 256), UInt8.ofNat ((c >>> 8).toNat % 256), UInt8.ofNat ((c >>> 16).toNat % 256), UInt8.ofNat ((c >>> 24).toNat % 256)]
def tailM (l : List UInt8) : List UInt8 := le4 (crc l)
theorem byte_u32 (c : W32) : Value.int .u8 (IntKind.u8.wrap (c.toNat : Int)) = byteV (UInt8.ofNat (c.toNat % 256)) := by
  unfold byteV
  rw [wrap_u8]
  congr 1
  rw [UInt8.toNat_ofNat']
  omega
def BytesNew (l : List UInt8) (v : Value) (E : List Assn) : Prop := ∃ a cap, v = .slice a l.length cap ∧ E = [ownS a l.length cap 5 1 (l.map byteV)]
set_option maxHeartbeats 1000000 in
set_option maxRecDepth 10000 in
theorem tail_ok (a : Option Addr) (n cap : Nat) (l : List UInt8) (hn : n = l.length) (hs : n < 1000000) : RT G 239 [.slice a n cap] (readS a n 1 (l.map byteV)) (BytesNew (tailM l)) := by
  refine RT.enter Tryz.func239 rfl (by decide) rfl Tryz.ntmps239 rfl (fun A hu hA => ?_)
  have hE : ∀ {L}, A ∈ L → Ent L (readS a n 1 (l.map byteV)) := fun m => Ent.mem m hu hA
  repeat (first | refine GO ?_ | refine NW fun _ => ?_)
  refine WL.step rfl (OP.callRO rfl rfl (of_ro a n cap l hn hs) (hE MM) rfl rfl ?_)
  unfold tailM
  generalize crc l = c
  unfold u32V
  have h8 := shr_u32 c 8 (by decide)
  have h16 := shr_u32 c 16 (by decide)
  have h24 := shr_u32 c 24 (by decide)
  rw [show (((8 : Nat) : Int)) = 8 from rfl] at h8
  rw [show (((16 : Nat) : Int)) = 16 from rfl] at h16
  rw [show (((24 : Nat) : Int)) = 24 from rfl] at h24
  repeat (first | refine GO ?_ | refine NW fun _ => ?_)
  rw [h8, h16, h24, byte_u32, byte_u32, byte_u32, byte_u32]
  exact ret1 rfl ⟨[_], ⟨_, _, rfl, rfl⟩, II⟩
end Go.Proofs.YtleajkobmhhacaaGreatDoor
/- Contracts of functions of the given program, and plain laws on what they compute: parts of the proofs of laws. -/

namespace Go.Proofs.YtleajkobmhhacaaGreatDoor
open Go Go.GL

/-- a fault: its error's value, and its block -/
def Fault (op : ByteArray) (at_ c : Int) (v : Value) (M : List Assn) : Prop := ∃ b, v = .iface 248 (.pointer (some ⟨b, 0, none⟩)) ∧ M = [blk b [.string op, .int .i64 at_, .iface 91 (.int .i64 c)] 250]

set_option maxRecDepth 10000 in
theorem wrap_ok (op : ByteArray) (at_ c : Int) (h : c ≠ 0) : Triple G 145 [.string op, .int .i64 at_, .iface 91 (.int .i64 c)] [] (Fault op at_ c) := by
  refine Triple.enter Tryz.func145 rfl (by decide) rfl Tryz.ntmps145 rfl (fun F => ?_)
  repeat (first | refine GO ?_ | refine NW fun _ => ?_)
  refine WC.cond rfl (fun hb => ?_) (fun _ => ?_)
  · simp [h] at hb
  repeat (first | refine GO ?_ | refine NW fun _ => ?_)
  exact ret1 rfl ⟨_, ⟨_, rfl, rfl⟩, Imp.refl _⟩

end Go.Proofs.YtleajkobmhhacaaGreatDoor
/- Contracts of functions of the given program, and plain laws on what they compute: parts of the proofs of laws. -/

namespace Go.Proofs.YtleajkobmhhacaaGreatDoor
open Go Go.GL

theorem repL_bytes (n : Nat) : repL [Value.int .u8 0] n = (List.replicate n (0 : UInt8)).map byteV := by
  induction n with
  | zero => rfl
  | succ n ih => simp only [repL, ih, List.replicate_succ, List.map_cons, List.singleton_append]; rfl
theorem allOne_bytes (l : List UInt8) : allOne (l.map byteV) = true := by
  induction l with
  | nil => rfl
  | cons x r ih => simpa [allOne, one, byteV] using ih
def textB (s : ByteArray) : List UInt8 := numB s.size ++ s.data.toList
theorem clamp_nat (n : Nat) (h : (n : Int) ≤ widest) : clampN n = n := by unfold clampN widest at *; omega
set_option maxHeartbeats 1000000 in
set_option maxRecDepth 10000 in
theorem text_ok (a : Option Addr) (n cap : Nat) (l : List UInt8) (s : ByteArray) (hn : n < 100000) (hs : s.size < 100000) :
    Triple G 208 [.slice a n cap, .string s] [ownS a n cap 5 1 (l.map byteV)] (NumPost n l (textB s)) := by
  refine Triple.enter Tryz.func208 rfl (by decide) rfl Tryz.ntmps208 rfl (fun F => ?_)
  repeat (first | refine GO ?_ | refine NW fun _ => ?_)
  refine WL.step rfl (OP.call (pre := [ownS a n cap 5 1 (l.map byteV)]) rfl rfl (number_ok a n cap l s.size (by omega)) PS rfl rfl ?_)
  rintro _ _ ⟨a1, cap1, rfl, rfl⟩
  have h9 := numB_nine s.size
  have hcl := clamp_nat s.size (by unfold widest; omega)
  rw [hcl] at h9 ⊢
  repeat (first | refine GO ?_ | refine NW fun _ => ?_)
  refine WL.step rfl (OP.appendStr rfl rfl rfl rfl rfl rfl rfl rfl rfl rfl P1 (by omega) rfl rfl (fun a2 cap2 => ?_))
  repeat (first | refine GO ?_ | refine NW fun _ => ?_)
  have hsl : s.data.toList.length = s.size := Array.length_toList
  have e : n + (numB s.size).length + s.size = n + (textB s).length := by unfold textB; rw [List.length_append, hsl]; omega
  refine ret1 rfl ⟨[_], ⟨a2, cap2, by rw [e], ?_⟩, II⟩
  rw [e]
  unfold textB
  rw [← List.append_assoc, List.map_append (l₁ := l ++ numB s.size)]
  rfl
set_option maxRecDepth 10000 in
theorem num_ro (x least : Int) : RO G 207 [.int .i64 x, .int .i64 least] (fun _ => True) (.bool (decide (least ≤ x ∧ x ≤ widest))) := by
  refine RO.enter Tryz.func207 rfl (by decide) rfl Tryz.ntmps207 rfl (fun A _ hA => ?_) (fun _ _ _ h => h)
  by_cases h1 : least ≤ x
  · by_cases h2 : x ≤ 1152921504606846975
    · repeat (first | refine GD ?_ | refine NW fun _ => ?_)
      exact ret1 rfl ⟨by unfold widest; simp [h1, h2], MM⟩
    · repeat (first | refine GD ?_ | refine NW fun _ => ?_)
      exact ret1 rfl ⟨by unfold widest; simp [h2], MM⟩
  · repeat (first | refine GD ?_ | refine NW fun _ => ?_)
    exact ret1 rfl ⟨by simp [h1], MM⟩
set_option maxRecDepth 10000 in
theorem grow_ok (n : Nat) (hn : n < 10000000) : RT G 242 [.slice none 0 0, .int .i64 n] (fun _ => True) (fun v E => ∃ a cap, v = .slice a 0 cap ∧ E = [ownS a 0 cap 5 1 []]) := by
  refine RT.enter Tryz.func242 rfl (by decide) rfl Tryz.ntmps242 rfl (fun A hu hA => ?_)
  by_cases h0 : n = 0
  · subst h0
    rw [show ((0 : Nat) : Int) = 0 from rfl]
    repeat (first | refine GD ?_ | refine NW fun _ => ?_)
    exact ret1 rfl ⟨[_], ⟨none, 0, rfl, rfl⟩, Imp.nilS 5 1⟩
  · repeat (first | refine GD ?_ | refine NW fun _ => ?_)
    refine WL.step rfl (OP.appendZ rfl rfl rfl rfl rfl rfl rfl rfl rfl rfl (by omega) (by omega) (by omega) (by omega) rfl rfl (fun b cap hcap => ?_))
    refine WL.imp (Imp.ownTake (m := 0) (by omega)) ?_
    repeat (first | refine GD ?_ | refine NW fun _ => ?_)
    exact ret1 rfl ⟨[_], ⟨_, cap, rfl, by simp⟩, Imp.refl _⟩
/-- two slices, one behind the other -/
def TwoS (a : Option Addr) (a1 a2 : Option Addr) (n1 c1 n2 c2 : Nat) (l1 l2 : List UInt8) : Assn := fun h => readS a 2 1 [.slice a1 n1 c1, .slice a2 n2 c2] h ∧ readS a1 n1 1 (l1.map byteV) h ∧ readS a2 n2 1 (l2.map byteV) h
set_option maxHeartbeats 1000000 in
set_option maxRecDepth 10000 in
theorem concat_ok (a a1 a2 : Option Addr) (c n1 c1 n2 c2 : Nat) (l1 l2 : List UInt8) (h1 : n1 = l1.length) (h2 : n2 = l2.length) (hs1 : n1 < 1000000) (hs2 : n2 < 1000000) :
    RT G 224 [.slice a 2 c] (TwoS a a1 a2 n1 c1 n2 c2 l1 l2) (BytesNew (l1 ++ l2)) := by
  refine RT.enter Tryz.func224 rfl (by decide) rfl Tryz.ntmps224 rfl (fun A hu hA => ?_)
  have hE : ∀ {L}, A ∈ L → Ent L (readS a 2 1 [.slice a1 n1 c1, .slice a2 n2 c2]) := fun m => Ent.mem m hu fun h x => (hA h x).1
  have hE1 : ∀ {L}, A ∈ L → Ent L (readS a1 n1 1 (l1.map byteV)) := fun m => Ent.mem m hu fun h x => (hA h x).2.1
  have hE2 : ∀ {L}, A ∈ L → Ent L (readS a2 n2 1 (l2.map byteV)) := fun m => Ent.mem m hu fun h x => (hA h x).2.2
  refine WC.fact (Ent.some (hE MM) (by decide)) ?_
  rintro ⟨b, off, rfl⟩
  repeat (first | refine GO ?_ | refine NW fun _ => ?_)
  refine WC.loop (σ := Nat × Int) (fun s => s.1 ≤ 2 ∧ (s.1 = 0 → s.2 = 0) ∧ (s.1 = 1 → s.2 = n1) ∧ (s.1 = 2 → s.2 = (n1 : Int) + n2))
    (fun s => [(0, .val (.slice (some ⟨b, off, none⟩) 2 c)), (3, .val (.int .i64 s.2)), (9, .val (.slice (some ⟨b, off, none⟩) 2 c)), (10, .val (.int .i64 2)), (11, .val (.int .i64 s.1))])
    (fun s => [A]) (fun s => 2 - s.1) (0, 0) ⟨by simp, by simp, by simp, by simp⟩ ⟨rfl, rfl, rfl, rfl, rfl, trivial⟩ (Imp.refl _) ?_
  rintro ⟨k, t⟩ ⟨hk, ht0, ht1, ht2⟩
  dsimp only at hk ht0 ht1 ht2 ⊢
  obtain rfl | rfl | rfl : k = 0 ∨ k = 1 ∨ k = 2 := by omega
  · obtain rfl := ht0 rfl
    repeat (first | refine GD ?_ | refine NW fun _ => ?_)
    refine WL.step rfl (OP.load1 (v := .slice a1 n1 c1) rfl rfl rfl rfl (Ent.elem (i := 0) (hE MM) rfl rfl) rfl rfl ?_)
    repeat (first | refine GD ?_ | refine NW fun _ => ?_)
    exact ⟨(1, 0 + n1), ⟨by simp, by simp, by simp, by simp⟩, by simp, ⟨rfl, rfl, rfl, rfl, rfl, trivial⟩, Imp.refl _⟩
  · obtain rfl := ht1 rfl
    repeat (first | refine GD ?_ | refine NW fun _ => ?_)
    refine WL.step rfl (OP.load1 (v := .slice a2 n2 c2) rfl rfl rfl rfl (Ent.elem (i := 1) (hE MM) rfl rfl) rfl rfl ?_)
    repeat (first | refine GD ?_ | refine NW fun _ => ?_)
    exact ⟨(2, (n1 : Int) + n2), ⟨by simp, by simp, by simp, by simp⟩, by simp, ⟨rfl, rfl, rfl, rfl, rfl, trivial⟩, Imp.refl _⟩
  obtain rfl := ht2 rfl
  rw [← Int.natCast_add]
  repeat (first | refine GD ?_ | refine NW fun _ => ?_)
  refine WL.step rfl (OP.callRT rfl rfl (grow_ok (n1 + n2) (by omega)) (fun _ _ => trivial) rfl rfl ?_)
  rintro v E ⟨ag, cg, rfl, rfl⟩
  repeat (first | refine GD ?_ | refine NW fun _ => ?_)
  refine WC.loop (σ := Nat × Option Addr × Nat × Nat × List UInt8) (fun s => s.1 ≤ 2 ∧ s.2.2.1 = s.2.2.2.2.length ∧ (s.1 = 0 → s.2.2.2.2 = []) ∧ (s.1 = 1 → s.2.2.2.2 = l1) ∧ (s.1 = 2 → s.2.2.2.2 = l1 ++ l2))
    (fun s => [(25, .val (.slice (some ⟨b, off, none⟩) 2 c)), (6, .val (.slice s.2.1 s.2.2.1 s.2.2.2.1)), (26, .val (.int .i64 2)), (27, .val (.int .i64 s.1))])
    (fun s => [ownS s.2.1 s.2.2.1 s.2.2.2.1 5 1 (s.2.2.2.2.map byteV), A]) (fun s => 2 - s.1) (0, ag, 0, cg, []) ⟨by simp, rfl, by simp, by simp, by simp⟩ ⟨rfl, rfl, rfl, rfl, trivial⟩ II ?_
  rintro ⟨k, a', n', cap', l⟩ ⟨hk, hn', ht0, ht1, ht2⟩
  dsimp only at hk hn' ht0 ht1 ht2 ⊢
  obtain rfl | rfl | rfl : k = 0 ∨ k = 1 ∨ k = 2 := by omega
  · obtain rfl := ht0 rfl
    obtain rfl : n' = 0 := hn'
    repeat (first | refine GD ?_ | refine NW fun _ => ?_)
    refine WL.step rfl (OP.load1 (v := .slice a1 n1 c1) rfl rfl rfl rfl (Ent.elem (i := 0) (hE MM) rfl rfl) rfl rfl ?_)
    repeat (first | refine GD ?_ | refine NW fun _ => ?_)
    refine WL.step rfl (OP.append rfl rfl rfl rfl rfl rfl rfl rfl rfl P1 (hE1 MM) (allOne_bytes _) (by omega) (by omega) rfl rfl (fun a2' cap2 => ?_))
    repeat (first | refine GD ?_ | refine NW fun _ => ?_)
    exact ⟨(1, a2', 0 + n1, cap2, l1), ⟨by simp, by simp [h1], by simp, by simp, by simp⟩, by simp, ⟨rfl, rfl, rfl, rfl, trivial⟩, II⟩
  · obtain rfl := ht1 rfl
    repeat (first | refine GD ?_ | refine NW fun _ => ?_)
    refine WL.step rfl (OP.load1 (v := .slice a2 n2 c2) rfl rfl rfl rfl (Ent.elem (i := 1) (hE MM) rfl rfl) rfl rfl ?_)
    repeat (first | refine GD ?_ | refine NW fun _ => ?_)
    refine WL.step rfl (OP.append rfl rfl rfl rfl rfl rfl rfl rfl rfl P1 (hE2 MM) (allOne_bytes _) (by omega) (by omega) rfl rfl (fun a2' cap2 => ?_))
    repeat (first | refine GD ?_ | refine NW fun _ => ?_)
    exact ⟨(2, a2', n' + n2, cap2, l ++ l2), ⟨by simp, by simp [hn', h2], by simp, by simp, by simp⟩, by simp, ⟨rfl, rfl, rfl, rfl, trivial⟩, by rw [List.map_append]; exact II⟩
  · obtain rfl := ht2 rfl
    subst hn'
    repeat (first | refine GD ?_ | refine NW fun _ => ?_)
    exact ret1 rfl ⟨[_], ⟨a', cap', rfl, rfl⟩, II⟩
end Go.Proofs.YtleajkobmhhacaaGreatDoor
/- Contracts of functions of the given program, and plain laws on what they compute: parts of the proofs of laws. -/

namespace Go.Proofs.YtleajkobmhhacaaGreatDoor
open Go Go.GL

theorem tailM_len (l : List UInt8) : (tailM l).length = 4 := rfl
set_option maxHeartbeats 1000000 in
set_option maxRecDepth 10000 in
theorem seal_ok (a : Option Addr) (n cap : Nat) (l : List UInt8) (hn : n = l.length) (hs : n < 1000000) : RT G 223 [.slice a n cap] (readS a n 1 (l.map byteV)) (BytesNew (l ++ tailM l)) := by
  refine RT.enter Tryz.func223 rfl (by decide) rfl Tryz.ntmps223 rfl (fun A hu hA => ?_)
  have hE : ∀ {L}, A ∈ L → Ent L (readS a n 1 (l.map byteV)) := fun m => Ent.mem m hu hA
  repeat (first | refine GO ?_ | refine NW fun _ => ?_)
  refine WL.step rfl (OP.callRT rfl rfl (tail_ok a n cap l hn hs) (hE MM) rfl rfl ?_)
  rintro v E ⟨a1, cap1, rfl, rfl⟩
  repeat (first | refine GO ?_ | refine NW fun _ => ?_)
  refine WL.step rfl (OP.callRT rfl rfl (concat_ok _ a a1 2 n cap 4 cap1 l (tailM l) hn rfl hs (by decide)) (Ent.and (Ent.own MM) (Ent.and (hE MM) (Ent.own (T := 5) MM))) rfl rfl ?_)
  rintro v E ⟨a2, cap2, rfl, rfl⟩
  repeat (first | refine GO ?_ | refine NW fun _ => ?_)
  exact ret1 rfl ⟨[_], ⟨a2, cap2, rfl, rfl⟩, II⟩
def padM (l : List UInt8) : List UInt8 := l ++ List.replicate (60 - l.length) 0
def sectorM (l : List UInt8) : List UInt8 := padM l ++ tailM (padM l)
theorem padM_len {l : List UInt8} (h : l.length ≤ 60) : (padM l).length = 60 := by unfold padM; rw [List.length_append, List.length_replicate]; omega
theorem sectorM_len {l : List UInt8} (h : l.length ≤ 60) : (sectorM l).length = 64 := by unfold sectorM; rw [List.length_append, padM_len h, tailM_len]
set_option maxHeartbeats 1000000 in
set_option maxRecDepth 10000 in
theorem sector_ok (a : Option Addr) (n cap : Nat) (l : List UInt8) (hn : n = l.length) (hs : n ≤ 60) : RT G 179 [.slice a n cap] (readS a n 1 (l.map byteV)) (fun v E => ∃ v1, v = .tuple #[v1, .bool true] ∧ BytesNew (sectorM l) v1 E) := by
  refine RT.enter Tryz.func179 rfl (by decide) rfl Tryz.ntmps179 rfl (fun A hu hA => ?_)
  have hE : ∀ {L}, A ∈ L → Ent L (readS a n 1 (l.map byteV)) := fun m => Ent.mem m hu hA
  repeat (first | refine GD ?_ | refine NW fun _ => ?_)
  refine WL.step rfl (OP.makeS rfl rfl rfl rfl rfl rfl rfl rfl (by omega) (by omega) (by omega) rfl rfl (fun b => ?_))
  rw [repL_bytes]
  repeat (first | refine GD ?_ | refine NW fun _ => ?_)
  refine WL.step rfl (OP.callRT rfl rfl (concat_ok _ a (some ⟨b, 0, none⟩) 2 n cap _ _ l (List.replicate ((60 : Int) - n).toNat 0) hn (by rw [List.length_replicate]) (by omega) (by omega)) (Ent.and (Ent.own MM) (Ent.and (hE MM) (Ent.own (T := 5) MM))) rfl rfl ?_)
  rintro v E ⟨a2, cap2, rfl, rfl⟩
  repeat (first | refine GD ?_ | refine NW fun _ => ?_)
  have hp : l ++ List.replicate ((60 : Int) - n).toNat 0 = padM l := by unfold padM; rw [show ((60 : Int) - n).toNat = 60 - l.length by omega]
  rw [hp]
  have hpl := padM_len (l := l) (by omega)
  refine WL.step rfl (OP.callRT rfl rfl (seal_ok a2 _ cap2 (padM l) rfl (by omega)) (Ent.own MM) rfl rfl ?_)
  rintro v E ⟨a3, cap3, rfl, rfl⟩
  repeat (first | refine GD ?_ | refine NW fun _ => ?_)
  exact ret2 rfl rfl ⟨[_], ⟨_, rfl, a3, cap3, rfl, rfl⟩, II⟩

/-- a record: number, kind, block, data, marker -/
abbrev Rec := Int × Int × Int × ByteArray × Int
def encR (r : Rec) : List Value := [.int .i64 r.1, .int .i64 r.2.1, .int .i64 r.2.2.1, .string r.2.2.2.1, .int .i64 r.2.2.2.2]
def RightR (r : Rec) : Prop := (1 ≤ r.1 ∧ r.1 ≤ widest) ∧ ((r.2.1 = 2 ∧ (1 ≤ r.2.2.2.2 ∧ r.2.2.2.2 ≤ widest) ∧ r.2.2.2.1 = ⟨#[]⟩ ∧ r.2.2.1 = 0) ∨ (r.2.1 = 1 ∧ (0 ≤ r.2.2.1 ∧ r.2.2.1 < 8) ∧ r.2.2.2.1.size ≤ 16 ∧ r.2.2.2.2 = 0))
instance (r : Rec) : Decidable (RightR r) := by unfold RightR; infer_instance
set_option maxHeartbeats 4000000 in
set_option maxRecDepth 10000 in
theorem right_ro (r : Rec) (hsz : r.2.2.2.1.size < 1000000) : RO G 206 [.agg (encR r).toArray] (fun _ => True) (.bool (decide (RightR r))) := by
  refine RO.enter Tryz.func206 rfl (by decide) rfl Tryz.ntmps206 rfl (fun A hu hA => ?_) (fun _ _ _ h => h)
  obtain ⟨seq, kind, block, data, num⟩ := r
  unfold RightR widest
  dsimp only at hsz ⊢
  rw [show encR (seq, kind, block, data, num) = [.int .i64 seq, .int .i64 kind, .int .i64 block, .string data, .int .i64 num] from rfl]
  repeat (first | refine GO ?_ | refine NW fun _ => ?_)
  refine WL.step rfl (OP.callRO rfl rfl (num_ro _ _) (fun _ _ => trivial) rfl rfl ?_)
  unfold widest
  by_cases h2 : kind = 2
  · by_cases hs : 1 ≤ seq ∧ seq ≤ 1152921504606846975
    rotate_left
    · rw [decide_eq_false hs]
      repeat (first | refine GD ?_ | refine NW fun _ => ?_)
      exact ret1 rfl ⟨by first | (simp; omega) | (simp [*]; omega) | simp [*], MM⟩
    rw [decide_eq_true hs]
    repeat (first | refine GD ?_ | refine NW fun _ => ?_)
    refine WL.guardT rfl rfl rfl rfl (OP.callRO rfl rfl (num_ro _ _) (fun _ _ => trivial) rfl rfl ?_)
    unfold widest
    by_cases hn : 1 ≤ num ∧ num ≤ 1152921504606846975
    rotate_left
    · rw [decide_eq_false hn]
      repeat (first | refine GD ?_ | refine NW fun _ => ?_)
      exact ret1 rfl ⟨by first | (simp; omega) | (simp [*]; omega) | simp [*], MM⟩
    rw [decide_eq_true hn]
    by_cases hd : data = ⟨#[]⟩
    rotate_left
    · repeat (first | refine GD ?_ | refine NW fun _ => ?_)
      exact ret1 rfl ⟨by first | (simp; omega) | (simp [*]; omega) | simp [*], MM⟩
    have hsz0 : data.size = 0 := by rw [hd]; rfl
    by_cases hb0 : 0 ≤ block
    rotate_left
    · repeat (first | refine GD ?_ | refine NW fun _ => ?_)
      exact ret1 rfl ⟨by first | (simp; omega) | (simp [*]; omega) | simp [*], MM⟩
    by_cases hb8 : block < 8
    rotate_left
    · repeat (first | refine GD ?_ | refine NW fun _ => ?_)
      exact ret1 rfl ⟨by first | (simp; omega) | (simp [*]; omega) | simp [*], MM⟩
    by_cases hb : block = 0
    · repeat (first | refine GD ?_ | refine NW fun _ => ?_)
      exact ret1 rfl ⟨by first | (simp; omega) | (simp [*]; omega) | simp [*], MM⟩
    · repeat (first | refine GD ?_ | refine NW fun _ => ?_)
      exact ret1 rfl ⟨by first | (simp; omega) | (simp [*]; omega) | simp [*], MM⟩
  · by_cases h1 : kind = 1
    rotate_left
    · repeat (first | refine GD ?_ | refine NW fun _ => ?_)
      exact ret1 rfl ⟨by first | (simp; omega) | (simp [*]; omega) | simp [*], MM⟩
    by_cases hs : 1 ≤ seq ∧ seq ≤ 1152921504606846975
    rotate_left
    · rw [decide_eq_false hs]
      repeat (first | refine GD ?_ | refine NW fun _ => ?_)
      exact ret1 rfl ⟨by first | (simp; omega) | (simp [*]; omega) | simp [*], MM⟩
    rw [decide_eq_true hs]
    by_cases hb0 : 0 ≤ block
    rotate_left
    · repeat (first | refine GD ?_ | refine NW fun _ => ?_)
      exact ret1 rfl ⟨by first | (simp; omega) | (simp [*]; omega) | simp [*], MM⟩
    by_cases hb8 : block < 8
    rotate_left
    · repeat (first | refine GD ?_ | refine NW fun _ => ?_)
      exact ret1 rfl ⟨by first | (simp; omega) | (simp [*]; omega) | simp [*], MM⟩
    by_cases hs16 : data.size ≤ 16
    rotate_left
    · repeat (first | refine GD ?_ | refine NW fun _ => ?_)
      exact ret1 rfl ⟨by first | (simp; omega) | (simp [*]; omega) | simp [*], MM⟩
    by_cases hn0 : num = 0
    · repeat (first | refine GD ?_ | refine NW fun _ => ?_)
      exact ret1 rfl ⟨by first | (simp; omega) | (simp [*]; omega) | simp [*], MM⟩
    · repeat (first | refine GD ?_ | refine NW fun _ => ?_)
      exact ret1 rfl ⟨by first | (simp; omega) | (simp [*]; omega) | simp [*], MM⟩
end Go.Proofs.YtleajkobmhhacaaGreatDoor
/- Contracts of functions of the given program, and plain laws on what they compute: parts of the proofs of laws. -/

namespace Go.Proofs.YtleajkobmhhacaaGreatDoor
open Go Go.GL

def bodyM (gen : Int) (r : Rec) : List UInt8 :=
  numB (clampN gen) ++ numB (clampN r.1) ++ numB (clampN r.2.1) ++ (if r.2.1 = 1 then numB (clampN r.2.2.1) ++ textB r.2.2.2.1 else numB (clampN r.2.2.2.2))
theorem numB_small {x : Int} (h : 0 ≤ x ∧ x < 128) : (numB (clampN x)).length = 1 := by
  rw [numB_lt (by unfold clampN widest; omega)]; rfl
theorem bodyM_len {gen : Int} {r : Rec} (h : RightR r) : (bodyM gen r).length ≤ 60 := by
  have h1 := numB_nine gen
  have h2 := numB_nine r.1
  have h3 := numB_nine r.2.2.2.2
  unfold bodyM
  rcases h.2 with ⟨hk, _⟩ | ⟨hk, hb, hs, _⟩
  · have h4 := numB_small (x := r.2.1) (by omega)
    rw [if_neg (by omega)]
    simp only [List.length_append]
    omega
  · have h4 := numB_small (x := r.2.1) (by omega)
    have h5 := numB_small (x := r.2.2.1) (by omega)
    have h6 := numB_lt (n := r.2.2.2.1.size) (by omega)
    have h7 : r.2.2.2.1.data.toList.length = r.2.2.2.1.size := Array.length_toList
    rw [if_pos hk]
    unfold textB
    rw [h6]
    simp only [List.length_append, List.length_singleton]
    omega
def recW : ByteArray := ⟨#[114, 101, 99, 111, 114, 100]⟩
def EncPost (gen : Int) (r : Rec) (v : Value) (E : List Assn) : Prop :=
  if RightR r ∧ (0 ≤ gen ∧ gen ≤ widest) then ∃ v1, v = .tuple #[v1, .nilIface] ∧ BytesNew (sectorM (bodyM gen r)) v1 E
  else ∃ e, v = .tuple #[.slice none 0 0, e] ∧ Fault recW r.1 1 e E
set_option maxHeartbeats 4000000 in
set_option maxRecDepth 10000 in
theorem encode_ok (gen : Int) (r : Rec) (hsz : r.2.2.2.1.size < 1000000) : RT G 153 [.int .i64 gen, .agg (encR r).toArray] (fun _ => True) (EncPost gen r) := by
  refine RT.enter Tryz.func153 rfl (by decide) rfl Tryz.ntmps153 rfl (fun A hu hA => ?_)
  have hright := right_ro r hsz
  have hbl := bodyM_len (gen := gen) (r := r)
  obtain ⟨seq, kind, block, data, num⟩ := r
  dsimp only at hsz ⊢
  rw [show encR (seq, kind, block, data, num) = [.int .i64 seq, .int .i64 kind, .int .i64 block, .string data, .int .i64 num] from rfl] at hright ⊢
  repeat (first | refine GO ?_ | refine NW fun _ => ?_)
  rename_i q
  refine WL.step rfl (OP.callRO rfl rfl hright (fun _ _ => trivial) rfl rfl ?_)
  by_cases hr : RightR (seq, kind, block, data, num)
  rotate_left
  · rw [decide_eq_false hr]
    repeat (first | refine GD ?_ | refine NW fun _ => ?_)
    refine WL.step rfl (OP.call (pre := []) (F := _) rfl rfl (wrap_ok _ _ _ (by decide)) (Imp.refl _) rfl rfl ?_)
    rintro v' E ⟨b', rfl, rfl⟩
    repeat (first | refine GD ?_ | refine NW fun _ => ?_)
    refine ret2 rfl rfl ⟨[_], ?_, II⟩
    unfold EncPost
    rw [if_neg (by intro h; first | exact hr h.1 | exact hg h.2)]
    exact ⟨_, rfl, _, rfl, rfl⟩
  rw [decide_eq_true hr]
  repeat (first | refine GD ?_ | refine NW fun _ => ?_)
  refine WL.guardT rfl rfl rfl rfl (OP.callRO rfl rfl (num_ro gen 0) (fun _ _ => trivial) rfl rfl ?_)
  by_cases hg : 0 ≤ gen ∧ gen ≤ widest
  rotate_left
  · rw [decide_eq_false hg]
    repeat (first | refine GD ?_ | refine NW fun _ => ?_)
    refine WL.step rfl (OP.call (pre := []) (F := _) rfl rfl (wrap_ok _ _ _ (by decide)) (Imp.refl _) rfl rfl ?_)
    rintro v' E ⟨b', rfl, rfl⟩
    repeat (first | refine GD ?_ | refine NW fun _ => ?_)
    refine ret2 rfl rfl ⟨[_], ?_, II⟩
    unfold EncPost
    rw [if_neg (by intro h; first | exact hr h.1 | exact hg h.2)]
    exact ⟨_, rfl, _, rfl, rfl⟩
  rw [decide_eq_true hg]
  have hbl := hbl hr
  have hg9 := numB_nine gen
  have hs9 := numB_nine seq
  have hk9 := numB_nine kind
  repeat (first | refine GD ?_ | refine NW fun _ => ?_)
  refine RD 8 9 (_) ?_
  refine WW 0 ?_
  refine WW 2 ?_; refine WW 3 ?_
  refine WW 5 ?_; refine WW 6 ?_
  refine WH.only 1 rfl rfl (by kernel_rfl) rfl (OP.call (pre := [ownS none 0 0 5 1 (([] : List UInt8).map byteV)]) rfl rfl (number_ok none 0 0 [] gen (by omega)) (Imp.nilS 5 1) rfl rfl (fun v M hM => ?_))
  obtain ⟨a1, cap1, rfl, rfl⟩ := hM
  refine ⟨fun _ => II, ?_⟩
  refine WH.only 4 rfl rfl (by kernel_rfl) rfl (OP.call (pre := [ownS a1 _ cap1 5 1 _]) rfl rfl (number_ok a1 _ cap1 _ seq (by omega)) PS rfl rfl (fun v M hM => ?_))
  obtain ⟨a2, cap2, rfl, rfl⟩ := hM
  refine ⟨fun _ => II, ?_⟩
  refine WH.only 7 rfl rfl (by kernel_rfl) rfl (OP.call (pre := [ownS a2 _ cap2 5 1 _]) rfl rfl (number_ok a2 _ cap2 _ kind (by omega)) PS rfl rfl (fun v M hM => ?_))
  obtain ⟨a3, cap3, rfl, rfl⟩ := hM
  refine ⟨fun _ => II, ?_⟩
  refine WW 8 ?_
  refine DN ?_
  by_cases h1 : kind = 1
  · have hb : (0 ≤ block ∧ block < 8) ∧ data.size ≤ 16 := by
      have h2 := hr.2
      dsimp only at h2
      rcases h2 with h2 | h2
      · omega
      · exact ⟨h2.2.1, h2.2.2.1⟩
    have hb1 := numB_small (x := block) (by omega)
    repeat (first | refine GD ?_ | refine NW fun _ => ?_)
    refine RD 7 8 ([blk q [.int .i64 seq, .int .i64 kind, .int .i64 block, .string data, .int .i64 num] 116]) ?_
    refine WW 0 ?_; refine WW 1 ?_; refine WW 2 ?_
    refine WW 4 ?_; refine WW 5 ?_
    refine WH.only 3 rfl rfl (by kernel_rfl) rfl (OP.call (pre := [ownS a3 _ cap3 5 1 _]) rfl rfl (number_ok a3 _ cap3 _ block (by omega)) PS rfl rfl (fun v M hM => ?_))
    obtain ⟨a4, cap4, rfl, rfl⟩ := hM
    refine ⟨fun _ => II, ?_⟩
    refine WH.only 6 rfl rfl (by kernel_rfl) rfl (OP.call (pre := [ownS a4 _ cap4 5 1 _]) rfl rfl (text_ok a4 _ cap4 _ data (by omega) (by omega)) PS rfl rfl (fun v M hM => ?_))
    obtain ⟨a5, cap5, rfl, rfl⟩ := hM
    refine ⟨fun _ => II, ?_⟩
    refine WW 7 ?_
    refine DN ?_
    have hbody : bodyM gen (seq, kind, block, data, num) = [] ++ numB (clampN gen) ++ numB (clampN seq) ++ numB (clampN kind) ++ numB (clampN block) ++ textB data := by
      unfold bodyM
      dsimp only
      rw [if_pos h1, List.nil_append, List.append_assoc (numB (clampN gen) ++ numB (clampN seq) ++ numB (clampN kind))]
    have hlen : (bodyM gen (seq, kind, block, data, num)).length = 0 + (numB (clampN gen)).length + (numB (clampN seq)).length + (numB (clampN kind)).length + (numB (clampN block)).length + (textB data).length := by
      rw [hbody]; simp only [List.length_append, List.length_nil]
    repeat (first | refine GD ?_ | refine NW fun _ => ?_)
    refine WL.step rfl (OP.callRT rfl rfl (sector_ok a5 _ cap5 (bodyM gen (seq, kind, block, data, num)) (by rw [hlen]) (by omega)) (Ent.own (T := 5) (by rw [hbody]; exact MM)) rfl rfl ?_)
    rintro v E ⟨v1, rfl, a6, cap6, rfl, rfl⟩
    repeat (first | refine GD ?_ | refine NW fun _ => ?_)
    refine ret2 rfl rfl ⟨[_], ?_, II⟩
    unfold EncPost
    rw [if_pos ⟨hr, hg⟩]
    exact ⟨_, rfl, a6, cap6, rfl, rfl⟩
  · repeat (first | refine GD ?_ | refine NW fun _ => ?_)
    refine WL.step rfl (OP.call (pre := [ownS a3 _ cap3 5 1 _]) rfl rfl (number_ok a3 _ cap3 _ num (by omega)) PS rfl rfl ?_)
    rintro _ _ ⟨a5, cap5, rfl, rfl⟩
    have hbody : bodyM gen (seq, kind, block, data, num) = [] ++ numB (clampN gen) ++ numB (clampN seq) ++ numB (clampN kind) ++ numB (clampN num) := by
      unfold bodyM
      dsimp only
      rw [if_neg h1, List.nil_append]
    have hlen : (bodyM gen (seq, kind, block, data, num)).length = 0 + (numB (clampN gen)).length + (numB (clampN seq)).length + (numB (clampN kind)).length + (numB (clampN num)).length := by
      rw [hbody]; simp only [List.length_append, List.length_nil]
    repeat (first | refine GD ?_ | refine NW fun _ => ?_)
    refine WL.step rfl (OP.callRT rfl rfl (sector_ok a5 _ cap5 (bodyM gen (seq, kind, block, data, num)) (by rw [hlen]) (by omega)) (Ent.own (T := 5) (by rw [hbody]; exact MM)) rfl rfl ?_)
    rintro v E ⟨v1, rfl, a6, cap6, rfl, rfl⟩
    repeat (first | refine GD ?_ | refine NW fun _ => ?_)
    refine ret2 rfl rfl ⟨[_], ?_, II⟩
    unfold EncPost
    rw [if_pos ⟨hr, hg⟩]
    exact ⟨_, rfl, a6, cap6, rfl, rfl⟩
end Go.Proofs.YtleajkobmhhacaaGreatDoor
/- Contracts of functions of the given program, and plain laws on what they compute: parts of the proofs of laws. -/

namespace Go.Proofs.YtleajkobmhhacaaGreatDoor
open Go Go.GL

theorem ofNat_toNat {n : Nat} (h : n < 256) : (UInt8.ofNat n).toNat = n := by rw [UInt8.toNat_ofNat']; omega
theorem numB_inj : ∀ (k n m : Nat) (a b : List UInt8), n ≤ k → numB n ++ a = numB m ++ b → n = m ∧ a = b := by
  intro k
  induction k with
  | zero =>
    intro n m a b hn h
    obtain rfl : n = 0 := by omega
    rw [numB_lt (by omega)] at h
    by_cases hm : m < 128
    · rw [numB_lt hm, List.singleton_append, List.singleton_append, List.cons.injEq] at h
      have := congrArg UInt8.toNat h.1
      rw [ofNat_toNat (by omega), ofNat_toNat (by omega)] at this
      exact ⟨this, h.2⟩
    · rw [numB_ge hm, List.singleton_append, List.cons_append, List.cons.injEq] at h
      have := congrArg UInt8.toNat h.1
      rw [ofNat_toNat (by omega), ofNat_toNat (by omega)] at this
      omega
  | succ k ih =>
    intro n m a b hn h
    by_cases hn' : n < 128
    · rw [numB_lt hn'] at h
      by_cases hm : m < 128
      · rw [numB_lt hm, List.singleton_append, List.singleton_append, List.cons.injEq] at h
        have := congrArg UInt8.toNat h.1
        rw [ofNat_toNat (by omega), ofNat_toNat (by omega)] at this
        exact ⟨this, h.2⟩
      · rw [numB_ge hm, List.singleton_append, List.cons_append, List.cons.injEq] at h
        have := congrArg UInt8.toNat h.1
        rw [ofNat_toNat (by omega), ofNat_toNat (by omega)] at this
        omega
    · rw [numB_ge hn'] at h
      by_cases hm : m < 128
      · rw [numB_lt hm, List.singleton_append, List.cons_append, List.cons.injEq] at h
        have := congrArg UInt8.toNat h.1
        rw [ofNat_toNat (by omega), ofNat_toNat (by omega)] at this
        omega
      · rw [numB_ge hm, List.cons_append, List.cons_append, List.cons.injEq] at h
        have h1 := congrArg UInt8.toNat h.1
        rw [ofNat_toNat (by omega), ofNat_toNat (by omega)] at h1
        have h2 := ih (n / 128) (m / 128) a b (by omega) h.2
        exact ⟨by omega, h2.2⟩
theorem clamp_inj {x y : Int} (hx : 0 ≤ x ∧ x ≤ widest) (hy : 0 ≤ y ∧ y ≤ widest) (h : clampN x = clampN y) : x = y := by unfold clampN at h; omega
theorem body_inj {g o : Int} {r s : Rec} {a b : List UInt8} (hr : RightR r) (hs : RightR s) (hg : 0 ≤ g ∧ g ≤ widest) (ho : 0 ≤ o ∧ o ≤ widest) (h : bodyM g r ++ a = bodyM o s ++ b) : g = o ∧ r = s := by
  obtain ⟨s1, k1, b1, d1, n1⟩ := r
  obtain ⟨s2, k2, b2, d2, n2⟩ := s
  obtain ⟨hs1, hc1⟩ := hr
  obtain ⟨hs2, hc2⟩ := hs
  have hw : (8 : Int) ≤ widest := by decide
  dsimp only at hs1 hs2 hc1 hc2
  unfold bodyM at h
  dsimp only at h
  simp only [List.append_assoc] at h
  obtain ⟨e1, h1⟩ := numB_inj _ _ _ _ _ (Nat.le_refl _) h
  obtain ⟨e2, h2⟩ := numB_inj _ _ _ _ _ (Nat.le_refl _) h1
  obtain ⟨e3, h3⟩ := numB_inj _ _ _ _ _ (Nat.le_refl _) h2
  clear h h1 h2
  have e1 := clamp_inj hg ho e1
  have e2 := clamp_inj (by omega) (by omega) e2
  have e3 := clamp_inj (by omega) (by omega) e3
  subst e1 e2 e3
  refine ⟨rfl, ?_⟩
  by_cases hk : k1 = 1
  · rw [if_pos hk, if_pos hk] at h3
    simp only [List.append_assoc] at h3
    obtain ⟨e4, h4⟩ := numB_inj _ _ _ _ _ (Nat.le_refl _) h3
    have e4 := clamp_inj (by omega) (by omega) e4
    unfold textB at h4
    simp only [List.append_assoc] at h4
    obtain ⟨e5, h5⟩ := numB_inj _ _ _ _ _ (Nat.le_refl _) h4
    have l1 : d1.data.toList.length = d1.size := Array.length_toList
    have l2 : d2.data.toList.length = d2.size := Array.length_toList
    have e6 := List.append_inj_left h5 (by rw [l1, l2, e5])
    have e7 : d1 = d2 := by rw [← ba_data d1, e6, ba_data]
    subst e4 e7
    have : n1 = n2 := by omega
    rw [this]
  · rw [if_neg hk, if_neg hk] at h3
    obtain ⟨e4, _⟩ := numB_inj _ _ _ _ _ (Nat.le_refl _) h3
    have hc1 := hc1.resolve_right (fun x => hk x.1)
    have hc2 := hc2.resolve_right (fun x => hk x.1)
    have e4 := clamp_inj (by omega) (by omega) e4
    rw [e4, hc1.2.2.2, hc2.2.2.2, hc1.2.2.1, hc2.2.2.1]
theorem sector_inj {g o : Int} {r s : Rec} (hr : RightR r) (hs : RightR s) (hg : 0 ≤ g ∧ g ≤ widest) (ho : 0 ≤ o ∧ o ≤ widest) (h : sectorM (bodyM g r) = sectorM (bodyM o s)) : g = o ∧ r = s := by
  unfold sectorM at h
  have h1 := List.append_inj_left h (by rw [padM_len (bodyM_len hr), padM_len (bodyM_len hs)])
  unfold padM at h1
  exact body_inj hr hs hg ho h1
def recFs : List Field := [⟨"Seq", 3, 0, false, "", "", 0⟩, ⟨"Kind", 3, 1, false, "", "", 8⟩, ⟨"Block", 3, 2, false, "", "", 16⟩, ⟨"Data", 9, 3, false, "", "", 24⟩, ⟨"Number", 3, 4, false, "", "", 40⟩]
theorem eq_rec (r s : Rec) : eqFs G.T (encR r) (encR s) recFs = some (decide (r = s)) := by
  obtain ⟨s1, k1, b1, d1, n1⟩ := r
  obtain ⟨s2, k2, b2, d2, n2⟩ := s
  have : eqFs G.T (encR (s1, k1, b1, d1, n1)) (encR (s2, k2, b2, d2, n2)) recFs = some (decide (s1 = s2) && (decide (k1 = k2) && (decide (b1 = b2) && (decide (d1 = d2) && (decide (n1 = n2) && true))))) := rfl
  rw [this]
  simp [Prod.mk.injEq, Bool.decide_and]
theorem ba_inj {a b : List UInt8} (h : ba a = ba b) : a = b := by
  unfold ba at h
  have := ByteArray.mk.inj h
  simpa using this
end Go.Proofs.YtleajkobmhhacaaGreatDoor
/- Contracts of functions of the given program, and plain laws on what they compute: parts of the proofs of laws. -/

namespace Go.Proofs.YtleajkobmhhacaaGreatDoor
open Go Go.GL

/-- what is left to read, and what was wrong -/
abbrev PR := List UInt8 × Int
def rdN : Nat → Nat → List UInt8 → Except Int (Nat × List UInt8)
  | _, _, [] => .error 2
  | i, n, c :: t =>
    if (i = 8 ∧ (128 ≤ c.toNat ∨ widest < ((n + c.toNat % 128 * 128 ^ i : Nat) : Int))) ∨ (0 < i ∧ c.toNat = 0) then .error 1
    else if c.toNat < 128 then .ok (n + c.toNat % 128 * 128 ^ i, t)
    else rdN (i + 1) (n + c.toNat % 128 * 128 ^ i) t
theorem rdN_cons (i n : Nat) (c : UInt8) (t : List UInt8) : rdN i n (c :: t) =
    if (i = 8 ∧ (128 ≤ c.toNat ∨ widest < ((n + c.toNat % 128 * 128 ^ i : Nat) : Int))) ∨ (0 < i ∧ c.toNat = 0) then .error 1
    else if c.toNat < 128 then .ok (n + c.toNat % 128 * 128 ^ i, t)
    else rdN (i + 1) (n + c.toNat % 128 * 128 ^ i) t := rfl
def numR (s : PR) : Int × PR :=
  if s.2 ≠ 0 then (0, s) else match rdN 0 0 s.1 with
    | .ok (n, t) => ((n : Int), (t, 0))
    | .error e => (0, ([], e))
def RdPost (r : Nat) (A : Assn) (x : Value) (s : PR) (v : Value) (M : List Assn) : Prop := v = x ∧ ∃ v', Bytes A s.1 v' ∧ M = [blk r [v', .int .i64 s.2] 356, A]
theorem bytes_nil (A : Assn) : Bytes A [] (.slice none 0 0) := ⟨none, 0, 0, rfl, rfl, Nat.le_refl _, fun _ _ => ⟨rfl, .inl ⟨rfl, rfl⟩⟩⟩
set_option maxRecDepth 10000 in
theorem err_ro (r : Nat) (v : Value) (e : Int) : RO G 219 [.pointer (some ⟨r, 0, none⟩)] (cellsAt r 0 [v, .int .i64 e]) (.int .i64 e) := by
  refine RO.enter Tryz.func219 rfl (by decide) rfl Tryz.ntmps219 rfl (fun A hu hA => ?_) (up_cellsAt _ _ _)
  repeat (first | refine GO ?_ | refine NW fun _ => ?_)
  refine WL.step rfl (OP.load1 (v := .int .i64 e) rfl rfl rfl rfl (Ent.mem (A := A) MM hu (fun h x => cellsAt_one (i := 1) (hA h x) rfl)) rfl rfl ?_)
  repeat (first | refine GO ?_ | refine NW fun _ => ?_)
  exact ret1 rfl ⟨rfl, MM⟩
set_option maxRecDepth 10000 in
theorem wrong5_ok (r : Nat) (A : Assn) (v : Value) (e code : Int) : Triple G 241 [.pointer (some ⟨r, 0, none⟩), .int .i64 code] [blk r [v, .int .i64 e] 356, A] (RdPost r A (.int .i64 0) ([], code)) := by
  refine Triple.enter Tryz.func241 rfl (by decide) rfl Tryz.ntmps241 rfl (fun F => ?_)
  repeat (first | refine GO ?_ | refine NW fun _ => ?_)
  exact ret1 rfl ⟨_, ⟨rfl, _, bytes_nil A, rfl⟩, Imp.refl _⟩
set_option maxRecDepth 10000 in
theorem andnot_small : ∀ z : Fin 256, bitsV .andNot .u8 (z.val : Int) 128 = ((z.val % 128 : Nat) : Int) := by decide
theorem andnot_byte (c : UInt8) : bitsV .andNot .u8 (c.toNat : Int) 128 = ((c.toNat % 128 : Nat) : Int) := andnot_small ⟨c.toNat, c.toNat_lt⟩
theorem pow128 (i : Nat) (h : i ≤ 8) : (128 : Nat) ^ i ≤ 128 ^ 8 := Nat.pow_le_pow_right (by decide) h
theorem shl_num (x i : Nat) (hx : x < 128) (hi : i ≤ 8) : shlV .i64 (x : Int) (7 * (i : Int)) = ((x * 128 ^ i : Nat) : Int) := by
  have hp := pow128 i hi
  have h1 : x * 128 ^ i ≤ 127 * 128 ^ 8 := Nat.mul_le_mul (by omega) hp
  have e : (2 : Int) ^ (min (7 * (i : Int)).toNat IntKind.i64.bits) = ((128 ^ i : Nat) : Int) := by
    have : min (7 * (i : Int)).toNat IntKind.i64.bits = 7 * i := by
      show min (7 * (i : Int)).toNat 64 = 7 * i
      omega
    rw [this, show (128 : Nat) ^ i = 2 ^ (7 * i) by rw [Nat.pow_mul], Int.natCast_pow]
    rfl
  unfold shlV
  rw [e, ← Int.natCast_mul]
  exact wrap_fit (k := .i64) (by unfold Fit; omega)
theorem or_num (n x i : Nat) (hn : n < 128 ^ i) (hx : x < 128) (hi : i ≤ 8) : bitsV .or .i64 (n : Int) ((x * 128 ^ i : Nat) : Int) = ((n + x * 128 ^ i : Nat) : Int) := by
  have hp := pow128 i hi
  have h1 : x * 128 ^ i ≤ 127 * 128 ^ 8 := Nat.mul_le_mul (by omega) hp
  have hor : n ||| x * 128 ^ i = n + x * 128 ^ i := by
    have e : (128 : Nat) ^ i = 2 ^ (7 * i) := by rw [Nat.pow_mul]
    rw [e] at hn ⊢
    have := Nat.shiftLeft_add_eq_or_of_lt hn x
    rw [Nat.shiftLeft_eq] at this
    rw [Nat.or_comm, ← this, Nat.add_comm]
  unfold bitsV
  show IntKind.i64.wrap (((BitVec.ofInt 64 (n : Int)) ||| (BitVec.ofInt 64 ((x * 128 ^ i : Nat) : Int))).toNat : Int) = _
  rw [BitVec.ofInt_natCast, BitVec.ofInt_natCast, BitVec.toNat_or, BitVec.toNat_ofNat, BitVec.toNat_ofNat, Nat.mod_eq_of_lt (by omega), Nat.mod_eq_of_lt (by omega), hor]
  exact wrap_fit (k := .i64) (by unfold Fit; omega)
end Go.Proofs.YtleajkobmhhacaaGreatDoor
/- Contracts of functions of the given program, and plain laws on what they compute: parts of the proofs of laws. -/

namespace Go.Proofs.YtleajkobmhhacaaGreatDoor
open Go Go.GL

def numF : Except Int (Nat × List UInt8) → Int × PR
  | .ok (n, t) => ((n : Int), (t, 0))
  | .error e => (0, ([], e))
theorem numR_zero (l : List UInt8) : numR (l, 0) = numF (rdN 0 0 l) := by
  unfold numR numF
  cases rdN 0 0 l <;> rfl
theorem numR_err {s : PR} (h : s.2 ≠ 0) : numR s = (0, s) := by unfold numR; rw [if_pos h]
set_option maxHeartbeats 4000000 in
set_option maxRecDepth 10000 in
theorem numR_ok (r : Nat) (v : Value) (s : PR) (A : Assn) (hu : Up A) (hv : Bytes A s.1 v) (hl : s.1.length < 1000000) :
    Triple G 218 [.pointer (some ⟨r, 0, none⟩)] [blk r [v, .int .i64 s.2] 356, A] (RdPost r A (.int .i64 (numR s).1) (numR s).2) := by
  refine Triple.enter Tryz.func218 rfl (by decide) rfl Tryz.ntmps218 rfl (fun F => ?_)
  obtain ⟨l, e⟩ := s
  dsimp only at hv hl ⊢
  repeat (first | refine GO ?_ | refine NW fun _ => ?_)
  refine WL.step rfl (OP.callRO rfl rfl (err_ro r v e) (Ent.whole (T := 356) MM) rfl rfl ?_)
  by_cases he : e = 0
  rotate_left
  · rw [numR_err he]
    repeat (first | refine GD ?_ | refine NW fun _ => ?_)
    exact ret1 rfl ⟨_, ⟨rfl, v, hv, rfl⟩, Imp.refl _⟩
  subst he
  rw [numR_zero]
  obtain ⟨a, n, c, rfl, hn, hc, hr⟩ := hv
  have hE : ∀ {L}, A ∈ L → Ent L (readS a n 1 (l.map byteV)) := fun m => Ent.mem m hu hr
  generalize hF : rdN 0 0 l = R
  repeat (first | refine GD ?_ | refine NW fun _ => ?_)
  refine WC.loop (σ := Nat × Nat) (fun s => s.1 ≤ 8 ∧ s.1 ≤ n ∧ s.2 < 128 ^ s.1 ∧ rdN s.1 s.2 (l.drop s.1) = R)
    (fun s => [(0, .val (.pointer (some ⟨r, 0, none⟩))), (3, .val (.int .i64 s.2)), (12, .val (.slice a n c)), (13, .val (.int .i64 n)), (14, .val (.int .i64 s.1))])
    (fun _ => [blk r [.slice a n c, .int .i64 0] 356, A, F]) (fun s => n - s.1) (0, 0) ⟨by simp, by simp, by simp, hF⟩ ⟨rfl, rfl, rfl, rfl, rfl, trivial⟩ II ?_
  rintro ⟨i, m⟩ ⟨hi8, hin, hm, hR⟩
  dsimp only at hi8 hin hm hR ⊢
  by_cases hlt : i < n
  rotate_left
  · rw [List.drop_eq_nil_of_le (by omega)] at hR
    subst hR
    repeat (first | refine GD ?_ | refine NW fun _ => ?_)
    refine WL.step rfl (OP.call (pre := [blk r [.slice a n c, .int .i64 0] 356, A]) rfl rfl (wrong5_ok r A _ 0 2) PS rfl rfl ?_)
    rintro _ _ ⟨rfl, v', hv', rfl⟩
    repeat (first | refine GD ?_ | refine NW fun _ => ?_)
    exact ret1 rfl ⟨_, ⟨rfl, v', hv', rfl⟩, Imp.refl _⟩
  have hl1 : i < l.length := by omega
  rw [List.drop_eq_getElem_cons hl1, rdN_cons] at hR
  repeat (first | refine GD ?_ | refine NW fun _ => ?_)
  refine WL.fact (Ent.some (hE MM) (by omega)) ?_
  rintro ⟨b, off, rfl⟩
  repeat (first | refine GD ?_ | refine NW fun _ => ?_)
  refine WL.step rfl (OP.load1 (v := byteV l[i]) rfl rfl rfl rfl (Ent.elem (i := i * 1) (hE MM) rfl (by simp [hl1])) rfl rfl ?_)
  generalize l[i] = x at *
  have hx8 : x.toNat < 256 := x.toNat_lt
  unfold byteV
  have hx128 : x.toNat % 128 < 128 := by omega
  have hbits : bitsV .or .i64 (m : Int) (shlV .i64 (IntKind.i64.wrap (bitsV .andNot .u8 (x.toNat : Int) 128)) (7 * (i : Int))) = ((m + x.toNat % 128 * 128 ^ i : Nat) : Int) := by
    rw [andnot_byte, wrap_fit (k := .i64) (show Fit .i64 _ by unfold Fit; omega), shl_num _ _ hx128 hi8, or_num _ _ _ hm hx128 hi8]
  have hm2 : m + x.toNat % 128 * 128 ^ i < 128 ^ (i + 1) := by
    have h1 : x.toNat % 128 * 128 ^ i ≤ 127 * 128 ^ i := Nat.mul_le_mul_right _ (by omega)
    rw [Nat.pow_succ]
    omega
  have hp8 := pow128 i hi8
  have h127 : x.toNat % 128 * 128 ^ i ≤ 127 * 128 ^ 8 := Nat.mul_le_mul (by omega) hp8
  generalize hmm : m + x.toNat % 128 * 128 ^ i = m2 at *
  by_cases h8 : i = 8
  · by_cases hc1 : 128 ≤ x.toNat
    · rw [if_pos (by omega)] at hR
      repeat (first | refine GD ?_ | refine NW fun _ => ?_)
      refine WL.step rfl (OP.call (pre := [blk r [.slice (some ⟨b, off, none⟩) n c, .int .i64 0] 356, A]) rfl rfl (wrong5_ok r A _ 0 1) PS rfl rfl ?_)
      rintro _ _ ⟨rfl, v', hv', rfl⟩
      repeat (first | refine GD ?_ | refine NW fun _ => ?_)
      subst hR
      exact ret1 rfl ⟨_, ⟨rfl, v', hv', rfl⟩, Imp.refl _⟩
    · by_cases hw : widest < (m2 : Int)
      · rw [if_pos (by omega)] at hR
        repeat (first | refine GD ?_ | refine NW fun _ => ?_)
        rw [hbits, decide_eq_true (show (1152921504606846975 : Int) < (m2 : Int) from hw)]
        repeat (first | refine GD ?_ | refine NW fun _ => ?_)
        refine WL.step rfl (OP.call (pre := [blk r [.slice (some ⟨b, off, none⟩) n c, .int .i64 0] 356, A]) rfl rfl (wrong5_ok r A _ 0 1) PS rfl rfl ?_)
        rintro _ _ ⟨rfl, v', hv', rfl⟩
        repeat (first | refine GD ?_ | refine NW fun _ => ?_)
        subst hR
        exact ret1 rfl ⟨_, ⟨rfl, v', hv', rfl⟩, Imp.refl _⟩
      · by_cases hz : x.toNat = 0
        · rw [if_pos (by omega)] at hR
          repeat (first | refine GD ?_ | refine NW fun _ => ?_)
          rw [hbits, decide_eq_false (show ¬ (1152921504606846975 : Int) < (m2 : Int) from hw)]
          repeat (first | refine GD ?_ | refine NW fun _ => ?_)
          refine WL.step rfl (OP.call (pre := [blk r [.slice (some ⟨b, off, none⟩) n c, .int .i64 0] 356, A]) rfl rfl (wrong5_ok r A _ 0 1) PS rfl rfl ?_)
          rintro _ _ ⟨rfl, v', hv', rfl⟩
          repeat (first | refine GD ?_ | refine NW fun _ => ?_)
          subst hR
          exact ret1 rfl ⟨_, ⟨rfl, v', hv', rfl⟩, Imp.refl _⟩
        · rw [if_neg (by omega), if_pos (by omega)] at hR
          have hlt8 : x.toNat < 128 := by omega
          repeat (first | refine GD ?_ | refine NW fun _ => ?_)
          rw [hbits, decide_eq_false (show ¬ (1152921504606846975 : Int) < (m2 : Int) from hw)]
          repeat (first | refine GD ?_ | refine NW fun _ => ?_)
          subst hR
          refine ret1 rfl ⟨_, ⟨rfl, _, ⟨_, _, _, rfl, ?_, ?_, ?_⟩, rfl⟩, Imp.refl _⟩
          · dsimp only [numF]; rw [List.length_drop]; omega
          · omega
          · intro h hh
            have := readS_cut (i := i + 1) (hr h hh) (by omega) hc
            rw [Nat.mul_one, ← List.map_drop] at this
            exact this
  · by_cases hi0 : 0 < i
    · by_cases hz : x.toNat = 0
      · rw [if_pos (by omega)] at hR
        repeat (first | refine GD ?_ | refine NW fun _ => ?_)
        refine WL.step rfl (OP.call (pre := [blk r [.slice (some ⟨b, off, none⟩) n c, .int .i64 0] 356, A]) rfl rfl (wrong5_ok r A _ 0 1) PS rfl rfl ?_)
        rintro _ _ ⟨rfl, v', hv', rfl⟩
        repeat (first | refine GD ?_ | refine NW fun _ => ?_)
        subst hR
        exact ret1 rfl ⟨_, ⟨rfl, v', hv', rfl⟩, Imp.refl _⟩
      · by_cases hc1 : x.toNat < 128
        · rw [if_neg (by omega), if_pos (by omega)] at hR
          repeat (first | refine GD ?_ | refine NW fun _ => ?_)
          rw [hbits]
          subst hR
          refine ret1 rfl ⟨_, ⟨rfl, _, ⟨_, _, _, rfl, ?_, ?_, ?_⟩, rfl⟩, Imp.refl _⟩
          · dsimp only [numF]; rw [List.length_drop]; omega
          · omega
          · intro h hh
            have := readS_cut (i := i + 1) (hr h hh) (by omega) hc
            rw [Nat.mul_one, ← List.map_drop] at this
            exact this
        · rw [if_neg (by omega), if_neg (by omega)] at hR
          repeat (first | refine GD ?_ | refine NW fun _ => ?_)
          rw [hbits]
          exact ⟨(i + 1, m2), ⟨by dsimp only; omega, by dsimp only; omega, hm2, hR⟩, by dsimp only; omega, ⟨rfl, rfl, rfl, rfl, rfl, trivial⟩, Imp.refl _⟩
    · by_cases hc1 : x.toNat < 128
      · rw [if_neg (by omega), if_pos (by omega)] at hR
        repeat (first | refine GD ?_ | refine NW fun _ => ?_)
        rw [hbits]
        subst hR
        refine ret1 rfl ⟨_, ⟨rfl, _, ⟨_, _, _, rfl, ?_, ?_, ?_⟩, rfl⟩, Imp.refl _⟩
        · dsimp only [numF]; rw [List.length_drop]; omega
        · omega
        · intro h hh
          have := readS_cut (i := i + 1) (hr h hh) (by omega) hc
          rw [Nat.mul_one, ← List.map_drop] at this
          exact this
      · rw [if_neg (by omega), if_neg (by omega)] at hR
        repeat (first | refine GD ?_ | refine NW fun _ => ?_)
        rw [hbits]
        exact ⟨(i + 1, m2), ⟨by dsimp only; omega, by dsimp only; omega, hm2, hR⟩, by dsimp only; omega, ⟨rfl, rfl, rfl, rfl, rfl, trivial⟩, Imp.refl _⟩
end Go.Proofs.YtleajkobmhhacaaGreatDoor
/- Contracts of functions of the given program, and plain laws on what they compute: parts of the proofs of laws. -/
namespace Go.Proofs.YtleajkobmhhacaaGreatDoor
open Go Go.GL

theorem rdN_rest : ∀ (l : List UInt8) (i n : Nat) (m : Nat) (t : List UInt8), rdN i n l = .ok (m, t) → t.length ≤ l.length ∧ (i ≤ 8 → n < 128 ^ i → (m : Int) < 128 ^ 9)
  | [], i, n, m, t, h => by cases h
  | c :: r, i, n, m, t, h => by
    have hc8 : c.toNat < 256 := c.toNat_lt
    have h1 : c.toNat % 128 * 128 ^ i ≤ 127 * 128 ^ i := Nat.mul_le_mul_right _ (by omega)
    rw [rdN_cons] at h
    split at h
    · cases h
    · rename_i hC
      split at h
      · cases h
        refine ⟨by simp, fun hi hn => ?_⟩
        have := pow128 i hi
        omega
      · have ih := rdN_rest r (i + 1) _ m t h
        refine ⟨by simp only [List.length_cons]; omega, fun hi hn => ih.2 (by omega) (by rw [Nat.pow_succ]; omega)⟩
theorem numR_bd (s : PR) : (numR s).2.1.length ≤ s.1.length ∧ 0 ≤ (numR s).1 ∧ (numR s).1 < 128 ^ 9 := by
  by_cases he : s.2 = 0
  · obtain ⟨l, e⟩ := s
    obtain rfl : e = 0 := he
    rw [numR_zero]
    cases h : rdN 0 0 l with
    | ok x => obtain ⟨m, t⟩ := x; have := rdN_rest l 0 0 m t h; exact ⟨this.1, by simp [numF], this.2 (by omega) (by simp)⟩
    | error e => simp [numF]
  · rw [numR_err he]; exact ⟨Nat.le_refl _, Int.le_refl _, (by decide : (0 : Int) < 128 ^ 9)⟩
theorem rdN_numB : ∀ (k n i acc : Nat) (rest : List UInt8), n ≤ k → i ≤ 8 → ((acc + n * 128 ^ i : Nat) : Int) ≤ widest → (0 < i → n ≠ 0) → rdN i acc (numB n ++ rest) = .ok (acc + n * 128 ^ i, rest) := by
  intro k
  induction k with
  | zero =>
    intro n i acc rest hk hi hw hz
    obtain rfl : n = 0 := by omega
    rw [numB_lt (by omega), List.singleton_append, rdN_cons, ofNat_toNat (by omega)]
    rw [if_neg (by omega), if_pos (by omega)]
  | succ k ih =>
    intro n i acc rest hk hi hw hz
    by_cases hn : n < 128
    · rw [numB_lt hn, List.singleton_append, rdN_cons, ofNat_toNat (by omega), Nat.mod_eq_of_lt hn]
      rw [if_neg (by omega), if_pos hn]
    · have hp : 0 < 128 ^ i := Nat.pow_pos (by omega)
      have hsplit : n * 128 ^ i = n % 128 * 128 ^ i + n / 128 * 128 ^ (i + 1) := by
        have h1 : n = n % 128 + n / 128 * 128 := by omega
        conv => lhs; rw [h1]
        rw [Nat.add_mul, Nat.pow_succ, Nat.mul_assoc (n / 128), Nat.mul_comm 128]
      have hi8 : i ≠ 8 := by
        intro e
        subst e
        have : 128 * 128 ^ 8 ≤ n * 128 ^ 8 := Nat.mul_le_mul_right _ (by omega)
        unfold widest at hw
        omega
      rw [numB_ge hn, List.cons_append, rdN_cons, ofNat_toNat (by omega), show (n % 128 + 128) % 128 = n % 128 by omega]
      rw [if_neg (by omega), if_neg (by omega), ih (n / 128) (i + 1) _ rest (by omega) (by omega) (by rw [hsplit] at hw; omega) (by omega), hsplit, Nat.add_assoc]
theorem numR_numB {x : Int} (hx : 0 ≤ x ∧ x ≤ widest) (rest : List UInt8) : numR (numB (clampN x) ++ rest, 0) = (x, (rest, 0)) := by
  have hc : (clampN x : Int) = x := by unfold clampN; omega
  rw [numR_zero, rdN_numB _ _ 0 0 rest (Nat.le_refl _) (by omega) (by rw [Nat.pow_zero, Nat.mul_one, Nat.zero_add, hc]; exact hx.2) (by omega)]
  simp only [numF, Nat.pow_zero, Nat.mul_one, Nat.zero_add, hc]
theorem rdN_wide : ∀ (l : List UInt8) (i n : Nat) {m : Nat} {t : List UInt8}, i ≤ 8 → n < 128 ^ i → rdN i n l = .ok (m, t) → (m : Int) ≤ widest
  | [], _, _, _, _, _, _, h => by cases h
  | c :: l, i, n, m, t, hi, hn, h => by
    rw [rdN_cons] at h
    split at h
    · cases h
    · rename_i hc
      have h127 : c.toNat % 128 * 128 ^ i ≤ 127 * 128 ^ i := Nat.mul_le_mul_right _ (by omega)
      have hlt : n + c.toNat % 128 * 128 ^ i < 128 ^ (i + 1) := by rw [Nat.pow_succ]; omega
      split at h
      · cases h
        by_cases h8 : i = 8
        · have : ¬ widest < ((n + c.toNat % 128 * 128 ^ i : Nat) : Int) := fun h => hc (.inl ⟨h8, .inr h⟩)
          omega
        · have : (128 : Nat) ^ (i + 1) ≤ 128 ^ 8 := Nat.pow_le_pow_right (by decide) (by omega)
          unfold widest
          omega
      · rename_i hc2
        have : ¬ i = 8 := fun h8 => hc (.inl ⟨h8, .inl (by omega)⟩)
        exact rdN_wide l (i + 1) _ (by omega) hlt h
theorem numR_wide (s : PR) : 0 ≤ (numR s).1 ∧ (numR s).1 ≤ widest := by
  refine ⟨(numR_bd s).2.1, ?_⟩
  by_cases he : s.2 = 0
  · obtain ⟨l, e⟩ := s
    obtain rfl : e = 0 := he
    rw [numR_zero]
    cases h : rdN 0 0 l with
    | ok x => obtain ⟨m, t⟩ := x; exact rdN_wide l 0 0 (by omega) (by simp) h
    | error e => simp [numF, widest]
  · rw [numR_err he]; simp [widest]
theorem rdN_inv : ∀ (l : List UInt8) (i n : Nat) {m : Nat} {t : List UInt8}, rdN i n l = .ok (m, t) → ∃ d, m = n + d * 128 ^ i ∧ l = numB d ++ t ∧ (0 < i → d ≠ 0)
  | [], _, _, _, _, h => by cases h
  | c :: l, i, n, m, t, h => by
    have hc8 : c.toNat < 256 := c.toNat_lt
    rw [rdN_cons] at h
    split at h
    · cases h
    · rename_i hc
      split at h
      · rename_i h128
        cases h
        refine ⟨c.toNat, by rw [Nat.mod_eq_of_lt h128], ?_, fun hi h0 => hc (.inr ⟨hi, h0⟩)⟩
        rw [numB_lt h128]
        simp
      · rename_i h128
        obtain ⟨d, e1, e2, e3⟩ := rdN_inv l (i + 1) _ h
        have hd := e3 (by omega)
        refine ⟨c.toNat % 128 + 128 * d, ?_, ?_, fun _ => by omega⟩
        · rw [e1, Nat.pow_succ, Nat.add_mul, Nat.add_assoc, Nat.mul_comm 128 d, Nat.mul_assoc, Nat.mul_comm 128 (128 ^ i)]
        · rw [numB_ge (by omega), e2]
          have h1 : (c.toNat % 128 + 128 * d) % 128 + 128 = c.toNat := by omega
          have h2 : (c.toNat % 128 + 128 * d) / 128 = d := by omega
          rw [h1, h2]
          simp
theorem rdN_err : ∀ (l : List UInt8) (i n : Nat) {e : Int}, rdN i n l = .error e → e ≠ 0
  | [], _, _, _, h => by cases h; decide
  | c :: l, i, n, e, h => by
    rw [rdN_cons] at h
    split at h
    · cases h; decide
    · split at h
      · cases h
      · exact rdN_err l _ _ h
/-- what was read without a fault stood there -/
theorem numR_inv {s : PR} (h : (numR s).2.2 = 0) : s.2 = 0 ∧ s.1 = numB (clampN (numR s).1) ++ (numR s).2.1 ∧ 0 ≤ (numR s).1 ∧ (numR s).1 ≤ widest := by
  obtain ⟨l, e⟩ := s
  by_cases he : e = 0
  · subst he
    rw [numR_zero] at h ⊢
    cases hr : rdN 0 0 l with
    | ok x =>
      obtain ⟨m, t⟩ := x
      obtain ⟨d, e1, e2, _⟩ := rdN_inv l 0 0 hr
      have hw := rdN_wide l 0 0 (by decide) (by decide) hr
      have hd : d = m := by simp at e1; omega
      subst hd
      refine ⟨rfl, ?_, by simp [numF], by simpa [numF] using hw⟩
      dsimp only [numF]
      rw [clamp_nat _ hw, e2]
    | error e =>
      rw [hr] at h
      exact absurd h (rdN_err l 0 0 hr)
  · rw [numR_err he] at h
    exact absurd h he
set_option maxRecDepth 10000 in
theorem read0_ok (a : Option Addr) (n c : Nat) : RT G 217 [.slice a n c] (fun _ => True) (fun x E => ∃ r, x = .pointer (some ⟨r, 0, none⟩) ∧ E = [blk r [.slice a n c, .int .i64 0] 356]) := by
  refine RT.enter Tryz.func217 rfl (by decide) rfl Tryz.ntmps217 rfl (fun A _ hA => ?_)
  repeat (first | refine GO ?_ | refine NW fun _ => ?_)
  exact ret1 rfl ⟨[_], ⟨_, rfl, rfl⟩, Imp.refl _⟩
end Go.Proofs.YtleajkobmhhacaaGreatDoor
/- Contracts of functions of the given program, and plain laws on what they compute: parts of the proofs of laws. -/

namespace Go.Proofs.YtleajkobmhhacaaGreatDoor
open Go Go.GL

def textR (most : Int) (s : PR) : ByteArray × PR :=
  if (numR s).2.2 ≠ 0 then (⟨#[]⟩, (numR s).2)
  else if most < (numR s).1 then (⟨#[]⟩, ([], 1))
  else if ((numR s).2.1.length : Int) < (numR s).1 then (⟨#[]⟩, ([], 2))
  else (ba ((numR s).2.1.take (numR s).1.toNat), ((numR s).2.1.drop (numR s).1.toNat, (numR s).2.2))
set_option maxHeartbeats 1000000 in
set_option maxRecDepth 10000 in
theorem textR_ok (r : Nat) (v : Value) (s : PR) (A : Assn) (hu : Up A) (hv : Bytes A s.1 v) (hl : s.1.length < 1000000) (most : Int) :
    Triple G 237 [.pointer (some ⟨r, 0, none⟩), .int .i64 most] [blk r [v, .int .i64 s.2] 356, A] (RdPost r A (.string (textR most s).1) (textR most s).2) := by
  refine Triple.enter Tryz.func237 rfl (by decide) rfl Tryz.ntmps237 rfl (fun F => ?_)
  repeat (first | refine GO ?_ | refine NW fun _ => ?_)
  refine WL.step rfl (OP.call (pre := [blk r [v, .int .i64 s.2] 356, A]) rfl rfl (numR_ok r v s A hu hv hl) PS rfl rfl ?_)
  rintro _ _ ⟨rfl, v', hv', rfl⟩
  have hbd := numR_bd s
  unfold textR
  generalize numR s = y at *
  obtain ⟨x, l, e⟩ := y
  dsimp only at hbd hv' ⊢
  repeat (first | refine GD ?_ | refine NW fun _ => ?_)
  refine WL.step rfl (OP.callRO rfl rfl (err_ro r v' e) (Ent.whole (T := 356) MM) rfl rfl ?_)
  by_cases he : e = 0
  rotate_left
  · rw [if_pos he]
    repeat (first | refine GD ?_ | refine NW fun _ => ?_)
    exact ret1 rfl ⟨_, ⟨rfl, v', hv', rfl⟩, Imp.refl _⟩
  subst he
  rw [if_neg (by simp)]
  by_cases h1 : most < x
  · rw [if_pos h1]
    repeat (first | refine GD ?_ | refine NW fun _ => ?_)
    refine WL.step rfl (OP.call (pre := [blk r [v', .int .i64 0] 356, A]) rfl rfl (wrong5_ok r A _ 0 1) PS rfl rfl ?_)
    rintro _ _ ⟨rfl, v2, hv2, rfl⟩
    repeat (first | refine GD ?_ | refine NW fun _ => ?_)
    exact ret1 rfl ⟨_, ⟨rfl, v2, hv2, rfl⟩, Imp.refl _⟩
  rw [if_neg h1]
  obtain ⟨a, n, c, rfl, hn, hc, hr⟩ := hv'
  by_cases h2 : (l.length : Int) < x
  · rw [if_pos h2]
    repeat (first | refine GD ?_ | refine NW fun _ => ?_)
    refine WL.step rfl (OP.call (pre := [blk r [.slice a n c, .int .i64 0] 356, A]) rfl rfl (wrong5_ok r A _ 0 2) PS rfl rfl ?_)
    rintro _ _ ⟨rfl, v2, hv2, rfl⟩
    repeat (first | refine GD ?_ | refine NW fun _ => ?_)
    exact ret1 rfl ⟨_, ⟨rfl, v2, hv2, rfl⟩, Imp.refl _⟩
  rw [if_neg h2]
  repeat (first | refine GD ?_ | refine NW fun _ => ?_)
  refine WL.step rfl (OP.toStr (sv := ba (l.take x.toNat)) rfl rfl rfl rfl rfl rfl rfl rfl (by rw [strCells_ba, List.map_take]; exact Ent.mem MM hu (fun h hh => by have := readS_take (m := x.toNat) (hr h hh) (by omega); rwa [Nat.mul_one] at this)) rfl rfl ?_)
  repeat (first | refine GD ?_ | refine NW fun _ => ?_)
  refine ret1 rfl ⟨_, ⟨rfl, _, ⟨_, _, _, rfl, ?_, ?_, ?_⟩, rfl⟩, Imp.refl _⟩
  · rw [List.length_drop]; omega
  · omega
  · intro h hh
    have := readS_cut (i := x.toNat) (hr h hh) (by omega) hc
    rw [Nat.mul_one, ← List.map_drop] at this
    exact this
theorem textR_len (most : Int) (s : PR) : (textR most s).2.1.length ≤ s.1.length := by
  have := numR_bd s
  unfold textR
  split
  · exact this.1
  · split
    · simp
    · split
      · simp
      · simp only [List.length_drop]; omega
def readM (s : PR) : (Int × Rec) × PR :=
  if (numR (numR (numR s).2).2).1 = 1 then
    (((numR s).1, ((numR (numR s).2).1, (numR (numR (numR s).2).2).1, (numR (numR (numR (numR s).2).2).2).1, (textR 16 (numR (numR (numR (numR s).2).2).2).2).1, 0)), (textR 16 (numR (numR (numR (numR s).2).2).2).2).2)
  else (((numR s).1, ((numR (numR s).2).1, (numR (numR (numR s).2).2).1, 0, ⟨#[]⟩, (numR (numR (numR (numR s).2).2).2).1)), (numR (numR (numR (numR s).2).2).2).2)
set_option maxHeartbeats 1000000 in
set_option maxRecDepth 10000 in
theorem read5_ok (r : Nat) (v : Value) (s : PR) (A : Assn) (hu : Up A) (hv : Bytes A s.1 v) (hl : s.1.length < 1000000) :
    Triple G 245 [.pointer (some ⟨r, 0, none⟩)] [blk r [v, .int .i64 s.2] 356, A] (RdPost r A (.tuple #[.int .i64 (readM s).1.1, .agg (encR (readM s).1.2).toArray]) (readM s).2) := by
  refine Triple.enter Tryz.func245 rfl (by decide) rfl Tryz.ntmps245 rfl (fun F => ?_)
  have b1 := numR_bd s
  have b2 := numR_bd (numR s).2
  have b3 := numR_bd (numR (numR s).2).2
  have b4 := numR_bd (numR (numR (numR s).2).2).2
  unfold readM
  repeat (first | refine GO ?_ | refine NW fun _ => ?_)
  refine WL.step rfl (OP.call (pre := [blk r [v, .int .i64 s.2] 356, A]) rfl rfl (numR_ok r v s A hu hv hl) PS rfl rfl ?_)
  rintro _ _ ⟨rfl, v1, hv1, rfl⟩
  repeat (first | refine GO ?_ | refine NW fun _ => ?_)
  refine WL.step rfl (OP.call (pre := [blk r [v1, .int .i64 _] 356, A]) rfl rfl (numR_ok r v1 (numR s).2 A hu hv1 (by omega)) PS rfl rfl ?_)
  rintro _ _ ⟨rfl, v2, hv2, rfl⟩
  repeat (first | refine GO ?_ | refine NW fun _ => ?_)
  refine WL.step rfl (OP.call (pre := [blk r [v2, .int .i64 _] 356, A]) rfl rfl (numR_ok r v2 (numR (numR s).2).2 A hu hv2 (by omega)) PS rfl rfl ?_)
  rintro _ _ ⟨rfl, v3, hv3, rfl⟩
  generalize numR s = y1 at *
  generalize numR y1.2 = y2 at *
  generalize numR y2.2 = y3 at *
  by_cases hk : y3.1 = 1
  · rw [if_pos hk]
    repeat (first | refine GD ?_ | refine NW fun _ => ?_)
    refine WL.step rfl (OP.call (pre := [blk r [v3, .int .i64 _] 356, A]) rfl rfl (numR_ok r v3 y3.2 A hu hv3 (by omega)) PS rfl rfl ?_)
    rintro _ _ ⟨rfl, v4, hv4, rfl⟩
    generalize numR y3.2 = y4 at *
    repeat (first | refine GD ?_ | refine NW fun _ => ?_)
    refine WL.step rfl (OP.call (pre := [blk r [v4, .int .i64 _] 356, A]) rfl rfl (textR_ok r v4 y4.2 A hu hv4 (by omega) 16) PS rfl rfl ?_)
    rintro _ _ ⟨rfl, v5, hv5, rfl⟩
    generalize textR 16 y4.2 = y5 at *
    repeat (first | refine GD ?_ | refine NW fun _ => ?_)
    refine RD 3 4 (_) ?_
    refine VV 0 ?_; refine VV 1 ?_; refine VV 2 ?_
    refine WH.only 3 rfl rfl (by kernel_rfl) rfl (OP.store rfl rfl rfl rfl rfl rfl rfl UP rfl ⟨(fun h => nomatch h), ?_⟩)
    refine DN ?_
    repeat (first | refine GD ?_ | refine NW fun _ => ?_)
    exact ret2c rfl rfl rfl rfl rfl (HasCut.ent (n := 5) HC).1 ⟨_, ⟨rfl, v5, hv5, rfl⟩, II⟩
  · rw [if_neg hk]
    repeat (first | refine GD ?_ | refine NW fun _ => ?_)
    refine WL.step rfl (OP.call (pre := [blk r [v3, .int .i64 _] 356, A]) rfl rfl (numR_ok r v3 y3.2 A hu hv3 (by omega)) PS rfl rfl ?_)
    rintro _ _ ⟨rfl, v4, hv4, rfl⟩
    generalize numR y3.2 = y4 at *
    repeat (first | refine GD ?_ | refine NW fun _ => ?_)
    refine RD 3 4 (_) ?_
    refine VV 0 ?_; refine VV 1 ?_; refine VV 2 ?_
    refine WH.only 3 rfl rfl (by kernel_rfl) rfl (OP.store rfl rfl rfl rfl rfl rfl rfl UP rfl ⟨(fun h => nomatch h), ?_⟩)
    refine DN ?_
    repeat (first | refine GD ?_ | refine NW fun _ => ?_)
    exact ret2c rfl rfl rfl rfl rfl (HasCut.ent (n := 5) HC).1 ⟨_, ⟨rfl, v4, hv4, rfl⟩, II⟩
end Go.Proofs.YtleajkobmhhacaaGreatDoor
