/- Contracts of functions of the given program, and plain laws: parts of the proofs of laws. -/
import Derived.Test.YtanjfjiaheghcaaGreatDoorZPX3
import Derived.Test.YtanjfjiaheghcaaGreatDoorZPX4
/- Contracts of functions of the given program, and plain laws on what they compute: parts of the proofs of laws. -/

namespace Go.Proofs.YtanjfjiaheghcaaGreatDoor
open Go Go.GL

def widest : Int := 1152921504606846975
/-- a number as bytes -/
def numB (n : Nat) : List UInt8 := if n < 128 then [UInt8.ofNat n] else UInt8.ofNat (n % 128 + 128) :: numB (n / 128)
termination_by n
decreasing_by omega
theorem numB_lt {n : Nat} (h : n < 128) : numB n = [UInt8.ofNat n] := by rw [numB, if_pos h]
theorem numB_ge {n : Nat} (h : ¬ n < 128) : numB n = UInt8.ofNat (n % 128 + 128) :: numB (n / 128) := by rw [numB, if_neg h]
theorem numB_len : ∀ (k n : Nat), n < 128 ^ (k + 1) → (numB n).length ≤ k + 1
  | 0, n, h => by rw [numB_lt (by simpa using h)]; simp
  | k + 1, n, h => by
    by_cases hn : n < 128
    · rw [numB_lt hn]; simp
    · rw [numB_ge hn, List.length_cons]
      have := numB_len k (n / 128) (by rw [Nat.div_lt_iff_lt_mul (by omega), ← Nat.pow_succ]; exact h)
      omega
def clampN (x : Int) : Nat := (max 0 (min x widest)).toNat
theorem clamp_le (x : Int) : (clampN x : Int) ≤ widest := by unfold clampN widest; omega
theorem numB_nine (x : Int) : (numB (clampN x)).length ≤ 9 := numB_len 8 _ (by have := clamp_le x; unfold widest at this; omega)
theorem wrap_u8 (y : Nat) : IntKind.u8.wrap (y : Int) = ((y % 256 : Nat) : Int) := by
  simp [IntKind.wrap, IntKind.signed, IntKind.bits]
set_option maxRecDepth 10000 in
theorem or_small : ∀ z : Fin 256, bitsV .or .u8 (z.val : Int) 128 = ((z.val % 128 + 128 : Nat) : Int) := by decide
theorem or_byte (y : Nat) : Value.int .u8 (bitsV .or .u8 (IntKind.u8.wrap (y : Int)) 128) = byteV (UInt8.ofNat (y % 128 + 128)) := by
  unfold byteV
  rw [wrap_u8]
  have := or_small ⟨y % 256, by omega⟩
  simp only at this
  rw [this]
  congr 1
  rw [UInt8.toNat_ofNat']
  omega
theorem low_byte (y : Nat) (h : y < 128) : Value.int .u8 (y : Int) = byteV (UInt8.ofNat y) := by
  unfold byteV
  congr 1
  rw [UInt8.toNat_ofNat']
  omega
theorem shr7 (y : Nat) : shrV .i64 (y : Int) 7 = ((y / 128 : Nat) : Int) := by
  unfold shrV
  simp [IntKind.bits]
  rw [Int.fdiv_eq_ediv_of_nonneg _ (by omega)]
def NumPost (n : Nat) (l l2 : List UInt8) (v : Value) (M : List Assn) : Prop := ∃ a' cap', v = .slice a' (n + l2.length) cap' ∧ M = [ownS a' (n + l2.length) cap' 5 1 ((l ++ l2).map byteV)]

set_option maxHeartbeats 1000000 in
set_option maxRecDepth 10000 in
theorem number_ok (a : Option Addr) (n cap : Nat) (l : List UInt8) (x : Int) (hn : n < 1000000) :
    Triple G 102 [.slice a n cap, .int .i64 x] [ownS a n cap 5 1 (l.map byteV)] (NumPost n l (numB (clampN x))) := by
  refine Triple.enter Tryz.func102 rfl (by decide) rfl Tryz.ntmps102 rfl (fun F => ?_)
  repeat (first | refine GO ?_ | refine NW fun _ => ?_)
  have hcl : (if (0 : Int) < (if (1152921504606846975 : Int) < x then (1152921504606846975 : Int) else x) then (if (1152921504606846975 : Int) < x then (1152921504606846975 : Int) else x) else 0) = (clampN x : Int) := by
    unfold clampN widest
    split <;> split <;> omega
  rw [hcl]
  have hc1 := clamp_le x
  unfold widest at hc1
  have h9 := numB_nine x
  generalize clampN x = y0 at *
  unfold NumPost
  generalize hfin : l ++ numB y0 = fin
  have hfl : n + (numB y0).length = n + (fin.length - l.length) := by rw [← hfin, List.length_append]; omega
  refine WC.fact (Ent.len (Ent.own (a := a) (n := n) (cap := cap) (T := 5) (size := 1) (cs := l.map byteV) MM)) (fun hlen => ?_)
  have hln : l.length = n := by simpa using hlen
  refine WC.loop (σ := Option Addr × Nat × Nat × List UInt8 × Nat) (fun s => s.2.1 = s.2.2.2.1.length ∧ s.2.2.2.1 ++ numB s.2.2.2.2 = fin ∧ s.2.2.2.2 ≤ y0)
    (fun s => [(0, .val (.slice s.1 s.2.1 s.2.2.1)), (1, .val (.int .i64 s.2.2.2.2))])
    (fun s => [ownS s.1 s.2.1 s.2.2.1 5 1 (s.2.2.2.1.map byteV), F]) (fun s => s.2.2.2.2) (a, n, cap, l, y0) ⟨hln.symm, hfin, Nat.le_refl _⟩ ⟨rfl, rfl, trivial⟩ II ?_
  rintro ⟨a1, n1, cap1, l1, y⟩ ⟨hn1, hl1, hy⟩
  dsimp only at hn1 hl1 hy ⊢
  have hlen1 : l1.length + (numB y).length = fin.length := by rw [← hl1, List.length_append]
  have hlen2 : l.length + (numB y0).length = fin.length := by rw [← hfin, List.length_append]
  by_cases hge : 128 ≤ y
  · rw [numB_ge (by omega)] at hl1
    repeat (first | refine GD ?_ | refine NW fun _ => ?_)
    rw [or_byte y]
    repeat (first | refine GD ?_ | refine NW fun _ => ?_)
    refine WL.step rfl (OP.append rfl rfl rfl rfl rfl rfl rfl rfl rfl P1 (Ent.own MM) rfl (by omega) (by omega) rfl rfl (fun a2 cap2 => ?_))
    repeat (first | refine GD ?_ | refine NW fun _ => ?_)
    rw [shr7 y]
    exact ⟨(a2, n1 + 1, cap2, l1 ++ [UInt8.ofNat (y % 128 + 128)], y / 128), ⟨by simp [hn1], by simp only []; rw [List.append_assoc]; exact hl1, by dsimp only; omega⟩, by dsimp only; omega, ⟨rfl, rfl, trivial⟩, by rw [List.map_append]; exact II⟩
  · rw [numB_lt (by omega)] at hl1
    repeat (first | refine GD ?_ | refine NW fun _ => ?_)
    rw [low_byte y (by omega)]
    repeat (first | refine GD ?_ | refine NW fun _ => ?_)
    refine WL.step rfl (OP.append rfl rfl rfl rfl rfl rfl rfl rfl rfl P1 (Ent.own MM) rfl (by omega) (by omega) rfl rfl (fun a2 cap2 => ?_))
    repeat (first | refine GD ?_ | refine NW fun _ => ?_)
    have e : n + (numB y0).length = n1 + 1 := by
      have : fin.length = n1 + 1 := by rw [← hl1, List.length_append, List.length_singleton, hn1]
      omega
    refine ret1 rfl ⟨[_], ⟨a2, cap2, by rw [e], by rw [e, ← hl1, List.map_append]⟩, II⟩
end Go.Proofs.YtanjfjiaheghcaaGreatDoor
/- Contracts of functions of the given program, and plain laws on what they compute: parts of the proofs of laws. -/

namespace Go.Proofs.YtanjfjiaheghcaaGreatDoor
open Go Go.GL

abbrev W32 := BitVec 32
def u32V (c : W32) : Value := .int .u32 (c.toNat : Int)
def tbl : List W32 := [0#32, 274646895#32, 549293790#32, 820201905#32, 1098587580#32, 1361435347#32, 1640403810#32, 1905808397#32, 2197175160#32, 2460548119#32, 2722870694#32, 2987750089#32, 3280807620#32, 3553878443#32, 3811616794#32, 4084100981#32]
def half (c : W32) : W32 := (c >>> 4) ^^^ (tbl.getD (c &&& 15#32).toNat 0)
def crcStep (c : W32) (x : UInt8) : W32 := half (half (c ^^^ BitVec.ofNat 32 x.toNat))
def crcF (c : W32) (l : List UInt8) : W32 := l.foldl crcStep c
def crc (l : List UInt8) : W32 := ~~~ (crcF (BitVec.allOnes 32) l)
theorem ofInt_u32 (c : W32) : BitVec.ofInt IntKind.u32.bits (c.toNat : Int) = c := by
  show BitVec.ofInt 32 (c.toNat : Int) = c
  rw [BitVec.ofInt_natCast, BitVec.ofNat_toNat, BitVec.setWidth_eq]
theorem wrap_u32 (c : W32) : IntKind.u32.wrap (c.toNat : Int) = (c.toNat : Int) := wrap_fit (k := .u32) (by have := c.isLt; unfold Fit; omega)
theorem xor_u32 (c d : W32) : bitsV .xor .u32 (c.toNat : Int) (d.toNat : Int) = ((c ^^^ d).toNat : Int) := by
  unfold bitsV
  simp only [ofInt_u32]
  exact wrap_u32 (c ^^^ d)
theorem and_u32 (c d : W32) : bitsV .and .u32 (c.toNat : Int) (d.toNat : Int) = ((c &&& d).toNat : Int) := by
  unfold bitsV
  simp only [ofInt_u32]
  exact wrap_u32 (c &&& d)
theorem shr_u32 (c : W32) (n : Nat) (hn : n ≤ 32) : shrV .u32 (c.toNat : Int) (n : Int) = ((c >>> n).toNat : Int) := by
  unfold shrV
  rw [Int.toNat_natCast, show min n IntKind.u32.bits = n from Nat.min_eq_left hn, Int.fdiv_eq_ediv_of_nonneg _ (by exact Int.le_of_lt (Int.pow_pos (by decide))), BitVec.toNat_ushiftRight, Nat.shiftRight_eq_div_pow]
  rw [Int.natCast_ediv]
  norm_cast
def tblV : List Value := [.int .u32 0, .int .u32 274646895, .int .u32 549293790, .int .u32 820201905, .int .u32 1098587580, .int .u32 1361435347, .int .u32 1640403810, .int .u32 1905808397, .int .u32 2197175160, .int .u32 2460548119, .int .u32 2722870694, .int .u32 2987750089, .int .u32 3280807620, .int .u32 3553878443, .int .u32 3811616794, .int .u32 4084100981]
theorem tbl_cells (i : Nat) (h : i < 16) : tblV[i]? = some (.int .u32 ((tbl.getD i 0).toNat : Int)) := by
  obtain rfl | rfl | rfl | rfl | rfl | rfl | rfl | rfl | rfl | rfl | rfl | rfl | rfl | rfl | rfl | rfl : i = 0 ∨ i = 1 ∨ i = 2 ∨ i = 3 ∨ i = 4 ∨ i = 5 ∨ i = 6 ∨ i = 7 ∨ i = 8 ∨ i = 9 ∨ i = 10 ∨ i = 11 ∨ i = 12 ∨ i = 13 ∨ i = 14 ∨ i = 15 := by omega
  all_goals rfl
set_option maxHeartbeats 1000000 in
set_option maxRecDepth 10000 in
theorem half_ro (c : W32) : RO G 179 [u32V c] (fun _ => True) (u32V (half c)) := by
  refine RO.enter Tryz.func179 rfl (by decide) rfl Tryz.ntmps179 rfl (fun A hu hA => ?_) (fun _ _ _ h => h)
  unfold u32V
  repeat (first | refine GO ?_ | refine NW fun _ => ?_)
  have ha := and_u32 c 15#32
  rw [show (((15#32 : W32).toNat : Nat) : Int) = 15 from rfl] at ha
  have hlt : (c &&& 15#32).toNat < 16 := by
    rw [BitVec.toNat_and]
    exact Nat.lt_of_le_of_lt Nat.and_le_right (by decide)
  have hs := shr_u32 c 4 (by decide)
  rw [show (((4 : Nat) : Int)) = 4 from rfl] at hs
  rw [ha, hs]
  repeat (first | refine GO ?_ | refine NW fun _ => ?_)
  refine WL.step rfl (OP.load1 (v := .int .u32 ((tbl.getD (c &&& 15#32).toNat 0).toNat : Int)) rfl rfl rfl rfl (Ent.blk (c := tblV) MM (by simpa using tbl_cells _ hlt)) rfl rfl ?_)
  repeat (first | refine GO ?_ | refine NW fun _ => ?_)
  rw [xor_u32]
  exact ret1 rfl ⟨rfl, MM⟩
set_option maxHeartbeats 1000000 in
set_option maxRecDepth 10000 in
theorem of_ro (a : Option Addr) (n cap : Nat) (l : List UInt8) (hn : n = l.length) (hs : n < 1000000) : RO G 174 [.slice a n cap] (readS a n 1 (l.map byteV)) (u32V (crc l)) := by
  refine RO.enter Tryz.func174 rfl (by decide) rfl Tryz.ntmps174 rfl (fun A hu hA => ?_) (up_readS _ _ _ _)
  have hE : ∀ {L}, A ∈ L → Ent L (readS a n 1 (l.map byteV)) := fun m => Ent.mem m hu hA
  repeat (first | refine GO ?_ | refine NW fun _ => ?_)
  refine WC.loop (σ := Nat) (fun k => k ≤ n)
    (fun k => [(3, .val (u32V (crcF (BitVec.allOnes 32) (l.take k)))), (6, .val (.slice a n cap)), (7, .val (.int .i64 n)), (8, .val (.int .i64 k))])
    (fun k => [A]) (fun k => n - k) 0 (Nat.zero_le _) ⟨rfl, rfl, rfl, rfl, trivial⟩ (Imp.refl _) ?_
  rintro k hk
  by_cases hlt : k < n
  rotate_left
  · have : l.take k = l := List.take_of_length_le (by omega)
    rw [this]
    unfold u32V
    repeat (first | refine GD ?_ | refine NW fun _ => ?_)
    have hx := xor_u32 (BitVec.allOnes 32) (crcF (BitVec.allOnes 32) l)
    have e : (if IntKind.u32.signed = true then (-1 : Int) else IntKind.u32.max) = ((BitVec.allOnes 32).toNat : Int) := rfl
    rw [e, hx, BitVec.allOnes_xor]
    exact ret1 rfl ⟨rfl, MM⟩
  have hl1 : k < l.length := by omega
  have hsn : crcF (BitVec.allOnes 32) (l.take (k + 1)) = crcStep (crcF (BitVec.allOnes 32) (l.take k)) l[k] := by
    unfold crcF
    rw [List.take_succ_eq_append_getElem hl1, List.foldl_append]
    rfl
  generalize crcF (BitVec.allOnes 32) (l.take k) = c at *
  unfold u32V
  repeat (first | refine GD ?_ | refine NW fun _ => ?_)
  refine WL.fact (Ent.some (hE MM) (by omega)) ?_
  rintro ⟨b, off, rfl⟩
  repeat (first | refine GD ?_ | refine NW fun _ => ?_)
  refine WL.step rfl (OP.load1 (v := byteV l[k]) rfl rfl rfl rfl (Ent.elem (i := k * 1) (hE MM) rfl (by simp [hl1])) rfl rfl ?_)
  generalize l[k] = x at *
  have hx8 : x.toNat < 256 := x.toNat_lt
  unfold byteV
  repeat (first | refine GD ?_ | refine NW fun _ => ?_)
  have hx := xor_u32 c (BitVec.ofNat 32 x.toNat)
  have hb : ((BitVec.ofNat 32 x.toNat).toNat : Int) = x.toNat := by rw [BitVec.toNat_ofNat]; omega
  rw [hb] at hx
  rw [hx]
  refine WL.step rfl (OP.callRO rfl rfl (half_ro _) (fun _ _ => trivial) rfl rfl ?_)
  repeat (first | refine GD ?_ | refine NW fun _ => ?_)
  refine WL.step rfl (OP.callRO rfl rfl (half_ro _) (fun _ _ => trivial) rfl rfl ?_)
  repeat (first | refine GD ?_ | refine NW fun _ => ?_)
  exact ⟨k + 1, by omega, by omega, ⟨by rw [hsn]; rfl, rfl, rfl, rfl, trivial⟩, Imp.refl _⟩
def le4 (c : W32) : List UInt8 := [UInt8.ofNat (c.toNat % 256), UInt8.ofNat ((c >>> 8).toNat % 256), UInt8.ofNat ((c >>> 16).toNat % 256), UInt8.ofNat ((c >>> 24).toNat % 256)]
def tailM (l : List UInt8) : List UInt8 := le4 (crc l)
theorem byte_u32 (c : W32) : Value.int .u8 (IntKind.u8.wrap (c.toNat : Int)) = byteV (UInt8.ofNat (c.toNat % 256)) := by
  unfold byteV
  rw [wrap_u8]
  congr 1
  rw [UInt8.toNat_ofNat']
  omega
def BytesNew (l : List UInt8) (v : Value) (E : List Assn) : Prop := ∃ a cap, v = .slice a l.length cap ∧ E = [ownS a l.length cap 5 1 (l.map byteV)]
set_option maxHeartbeats 1000000 in
set_option maxRecDepth 10000 in
theorem tail_ok (a : Option Addr) (n cap : Nat) (l : List UInt8) (hn : n = l.length) (hs : n < 1000000) : RT G 152 [.slice a n cap] (readS a n 1 (l.map byteV)) (BytesNew (tailM l)) := by
  refine RT.enter Tryz.func152 rfl (by decide) rfl Tryz.ntmps152 rfl (fun A hu hA => ?_)
  have hE : ∀ {L}, A ∈ L → Ent L (readS a n 1 (l.map byteV)) := fun m => Ent.mem m hu hA
  repeat (first | refine GO ?_ | refine NW fun _ => ?_)
  refine WL.step rfl (OP.callRO rfl rfl (of_ro a n cap l hn hs) (hE MM) rfl rfl ?_)
  unfold tailM
  generalize crc l = c
  unfold u32V
  have h8 := shr_u32 c 8 (by decide)
  have h16 := shr_u32 c 16 (by decide)
  have h24 := shr_u32 c 24 (by decide)
  rw [show (((8 : Nat) : Int)) = 8 from rfl] at h8
  rw [show (((16 : Nat) : Int)) = 16 from rfl] at h16
  rw [show (((24 : Nat) : Int)) = 24 from rfl] at h24
  repeat (first | refine GO ?_ | refine NW fun _ => ?_)
  rw [h8, h16, h24, byte_u32, byte_u32, byte_u32, byte_u32]
  exact ret1 rfl ⟨[_], ⟨_, _, rfl, rfl⟩, II⟩
end Go.Proofs.YtanjfjiaheghcaaGreatDoor
/- Contracts of functions of the given program, and plain laws on what they compute: parts of the proofs of laws. -/

namespace Go.Proofs.YtanjfjiaheghcaaGreatDoor
open Go Go.GL

/-- a fault: its error's value, and its block -/
def Fault (op : ByteArray) (at_ c : Int) (v : Value) (M : List Assn) : Prop := ∃ b, v = .iface 169 (.pointer (some ⟨b, 0, none⟩)) ∧ M = [blk b [.string op, .int .i64 at_, .iface 99 (.int .i64 c)] 171]

set_option maxRecDepth 10000 in
theorem wrap_ok (op : ByteArray) (at_ c : Int) (h : c ≠ 0) : Triple G 86 [.string op, .int .i64 at_, .iface 99 (.int .i64 c)] [] (Fault op at_ c) := by
  refine Triple.enter Tryz.func86 rfl (by decide) rfl Tryz.ntmps86 rfl (fun F => ?_)
  repeat (first | refine GO ?_ | refine NW fun _ => ?_)
  refine WC.cond rfl (fun hb => ?_) (fun _ => ?_)
  · simp [h] at hb
  repeat (first | refine GO ?_ | refine NW fun _ => ?_)
  exact ret1 rfl ⟨_, ⟨_, rfl, rfl⟩, Imp.refl _⟩

end Go.Proofs.YtanjfjiaheghcaaGreatDoor
/- Contracts of functions of the given program, and plain laws on what they compute: parts of the proofs of laws. -/

namespace Go.Proofs.YtanjfjiaheghcaaGreatDoor
open Go Go.GL

theorem repL_bytes (n : Nat) : repL [Value.int .u8 0] n = (List.replicate n (0 : UInt8)).map byteV := by
  induction n with
  | zero => rfl
  | succ n ih => simp only [repL, ih, List.replicate_succ, List.map_cons, List.singleton_append]; rfl
theorem allOne_bytes (l : List UInt8) : allOne (l.map byteV) = true := by
  induction l with
  | nil => rfl
  | cons x r ih => simpa [allOne, one, byteV] using ih
def textB (s : ByteArray) : List UInt8 := numB s.size ++ s.data.toList
theorem clamp_nat (n : Nat) (h : (n : Int) ≤ widest) : clampN n = n := by unfold clampN widest at *; omega
set_option maxHeartbeats 1000000 in
set_option maxRecDepth 10000 in
theorem text_ok (a : Option Addr) (n cap : Nat) (l : List UInt8) (s : ByteArray) (hn : n < 100000) (hs : s.size < 100000) :
    Triple G 143 [.slice a n cap, .string s] [ownS a n cap 5 1 (l.map byteV)] (NumPost n l (textB s)) := by
  refine Triple.enter Tryz.func143 rfl (by decide) rfl Tryz.ntmps143 rfl (fun F => ?_)
  repeat (first | refine GO ?_ | refine NW fun _ => ?_)
  refine WL.step rfl (OP.call (pre := [ownS a n cap 5 1 (l.map byteV)]) rfl rfl (number_ok a n cap l s.size (by omega)) PS rfl rfl ?_)
  rintro _ _ ⟨a1, cap1, rfl, rfl⟩
  have h9 := numB_nine s.size
  have hcl := clamp_nat s.size (by unfold widest; omega)
  rw [hcl] at h9 ⊢
  repeat (first | refine GO ?_ | refine NW fun _ => ?_)
  refine WL.step rfl (OP.appendStr rfl rfl rfl rfl rfl rfl rfl rfl rfl rfl P1 (by omega) rfl rfl (fun a2 cap2 => ?_))
  repeat (first | refine GO ?_ | refine NW fun _ => ?_)
  have hsl : s.data.toList.length = s.size := Array.length_toList
  have e : n + (numB s.size).length + s.size = n + (textB s).length := by unfold textB; rw [List.length_append, hsl]; omega
  refine ret1 rfl ⟨[_], ⟨a2, cap2, by rw [e], ?_⟩, II⟩
  rw [e]
  unfold textB
  rw [← List.append_assoc, List.map_append (l₁ := l ++ numB s.size)]
  rfl
set_option maxRecDepth 10000 in
theorem num_ro (x least : Int) : RO G 176 [.int .i64 x, .int .i64 least] (fun _ => True) (.bool (decide (least ≤ x ∧ x ≤ widest))) := by
  refine RO.enter Tryz.func176 rfl (by decide) rfl Tryz.ntmps176 rfl (fun A _ hA => ?_) (fun _ _ _ h => h)
  by_cases h1 : least ≤ x
  · by_cases h2 : x ≤ 1152921504606846975
    · repeat (first | refine GD ?_ | refine NW fun _ => ?_)
      exact ret1 rfl ⟨by unfold widest; simp [h1, h2], MM⟩
    · repeat (first | refine GD ?_ | refine NW fun _ => ?_)
      exact ret1 rfl ⟨by unfold widest; simp [h2], MM⟩
  · repeat (first | refine GD ?_ | refine NW fun _ => ?_)
    exact ret1 rfl ⟨by simp [h1], MM⟩
set_option maxRecDepth 10000 in
theorem grow_ok (n : Nat) (hn : n < 10000000) : RT G 162 [.slice none 0 0, .int .i64 n] (fun _ => True) (fun v E => ∃ a cap, v = .slice a 0 cap ∧ E = [ownS a 0 cap 5 1 []]) := by
  refine RT.enter Tryz.func162 rfl (by decide) rfl Tryz.ntmps162 rfl (fun A hu hA => ?_)
  by_cases h0 : n = 0
  · subst h0
    rw [show ((0 : Nat) : Int) = 0 from rfl]
    repeat (first | refine GD ?_ | refine NW fun _ => ?_)
    exact ret1 rfl ⟨[_], ⟨none, 0, rfl, rfl⟩, Imp.nilS 5 1⟩
  · repeat (first | refine GD ?_ | refine NW fun _ => ?_)
    refine WL.step rfl (OP.appendZ rfl rfl rfl rfl rfl rfl rfl rfl rfl rfl (by omega) (by omega) (by omega) (by omega) rfl rfl (fun b cap hcap => ?_))
    refine WL.imp (Imp.ownTake (m := 0) (by omega)) ?_
    repeat (first | refine GD ?_ | refine NW fun _ => ?_)
    exact ret1 rfl ⟨[_], ⟨_, cap, rfl, by simp⟩, Imp.refl _⟩
/-- two slices, one behind the other -/
def TwoS (a : Option Addr) (a1 a2 : Option Addr) (n1 c1 n2 c2 : Nat) (l1 l2 : List UInt8) : Assn := fun h => readS a 2 1 [.slice a1 n1 c1, .slice a2 n2 c2] h ∧ readS a1 n1 1 (l1.map byteV) h ∧ readS a2 n2 1 (l2.map byteV) h
set_option maxHeartbeats 1000000 in
set_option maxRecDepth 10000 in
theorem concat_ok (a a1 a2 : Option Addr) (c n1 c1 n2 c2 : Nat) (l1 l2 : List UInt8) (h1 : n1 = l1.length) (h2 : n2 = l2.length) (hs1 : n1 < 1000000) (hs2 : n2 < 1000000) :
    RT G 140 [.slice a 2 c] (TwoS a a1 a2 n1 c1 n2 c2 l1 l2) (BytesNew (l1 ++ l2)) := by
  refine RT.enter Tryz.func140 rfl (by decide) rfl Tryz.ntmps140 rfl (fun A hu hA => ?_)
  have hE : ∀ {L}, A ∈ L → Ent L (readS a 2 1 [.slice a1 n1 c1, .slice a2 n2 c2]) := fun m => Ent.mem m hu fun h x => (hA h x).1
  have hE1 : ∀ {L}, A ∈ L → Ent L (readS a1 n1 1 (l1.map byteV)) := fun m => Ent.mem m hu fun h x => (hA h x).2.1
  have hE2 : ∀ {L}, A ∈ L → Ent L (readS a2 n2 1 (l2.map byteV)) := fun m => Ent.mem m hu fun h x => (hA h x).2.2
  refine WC.fact (Ent.some (hE MM) (by decide)) ?_
  rintro ⟨b, off, rfl⟩
  repeat (first | refine GO ?_ | refine NW fun _ => ?_)
  refine WC.loop (σ := Nat × Int) (fun s => s.1 ≤ 2 ∧ (s.1 = 0 → s.2 = 0) ∧ (s.1 = 1 → s.2 = n1) ∧ (s.1 = 2 → s.2 = (n1 : Int) + n2))
    (fun s => [(0, .val (.slice (some ⟨b, off, none⟩) 2 c)), (3, .val (.int .i64 s.2)), (9, .val (.slice (some ⟨b, off, none⟩) 2 c)), (10, .val (.int .i64 2)), (11, .val (.int .i64 s.1))])
    (fun s => [A]) (fun s => 2 - s.1) (0, 0) ⟨by simp, by simp, by simp, by simp⟩ ⟨rfl, rfl, rfl, rfl, rfl, trivial⟩ (Imp.refl _) ?_
  rintro ⟨k, t⟩ ⟨hk, ht0, ht1, ht2⟩
  dsimp only at hk ht0 ht1 ht2 ⊢
  obtain rfl | rfl | rfl : k = 0 ∨ k = 1 ∨ k = 2 := by omega
  · obtain rfl := ht0 rfl
    repeat (first | refine GD ?_ | refine NW fun _ => ?_)
    refine WL.step rfl (OP.load1 (v := .slice a1 n1 c1) rfl rfl rfl rfl (Ent.elem (i := 0) (hE MM) rfl rfl) rfl rfl ?_)
    repeat (first | refine GD ?_ | refine NW fun _ => ?_)
    exact ⟨(1, 0 + n1), ⟨by simp, by simp, by simp, by simp⟩, by simp, ⟨rfl, rfl, rfl, rfl, rfl, trivial⟩, Imp.refl _⟩
  · obtain rfl := ht1 rfl
    repeat (first | refine GD ?_ | refine NW fun _ => ?_)
    refine WL.step rfl (OP.load1 (v := .slice a2 n2 c2) rfl rfl rfl rfl (Ent.elem (i := 1) (hE MM) rfl rfl) rfl rfl ?_)
    repeat (first | refine GD ?_ | refine NW fun _ => ?_)
    exact ⟨(2, (n1 : Int) + n2), ⟨by simp, by simp, by simp, by simp⟩, by simp, ⟨rfl, rfl, rfl, rfl, rfl, trivial⟩, Imp.refl _⟩
  obtain rfl := ht2 rfl
  rw [← Int.natCast_add]
  repeat (first | refine GD ?_ | refine NW fun _ => ?_)
  refine WL.step rfl (OP.callRT rfl rfl (grow_ok (n1 + n2) (by omega)) (fun _ _ => trivial) rfl rfl ?_)
  rintro v E ⟨ag, cg, rfl, rfl⟩
  repeat (first | refine GD ?_ | refine NW fun _ => ?_)
  refine WC.loop (σ := Nat × Option Addr × Nat × Nat × List UInt8) (fun s => s.1 ≤ 2 ∧ s.2.2.1 = s.2.2.2.2.length ∧ (s.1 = 0 → s.2.2.2.2 = []) ∧ (s.1 = 1 → s.2.2.2.2 = l1) ∧ (s.1 = 2 → s.2.2.2.2 = l1 ++ l2))
    (fun s => [(25, .val (.slice (some ⟨b, off, none⟩) 2 c)), (6, .val (.slice s.2.1 s.2.2.1 s.2.2.2.1)), (26, .val (.int .i64 2)), (27, .val (.int .i64 s.1))])
    (fun s => [ownS s.2.1 s.2.2.1 s.2.2.2.1 5 1 (s.2.2.2.2.map byteV), A]) (fun s => 2 - s.1) (0, ag, 0, cg, []) ⟨by simp, rfl, by simp, by simp, by simp⟩ ⟨rfl, rfl, rfl, rfl, trivial⟩ II ?_
  rintro ⟨k, a', n', cap', l⟩ ⟨hk, hn', ht0, ht1, ht2⟩
  dsimp only at hk hn' ht0 ht1 ht2 ⊢
  obtain rfl | rfl | rfl : k = 0 ∨ k = 1 ∨ k = 2 := by omega
  · obtain rfl := ht0 rfl
    obtain rfl : n' = 0 := hn'
    repeat (first | refine GD ?_ | refine NW fun _ => ?_)
    refine WL.step rfl (OP.load1 (v := .slice a1 n1 c1) rfl rfl rfl rfl (Ent.elem (i := 0) (hE MM) rfl rfl) rfl rfl ?_)
    repeat (first | refine GD ?_ | refine NW fun _ => ?_)
    refine WL.step rfl (OP.append rfl rfl rfl rfl rfl rfl rfl rfl rfl P1 (hE1 MM) (allOne_bytes _) (by omega) (by omega) rfl rfl (fun a2' cap2 => ?_))
    repeat (first | refine GD ?_ | refine NW fun _ => ?_)
    exact ⟨(1, a2', 0 + n1, cap2, l1), ⟨by simp, by simp [h1], by simp, by simp, by simp⟩, by simp, ⟨rfl, rfl, rfl, rfl, trivial⟩, II⟩
  · obtain rfl := ht1 rfl
    repeat (first | refine GD ?_ | refine NW fun _ => ?_)
    refine WL.step rfl (OP.load1 (v := .slice a2 n2 c2) rfl rfl rfl rfl (Ent.elem (i := 1) (hE MM) rfl rfl) rfl rfl ?_)
    repeat (first | refine GD ?_ | refine NW fun _ => ?_)
    refine WL.step rfl (OP.append rfl rfl rfl rfl rfl rfl rfl rfl rfl P1 (hE2 MM) (allOne_bytes _) (by omega) (by omega) rfl rfl (fun a2' cap2 => ?_))
    repeat (first | refine GD ?_ | refine NW fun _ => ?_)
    exact ⟨(2, a2', n' + n2, cap2, l ++ l2), ⟨by simp, by simp [hn', h2], by simp, by simp, by simp⟩, by simp, ⟨rfl, rfl, rfl, rfl, trivial⟩, by rw [List.map_append]; exact II⟩
  · obtain rfl := ht2 rfl
    subst hn'
    repeat (first | refine GD ?_ | refine NW fun _ => ?_)
    exact ret1 rfl ⟨[_], ⟨a', cap', rfl, rfl⟩, II⟩
end Go.Proofs.YtanjfjiaheghcaaGreatDoor
/- Contracts of functions of the given program, and plain laws on what they compute: parts of the proofs of laws. -/

namespace Go.Proofs.YtanjfjiaheghcaaGreatDoor
open Go Go.GL

theorem tailM_len (l : List UInt8) : (tailM l).length = 4 := rfl
set_option maxHeartbeats 1000000 in
set_option maxRecDepth 10000 in
theorem seal_ok (a : Option Addr) (n cap : Nat) (l : List UInt8) (hn : n = l.length) (hs : n < 1000000) : RT G 139 [.slice a n cap] (readS a n 1 (l.map byteV)) (BytesNew (l ++ tailM l)) := by
  refine RT.enter Tryz.func139 rfl (by decide) rfl Tryz.ntmps139 rfl (fun A hu hA => ?_)
  have hE : ∀ {L}, A ∈ L → Ent L (readS a n 1 (l.map byteV)) := fun m => Ent.mem m hu hA
  repeat (first | refine GO ?_ | refine NW fun _ => ?_)
  refine WL.step rfl (OP.callRT rfl rfl (tail_ok a n cap l hn hs) (hE MM) rfl rfl ?_)
  rintro v E ⟨a1, cap1, rfl, rfl⟩
  repeat (first | refine GO ?_ | refine NW fun _ => ?_)
  refine WL.step rfl (OP.callRT rfl rfl (concat_ok _ a a1 2 n cap 4 cap1 l (tailM l) hn rfl hs (by decide)) (Ent.and (Ent.own MM) (Ent.and (hE MM) (Ent.own (T := 5) MM))) rfl rfl ?_)
  rintro v E ⟨a2, cap2, rfl, rfl⟩
  repeat (first | refine GO ?_ | refine NW fun _ => ?_)
  exact ret1 rfl ⟨[_], ⟨a2, cap2, rfl, rfl⟩, II⟩
def padM (l : List UInt8) : List UInt8 := l ++ List.replicate (60 - l.length) 0
def sectorM (l : List UInt8) : List UInt8 := padM l ++ tailM (padM l)
theorem padM_len {l : List UInt8} (h : l.length ≤ 60) : (padM l).length = 60 := by unfold padM; rw [List.length_append, List.length_replicate]; omega
theorem sectorM_len {l : List UInt8} (h : l.length ≤ 60) : (sectorM l).length = 64 := by unfold sectorM; rw [List.length_append, padM_len h, tailM_len]
set_option maxHeartbeats 1000000 in
set_option maxRecDepth 10000 in
theorem sector_ok (a : Option Addr) (n cap : Nat) (l : List UInt8) (hn : n = l.length) (hs : n ≤ 60) : RT G 101 [.slice a n cap] (readS a n 1 (l.map byteV)) (fun v E => ∃ v1, v = .tuple #[v1, .bool true] ∧ BytesNew (sectorM l) v1 E) := by
  refine RT.enter Tryz.func101 rfl (by decide) rfl Tryz.ntmps101 rfl (fun A hu hA => ?_)
  have hE : ∀ {L}, A ∈ L → Ent L (readS a n 1 (l.map byteV)) := fun m => Ent.mem m hu hA
  repeat (first | refine GD ?_ | refine NW fun _ => ?_)
  refine WL.step rfl (OP.makeS rfl rfl rfl rfl rfl rfl rfl rfl (by omega) (by omega) (by omega) rfl rfl (fun b => ?_))
  rw [repL_bytes]
  repeat (first | refine GD ?_ | refine NW fun _ => ?_)
  refine WL.step rfl (OP.callRT rfl rfl (concat_ok _ a (some ⟨b, 0, none⟩) 2 n cap _ _ l (List.replicate ((60 : Int) - n).toNat 0) hn (by rw [List.length_replicate]) (by omega) (by omega)) (Ent.and (Ent.own MM) (Ent.and (hE MM) (Ent.own (T := 5) MM))) rfl rfl ?_)
  rintro v E ⟨a2, cap2, rfl, rfl⟩
  repeat (first | refine GD ?_ | refine NW fun _ => ?_)
  have hp : l ++ List.replicate ((60 : Int) - n).toNat 0 = padM l := by unfold padM; rw [show ((60 : Int) - n).toNat = 60 - l.length by omega]
  rw [hp]
  have hpl := padM_len (l := l) (by omega)
  refine WL.step rfl (OP.callRT rfl rfl (seal_ok a2 _ cap2 (padM l) rfl (by omega)) (Ent.own MM) rfl rfl ?_)
  rintro v E ⟨a3, cap3, rfl, rfl⟩
  repeat (first | refine GD ?_ | refine NW fun _ => ?_)
  exact ret2 rfl rfl ⟨[_], ⟨_, rfl, a3, cap3, rfl, rfl⟩, II⟩

/-- a record: number, kind, block, data, marker -/
abbrev Rec := Int × Int × Int × ByteArray × Int
def encR (r : Rec) : List Value := [.int .i64 r.1, .int .i64 r.2.1, .int .i64 r.2.2.1, .string r.2.2.2.1, .int .i64 r.2.2.2.2]
def RightR (r : Rec) : Prop := (1 ≤ r.1 ∧ r.1 ≤ widest) ∧ ((r.2.1 = 2 ∧ (1 ≤ r.2.2.2.2 ∧ r.2.2.2.2 ≤ widest) ∧ r.2.2.2.1 = ⟨#[]⟩ ∧ r.2.2.1 = 0) ∨ (r.2.1 = 1 ∧ (0 ≤ r.2.2.1 ∧ r.2.2.1 < 8) ∧ r.2.2.2.1.size ≤ 16 ∧ r.2.2.2.2 = 0))
instance (r : Rec) : Decidable (RightR r) := by unfold RightR; infer_instance
set_option maxHeartbeats 4000000 in
set_option maxRecDepth 10000 in
theorem right_ro (r : Rec) (hsz : r.2.2.2.1.size < 1000000) : RO G 175 [.agg (encR r).toArray] (fun _ => True) (.bool (decide (RightR r))) := by
  refine RO.enter Tryz.func175 rfl (by decide) rfl Tryz.ntmps175 rfl (fun A hu hA => ?_) (fun _ _ _ h => h)
  obtain ⟨seq, kind, block, data, num⟩ := r
  unfold RightR widest
  dsimp only at hsz ⊢
  rw [show encR (seq, kind, block, data, num) = [.int .i64 seq, .int .i64 kind, .int .i64 block, .string data, .int .i64 num] from rfl]
  repeat (first | refine GO ?_ | refine NW fun _ => ?_)
  refine WL.step rfl (OP.callRO rfl rfl (num_ro _ _) (fun _ _ => trivial) rfl rfl ?_)
  unfold widest
  by_cases h2 : kind = 2
  · by_cases hs : 1 ≤ seq ∧ seq ≤ 1152921504606846975
    rotate_left
    · rw [decide_eq_false hs]
      repeat (first | refine GD ?_ | refine NW fun _ => ?_)
      exact ret1 rfl ⟨by first | (simp; omega) | (simp [*]; omega) | simp [*], MM⟩
    rw [decide_eq_true hs]
    repeat (first | refine GD ?_ | refine NW fun _ => ?_)
    refine WL.guardT rfl rfl rfl rfl (OP.callRO rfl rfl (num_ro _ _) (fun _ _ => trivial) rfl rfl ?_)
    unfold widest
    by_cases hn : 1 ≤ num ∧ num ≤ 1152921504606846975
    rotate_left
    · rw [decide_eq_false hn]
      repeat (first | refine GD ?_ | refine NW fun _ => ?_)
      exact ret1 rfl ⟨by first | (simp; omega) | (simp [*]; omega) | simp [*], MM⟩
    rw [decide_eq_true hn]
    by_cases hd : data = ⟨#[]⟩
    rotate_left
    · repeat (first | refine GD ?_ | refine NW fun _ => ?_)
      exact ret1 rfl ⟨by first | (simp; omega) | (simp [*]; omega) | simp [*], MM⟩
    have hsz0 : data.size = 0 := by rw [hd]; rfl
    by_cases hb0 : 0 ≤ block
    rotate_left
    · repeat (first | refine GD ?_ | refine NW fun _ => ?_)
      exact ret1 rfl ⟨by first | (simp; omega) | (simp [*]; omega) | simp [*], MM⟩
    by_cases hb8 : block < 8
    rotate_left
    · repeat (first | refine GD ?_ | refine NW fun _ => ?_)
      exact ret1 rfl ⟨by first | (simp; omega) | (simp [*]; omega) | simp [*], MM⟩
    by_cases hb : block = 0
    · repeat (first | refine GD ?_ | refine NW fun _ => ?_)
      exact ret1 rfl ⟨by first | (simp; omega) | (simp [*]; omega) | simp [*], MM⟩
    · repeat (first | refine GD ?_ | refine NW fun _ => ?_)
      exact ret1 rfl ⟨by first | (simp; omega) | (simp [*]; omega) | simp [*], MM⟩
  · by_cases h1 : kind = 1
    rotate_left
    · repeat (first | refine GD ?_ | refine NW fun _ => ?_)
      exact ret1 rfl ⟨by first | (simp; omega) | (simp [*]; omega) | simp [*], MM⟩
    by_cases hs : 1 ≤ seq ∧ seq ≤ 1152921504606846975
    rotate_left
    · rw [decide_eq_false hs]
      repeat (first | refine GD ?_ | refine NW fun _ => ?_)
      exact ret1 rfl ⟨by first | (simp; omega) | (simp [*]; omega) | simp [*], MM⟩
    rw [decide_eq_true hs]
    by_cases hb0 : 0 ≤ block
    rotate_left
    · repeat (first | refine GD ?_ | refine NW fun _ => ?_)
      exact ret1 rfl ⟨by first | (simp; omega) | (simp [*]; omega) | simp [*], MM⟩
    by_cases hb8 : block < 8
    rotate_left
    · repeat (first | refine GD ?_ | refine NW fun _ => ?_)
      exact ret1 rfl ⟨by first | (simp; omega) | (simp [*]; omega) | simp [*], MM⟩
    by_cases hs16 : data.size ≤ 16
    rotate_left
    · repeat (first | refine GD ?_ | refine NW fun _ => ?_)
      exact ret1 rfl ⟨by first | (simp; omega) | (simp [*]; omega) | simp [*], MM⟩
    by_cases hn0 : num = 0
    · repeat (first | refine GD ?_ | refine NW fun _ => ?_)
      exact ret1 rfl ⟨by first | (simp; omega) | (simp [*]; omega) | simp [*], MM⟩
    · repeat (first | refine GD ?_ | refine NW fun _ => ?_)
      exact ret1 rfl ⟨by first | (simp; omega) | (simp [*]; omega) | simp [*], MM⟩
end Go.Proofs.YtanjfjiaheghcaaGreatDoor
/- Contracts of functions of the given program, and plain laws on what they compute: parts of the proofs of laws. -/

namespace Go.Proofs.YtanjfjiaheghcaaGreatDoor
open Go Go.GL

def bodyM (gen : Int) (r : Rec) : List UInt8 :=
  numB (clampN gen) ++ numB (clampN r.1) ++ numB (clampN r.2.1) ++ (if r.2.1 = 1 then numB (clampN r.2.2.1) ++ textB r.2.2.2.1 else numB (clampN r.2.2.2.2))
theorem numB_small {x : Int} (h : 0 ≤ x ∧ x < 128) : (numB (clampN x)).length = 1 := by
  rw [numB_lt (by unfold clampN widest; omega)]; rfl
theorem bodyM_len {gen : Int} {r : Rec} (h : RightR r) : (bodyM gen r).length ≤ 60 := by
  have h1 := numB_nine gen
  have h2 := numB_nine r.1
  have h3 := numB_nine r.2.2.2.2
  unfold bodyM
  rcases h.2 with ⟨hk, _⟩ | ⟨hk, hb, hs, _⟩
  · have h4 := numB_small (x := r.2.1) (by omega)
    rw [if_neg (by omega)]
    simp only [List.length_append]
    omega
  · have h4 := numB_small (x := r.2.1) (by omega)
    have h5 := numB_small (x := r.2.2.1) (by omega)
    have h6 := numB_lt (n := r.2.2.2.1.size) (by omega)
    have h7 : r.2.2.2.1.data.toList.length = r.2.2.2.1.size := Array.length_toList
    rw [if_pos hk]
    unfold textB
    rw [h6]
    simp only [List.length_append, List.length_singleton]
    omega
def recW : ByteArray := ⟨#[114, 101, 99, 111, 114, 100]⟩
def EncPost (gen : Int) (r : Rec) (v : Value) (E : List Assn) : Prop :=
  if RightR r ∧ (0 ≤ gen ∧ gen ≤ widest) then ∃ v1, v = .tuple #[v1, .nilIface] ∧ BytesNew (sectorM (bodyM gen r)) v1 E
  else ∃ e, v = .tuple #[.slice none 0 0, e] ∧ Fault recW r.1 1 e E
set_option maxHeartbeats 4000000 in
set_option maxRecDepth 10000 in
theorem encode_ok (gen : Int) (r : Rec) (hsz : r.2.2.2.1.size < 1000000) : RT G 164 [.int .i64 gen, .agg (encR r).toArray] (fun _ => True) (EncPost gen r) := by
  refine RT.enter Tryz.func164 rfl (by decide) rfl Tryz.ntmps164 rfl (fun A hu hA => ?_)
  have hright := right_ro r hsz
  have hbl := bodyM_len (gen := gen) (r := r)
  obtain ⟨seq, kind, block, data, num⟩ := r
  dsimp only at hsz ⊢
  rw [show encR (seq, kind, block, data, num) = [.int .i64 seq, .int .i64 kind, .int .i64 block, .string data, .int .i64 num] from rfl] at hright ⊢
  repeat (first | refine GO ?_ | refine NW fun _ => ?_)
  rename_i q
  refine WL.step rfl (OP.callRO rfl rfl hright (fun _ _ => trivial) rfl rfl ?_)
  by_cases hr : RightR (seq, kind, block, data, num)
  rotate_left
  · rw [decide_eq_false hr]
    repeat (first | refine GD ?_ | refine NW fun _ => ?_)
    refine WL.step rfl (OP.call (pre := []) (F := _) rfl rfl (wrap_ok _ _ _ (by decide)) (Imp.refl _) rfl rfl ?_)
    rintro v' E ⟨b', rfl, rfl⟩
    repeat (first | refine GD ?_ | refine NW fun _ => ?_)
    refine ret2 rfl rfl ⟨[_], ?_, II⟩
    unfold EncPost
    rw [if_neg (by intro h; first | exact hr h.1 | exact hg h.2)]
    exact ⟨_, rfl, _, rfl, rfl⟩
  rw [decide_eq_true hr]
  repeat (first | refine GD ?_ | refine NW fun _ => ?_)
  refine WL.guardT rfl rfl rfl rfl (OP.callRO rfl rfl (num_ro gen 0) (fun _ _ => trivial) rfl rfl ?_)
  by_cases hg : 0 ≤ gen ∧ gen ≤ widest
  rotate_left
  · rw [decide_eq_false hg]
    repeat (first | refine GD ?_ | refine NW fun _ => ?_)
    refine WL.step rfl (OP.call (pre := []) (F := _) rfl rfl (wrap_ok _ _ _ (by decide)) (Imp.refl _) rfl rfl ?_)
    rintro v' E ⟨b', rfl, rfl⟩
    repeat (first | refine GD ?_ | refine NW fun _ => ?_)
    refine ret2 rfl rfl ⟨[_], ?_, II⟩
    unfold EncPost
    rw [if_neg (by intro h; first | exact hr h.1 | exact hg h.2)]
    exact ⟨_, rfl, _, rfl, rfl⟩
  rw [decide_eq_true hg]
  have hbl := hbl hr
  have hg9 := numB_nine gen
  have hs9 := numB_nine seq
  have hk9 := numB_nine kind
  repeat (first | refine GD ?_ | refine NW fun _ => ?_)
  refine RD 8 9 (_) ?_
  refine WW 0 ?_
  refine WW 2 ?_; refine WW 3 ?_
  refine WW 5 ?_; refine WW 6 ?_
  refine WH.only 1 rfl rfl (by kernel_rfl) rfl (OP.call (pre := [ownS none 0 0 5 1 (([] : List UInt8).map byteV)]) rfl rfl (number_ok none 0 0 [] gen (by omega)) (Imp.nilS 5 1) rfl rfl (fun v M hM => ?_))
  obtain ⟨a1, cap1, rfl, rfl⟩ := hM
  refine ⟨fun _ => II, ?_⟩
  refine WH.only 4 rfl rfl (by kernel_rfl) rfl (OP.call (pre := [ownS a1 _ cap1 5 1 _]) rfl rfl (number_ok a1 _ cap1 _ seq (by omega)) PS rfl rfl (fun v M hM => ?_))
  obtain ⟨a2, cap2, rfl, rfl⟩ := hM
  refine ⟨fun _ => II, ?_⟩
  refine WH.only 7 rfl rfl (by kernel_rfl) rfl (OP.call (pre := [ownS a2 _ cap2 5 1 _]) rfl rfl (number_ok a2 _ cap2 _ kind (by omega)) PS rfl rfl (fun v M hM => ?_))
  obtain ⟨a3, cap3, rfl, rfl⟩ := hM
  refine ⟨fun _ => II, ?_⟩
  refine WW 8 ?_
  refine DN ?_
  by_cases h1 : kind = 1
  · have hb : (0 ≤ block ∧ block < 8) ∧ data.size ≤ 16 := by
      have h2 := hr.2
      dsimp only at h2
      rcases h2 with h2 | h2
      · omega
      · exact ⟨h2.2.1, h2.2.2.1⟩
    have hb1 := numB_small (x := block) (by omega)
    repeat (first | refine GD ?_ | refine NW fun _ => ?_)
    refine RD 7 8 ([blk q [.int .i64 seq, .int .i64 kind, .int .i64 block, .string data, .int .i64 num] 140]) ?_
    refine WW 0 ?_; refine WW 1 ?_; refine WW 2 ?_
    refine WW 4 ?_; refine WW 5 ?_
    refine WH.only 3 rfl rfl (by kernel_rfl) rfl (OP.call (pre := [ownS a3 _ cap3 5 1 _]) rfl rfl (number_ok a3 _ cap3 _ block (by omega)) PS rfl rfl (fun v M hM => ?_))
    obtain ⟨a4, cap4, rfl, rfl⟩ := hM
    refine ⟨fun _ => II, ?_⟩
    refine WH.only 6 rfl rfl (by kernel_rfl) rfl (OP.call (pre := [ownS a4 _ cap4 5 1 _]) rfl rfl (text_ok a4 _ cap4 _ data (by omega) (by omega)) PS rfl rfl (fun v M hM => ?_))
    obtain ⟨a5, cap5, rfl, rfl⟩ := hM
    refine ⟨fun _ => II, ?_⟩
    refine WW 7 ?_
    refine DN ?_
    have hbody : bodyM gen (seq, kind, block, data, num) = [] ++ numB (clampN gen) ++ numB (clampN seq) ++ numB (clampN kind) ++ numB (clampN block) ++ textB data := by
      unfold bodyM
      dsimp only
      rw [if_pos h1, List.nil_append, List.append_assoc (numB (clampN gen) ++ numB (clampN seq) ++ numB (clampN kind))]
    have hlen : (bodyM gen (seq, kind, block, data, num)).length = 0 + (numB (clampN gen)).length + (numB (clampN seq)).length + (numB (clampN kind)).length + (numB (clampN block)).length + (textB data).length := by
      rw [hbody]; simp only [List.length_append, List.length_nil]
    repeat (first | refine GD ?_ | refine NW fun _ => ?_)
    refine WL.step rfl (OP.callRT rfl rfl (sector_ok a5 _ cap5 (bodyM gen (seq, kind, block, data, num)) (by rw [hlen]) (by omega)) (Ent.own (T := 5) (by rw [hbody]; exact MM)) rfl rfl ?_)
    rintro v E ⟨v1, rfl, a6, cap6, rfl, rfl⟩
    repeat (first | refine GD ?_ | refine NW fun _ => ?_)
    refine ret2 rfl rfl ⟨[_], ?_, II⟩
    unfold EncPost
    rw [if_pos ⟨hr, hg⟩]
    exact ⟨_, rfl, a6, cap6, rfl, rfl⟩
  · repeat (first | refine GD ?_ | refine NW fun _ => ?_)
    refine WL.step rfl (OP.call (pre := [ownS a3 _ cap3 5 1 _]) rfl rfl (number_ok a3 _ cap3 _ num (by omega)) PS rfl rfl ?_)
    rintro _ _ ⟨a5, cap5, rfl, rfl⟩
    have hbody : bodyM gen (seq, kind, block, data, num) = [] ++ numB (clampN gen) ++ numB (clampN seq) ++ numB (clampN kind) ++ numB (clampN num) := by
      unfold bodyM
      dsimp only
      rw [if_neg h1, List.nil_append]
    have hlen : (bodyM gen (seq, kind, block, data, num)).length = 0 + (numB (clampN gen)).length + (numB (clampN seq)).length + (numB (clampN kind)).length + (numB (clampN num)).length := by
      rw [hbody]; simp only [List.length_append, List.length_nil]
    repeat (first | refine GD ?_ | refine NW fun _ => ?_)
    refine WL.step rfl (OP.callRT rfl rfl (sector_ok a5 _ cap5 (bodyM gen (seq, kind, block, data, num)) (by rw [hlen]) (by omega)) (Ent.own (T := 5) (by rw [hbody]; exact MM)) rfl rfl ?_)
    rintro v E ⟨v1, rfl, a6, cap6, rfl, rfl⟩
    repeat (first | refine GD ?_ | refine NW fun _ => ?_)
    refine ret2 rfl rfl ⟨[_], ?_, II⟩
    unfold EncPost
    rw [if_pos ⟨hr, hg⟩]
    exact ⟨_, rfl, a6, cap6, rfl, rfl⟩
end Go.Proofs.YtanjfjiaheghcaaGreatDoor
/- Contracts of functions of the given program, and plain laws on what they compute: parts of the proofs of laws. -/

namespace Go.Proofs.YtanjfjiaheghcaaGreatDoor
open Go Go.GL

theorem ofNat_toNat {n : Nat} (h : n < 256) : (UInt8.ofNat n).toNat = n := by rw [UInt8.toNat_ofNat']; omega
def recFs : List Field := [⟨"Seq", 3, 0, false, "", "", 0⟩, ⟨"Kind", 3, 1, false, "", "", 8⟩, ⟨"Block", 3, 2, false, "", "", 16⟩, ⟨"Data", 9, 3, false, "", "", 24⟩, ⟨"Number", 3, 4, false, "", "", 40⟩]
theorem eq_rec (r s : Rec) : eqFs G.T (encR r) (encR s) recFs = some (decide (r = s)) := by
  obtain ⟨s1, k1, b1, d1, n1⟩ := r
  obtain ⟨s2, k2, b2, d2, n2⟩ := s
  have : eqFs G.T (encR (s1, k1, b1, d1, n1)) (encR (s2, k2, b2, d2, n2)) recFs = some (decide (s1 = s2) && (decide (k1 = k2) && (decide (b1 = b2) && (decide (d1 = d2) && (decide (n1 = n2) && true))))) := rfl
  rw [this]
  simp [Prod.mk.injEq, Bool.decide_and]
theorem ba_inj {a b : List UInt8} (h : ba a = ba b) : a = b := by
  unfold ba at h
  have := ByteArray.mk.inj h
  simpa using this
end Go.Proofs.YtanjfjiaheghcaaGreatDoor
/- Contracts of functions of the given program, and plain laws on what they compute: parts of the proofs of laws. -/

namespace Go.Proofs.YtanjfjiaheghcaaGreatDoor
open Go Go.GL

/-- what is left to read, and what was wrong -/
abbrev PR := List UInt8 × Int
def rdN : Nat → Nat → List UInt8 → Except Int (Nat × List UInt8)
  | _, _, [] => .error 2
  | i, n, c :: t =>
    if (i = 8 ∧ (128 ≤ c.toNat ∨ widest < ((n + c.toNat % 128 * 128 ^ i : Nat) : Int))) ∨ (0 < i ∧ c.toNat = 0) then .error 1
    else if c.toNat < 128 then .ok (n + c.toNat % 128 * 128 ^ i, t)
    else rdN (i + 1) (n + c.toNat % 128 * 128 ^ i) t
theorem rdN_cons (i n : Nat) (c : UInt8) (t : List UInt8) : rdN i n (c :: t) =
    if (i = 8 ∧ (128 ≤ c.toNat ∨ widest < ((n + c.toNat % 128 * 128 ^ i : Nat) : Int))) ∨ (0 < i ∧ c.toNat = 0) then .error 1
    else if c.toNat < 128 then .ok (n + c.toNat % 128 * 128 ^ i, t)
    else rdN (i + 1) (n + c.toNat % 128 * 128 ^ i) t := rfl
def numR (s : PR) : Int × PR :=
  if s.2 ≠ 0 then (0, s) else match rdN 0 0 s.1 with
    | .ok (n, t) => ((n : Int), (t, 0))
    | .error e => (0, ([], e))
def RdPost (r : Nat) (A : Assn) (x : Value) (s : PR) (v : Value) (M : List Assn) : Prop := v = x ∧ ∃ v', Bytes A s.1 v' ∧ M = [blk r [v', .int .i64 s.2] 240, A]
theorem bytes_nil (A : Assn) : Bytes A [] (.slice none 0 0) := ⟨none, 0, 0, rfl, rfl, Nat.le_refl _, fun _ _ => ⟨rfl, .inl ⟨rfl, rfl⟩⟩⟩
set_option maxRecDepth 10000 in
theorem err_ro (r : Nat) (v : Value) (e : Int) : RO G 130 [.pointer (some ⟨r, 0, none⟩)] (cellsAt r 0 [v, .int .i64 e]) (.int .i64 e) := by
  refine RO.enter Tryz.func130 rfl (by decide) rfl Tryz.ntmps130 rfl (fun A hu hA => ?_) (up_cellsAt _ _ _)
  repeat (first | refine GO ?_ | refine NW fun _ => ?_)
  refine WL.step rfl (OP.load1 (v := .int .i64 e) rfl rfl rfl rfl (Ent.mem (A := A) MM hu (fun h x => cellsAt_one (i := 1) (hA h x) rfl)) rfl rfl ?_)
  repeat (first | refine GO ?_ | refine NW fun _ => ?_)
  exact ret1 rfl ⟨rfl, MM⟩
set_option maxRecDepth 10000 in
theorem wrong5_ok (r : Nat) (A : Assn) (v : Value) (e code : Int) : Triple G 154 [.pointer (some ⟨r, 0, none⟩), .int .i64 code] [blk r [v, .int .i64 e] 240, A] (RdPost r A (.int .i64 0) ([], code)) := by
  refine Triple.enter Tryz.func154 rfl (by decide) rfl Tryz.ntmps154 rfl (fun F => ?_)
  repeat (first | refine GO ?_ | refine NW fun _ => ?_)
  exact ret1 rfl ⟨_, ⟨rfl, _, bytes_nil A, rfl⟩, Imp.refl _⟩
set_option maxRecDepth 10000 in
theorem andnot_small : ∀ z : Fin 256, bitsV .andNot .u8 (z.val : Int) 128 = ((z.val % 128 : Nat) : Int) := by decide
theorem andnot_byte (c : UInt8) : bitsV .andNot .u8 (c.toNat : Int) 128 = ((c.toNat % 128 : Nat) : Int) := andnot_small ⟨c.toNat, c.toNat_lt⟩
theorem pow128 (i : Nat) (h : i ≤ 8) : (128 : Nat) ^ i ≤ 128 ^ 8 := Nat.pow_le_pow_right (by decide) h
theorem shl_num (x i : Nat) (hx : x < 128) (hi : i ≤ 8) : shlV .i64 (x : Int) (7 * (i : Int)) = ((x * 128 ^ i : Nat) : Int) := by
  have hp := pow128 i hi
  have h1 : x * 128 ^ i ≤ 127 * 128 ^ 8 := Nat.mul_le_mul (by omega) hp
  have e : (2 : Int) ^ (min (7 * (i : Int)).toNat IntKind.i64.bits) = ((128 ^ i : Nat) : Int) := by
    have : min (7 * (i : Int)).toNat IntKind.i64.bits = 7 * i := by
      show min (7 * (i : Int)).toNat 64 = 7 * i
      omega
    rw [this, show (128 : Nat) ^ i = 2 ^ (7 * i) by rw [Nat.pow_mul], Int.natCast_pow]
    rfl
  unfold shlV
  rw [e, ← Int.natCast_mul]
  exact wrap_fit (k := .i64) (by unfold Fit; omega)
theorem or_num (n x i : Nat) (hn : n < 128 ^ i) (hx : x < 128) (hi : i ≤ 8) : bitsV .or .i64 (n : Int) ((x * 128 ^ i : Nat) : Int) = ((n + x * 128 ^ i : Nat) : Int) := by
  have hp := pow128 i hi
  have h1 : x * 128 ^ i ≤ 127 * 128 ^ 8 := Nat.mul_le_mul (by omega) hp
  have hor : n ||| x * 128 ^ i = n + x * 128 ^ i := by
    have e : (128 : Nat) ^ i = 2 ^ (7 * i) := by rw [Nat.pow_mul]
    rw [e] at hn ⊢
    have := Nat.shiftLeft_add_eq_or_of_lt hn x
    rw [Nat.shiftLeft_eq] at this
    rw [Nat.or_comm, ← this, Nat.add_comm]
  unfold bitsV
  show IntKind.i64.wrap (((BitVec.ofInt 64 (n : Int)) ||| (BitVec.ofInt 64 ((x * 128 ^ i : Nat) : Int))).toNat : Int) = _
  rw [BitVec.ofInt_natCast, BitVec.ofInt_natCast, BitVec.toNat_or, BitVec.toNat_ofNat, BitVec.toNat_ofNat, Nat.mod_eq_of_lt (by omega), Nat.mod_eq_of_lt (by omega), hor]
  exact wrap_fit (k := .i64) (by unfold Fit; omega)
end Go.Proofs.YtanjfjiaheghcaaGreatDoor
/- Contracts of functions of the given program, and plain laws on what they compute: parts of the proofs of laws. -/

namespace Go.Proofs.YtanjfjiaheghcaaGreatDoor
open Go Go.GL

def numF : Except Int (Nat × List UInt8) → Int × PR
  | .ok (n, t) => ((n : Int), (t, 0))
  | .error e => (0, ([], e))
theorem numR_zero (l : List UInt8) : numR (l, 0) = numF (rdN 0 0 l) := by
  unfold numR numF
  cases rdN 0 0 l <;> rfl
theorem numR_err {s : PR} (h : s.2 ≠ 0) : numR s = (0, s) := by unfold numR; rw [if_pos h]
set_option maxHeartbeats 4000000 in
set_option maxRecDepth 10000 in
theorem numR_ok (r : Nat) (v : Value) (s : PR) (A : Assn) (hu : Up A) (hv : Bytes A s.1 v) (hl : s.1.length < 1000000) :
    Triple G 129 [.pointer (some ⟨r, 0, none⟩)] [blk r [v, .int .i64 s.2] 240, A] (RdPost r A (.int .i64 (numR s).1) (numR s).2) := by
  refine Triple.enter Tryz.func129 rfl (by decide) rfl Tryz.ntmps129 rfl (fun F => ?_)
  obtain ⟨l, e⟩ := s
  dsimp only at hv hl ⊢
  repeat (first | refine GO ?_ | refine NW fun _ => ?_)
  refine WL.step rfl (OP.callRO rfl rfl (err_ro r v e) (Ent.whole (T := 240) MM) rfl rfl ?_)
  by_cases he : e = 0
  rotate_left
  · rw [numR_err he]
    repeat (first | refine GD ?_ | refine NW fun _ => ?_)
    exact ret1 rfl ⟨_, ⟨rfl, v, hv, rfl⟩, Imp.refl _⟩
  subst he
  rw [numR_zero]
  obtain ⟨a, n, c, rfl, hn, hc, hr⟩ := hv
  have hE : ∀ {L}, A ∈ L → Ent L (readS a n 1 (l.map byteV)) := fun m => Ent.mem m hu hr
  generalize hF : rdN 0 0 l = R
  repeat (first | refine GD ?_ | refine NW fun _ => ?_)
  refine WC.loop (σ := Nat × Nat) (fun s => s.1 ≤ 8 ∧ s.1 ≤ n ∧ s.2 < 128 ^ s.1 ∧ rdN s.1 s.2 (l.drop s.1) = R)
    (fun s => [(0, .val (.pointer (some ⟨r, 0, none⟩))), (3, .val (.int .i64 s.2)), (12, .val (.slice a n c)), (13, .val (.int .i64 n)), (14, .val (.int .i64 s.1))])
    (fun _ => [blk r [.slice a n c, .int .i64 0] 240, A, F]) (fun s => n - s.1) (0, 0) ⟨by simp, by simp, by simp, hF⟩ ⟨rfl, rfl, rfl, rfl, rfl, trivial⟩ II ?_
  rintro ⟨i, m⟩ ⟨hi8, hin, hm, hR⟩
  dsimp only at hi8 hin hm hR ⊢
  by_cases hlt : i < n
  rotate_left
  · rw [List.drop_eq_nil_of_le (by omega)] at hR
    subst hR
    repeat (first | refine GD ?_ | refine NW fun _ => ?_)
    refine WL.step rfl (OP.call (pre := [blk r [.slice a n c, .int .i64 0] 240, A]) rfl rfl (wrong5_ok r A _ 0 2) PS rfl rfl ?_)
    rintro _ _ ⟨rfl, v', hv', rfl⟩
    repeat (first | refine GD ?_ | refine NW fun _ => ?_)
    exact ret1 rfl ⟨_, ⟨rfl, v', hv', rfl⟩, Imp.refl _⟩
  have hl1 : i < l.length := by omega
  rw [List.drop_eq_getElem_cons hl1, rdN_cons] at hR
  repeat (first | refine GD ?_ | refine NW fun _ => ?_)
  refine WL.fact (Ent.some (hE MM) (by omega)) ?_
  rintro ⟨b, off, rfl⟩
  repeat (first | refine GD ?_ | refine NW fun _ => ?_)
  refine WL.step rfl (OP.load1 (v := byteV l[i]) rfl rfl rfl rfl (Ent.elem (i := i * 1) (hE MM) rfl (by simp [hl1])) rfl rfl ?_)
  generalize l[i] = x at *
  have hx8 : x.toNat < 256 := x.toNat_lt
  unfold byteV
  have hx128 : x.toNat % 128 < 128 := by omega
  have hbits : bitsV .or .i64 (m : Int) (shlV .i64 (IntKind.i64.wrap (bitsV .andNot .u8 (x.toNat : Int) 128)) (7 * (i : Int))) = ((m + x.toNat % 128 * 128 ^ i : Nat) : Int) := by
    rw [andnot_byte, wrap_fit (k := .i64) (show Fit .i64 _ by unfold Fit; omega), shl_num _ _ hx128 hi8, or_num _ _ _ hm hx128 hi8]
  have hm2 : m + x.toNat % 128 * 128 ^ i < 128 ^ (i + 1) := by
    have h1 : x.toNat % 128 * 128 ^ i ≤ 127 * 128 ^ i := Nat.mul_le_mul_right _ (by omega)
    rw [Nat.pow_succ]
    omega
  have hp8 := pow128 i hi8
  have h127 : x.toNat % 128 * 128 ^ i ≤ 127 * 128 ^ 8 := Nat.mul_le_mul (by omega) hp8
  generalize hmm : m + x.toNat % 128 * 128 ^ i = m2 at *
  by_cases h8 : i = 8
  · by_cases hc1 : 128 ≤ x.toNat
    · rw [if_pos (by omega)] at hR
      repeat (first | refine GD ?_ | refine NW fun _ => ?_)
      refine WL.step rfl (OP.call (pre := [blk r [.slice (some ⟨b, off, none⟩) n c, .int .i64 0] 240, A]) rfl rfl (wrong5_ok r A _ 0 1) PS rfl rfl ?_)
      rintro _ _ ⟨rfl, v', hv', rfl⟩
      repeat (first | refine GD ?_ | refine NW fun _ => ?_)
      subst hR
      exact ret1 rfl ⟨_, ⟨rfl, v', hv', rfl⟩, Imp.refl _⟩
    · by_cases hw : widest < (m2 : Int)
      · rw [if_pos (by omega)] at hR
        repeat (first | refine GD ?_ | refine NW fun _ => ?_)
        rw [hbits, decide_eq_true (show (1152921504606846975 : Int) < (m2 : Int) from hw)]
        repeat (first | refine GD ?_ | refine NW fun _ => ?_)
        refine WL.step rfl (OP.call (pre := [blk r [.slice (some ⟨b, off, none⟩) n c, .int .i64 0] 240, A]) rfl rfl (wrong5_ok r A _ 0 1) PS rfl rfl ?_)
        rintro _ _ ⟨rfl, v', hv', rfl⟩
        repeat (first | refine GD ?_ | refine NW fun _ => ?_)
        subst hR
        exact ret1 rfl ⟨_, ⟨rfl, v', hv', rfl⟩, Imp.refl _⟩
      · by_cases hz : x.toNat = 0
        · rw [if_pos (by omega)] at hR
          repeat (first | refine GD ?_ | refine NW fun _ => ?_)
          rw [hbits, decide_eq_false (show ¬ (1152921504606846975 : Int) < (m2 : Int) from hw)]
          repeat (first | refine GD ?_ | refine NW fun _ => ?_)
          refine WL.step rfl (OP.call (pre := [blk r [.slice (some ⟨b, off, none⟩) n c, .int .i64 0] 240, A]) rfl rfl (wrong5_ok r A _ 0 1) PS rfl rfl ?_)
          rintro _ _ ⟨rfl, v', hv', rfl⟩
          repeat (first | refine GD ?_ | refine NW fun _ => ?_)
          subst hR
          exact ret1 rfl ⟨_, ⟨rfl, v', hv', rfl⟩, Imp.refl _⟩
        · rw [if_neg (by omega), if_pos (by omega)] at hR
          have hlt8 : x.toNat < 128 := by omega
          repeat (first | refine GD ?_ | refine NW fun _ => ?_)
          rw [hbits, decide_eq_false (show ¬ (1152921504606846975 : Int) < (m2 : Int) from hw)]
          repeat (first | refine GD ?_ | refine NW fun _ => ?_)
          subst hR
          refine ret1 rfl ⟨_, ⟨rfl, _, ⟨_, _, _, rfl, ?_, ?_, ?_⟩, rfl⟩, Imp.refl _⟩
          · dsimp only [numF]; rw [List.length_drop]; omega
          · omega
          · intro h hh
            have := readS_cut (i := i + 1) (hr h hh) (by omega) hc
            rw [Nat.mul_one, ← List.map_drop] at this
            exact this
  · by_cases hi0 : 0 < i
    · by_cases hz : x.toNat = 0
      · rw [if_pos (by omega)] at hR
        repeat (first | refine GD ?_ | refine NW fun _ => ?_)
        refine WL.step rfl (OP.call (pre := [blk r [.slice (some ⟨b, off, none⟩) n c, .int .i64 0] 240, A]) rfl rfl (wrong5_ok r A _ 0 1) PS rfl rfl ?_)
        rintro _ _ ⟨rfl, v', hv', rfl⟩
        repeat (first | refine GD ?_ | refine NW fun _ => ?_)
        subst hR
        exact ret1 rfl ⟨_, ⟨rfl, v', hv', rfl⟩, Imp.refl _⟩
      · by_cases hc1 : x.toNat < 128
        · rw [if_neg (by omega), if_pos (by omega)] at hR
          repeat (first | refine GD ?_ | refine NW fun _ => ?_)
          rw [hbits]
          subst hR
          refine ret1 rfl ⟨_, ⟨rfl, _, ⟨_, _, _, rfl, ?_, ?_, ?_⟩, rfl⟩, Imp.refl _⟩
          · dsimp only [numF]; rw [List.length_drop]; omega
          · omega
          · intro h hh
            have := readS_cut (i := i + 1) (hr h hh) (by omega) hc
            rw [Nat.mul_one, ← List.map_drop] at this
            exact this
        · rw [if_neg (by omega), if_neg (by omega)] at hR
          repeat (first | refine GD ?_ | refine NW fun _ => ?_)
          rw [hbits]
          exact ⟨(i + 1, m2), ⟨by dsimp only; omega, by dsimp only; omega, hm2, hR⟩, by dsimp only; omega, ⟨rfl, rfl, rfl, rfl, rfl, trivial⟩, Imp.refl _⟩
    · by_cases hc1 : x.toNat < 128
      · rw [if_neg (by omega), if_pos (by omega)] at hR
        repeat (first | refine GD ?_ | refine NW fun _ => ?_)
        rw [hbits]
        subst hR
        refine ret1 rfl ⟨_, ⟨rfl, _, ⟨_, _, _, rfl, ?_, ?_, ?_⟩, rfl⟩, Imp.refl _⟩
        · dsimp only [numF]; rw [List.length_drop]; omega
        · omega
        · intro h hh
          have := readS_cut (i := i + 1) (hr h hh) (by omega) hc
          rw [Nat.mul_one, ← List.map_drop] at this
          exact this
      · rw [if_neg (by omega), if_neg (by omega)] at hR
        repeat (first | refine GD ?_ | refine NW fun _ => ?_)
        rw [hbits]
        exact ⟨(i + 1, m2), ⟨by dsimp only; omega, by dsimp only; omega, hm2, hR⟩, by dsimp only; omega, ⟨rfl, rfl, rfl, rfl, rfl, trivial⟩, Imp.refl _⟩
end Go.Proofs.YtanjfjiaheghcaaGreatDoor
/- Contracts of functions of the given program, and plain laws on what they compute: parts of the proofs of laws. -/
namespace Go.Proofs.YtanjfjiaheghcaaGreatDoor
open Go Go.GL

theorem rdN_rest : ∀ (l : List UInt8) (i n : Nat) (m : Nat) (t : List UInt8), rdN i n l = .ok (m, t) → t.length ≤ l.length ∧ (i ≤ 8 → n < 128 ^ i → (m : Int) < 128 ^ 9)
  | [], i, n, m, t, h => by cases h
  | c :: r, i, n, m, t, h => by
    have hc8 : c.toNat < 256 := c.toNat_lt
    have h1 : c.toNat % 128 * 128 ^ i ≤ 127 * 128 ^ i := Nat.mul_le_mul_right _ (by omega)
    rw [rdN_cons] at h
    split at h
    · cases h
    · rename_i hC
      split at h
      · cases h
        refine ⟨by simp, fun hi hn => ?_⟩
        have := pow128 i hi
        omega
      · have ih := rdN_rest r (i + 1) _ m t h
        refine ⟨by simp only [List.length_cons]; omega, fun hi hn => ih.2 (by omega) (by rw [Nat.pow_succ]; omega)⟩
theorem numR_bd (s : PR) : (numR s).2.1.length ≤ s.1.length ∧ 0 ≤ (numR s).1 ∧ (numR s).1 < 128 ^ 9 := by
  by_cases he : s.2 = 0
  · obtain ⟨l, e⟩ := s
    obtain rfl : e = 0 := he
    rw [numR_zero]
    cases h : rdN 0 0 l with
    | ok x => obtain ⟨m, t⟩ := x; have := rdN_rest l 0 0 m t h; exact ⟨this.1, by simp [numF], this.2 (by omega) (by simp)⟩
    | error e => simp [numF]
  · rw [numR_err he]; exact ⟨Nat.le_refl _, Int.le_refl _, (by decide : (0 : Int) < 128 ^ 9)⟩
theorem rdN_numB : ∀ (k n i acc : Nat) (rest : List UInt8), n ≤ k → i ≤ 8 → ((acc + n * 128 ^ i : Nat) : Int) ≤ widest → (0 < i → n ≠ 0) → rdN i acc (numB n ++ rest) = .ok (acc + n * 128 ^ i, rest) := by
  intro k
  induction k with
  | zero =>
    intro n i acc rest hk hi hw hz
    obtain rfl : n = 0 := by omega
    rw [numB_lt (by omega), List.singleton_append, rdN_cons, ofNat_toNat (by omega)]
    rw [if_neg (by omega), if_pos (by omega)]
  | succ k ih =>
    intro n i acc rest hk hi hw hz
    by_cases hn : n < 128
    · rw [numB_lt hn, List.singleton_append, rdN_cons, ofNat_toNat (by omega), Nat.mod_eq_of_lt hn]
      rw [if_neg (by omega), if_pos hn]
    · have hp : 0 < 128 ^ i := Nat.pow_pos (by omega)
      have hsplit : n * 128 ^ i = n % 128 * 128 ^ i + n / 128 * 128 ^ (i + 1) := by
        have h1 : n = n % 128 + n / 128 * 128 := by omega
        conv => lhs; rw [h1]
        rw [Nat.add_mul, Nat.pow_succ, Nat.mul_assoc (n / 128), Nat.mul_comm 128]
      have hi8 : i ≠ 8 := by
        intro e
        subst e
        have : 128 * 128 ^ 8 ≤ n * 128 ^ 8 := Nat.mul_le_mul_right _ (by omega)
        unfold widest at hw
        omega
      rw [numB_ge hn, List.cons_append, rdN_cons, ofNat_toNat (by omega), show (n % 128 + 128) % 128 = n % 128 by omega]
      rw [if_neg (by omega), if_neg (by omega), ih (n / 128) (i + 1) _ rest (by omega) (by omega) (by rw [hsplit] at hw; omega) (by omega), hsplit, Nat.add_assoc]
theorem numR_numB {x : Int} (hx : 0 ≤ x ∧ x ≤ widest) (rest : List UInt8) : numR (numB (clampN x) ++ rest, 0) = (x, (rest, 0)) := by
  have hc : (clampN x : Int) = x := by unfold clampN; omega
  rw [numR_zero, rdN_numB _ _ 0 0 rest (Nat.le_refl _) (by omega) (by rw [Nat.pow_zero, Nat.mul_one, Nat.zero_add, hc]; exact hx.2) (by omega)]
  simp only [numF, Nat.pow_zero, Nat.mul_one, Nat.zero_add, hc]
theorem rdN_wide : ∀ (l : List UInt8) (i n : Nat) {m : Nat} {t : List UInt8}, i ≤ 8 → n < 128 ^ i → rdN i n l = .ok (m, t) → (m : Int) ≤ widest
  | [], _, _, _, _, _, _, h => by cases h
  | c :: l, i, n, m, t, hi, hn, h => by
    rw [rdN_cons] at h
    split at h
    · cases h
    · rename_i hc
      have h127 : c.toNat % 128 * 128 ^ i ≤ 127 * 128 ^ i := Nat.mul_le_mul_right _ (by omega)
      have hlt : n + c.toNat % 128 * 128 ^ i < 128 ^ (i + 1) := by rw [Nat.pow_succ]; omega
      split at h
      · cases h
        by_cases h8 : i = 8
        · have : ¬ widest < ((n + c.toNat % 128 * 128 ^ i : Nat) : Int) := fun h => hc (.inl ⟨h8, .inr h⟩)
          omega
        · have : (128 : Nat) ^ (i + 1) ≤ 128 ^ 8 := Nat.pow_le_pow_right (by decide) (by omega)
          unfold widest
          omega
      · rename_i hc2
        have : ¬ i = 8 := fun h8 => hc (.inl ⟨h8, .inl (by omega)⟩)
        exact rdN_wide l (i + 1) _ (by omega) hlt h
theorem numR_wide (s : PR) : 0 ≤ (numR s).1 ∧ (numR s).1 ≤ widest := by
  refine ⟨(numR_bd s).2.1, ?_⟩
  by_cases he : s.2 = 0
  · obtain ⟨l, e⟩ := s
    obtain rfl : e = 0 := he
    rw [numR_zero]
    cases h : rdN 0 0 l with
    | ok x => obtain ⟨m, t⟩ := x; exact rdN_wide l 0 0 (by omega) (by simp) h
    | error e => simp [numF, widest]
  · rw [numR_err he]; simp [widest]
set_option maxRecDepth 10000 in
theorem read0_ok (a : Option Addr) (n c : Nat) : RT G 128 [.slice a n c] (fun _ => True) (fun x E => ∃ r, x = .pointer (some ⟨r, 0, none⟩) ∧ E = [blk r [.slice a n c, .int .i64 0] 240]) := by
  refine RT.enter Tryz.func128 rfl (by decide) rfl Tryz.ntmps128 rfl (fun A _ hA => ?_)
  repeat (first | refine GO ?_ | refine NW fun _ => ?_)
  exact ret1 rfl ⟨[_], ⟨_, rfl, rfl⟩, Imp.refl _⟩
end Go.Proofs.YtanjfjiaheghcaaGreatDoor
/- Contracts of functions of the given program, and plain laws on what they compute: parts of the proofs of laws. -/

namespace Go.Proofs.YtanjfjiaheghcaaGreatDoor
open Go Go.GL

def textR (most : Int) (s : PR) : ByteArray × PR :=
  if (numR s).2.2 ≠ 0 then (⟨#[]⟩, (numR s).2)
  else if most < (numR s).1 then (⟨#[]⟩, ([], 1))
  else if ((numR s).2.1.length : Int) < (numR s).1 then (⟨#[]⟩, ([], 2))
  else (ba ((numR s).2.1.take (numR s).1.toNat), ((numR s).2.1.drop (numR s).1.toNat, (numR s).2.2))
set_option maxHeartbeats 1000000 in
set_option maxRecDepth 10000 in
theorem textR_ok (r : Nat) (v : Value) (s : PR) (A : Assn) (hu : Up A) (hv : Bytes A s.1 v) (hl : s.1.length < 1000000) (most : Int) :
    Triple G 150 [.pointer (some ⟨r, 0, none⟩), .int .i64 most] [blk r [v, .int .i64 s.2] 240, A] (RdPost r A (.string (textR most s).1) (textR most s).2) := by
  refine Triple.enter Tryz.func150 rfl (by decide) rfl Tryz.ntmps150 rfl (fun F => ?_)
  repeat (first | refine GO ?_ | refine NW fun _ => ?_)
  refine WL.step rfl (OP.call (pre := [blk r [v, .int .i64 s.2] 240, A]) rfl rfl (numR_ok r v s A hu hv hl) PS rfl rfl ?_)
  rintro _ _ ⟨rfl, v', hv', rfl⟩
  have hbd := numR_bd s
  unfold textR
  generalize numR s = y at *
  obtain ⟨x, l, e⟩ := y
  dsimp only at hbd hv' ⊢
  repeat (first | refine GD ?_ | refine NW fun _ => ?_)
  refine WL.step rfl (OP.callRO rfl rfl (err_ro r v' e) (Ent.whole (T := 240) MM) rfl rfl ?_)
  by_cases he : e = 0
  rotate_left
  · rw [if_pos he]
    repeat (first | refine GD ?_ | refine NW fun _ => ?_)
    exact ret1 rfl ⟨_, ⟨rfl, v', hv', rfl⟩, Imp.refl _⟩
  subst he
  rw [if_neg (by simp)]
  by_cases h1 : most < x
  · rw [if_pos h1]
    repeat (first | refine GD ?_ | refine NW fun _ => ?_)
    refine WL.step rfl (OP.call (pre := [blk r [v', .int .i64 0] 240, A]) rfl rfl (wrong5_ok r A _ 0 1) PS rfl rfl ?_)
    rintro _ _ ⟨rfl, v2, hv2, rfl⟩
    repeat (first | refine GD ?_ | refine NW fun _ => ?_)
    exact ret1 rfl ⟨_, ⟨rfl, v2, hv2, rfl⟩, Imp.refl _⟩
  rw [if_neg h1]
  obtain ⟨a, n, c, rfl, hn, hc, hr⟩ := hv'
  by_cases h2 : (l.length : Int) < x
  · rw [if_pos h2]
    repeat (first | refine GD ?_ | refine NW fun _ => ?_)
    refine WL.step rfl (OP.call (pre := [blk r [.slice a n c, .int .i64 0] 240, A]) rfl rfl (wrong5_ok r A _ 0 2) PS rfl rfl ?_)
    rintro _ _ ⟨rfl, v2, hv2, rfl⟩
    repeat (first | refine GD ?_ | refine NW fun _ => ?_)
    exact ret1 rfl ⟨_, ⟨rfl, v2, hv2, rfl⟩, Imp.refl _⟩
  rw [if_neg h2]
  repeat (first | refine GD ?_ | refine NW fun _ => ?_)
  refine WL.step rfl (OP.toStr (sv := ba (l.take x.toNat)) rfl rfl rfl rfl rfl rfl rfl rfl (by rw [strCells_ba, List.map_take]; exact Ent.mem MM hu (fun h hh => by have := readS_take (m := x.toNat) (hr h hh) (by omega); rwa [Nat.mul_one] at this)) rfl rfl ?_)
  repeat (first | refine GD ?_ | refine NW fun _ => ?_)
  refine ret1 rfl ⟨_, ⟨rfl, _, ⟨_, _, _, rfl, ?_, ?_, ?_⟩, rfl⟩, Imp.refl _⟩
  · rw [List.length_drop]; omega
  · omega
  · intro h hh
    have := readS_cut (i := x.toNat) (hr h hh) (by omega) hc
    rw [Nat.mul_one, ← List.map_drop] at this
    exact this
def readM (s : PR) : (Int × Rec) × PR :=
  if (numR (numR (numR s).2).2).1 = 1 then
    (((numR s).1, ((numR (numR s).2).1, (numR (numR (numR s).2).2).1, (numR (numR (numR (numR s).2).2).2).1, (textR 16 (numR (numR (numR (numR s).2).2).2).2).1, 0)), (textR 16 (numR (numR (numR (numR s).2).2).2).2).2)
  else (((numR s).1, ((numR (numR s).2).1, (numR (numR (numR s).2).2).1, 0, ⟨#[]⟩, (numR (numR (numR (numR s).2).2).2).1)), (numR (numR (numR (numR s).2).2).2).2)
set_option maxHeartbeats 1000000 in
set_option maxRecDepth 10000 in
theorem read5_ok (r : Nat) (v : Value) (s : PR) (A : Assn) (hu : Up A) (hv : Bytes A s.1 v) (hl : s.1.length < 1000000) :
    Triple G 178 [.pointer (some ⟨r, 0, none⟩)] [blk r [v, .int .i64 s.2] 240, A] (RdPost r A (.tuple #[.int .i64 (readM s).1.1, .agg (encR (readM s).1.2).toArray]) (readM s).2) := by
  refine Triple.enter Tryz.func178 rfl (by decide) rfl Tryz.ntmps178 rfl (fun F => ?_)
  have b1 := numR_bd s
  have b2 := numR_bd (numR s).2
  have b3 := numR_bd (numR (numR s).2).2
  have b4 := numR_bd (numR (numR (numR s).2).2).2
  unfold readM
  repeat (first | refine GO ?_ | refine NW fun _ => ?_)
  refine WL.step rfl (OP.call (pre := [blk r [v, .int .i64 s.2] 240, A]) rfl rfl (numR_ok r v s A hu hv hl) PS rfl rfl ?_)
  rintro _ _ ⟨rfl, v1, hv1, rfl⟩
  repeat (first | refine GO ?_ | refine NW fun _ => ?_)
  refine WL.step rfl (OP.call (pre := [blk r [v1, .int .i64 _] 240, A]) rfl rfl (numR_ok r v1 (numR s).2 A hu hv1 (by omega)) PS rfl rfl ?_)
  rintro _ _ ⟨rfl, v2, hv2, rfl⟩
  repeat (first | refine GO ?_ | refine NW fun _ => ?_)
  refine WL.step rfl (OP.call (pre := [blk r [v2, .int .i64 _] 240, A]) rfl rfl (numR_ok r v2 (numR (numR s).2).2 A hu hv2 (by omega)) PS rfl rfl ?_)
  rintro _ _ ⟨rfl, v3, hv3, rfl⟩
  generalize numR s = y1 at *
  generalize numR y1.2 = y2 at *
  generalize numR y2.2 = y3 at *
  by_cases hk : y3.1 = 1
  · rw [if_pos hk]
    repeat (first | refine GD ?_ | refine NW fun _ => ?_)
    refine WL.step rfl (OP.call (pre := [blk r [v3, .int .i64 _] 240, A]) rfl rfl (numR_ok r v3 y3.2 A hu hv3 (by omega)) PS rfl rfl ?_)
    rintro _ _ ⟨rfl, v4, hv4, rfl⟩
    generalize numR y3.2 = y4 at *
    repeat (first | refine GD ?_ | refine NW fun _ => ?_)
    refine WL.step rfl (OP.call (pre := [blk r [v4, .int .i64 _] 240, A]) rfl rfl (textR_ok r v4 y4.2 A hu hv4 (by omega) 16) PS rfl rfl ?_)
    rintro _ _ ⟨rfl, v5, hv5, rfl⟩
    generalize textR 16 y4.2 = y5 at *
    repeat (first | refine GD ?_ | refine NW fun _ => ?_)
    refine RD 3 4 (_) ?_
    refine VV 0 ?_; refine VV 1 ?_; refine VV 2 ?_
    refine WH.only 3 rfl rfl (by kernel_rfl) rfl (OP.store rfl rfl rfl rfl rfl rfl rfl UP rfl ⟨(fun h => nomatch h), ?_⟩)
    refine DN ?_
    repeat (first | refine GD ?_ | refine NW fun _ => ?_)
    exact ret2c rfl rfl rfl rfl rfl (HasCut.ent (n := 5) HC).1 ⟨_, ⟨rfl, v5, hv5, rfl⟩, II⟩
  · rw [if_neg hk]
    repeat (first | refine GD ?_ | refine NW fun _ => ?_)
    refine WL.step rfl (OP.call (pre := [blk r [v3, .int .i64 _] 240, A]) rfl rfl (numR_ok r v3 y3.2 A hu hv3 (by omega)) PS rfl rfl ?_)
    rintro _ _ ⟨rfl, v4, hv4, rfl⟩
    generalize numR y3.2 = y4 at *
    repeat (first | refine GD ?_ | refine NW fun _ => ?_)
    refine RD 3 4 (_) ?_
    refine VV 0 ?_; refine VV 1 ?_; refine VV 2 ?_
    refine WH.only 3 rfl rfl (by kernel_rfl) rfl (OP.store rfl rfl rfl rfl rfl rfl rfl UP rfl ⟨(fun h => nomatch h), ?_⟩)
    refine DN ?_
    repeat (first | refine GD ?_ | refine NW fun _ => ?_)
    exact ret2c rfl rfl rfl rfl rfl (HasCut.ent (n := 5) HC).1 ⟨_, ⟨rfl, v4, hv4, rfl⟩, II⟩
end Go.Proofs.YtanjfjiaheghcaaGreatDoor
/- Contracts of functions of the given program, and plain laws on what they compute: parts of the proofs of laws. -/

namespace Go.Proofs.YtanjfjiaheghcaaGreatDoor
open Go Go.GL

set_option maxHeartbeats 1000000 in
set_option maxRecDepth 10000 in
theorem beq_ro (a1 a2 : Option Addr) (n1 c1 n2 c2 : Nat) (l1 l2 : List UInt8) : RO G 126 [.slice a1 n1 c1, .slice a2 n2 c2] (fun h => readS a1 n1 1 (l1.map byteV) h ∧ readS a2 n2 1 (l2.map byteV) h) (.bool (decide (l1 = l2))) := by
  refine RO.enter Tryz.func126 rfl (by decide) rfl Tryz.ntmps126 rfl (fun A hu hA => ?_) (up_and (up_readS _ _ _ _) (up_readS _ _ _ _))
  have hE1 : ∀ {L}, A ∈ L → Ent L (readS a1 n1 1 (l1.map byteV)) := fun m => Ent.mem m hu fun k x => (hA k x).1
  have hE2 : ∀ {L}, A ∈ L → Ent L (readS a2 n2 1 (l2.map byteV)) := fun m => Ent.mem m hu fun k x => (hA k x).2
  repeat (first | refine GO ?_ | refine NW fun _ => ?_)
  refine WL.step rfl (OP.toStr (sv := ba l1) rfl rfl rfl rfl rfl rfl rfl rfl (by rw [strCells_ba]; exact hE1 MM) rfl rfl ?_)
  repeat (first | refine GO ?_ | refine NW fun _ => ?_)
  refine WL.step rfl (OP.toStr (sv := ba l2) rfl rfl rfl rfl rfl rfl rfl rfl (by rw [strCells_ba]; exact hE2 MM) rfl rfl ?_)
  repeat (first | refine GO ?_ | refine NW fun _ => ?_)
  refine ret1 rfl ⟨?_, MM⟩
  congr 1
  by_cases h : l1 = l2
  · rw [decide_eq_true h, decide_eq_true (by rw [h])]
  · rw [decide_eq_false h, decide_eq_false (fun e => h (ba_inj e))]
set_option maxHeartbeats 1000000 in
set_option maxRecDepth 10000 in
theorem seq_ro (a1 a2 : Option Addr) (n1 c1 n2 c2 : Nat) (l1 l2 : List UInt8) (h1 : n1 = l1.length) (h2 : n2 = l2.length) (hs : n1 < 1000000) : RO G 151 [.slice a1 n1 c1, .slice a2 n2 c2] (fun h => readS a1 n1 1 (l1.map byteV) h ∧ readS a2 n2 1 (l2.map byteV) h) (.bool (decide (l1 = l2))) := by
  refine RO.enter Tryz.func151 rfl (by decide) rfl Tryz.ntmps151 rfl (fun A hu hA => ?_) (up_and (up_readS _ _ _ _) (up_readS _ _ _ _))
  have hE1 : ∀ {L}, A ∈ L → Ent L (readS a1 n1 1 (l1.map byteV)) := fun m => Ent.mem m hu fun k x => (hA k x).1
  have hE2 : ∀ {L}, A ∈ L → Ent L (readS a2 n2 1 (l2.map byteV)) := fun m => Ent.mem m hu fun k x => (hA k x).2
  by_cases hne : n1 = n2
  rotate_left
  · have : l1 ≠ l2 := fun e => hne (by rw [h1, h2, e])
    repeat (first | refine GD ?_ | refine NW fun _ => ?_)
    exact ret1 rfl ⟨by simp [this], MM⟩
  subst hne
  repeat (first | refine GD ?_ | refine NW fun _ => ?_)
  refine WC.loop (σ := Nat) (fun k => k ≤ n1 ∧ ∀ j, j < k → l1[j]? = l2[j]?)
    (fun k => [(0, .val (.slice a1 n1 c1)), (1, .val (.slice a2 n1 c2)), (12, .val (.int .i64 n1)), (13, .val (.int .i64 k))])
    (fun k => [A]) (fun k => n1 - k) 0 ⟨Nat.zero_le _, fun j hj => by omega⟩ ⟨rfl, rfl, rfl, rfl, trivial⟩ (Imp.refl _) ?_
  rintro k ⟨hk, hall⟩
  by_cases hlt : k < n1
  rotate_left
  · repeat (first | refine GD ?_ | refine NW fun _ => ?_)
    refine ret1 rfl ⟨?_, MM⟩
    have : l1 = l2 := List.ext_getElem? fun i => by
      by_cases hi : i < k
      · exact hall i hi
      · rw [List.getElem?_eq_none (by omega), List.getElem?_eq_none (by omega)]
    simp [this]
  have hl1 : k < l1.length := by omega
  have hl2 : k < l2.length := by omega
  repeat (first | refine GD ?_ | refine NW fun _ => ?_)
  refine WC.fact (Ent.some (hE1 MM) (by omega)) ?_
  rintro ⟨b, off, rfl⟩
  refine WC.fact (Ent.some (hE2 MM) (by omega)) ?_
  rintro ⟨b', off', rfl⟩
  refine RD 9 9 (_) ?_
  refine VV 0 ?_; refine VV 1 ?_; refine VV 2 ?_
  refine VQ 3 rfl (Quiet.load (v := byteV l1[k]) rfl rfl rfl (.inl ⟨rfl, Ent.elem (i := k * 1) (hE1 MM) rfl (by simp [hl1])⟩)) ?_
  refine VV 4 ?_; refine VV 5 ?_; refine VV 6 ?_
  refine VQ 7 rfl (Quiet.load (v := byteV l2[k]) rfl rfl rfl (.inl ⟨rfl, Ent.elem (i := k * 1) (hE2 MM) rfl (by simp [hl2])⟩)) ?_
  unfold byteV
  refine VV 8 ?_
  refine DN ?_
  by_cases he : l1[k] = l2[k]
  · have he2 : (l1[k].toNat : Int) = (l2[k].toNat : Int) := by rw [he]
    rw [decide_eq_true he2]
    repeat (first | refine GD ?_ | refine NW fun _ => ?_)
    exact ⟨k + 1, ⟨by omega, fun j hj => by
      by_cases e : j = k
      · subst e; rw [List.getElem?_eq_getElem hl1, List.getElem?_eq_getElem hl2, he]
      · exact hall j (by omega)⟩, by omega, ⟨rfl, rfl, rfl, rfl, trivial⟩, Imp.refl _⟩
  · have he2 : ¬ (l1[k].toNat : Int) = (l2[k].toNat : Int) := fun e => he (UInt8.toNat_inj.1 (by omega))
    rw [decide_eq_false he2]
    repeat (first | refine GD ?_ | refine NW fun _ => ?_)
    refine ret1 rfl ⟨?_, MM⟩
    have : l1 ≠ l2 := fun e => he (by subst e; rfl)
    simp [this]
set_option maxHeartbeats 1000000 in
set_option maxRecDepth 10000 in
theorem clone_ok (a : Addr) (n c : Nat) (l : List UInt8) (hn : n = l.length) (hs : n < 1000000) : RT G 153 [.slice (some a) n c] (readS (some a) n 1 (l.map byteV)) (BytesNew l) := by
  refine RT.enter Tryz.func153 rfl (by decide) rfl Tryz.ntmps153 rfl (fun A hu hA => ?_)
  have hE : ∀ {L}, A ∈ L → Ent L (readS (some a) n 1 (l.map byteV)) := fun m => Ent.mem m hu hA
  repeat (first | refine GO ?_ | refine NW fun _ => ?_)
  refine WL.step rfl (OP.lit0 (size := 1) rfl rfl rfl rfl rfl rfl (fun b => ?_))
  repeat (first | refine GO ?_ | refine NW fun _ => ?_)
  refine WL.step rfl (OP.append rfl rfl rfl rfl rfl rfl rfl rfl rfl P1 (hE MM) (allOne_bytes _) (by omega) (by omega) rfl rfl (fun a2' cap2 => ?_))
  rw [Nat.zero_add, List.nil_append]
  repeat (first | refine GO ?_ | refine NW fun _ => ?_)
  exact ret1 rfl ⟨[ownS a2' n cap2 5 1 (l.map byteV)], ⟨a2', cap2, by rw [hn], by rw [hn]⟩, II⟩
def OpenOk (l : List UInt8) : Prop := 4 ≤ l.length ∧ tailM (l.take (l.length - 4)) = l.drop (l.length - 4)
instance (l : List UInt8) : Decidable (OpenOk l) := by unfold OpenOk; infer_instance
def OpenPost (l : List UInt8) (v : Value) (E : List Assn) : Prop :=
  if OpenOk l then ∃ v1, v = .tuple #[v1, .bool true] ∧ BytesNew (l.take (l.length - 4)) v1 E else v = .tuple #[.slice none 0 0, .bool false] ∧ E = []
set_option maxHeartbeats 1000000 in
set_option maxRecDepth 10000 in
theorem open_ok (a : Option Addr) (n c : Nat) (l : List UInt8) (hn : n = l.length) (hc : n ≤ c) (hs : n < 1000000) : RT G 127 [.slice a n c] (readS a n 1 (l.map byteV)) (OpenPost l) := by
  refine RT.enter Tryz.func127 rfl (by decide) rfl Tryz.ntmps127 rfl (fun A hu hA => ?_)
  have hE : ∀ {L}, A ∈ L → Ent L (readS a n 1 (l.map byteV)) := fun m => Ent.mem m hu hA
  repeat (first | refine GO ?_ | refine NW fun _ => ?_)
  refine RD 13 13 ([A]) ?_
  by_cases h4 : n < 4
  · refine VV 0 ?_; refine VV 1 ?_
    rw [decide_eq_true (show (n : Int) - 4 < 0 by omega)]
    refine VV 2 ?_
    refine VF 3 ?_; refine VF 4 ?_; refine VF 5 ?_; refine VF 6 ?_; refine VF 7 ?_; refine VF 8 ?_; refine VF 9 ?_; refine VF 10 ?_; refine VF 11 ?_
    refine VQ 12 rfl (Quiet.pickT rfl rfl rfl) ?_
    refine DN ?_
    repeat (first | refine GD ?_ | refine NW fun _ => ?_)
    refine ret2 rfl rfl ⟨[], ?_, II⟩
    unfold OpenPost
    rw [if_neg (fun h => by have := h.1; omega)]
    exact ⟨rfl, rfl⟩
  refine VV 0 ?_; refine VV 1 ?_
  rw [decide_eq_false (show ¬ (n : Int) - 4 < 0 by omega)]
  refine VV 2 ?_; refine VV 3 ?_; refine VV 4 ?_; refine VV 5 ?_
  refine VV 7 ?_; refine VV 8 ?_; refine VV 9 ?_
  rw [show ((n : Int) - 4).toNat = n - 4 by omega]
  have hEt : ∀ {L}, A ∈ L → Ent L (readS a (n - 4) 1 ((l.take (n - 4)).map byteV)) := fun m => Ent.mem m hu fun h hh => by
    have := readS_take (m := n - 4) (hA h hh) (by omega)
    rw [Nat.mul_one, ← List.map_take] at this
    exact this
  have hEd : ∀ {L}, A ∈ L → Ent L (readS (cutA a c (n - 4) 1) (n - (n - 4)) 1 ((l.drop (n - 4)).map byteV)) := fun m => Ent.mem m hu fun h hh => by
    have := readS_cut (i := n - 4) (hA h hh) (by omega) hc
    rw [Nat.mul_one, ← List.map_drop] at this
    exact this
  refine WH.onlyG (q := true) 6 rfl rfl rfl rfl rfl rfl rfl (by kernel_rfl) rfl (.inl rfl) (fun _ => OP.callRT rfl rfl (tail_ok a (n - 4) c (l.take (n - 4)) (by rw [List.length_take]; omega) (by omega)) (hEt MM) rfl rfl (fun v E hE' => ?_)) (fun h => nomatch h)
  obtain ⟨a1, cap1, rfl, rfl⟩ := hE'
  refine ⟨fun _ => II, ?_⟩
  refine WH.onlyG (q := true) 10 rfl rfl rfl rfl rfl rfl rfl (by kernel_rfl) rfl (.inl rfl) (fun _ => OP.callRO rfl rfl (seq_ro a1 (cutA a c (n - 4) 1) _ cap1 (n - (n - 4)) (c - (n - 4)) (tailM (l.take (n - 4))) (l.drop (n - 4)) rfl (by rw [List.length_drop]; omega) (by rw [tailM_len]; decide)) (Ent.and (Ent.own (T := 5) MM) (hEd MM)) rfl rfl ⟨fun _ => II, ?_⟩) (fun h => nomatch h)
  by_cases heq : tailM (l.take (n - 4)) = l.drop (n - 4)
  · rw [decide_eq_true heq]
    refine VV 11 ?_; refine VV 12 ?_
    refine DN ?_
    refine WC.fact (Ent.some (hE MM) (by omega)) ?_
    rintro ⟨b, off, rfl⟩
    repeat (first | refine GD ?_ | refine NW fun _ => ?_)
    rw [show ((n : Int) - 4).toNat = n - 4 by omega]
    refine WL.step rfl (OP.callRT rfl rfl (clone_ok ⟨b, off, none⟩ (n - 4) c (l.take (n - 4)) (by rw [List.length_take]; omega) (by omega)) (hEt MM) rfl rfl ?_)
    rintro v E ⟨a2, cap2, rfl, rfl⟩
    repeat (first | refine GD ?_ | refine NW fun _ => ?_)
    refine ret2 rfl rfl ⟨[_], ?_, II⟩
    unfold OpenPost
    rw [if_pos ⟨by omega, by rw [← hn]; exact heq⟩, ← hn]
    exact ⟨_, rfl, a2, cap2, rfl, rfl⟩
  · rw [decide_eq_false heq]
    refine VV 11 ?_; refine VV 12 ?_
    refine DN ?_
    repeat (first | refine GD ?_ | refine NW fun _ => ?_)
    refine ret2 rfl rfl ⟨[], ?_, II⟩
    unfold OpenPost
    rw [if_neg (fun h => heq (by have := h.2; rwa [← hn] at this))]
    exact ⟨rfl, rfl⟩
end Go.Proofs.YtanjfjiaheghcaaGreatDoor
/- Contracts of functions of the given program, and plain laws on what they compute: parts of the proofs of laws. -/

namespace Go.Proofs.YtanjfjiaheghcaaGreatDoor
open Go Go.GL

theorem textR_size (most : Int) (s : PR) (hm : 0 ≤ most) : ((textR most s).1.size : Int) ≤ most := by
  have := numR_bd s
  unfold textR
  split
  · exact hm
  · split
    · exact hm
    · split
      · exact hm
      · simp only [ba_size, List.length_take]; omega
theorem readM_size (s : PR) : (readM s).1.2.2.2.2.1.size ≤ 16 := by
  unfold readM
  split
  · have := textR_size 16 (numR (numR (numR (numR s).2).2).2).2 (by decide); dsimp only; omega
  · exact Nat.zero_le _
def decR (l : List UInt8) : Except Int (Int × Rec) :=
  if OpenOk l ∧ l.length = 64 then
    if (readM (l.take 60, 0)).2.2 = 0 ∧ (RightR (readM (l.take 60, 0)).1.2 ∧ (0 ≤ (readM (l.take 60, 0)).1.1 ∧ (readM (l.take 60, 0)).1.1 ≤ widest)) ∧ sectorM (bodyM (readM (l.take 60, 0)).1.1 (readM (l.take 60, 0)).1.2) = l then .ok (readM (l.take 60, 0)).1 else .error 1
  else .error 4
def rec0 : Rec := (0, 0, 0, ⟨#[]⟩, 0)
def DecPost (l : List UInt8) (v : Value) (E : List Assn) : Prop :=
  match decR l with
  | .ok (g, r) => v = .tuple #[.int .i64 g, .agg (encR r).toArray, .nilIface] ∧ E = []
  | .error c => ∃ e, v = .tuple #[.int .i64 0, .agg (encR rec0).toArray, e] ∧ Fault recW 0 c e E
set_option maxHeartbeats 4000000 in
set_option maxRecDepth 10000 in
theorem decode5_ok (a : Option Addr) (n c : Nat) (l : List UInt8) (hn : n = l.length) (hc : n ≤ c) (hs : n < 1000000) : RT G 173 [.slice a n c] (readS a n 1 (l.map byteV)) (DecPost l) := by
  refine RT.enter Tryz.func173 rfl (by decide) rfl Tryz.ntmps173 rfl (fun A hu hA => ?_)
  have hE : ∀ {L}, A ∈ L → Ent L (readS a n 1 (l.map byteV)) := fun m => Ent.mem m hu hA
  repeat (first | refine GD ?_ | refine NW fun _ => ?_)
  refine WL.step rfl (OP.callRT rfl rfl (open_ok a n c l hn hc hs) (hE MM) rfl rfl ?_)
  rintro v E hO
  unfold OpenPost at hO
  by_cases ho : OpenOk l
  rotate_left
  · rw [if_neg ho] at hO
    obtain ⟨rfl, rfl⟩ := hO
    have hdec : decR l = .error 4 := by unfold decR; rw [if_neg (fun h => ho h.1)]
    repeat (first | refine GD ?_ | refine NW fun _ => ?_)
    refine WL.step rfl (OP.call (pre := []) (F := _) rfl rfl (wrap_ok _ _ _ (by decide)) (Imp.refl _) rfl rfl ?_)
    rintro v' E ⟨b', rfl, rfl⟩
    repeat (first | refine GD ?_ | refine NW fun _ => ?_)
    refine ret3c rfl rfl rfl rfl rfl rfl (HasCut.ent (n := 5) HC).1 ⟨[_], ?_, II⟩
    unfold DecPost
    rw [hdec]
    exact ⟨_, rfl, _, rfl, rfl⟩
  rw [if_pos ho] at hO
  obtain ⟨v1, rfl, a2, cap2, rfl, rfl⟩ := hO
  by_cases h64 : n = 64
  rotate_left
  · have hdec : decR l = .error 4 := by unfold decR; rw [if_neg (fun h => h64 (by omega))]
    repeat (first | refine GD ?_ | refine NW fun _ => ?_)
    refine WL.step rfl (OP.call (pre := []) (F := _) rfl rfl (wrap_ok _ _ _ (by decide)) (Imp.refl _) rfl rfl ?_)
    rintro v' E ⟨b', rfl, rfl⟩
    repeat (first | refine GD ?_ | refine NW fun _ => ?_)
    refine ret3c rfl rfl rfl rfl rfl rfl (HasCut.ent (n := 5) HC).1 ⟨[_], ?_, II⟩
    unfold DecPost
    rw [hdec]
    exact ⟨_, rfl, _, rfl, rfl⟩
  have e60 : l.take (l.length - 4) = l.take 60 := by rw [← hn, h64]
  have hl60 : (l.take 60).length = 60 := by rw [List.length_take]; omega
  rw [e60, hl60]
  refine WL.fact (Ent.ownLe (a := a2) (n := 60) (cap := cap2) (T := 5) (size := 1) (cs := (l.take 60).map byteV) MM) (fun hc2 => ?_)
  have hby : Bytes (ownS a2 60 cap2 5 1 ((l.take 60).map byteV)) (l.take 60) (.slice a2 60 cap2) := ⟨a2, 60, cap2, rfl, hl60.symm, hc2, fun h x => read_of_own x⟩
  repeat (first | refine GD ?_ | refine NW fun _ => ?_)
  refine WL.step rfl (OP.callRT rfl rfl (read0_ok a2 60 cap2) (fun _ _ => trivial) rfl rfl ?_)
  rintro v E ⟨r, rfl, rfl⟩
  repeat (first | refine GD ?_ | refine NW fun _ => ?_)
  refine WL.step rfl (OP.call (pre := [blk r [.slice a2 60 cap2, .int .i64 0] 240, ownS a2 60 cap2 5 1 ((l.take 60).map byteV)]) rfl rfl (read5_ok r _ (l.take 60, 0) (ownS a2 60 cap2 5 1 ((l.take 60).map byteV)) (up_ownS _ _ _ _ _ _) hby (by dsimp only; omega)) PS rfl rfl ?_)
  rintro _ _ ⟨rfl, v2, hv2, rfl⟩
  have hsz := readM_size (l.take 60, 0)
  have hdR : decR l = if (readM (l.take 60, 0)).2.2 = 0 ∧ (RightR (readM (l.take 60, 0)).1.2 ∧ (0 ≤ (readM (l.take 60, 0)).1.1 ∧ (readM (l.take 60, 0)).1.1 ≤ widest)) ∧ sectorM (bodyM (readM (l.take 60, 0)).1.1 (readM (l.take 60, 0)).1.2) = l then .ok (readM (l.take 60, 0)).1 else .error 1 := by
    unfold decR; rw [if_pos ⟨ho, by omega⟩]
  generalize readM (l.take 60, 0) = y at *
  obtain ⟨⟨g, q⟩, ⟨l2, e2⟩⟩ := y
  dsimp only at hsz hdR hv2 ⊢
  repeat (first | refine GD ?_ | refine NW fun _ => ?_)
  refine WL.step rfl (OP.callRT rfl rfl (encode_ok g q (by omega)) (fun _ _ => trivial) rfl rfl ?_)
  rintro v E hEnc
  unfold EncPost at hEnc
  by_cases hr : RightR q ∧ (0 ≤ g ∧ g ≤ widest)
  rotate_left
  · rw [if_neg hr] at hEnc
    obtain ⟨e, rfl, b1, rfl, rfl⟩ := hEnc
    have hdec : decR l = .error 1 := by rw [hdR, if_neg (fun h => hr h.2.1)]
    repeat (first | refine GD ?_ | refine NW fun _ => ?_)
    refine WL.step rfl (OP.callRO rfl rfl (err_ro r v2 e2) (Ent.whole (T := 240) MM) rfl rfl ?_)
    by_cases he2 : e2 = 0
    · repeat (first | refine GD ?_ | refine NW fun _ => ?_)
      refine WL.step rfl (OP.call (pre := []) (F := _) rfl rfl (wrap_ok _ _ _ (by decide)) (Imp.refl _) rfl rfl ?_)
      rintro v' E ⟨b', rfl, rfl⟩
      repeat (first | refine GD ?_ | refine NW fun _ => ?_)
      refine ret3c rfl rfl rfl rfl rfl rfl (HasCut.ent (n := 5) HC).1 ⟨[_], ?_, II⟩
      unfold DecPost
      rw [hdec]
      exact ⟨_, rfl, _, rfl, rfl⟩
    · repeat (first | refine GD ?_ | refine NW fun _ => ?_)
      refine WL.step rfl (OP.call (pre := []) (F := _) rfl rfl (wrap_ok _ _ _ (by decide)) (Imp.refl _) rfl rfl ?_)
      rintro v' E ⟨b', rfl, rfl⟩
      repeat (first | refine GD ?_ | refine NW fun _ => ?_)
      refine ret3c rfl rfl rfl rfl rfl rfl (HasCut.ent (n := 5) HC).1 ⟨[_], ?_, II⟩
      unfold DecPost
      rw [hdec]
      exact ⟨_, rfl, _, rfl, rfl⟩
  rw [if_pos hr] at hEnc
  obtain ⟨v3, rfl, a3, cap3, rfl, rfl⟩ := hEnc
  repeat (first | refine GD ?_ | refine NW fun _ => ?_)
  refine WL.step rfl (OP.callRO rfl rfl (err_ro r v2 e2) (Ent.whole (T := 240) MM) rfl rfl ?_)
  by_cases he2 : e2 = 0
  rotate_left
  · have hdec : decR l = .error 1 := by rw [hdR, if_neg (fun h => he2 h.1)]
    repeat (first | refine GD ?_ | refine NW fun _ => ?_)
    refine WL.step rfl (OP.call (pre := []) (F := _) rfl rfl (wrap_ok _ _ _ (by decide)) (Imp.refl _) rfl rfl ?_)
    rintro v' E ⟨b', rfl, rfl⟩
    repeat (first | refine GD ?_ | refine NW fun _ => ?_)
    refine ret3c rfl rfl rfl rfl rfl rfl (HasCut.ent (n := 5) HC).1 ⟨[_], ?_, II⟩
    unfold DecPost
    rw [hdec]
    exact ⟨_, rfl, _, rfl, rfl⟩
  repeat (first | refine GD ?_ | refine NW fun _ => ?_)
  refine WL.guardT rfl rfl rfl rfl (OP.callRO rfl rfl (beq_ro a3 a _ cap3 n c (sectorM (bodyM g q)) l) (Ent.and (Ent.own (T := 5) MM) (hE MM)) rfl rfl ?_)
  by_cases heq : sectorM (bodyM g q) = l
  rotate_left
  · have hdec : decR l = .error 1 := by rw [hdR, if_neg (fun h => heq h.2.2)]
    rw [decide_eq_false heq]
    repeat (first | refine GD ?_ | refine NW fun _ => ?_)
    refine WL.step rfl (OP.call (pre := []) (F := _) rfl rfl (wrap_ok _ _ _ (by decide)) (Imp.refl _) rfl rfl ?_)
    rintro v' E ⟨b', rfl, rfl⟩
    repeat (first | refine GD ?_ | refine NW fun _ => ?_)
    refine ret3c rfl rfl rfl rfl rfl rfl (HasCut.ent (n := 5) HC).1 ⟨[_], ?_, II⟩
    unfold DecPost
    rw [hdec]
    exact ⟨_, rfl, _, rfl, rfl⟩
  have hdec : decR l = .ok (g, q) := by rw [hdR, if_pos ⟨he2, hr, heq⟩]
  rw [decide_eq_true heq]
  repeat (first | refine GD ?_ | refine NW fun _ => ?_)
  refine RD 3 5 (_) ?_
  refine VV 0 ?_; refine VV 1 ?_; refine VV 2 ?_
  refine WH.only 3 rfl rfl (by kernel_rfl) rfl (OP.store rfl rfl rfl rfl rfl rfl rfl UP rfl ⟨(fun h => nomatch h), ?_⟩)
  refine WW 4 ?_
  refine DN ?_
  repeat (first | refine GD ?_ | refine NW fun _ => ?_)
  refine ret3c rfl rfl rfl rfl rfl rfl (HasCut.ent (n := 5) HC).1 ⟨[], ?_, II⟩
  unfold DecPost
  rw [hdec]
  exact ⟨rfl, rfl⟩
end Go.Proofs.YtanjfjiaheghcaaGreatDoor
/- Contracts of functions of the given program, and plain laws on what they compute: parts of the proofs of laws. -/

namespace Go.Proofs.YtanjfjiaheghcaaGreatDoor
open Go Go.GL

theorem textR_textB {d : ByteArray} (hd : d.size ≤ 16) (rest : List UInt8) : textR 16 (textB d ++ rest, 0) = (d, (rest, 0)) := by
  have hw : (16 : Int) ≤ widest := by decide
  have hl : d.data.toList.length = d.size := Array.length_toList
  have hc := clamp_nat d.size (by omega)
  have h := numR_numB (x := (d.size : Int)) (by omega) (d.data.toList ++ rest)
  rw [hc] at h
  unfold textB textR
  rw [List.append_assoc, h]
  dsimp only
  rw [if_neg (by simp), if_neg (by omega), if_neg (by rw [List.length_append]; omega), Int.toNat_natCast, ← hl, List.take_left, List.drop_left, ba_data]
theorem readM_body {g : Int} {r : Rec} (hr : RightR r) (hg : 0 ≤ g ∧ g ≤ widest) (rest : List UInt8) : readM (bodyM g r ++ rest, 0) = ((g, r), (rest, 0)) := by
  obtain ⟨s1, k1, b1, d1, n1⟩ := r
  obtain ⟨hs1, hc1⟩ := hr
  have hw : (8 : Int) ≤ widest := by decide
  dsimp only at hs1 hc1
  unfold bodyM
  dsimp only
  simp only [List.append_assoc]
  unfold readM
  rw [numR_numB hg, numR_numB (by omega), numR_numB (by omega)]
  by_cases hk : k1 = 1
  · rw [if_pos hk, if_pos hk]
    have hc1 := hc1.resolve_left (fun x => by omega)
    simp only [List.append_assoc]
    rw [numR_numB (by omega), textR_textB hc1.2.2.1, hc1.2.2.2]
  · rw [if_neg hk, if_neg hk]
    have hc1 := hc1.resolve_right (fun x => hk x.1)
    rw [numR_numB (by omega), hc1.2.2.1, hc1.2.2.2]
theorem decR_enc {g : Int} {r : Rec} (hr : RightR r) (hg : 0 ≤ g ∧ g ≤ widest) : decR (sectorM (bodyM g r)) = .ok (g, r) := by
  have hp := padM_len (bodyM_len (gen := g) hr)
  have hl := sectorM_len (bodyM_len (gen := g) hr)
  have e1 : (sectorM (bodyM g r)).take 60 = padM (bodyM g r) := by unfold sectorM; rw [List.take_left' hp]
  have e2 : (sectorM (bodyM g r)).drop 60 = tailM (padM (bodyM g r)) := by unfold sectorM; rw [List.drop_left' hp]
  have ho : OpenOk (sectorM (bodyM g r)) := by
    unfold OpenOk
    rw [hl]
    exact ⟨by omega, by rw [e1, e2]⟩
  unfold decR
  rw [if_pos ⟨ho, hl⟩, e1]
  have := readM_body hr hg (List.replicate (60 - (bodyM g r).length) 0)
  unfold padM
  rw [this, if_pos ⟨rfl, ⟨hr, hg⟩, rfl⟩]
theorem decR_ok {l : List UInt8} {g : Int} {r : Rec} (h : decR l = .ok (g, r)) : RightR r ∧ (0 ≤ g ∧ g ≤ widest) ∧ sectorM (bodyM g r) = l ∧ r.2.2.2.1.size ≤ 16 := by
  have hsz := readM_size (l.take 60, 0)
  unfold decR at h
  split at h
  · split at h
    · rename_i hc
      simp only [Except.ok.injEq] at h
      rw [h] at hc hsz
      exact ⟨hc.2.1.1, hc.2.1.2, hc.2.2, hsz⟩
    · cases h
  · cases h
end Go.Proofs.YtanjfjiaheghcaaGreatDoor
/- Memory under a name: predicates that hide their addresses; reading out of memory that is lent. -/
namespace Go.GL
open Go
/-- There is an x for which these hold of separate parts. -/
def exA {ι : Type} (Ls : ι → List Assn) : Assn := fun h => ∃ x, stars (Ls x) h
theorem up_exA {ι : Type} (Ls : ι → List Assn) : Up (exA Ls) := fun _ _ l ⟨x, s⟩ => ⟨x, stars_mono l s⟩
theorem stars_open {ι : Type} {Ls : ι → List Assn} {L : List Assn} {h : Hp} (s : stars (exA Ls :: L) h) : ∃ x, stars (Ls x ++ L) h := by
  obtain ⟨x, s⟩ := stars_ex (A := fun x => stars (Ls x)) s
  exact ⟨x, stars_append.2 s⟩
theorem Imp.fold {ι : Type} {Ls : ι → List Assn} (x : ι) {M : List Assn} : Imp (Ls x ++ M) (exA Ls :: M) := fun _ s => stars_head_mono (fun _ hk => ⟨x, hk⟩) (stars_append.1 s)
/-- fold, the parts wherever they are -/
theorem Imp.foldP {ι : Type} {Ls : ι → List Assn} (x : ι) {L N M : List Assn} (p : Picks L (Ls x) N) (i : Imp (exA Ls :: N) M) : Imp L M := (p.imp.trans (Imp.fold x)).trans i
theorem Imp.appL {L M : List Assn} (i : Imp L M) : ∀ (E : List Assn), Imp (E ++ L) (E ++ M)
  | [] => i
  | _ :: E => (Imp.appL i E).cons
theorem Ent.of {A : Assn} {Ls L : List Assn} {R : Assn} (hu : Up A) (hA : ∀ k, A k → stars Ls k) (m : A ∈ L) (e : Ent Ls R) : Ent L R := Ent.mem m hu fun k a => e k (hA k a)
theorem Ent.at {A : Assn} {L : List Assn} (hu : Up A) (m : A ∈ L) : Ent L A := Ent.mem m hu fun _ a => a
theorem Ent.ex {ι : Type} {Ls : ι → List Assn} {L : List Assn} (m : exA Ls ∈ L) : Ent L (exA Ls) := Ent.mem m (up_exA _) fun _ a => a
theorem Ent.exI {ι : Type} {Ls : ι → List Assn} {L : List Assn} (x : ι) (i : Imp L (Ls x)) : Ent L (exA Ls) := fun h s => ⟨x, i h s⟩
section
variable {G : Ctx} {N : Nat} {env : Env} {L M S : List Assn} {k : Kont} {ops : Array Oper} {rest : List Oper} {o : Oper} {c : Code} {ι : Type} {Ls : ι → List Assn}
theorem WC.open (i : Imp L (exA Ls :: M)) (h : ∀ x, WC G N c env (Ls x ++ M) k) : WC G N c env L k := .mk fun a w ha hs => by
  obtain ⟨x, s⟩ := stars_open (i.sat hs)
  exact (h x) a w ha s
theorem WL.open (i : Imp L (exA Ls :: M)) (h : ∀ x, WL G N ops rest env (Ls x ++ M) k) : WL G N ops rest env L k := .mk fun a w ha hs => by
  obtain ⟨x, s⟩ := stars_open (i.sat hs)
  exact (h x) a w ha s
theorem OP.open {post : Env → List Assn → Prop} (i : Imp L (exA Ls :: M)) (h : ∀ x, OP G N o env (Ls x ++ M) post) : OP G N o env L post := .mk fun a w ha hs => by
  obtain ⟨x, s⟩ := stars_open (i.sat hs)
  exact (h x) a w ha s
theorem RO.enterEx {f : FuncId} {fn : Func} {c : Code} {vs : List Value} {rs : List ResultVar} {v : Value} (hf : G.P.funcs[f]? = some fn) (hb : fn.body = some c) (hname : (fn.name == "runtime.NumGoroutine") = false) (hr : fn.results = rs.toArray) (hn : fn.ntmps = N)
    (hv : Nat.ble vs.length N = true) (h : ∀ x A, Up A → (∀ k, A k → stars (Ls x) k) → WC G N c (args0 0 vs) [A] (retK G rs (fun v' M => v' = v ∧ A ∈ M))) : RO G f vs (exA Ls) v :=
  ⟨⟨fn, c, hf, hname, hb⟩, fun w ⟨x, hw⟩ => (body_calls hf hb hr hn hv (h x (old w) (up_old w) (fun _ l => stars_mono l hw)) w (Sat.old w)).mono fun _ _ ⟨_, _, e, ⟨e1, e2⟩, s⟩ => ⟨by rw [e, e1], ext_of_old e2 s⟩⟩
theorem RT.enterEx {f : FuncId} {fn : Func} {c : Code} {vs : List Value} {rs : List ResultVar} {p : Value → List Assn → Prop} (hf : G.P.funcs[f]? = some fn) (hb : fn.body = some c) (hname : (fn.name == "runtime.NumGoroutine") = false) (hr : fn.results = rs.toArray) (hn : fn.ntmps = N)
    (hv : Nat.ble vs.length N = true) (h : ∀ x A, Up A → (∀ k, A k → stars (Ls x) k) → WC G N c (args0 0 vs) [A] (retK G rs (fun v M => ∃ E, p v E ∧ Imp M (E ++ [A])))) : RT G f vs (exA Ls) p := by
  refine ⟨⟨fn, c, hf, hname, hb⟩, fun M w he hs => ?_⟩
  obtain ⟨x, hx⟩ := he _ hs
  refine (body_calls hf hb hr hn hv (h x (fun k => stars M k ∧ stars (Ls x) k) (up_and (up_stars _) (up_stars _)) (fun _ a => a.2)) w (stars_one.1 hs |> fun _ => ?_)).mono ?_
  · exact ⟨hpOf w, Hp.empty, fun _ => .inr rfl, by funext b; simp [Hp.join, Hp.empty], ⟨hs, hx⟩, trivial⟩
  · rintro _ w' ⟨v, L, e, ⟨E, h1, h2⟩, s⟩
    exact ⟨v, E, e, h1, stars_app_one.2 (Imp.appL (fun _ s => stars_head_mono (fun _ a => a.1) s) E _ (h2 _ s))⟩
/-- a test parts the ways -/
theorem WC.split {c : Operand} {x y : Code} {p : Prop} [Decidable p] (hc : rd none env c = some (none, .bool (decide p))) (ht : p → WC G N x env L k) (hf : ¬ p → WC G N y env L k) : WC G N (.cond c x y) env L k :=
  .cond hc (fun h => ht (of_decide_eq_true h)) (fun h => hf (of_decide_eq_false h))
end
/-! ### elements of several cells -/
theorem flat_len {α : Type} {f : α → List Value} {z : Nat} (hz : ∀ x, (f x).length = z) : ∀ (l : List α), (l.flatMap f).length = l.length * z
  | [] => by simp
  | x :: l => by rw [List.flatMap_cons, List.length_append, hz, flat_len hz l, List.length_cons, Nat.succ_mul, Nat.add_comm]
theorem flat_drop {α : Type} {f : α → List Value} {z : Nat} (hz : ∀ x, (f x).length = z) : ∀ (l : List α) (k : Nat), (l.flatMap f).drop (k * z) = (l.drop k).flatMap f
  | [], k => by simp
  | x :: l, 0 => by simp
  | x :: l, k + 1 => by
    rw [List.flatMap_cons, List.drop_succ_cons, ← flat_drop hz l k, Nat.succ_mul, Nat.add_comm, ← List.drop_drop]
    congr 1
    rw [List.drop_append_of_le_length (by rw [hz]; exact Nat.le_refl _), List.drop_eq_nil_of_le (by rw [hz]; exact Nat.le_refl _), List.nil_append]
theorem flat_cut {α : Type} {f : α → List Value} {z : Nat} (hz : ∀ x, (f x).length = z) (l : List α) (k : Nat) (h : k < l.length) : f l[k] = ((l.flatMap f).drop (k * z)).take z := by
  rw [flat_drop hz, List.drop_eq_getElem_cons h, List.flatMap_cons, List.take_append_of_le_length (by rw [hz]; exact Nat.le_refl _), List.take_of_length_le (by rw [hz]; exact Nat.le_refl _)]
theorem flat_get {α : Type} {f : α → List Value} {z : Nat} (hz : ∀ x, (f x).length = z) (l : List α) (k j : Nat) (h : k < l.length) (hj : j < z) : (l.flatMap f)[k * z + j]? = (f l[k])[j]? := by
  rw [flat_cut hz l k h, List.getElem?_take, if_pos hj, List.getElem?_drop]
theorem flat_set {α : Type} {f : α → List Value} {z : Nat} (hz : ∀ x, (f x).length = z) : ∀ (l : List α) (k : Nat) (x : α), k < l.length → setMany (l.flatMap f) (k * z) (f x) = some ((l.set k x).flatMap f) := by
  intro l k x h
  have h1 : l.flatMap f = (l.take k).flatMap f ++ f l[k] ++ (l.drop (k + 1)).flatMap f := by
    conv => lhs; rw [← List.take_append_drop k l, List.drop_eq_getElem_cons h]
    rw [List.flatMap_append, List.flatMap_cons, List.append_assoc]
  have h2 : (l.set k x).flatMap f = (l.take k).flatMap f ++ f x ++ (l.drop (k + 1)).flatMap f := by
    rw [List.set_eq_take_append_cons_drop, if_pos h, List.flatMap_append, List.flatMap_cons, List.append_assoc]
  rw [h2, h1]
  have h3 := setMany_mid (f x) ((l.take k).flatMap f) (f l[k]) ((l.drop (k + 1)).flatMap f) (by rw [hz, hz])
  rw [flat_len hz, List.length_take, Nat.min_eq_left (by omega)] at h3
  exact h3
/-- a field of an element of a slice that is read -/
theorem Ent.elF {L : List Assn} {α : Type} {f : α → List Value} {z : Nat} (hz : ∀ x, (f x).length = z) {l : List α} {n k j b off : Nat} {v : Value} (hr : Ent L (readS (Option.some ⟨b, off, Option.none⟩) n z (l.flatMap f))) (h : k < l.length) (hj : Nat.blt j z = true) (hv : (f l[k])[j]? = Option.some v) :
    Ent L (cellAt b (off + k * z + j) v) := by
  rw [Nat.add_assoc]
  exact Ent.elem hr rfl ((flat_get hz l k j h (by simpa [Nat.blt_eq] using hj)).trans hv)
/-- an element as a whole -/
theorem Ent.elA {L : List Assn} {α : Type} {f : α → List Value} {z : Nat} (hz : ∀ x, (f x).length = z) {l : List α} {n k b off : Nat} (hr : Ent L (readS (Option.some ⟨b, off, Option.none⟩) n z (l.flatMap f))) (h : k < l.length) :
    Ent L (cellsAt b (off + k * z) (f l[k])) := Ent.elems hr rfl (by rw [hz]; exact flat_cut hz l k h)
end Go.GL
