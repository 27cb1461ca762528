/- Contracts of functions of the given program, and plain laws on what they compute: parts of the proofs of laws. -/
import Derived.Test.YtkoakmaihcheaacDoorGLt
import Derived.Test.YtkoakmaihcheaacDoorR1

namespace Go.Proofs.YtkoakmaihcheaacDoor
open Go Go.GL

abbrev W32 := BitVec 32
def u32V (c : W32) : Value := .int .u32 (c.toNat : Int)
def tbl : List W32 := [0#32, 274646895#32, 549293790#32, 820201905#32, 1098587580#32, 1361435347#32, 1640403810#32, 1905808397#32, 2197175160#32, 2460548119#32, 2722870694#32, 2987750089#32, 3280807620#32, 3553878443#32, 3811616794#32, 4084100981#32]
def half (c : W32) : W32 := (c >>> 4) ^^^ (tbl.getD (c &&& 15#32).toNat 0)
def crcStep (c : W32) (x : UInt8) : W32 := half (half (c ^^^ BitVec.ofNat 32 x.toNat))
def crcF (c : W32) (l : List UInt8) : W32 := l.foldl crcStep c
def crc (l : List UInt8) : W32 := ~~~ (crcF (BitVec.allOnes 32) l)
theorem ofInt_u32 (c : W32) : BitVec.ofInt IntKind.u32.bits (c.toNat : Int) = c := by
  show BitVec.ofInt 32 (c.toNat : Int) = c
  rw [BitVec.ofInt_natCast, BitVec.ofNat_toNat, BitVec.setWidth_eq]
theorem wrap_u32 (c : W32) : IntKind.u32.wrap (c.toNat : Int) = (c.toNat : Int) := wrap_fit (k := .u32) (by have := c.isLt; unfold Fit; omega)
theorem xor_u32 (c d : W32) : bitsV .xor .u32 (c.toNat : Int) (d.toNat : Int) = ((c ^^^ d).toNat : Int) := by
  unfold bitsV
  simp only [ofInt_u32]
  exact wrap_u32 (c ^^^ d)
theorem and_u32 (c d : W32) : bitsV .and .u32 (c.toNat : Int) (d.toNat : Int) = ((c &&& d).toNat : Int) := by
  unfold bitsV
  simp only [ofInt_u32]
  exact wrap_u32 (c &&& d)
theorem shr_u32 (c : W32) (n : Nat) (hn : n ≤ 32) : shrV .u32 (c.toNat : Int) (n : Int) = ((c >>> n).toNat : Int) := by
  unfold shrV
  rw [Int.toNat_natCast, show min n IntKind.u32.bits = n from Nat.min_eq_left hn, Int.fdiv_eq_ediv_of_nonneg _ (by exact Int.le_of_lt (Int.pow_pos (by decide))), BitVec.toNat_ushiftRight, Nat.shiftRight_eq_div_pow]
  rw [Int.natCast_ediv]
  norm_cast
def tblV : List Value := [.int .u32 0, .int .u32 274646895, .int .u32 549293790, .int .u32 820201905, .int .u32 1098587580, .int .u32 1361435347, .int .u32 1640403810, .int .u32 1905808397, .int .u32 2197175160, .int .u32 2460548119, .int .u32 2722870694, .int .u32 2987750089, .int .u32 3280807620, .int .u32 3553878443, .int .u32 3811616794, .int .u32 4084100981]
theorem tbl_cells (i : Nat) (h : i < 16) : tblV[i]? = some (.int .u32 ((tbl.getD i 0).toNat : Int)) := by
  obtain rfl | rfl | rfl | rfl | rfl | rfl | rfl | rfl | rfl | rfl | rfl | rfl | rfl | rfl | rfl | rfl : i = 0 ∨ i = 1 ∨ i = 2 ∨ i = 3 ∨ i = 4 ∨ i = 5 ∨ i = 6 ∨ i = 7 ∨ i = 8 ∨ i = 9 ∨ i = 10 ∨ i = 11 ∨ i = 12 ∨ i = 13 ∨ i = 14 ∨ i = 15 := by omega
  all_goals rfl
set_option maxHeartbeats 1000000 in
set_option maxRecDepth 10000 in
theorem half_ro (c : W32) : RO G 77 [u32V c] (fun _ => True) (u32V (half c)) := by
  refine RO.enter Tryd.func77 rfl (by decide) rfl Tryd.ntmps77 rfl (fun A hu hA => ?_) (fun _ _ _ h => h)
  unfold u32V
  repeat (first | refine GO ?_ | refine NW fun _ => ?_)
  have ha := and_u32 c 15#32
  rw [show (((15#32 : W32).toNat : Nat) : Int) = 15 from rfl] at ha
  have hlt : (c &&& 15#32).toNat < 16 := by
    rw [BitVec.toNat_and]
    exact Nat.lt_of_le_of_lt Nat.and_le_right (by decide)
  have hs := shr_u32 c 4 (by decide)
  rw [show (((4 : Nat) : Int)) = 4 from rfl] at hs
  rw [ha, hs]
  repeat (first | refine GO ?_ | refine NW fun _ => ?_)
  refine WL.step rfl (OP.load1 (v := .int .u32 ((tbl.getD (c &&& 15#32).toNat 0).toNat : Int)) rfl rfl rfl rfl (Ent.blk (c := tblV) MM (by simpa using tbl_cells _ hlt)) rfl rfl ?_)
  repeat (first | refine GO ?_ | refine NW fun _ => ?_)
  rw [xor_u32]
  exact ret1 rfl ⟨rfl, MM⟩
set_option maxHeartbeats 1000000 in
set_option maxRecDepth 10000 in
theorem of_ro (a : Option Addr) (n cap : Nat) (l : List UInt8) (hn : n = l.length) (hs : n < 1000000) : RO G 68 [.slice a n cap] (readS a n 1 (l.map byteV)) (u32V (crc l)) := by
  refine RO.enter Tryd.func68 rfl (by decide) rfl Tryd.ntmps68 rfl (fun A hu hA => ?_) (up_readS _ _ _ _)
  have hE : ∀ {L}, A ∈ L → Ent L (readS a n 1 (l.map byteV)) := fun m => Ent.mem m hu hA
  repeat (first | refine GO ?_ | refine NW fun _ => ?_)
  refine WC.loop (σ := Nat) (fun k => k ≤ n)
    (fun k => [(3, .val (u32V (crcF (BitVec.allOnes 32) (l.take k)))), (6, .val (.slice a n cap)), (7, .val (.int .i64 n)), (8, .val (.int .i64 k))])
    (fun k => [A]) (fun k => n - k) 0 (Nat.zero_le _) ⟨rfl, rfl, rfl, rfl, trivial⟩ (Imp.refl _) ?_
  rintro k hk
  by_cases hlt : k < n
  rotate_left
  · have : l.take k = l := List.take_of_length_le (by omega)
    rw [this]
    unfold u32V
    repeat (first | refine GD ?_ | refine NW fun _ => ?_)
    have hx := xor_u32 (BitVec.allOnes 32) (crcF (BitVec.allOnes 32) l)
    have e : (if IntKind.u32.signed = true then (-1 : Int) else IntKind.u32.max) = ((BitVec.allOnes 32).toNat : Int) := rfl
    rw [e, hx, BitVec.allOnes_xor]
    exact ret1 rfl ⟨rfl, MM⟩
  have hl1 : k < l.length := by omega
  have hsn : crcF (BitVec.allOnes 32) (l.take (k + 1)) = crcStep (crcF (BitVec.allOnes 32) (l.take k)) l[k] := by
    unfold crcF
    rw [List.take_succ_eq_append_getElem hl1, List.foldl_append]
    rfl
  generalize crcF (BitVec.allOnes 32) (l.take k) = c at *
  unfold u32V
  repeat (first | refine GD ?_ | refine NW fun _ => ?_)
  refine WL.fact (Ent.some (hE MM) (by omega)) ?_
  rintro ⟨b, off, rfl⟩
  repeat (first | refine GD ?_ | refine NW fun _ => ?_)
  refine WL.step rfl (OP.load1 (v := byteV l[k]) rfl rfl rfl rfl (Ent.elem (i := k * 1) (hE MM) rfl (by simp [hl1])) rfl rfl ?_)
  generalize l[k] = x at *
  have hx8 : x.toNat < 256 := x.toNat_lt
  unfold byteV
  repeat (first | refine GD ?_ | refine NW fun _ => ?_)
  have hx := xor_u32 c (BitVec.ofNat 32 x.toNat)
  have hb : ((BitVec.ofNat 32 x.toNat).toNat : Int) = x.toNat := by rw [BitVec.toNat_ofNat]; omega
  rw [hb] at hx
  rw [hx]
  refine WL.step rfl (OP.callRO rfl rfl (half_ro _) (fun _ _ => trivial) rfl rfl ?_)
  repeat (first | refine GD ?_ | refine NW fun _ => ?_)
  refine WL.step rfl (OP.callRO rfl rfl (half_ro _) (fun _ _ => trivial) rfl rfl ?_)
  repeat (first | refine GD ?_ | refine NW fun _ => ?_)
  exact ⟨k + 1, by omega, by omega, ⟨by rw [hsn]; rfl, rfl, rfl, rfl, trivial⟩, Imp.refl _⟩
def le4 (c : W32) : List UInt8 := [UInt8.ofNat (c.toNat % 256), UInt8.ofNat ((c >>> 8).toNat % 256), UInt8.ofNat ((c >>> 16).toNat % 256), UInt8.ofNat ((c >>> 24).toNat % 256)]
def tailM (l : List UInt8) : List UInt8 := le4 (crc l)
theorem byte_u32 (c : W32) : Value.int .u8 (IntKind.u8.wrap (c.toNat : Int)) = byteV (UInt8.ofNat (c.toNat % 256)) := by
  unfold byteV
  rw [wrap_u8]
  congr 1
  rw [UInt8.toNat_ofNat']
  omega
def BytesNew (l : List UInt8) (v : Value) (E : List Assn) : Prop := ∃ a cap, v = .slice a l.length cap ∧ E = [ownS a l.length cap 5 1 (l.map byteV)]
set_option maxHeartbeats 1000000 in
set_option maxRecDepth 10000 in
theorem tail_ok (a : Option Addr) (n cap : Nat) (l : List UInt8) (hn : n = l.length) (hs : n < 1000000) : RT G 47 [.slice a n cap] (readS a n 1 (l.map byteV)) (BytesNew (tailM l)) := by
  refine RT.enter Tryd.func47 rfl (by decide) rfl Tryd.ntmps47 rfl (fun A hu hA => ?_)
  have hE : ∀ {L}, A ∈ L → Ent L (readS a n 1 (l.map byteV)) := fun m => Ent.mem m hu hA
  repeat (first | refine GO ?_ | refine NW fun _ => ?_)
  refine WL.step rfl (OP.callRO rfl rfl (of_ro a n cap l hn hs) (hE MM) rfl rfl ?_)
  unfold tailM
  generalize crc l = c
  unfold u32V
  have h8 := shr_u32 c 8 (by decide)
  have h16 := shr_u32 c 16 (by decide)
  have h24 := shr_u32 c 24 (by decide)
  rw [show (((8 : Nat) : Int)) = 8 from rfl] at h8
  rw [show (((16 : Nat) : Int)) = 16 from rfl] at h16
  rw [show (((24 : Nat) : Int)) = 24 from rfl] at h24
  repeat (first | refine GO ?_ | refine NW fun _ => ?_)
  rw [h8, h16, h24, byte_u32, byte_u32, byte_u32, byte_u32]
  exact ret1 rfl ⟨[_], ⟨_, _, rfl, rfl⟩, II⟩
end Go.Proofs.YtkoakmaihcheaacDoor
