/- Contracts of functions of the given program, and plain laws on what they compute: parts of the proofs of laws. -/
import Derived.Test.YtkoakmaihcheaacDoorGLt
import Derived.Test.YtkoakmaihcheaacDoorR4
import Derived.Test.YtkoakmaihcheaacDoorGLo

namespace Go.Proofs.YtkoakmaihcheaacDoor
open Go Go.GL

theorem ba_app (l m : List UInt8) : ba l ++ ba m = ba (l ++ m) := by
  apply ByteArray.ext
  simp [ba]
theorem ba_appD (l : List UInt8) (s : ByteArray) : ba l ++ s = ba (l ++ s.data.toList) := by rw [← ba_app, ba_data]
/-- one bit of the check, bit by bit -/
def bitS (c : W32) : W32 := (c >>> 1) ^^^ (bif c.getLsbD 0 then 2197175160#32 else 0#32)
theorem bitS_xor (a b : W32) : bitS (a ^^^ b) = bitS a ^^^ bitS b := by
  unfold bitS
  rw [BitVec.ushiftRight_xor_distrib, BitVec.getLsbD_xor]
  generalize a >>> 1 = x
  generalize b >>> 1 = y
  cases a.getLsbD 0 <;> cases b.getLsbD 0
  · simp
  · simp only [Bool.false_bne, cond_true, cond_false, BitVec.xor_zero]; ac_rfl
  · simp only [Bool.bne_false, cond_true, cond_false, BitVec.xor_zero]; ac_rfl
  · show x ^^^ y ^^^ 0#32 = _
    rw [BitVec.xor_zero]
    show x ^^^ y = x ^^^ 2197175160#32 ^^^ (y ^^^ 2197175160#32)
    rw [show x ^^^ 2197175160#32 ^^^ (y ^^^ 2197175160#32) = x ^^^ y ^^^ (2197175160#32 ^^^ 2197175160#32) by ac_rfl, BitVec.xor_self, BitVec.xor_zero]
theorem bitS_even (c : W32) (h : c.getLsbD 0 = false) : bitS c = c >>> 1 := by unfold bitS; rw [h]; simp
def bits4 (c : W32) : W32 := bitS (bitS (bitS (bitS c)))
theorem bits4_xor (a b : W32) : bits4 (a ^^^ b) = bits4 a ^^^ bits4 b := by unfold bits4; simp only [bitS_xor]
theorem low_shr (c : W32) (n k : Nat) (h : c.getLsbD (n + k) = false) : (c >>> n).getLsbD k = false := by rw [BitVec.getLsbD_ushiftRight]; exact h
theorem bits4_hi (c : W32) (h : ∀ i, i < 4 → c.getLsbD i = false) : bits4 c = c >>> 4 := by
  unfold bits4
  rw [bitS_even c (h 0 (by decide)), bitS_even (c >>> 1) (low_shr c 1 0 (h 1 (by decide))), ← BitVec.shiftRight_add, bitS_even (c >>> (1 + 1)) (low_shr c 2 0 (h 2 (by decide))), ← BitVec.shiftRight_add,
    bitS_even (c >>> (1 + 1 + 1)) (low_shr c 3 0 (h 3 (by decide))), ← BitVec.shiftRight_add]
set_option maxRecDepth 10000 in
theorem bits4_low : ∀ k : Fin 16, bits4 (BitVec.ofNat 32 k.val) = tbl.getD k.val 0 := by decide
theorem low4 : ∀ i, i < 32 → (15#32 : W32).getLsbD i = decide (i < 4) := by decide
theorem half_bits (c : W32) : half c = bits4 c := by
  have e : c = (c &&& ~~~15#32) ^^^ (c &&& 15#32) := by
    apply BitVec.eq_of_getLsbD_eq
    intro i hi
    simp only [BitVec.getLsbD_xor, BitVec.getLsbD_and, BitVec.getLsbD_not, hi, low4 i hi]
    cases c.getLsbD i <;> cases decide (i < 4) <;> rfl
  have hlow : (c &&& 15#32).toNat < 16 := by rw [BitVec.toNat_and]; exact Nat.lt_of_le_of_lt Nat.and_le_right (by decide)
  have e1 : bits4 (c &&& 15#32) = tbl.getD (c &&& 15#32).toNat 0 := by
    have := bits4_low ⟨(c &&& 15#32).toNat, hlow⟩
    simp only [BitVec.ofNat_toNat, BitVec.setWidth_eq] at this
    exact this
  have e2 : bits4 (c &&& ~~~15#32) = c >>> 4 := by
    rw [bits4_hi]
    · apply BitVec.eq_of_getLsbD_eq
      intro i hi
      simp only [BitVec.getLsbD_ushiftRight, BitVec.getLsbD_and, BitVec.getLsbD_not]
      by_cases h : 4 + i < 32
      · rw [low4 (4 + i) h, decide_eq_false (show ¬ 4 + i < 4 by omega), decide_eq_true h]
        simp
      · rw [BitVec.getLsbD_of_ge _ _ (show 32 ≤ 4 + i by omega)]
        simp
    · intro i hi
      simp only [BitVec.getLsbD_and, BitVec.getLsbD_not, low4 i (by omega)]
      simp [hi]
  conv => rhs; rw [e, bits4_xor, e1, e2]
  rfl
/-- so many bits of the check -/
def bitN : Nat → W32 → W32
  | 0, c => c
  | n + 1, c => bitS (bitN n c)
theorem bit8 (c : W32) : bitN 8 c = half (half c) := by rw [half_bits, half_bits]; rfl
theorem bitS_int (c : W32) : ((bitS c).toNat : Int) = if (c.toNat : Int) % 2 = 1 then bitsV .xor .u32 ((c.toNat : Int) / 2) 2197175160 else (c.toNat : Int) / 2 := by
  have h1 : (c.toNat : Int) / (2 : Int) = ((c >>> 1).toNat : Int) := by rw [BitVec.toNat_ushiftRight, Nat.shiftRight_eq_div_pow]; omega
  have h2 := xor_u32 (c >>> 1) 2197175160#32
  rw [show (((2197175160#32 : W32).toNat : Nat) : Int) = 2197175160 from rfl] at h2
  rw [h1, h2]
  have h3 : c.getLsbD 0 = decide (c.toNat % 2 = 1) := by rw [← BitVec.testBit_toNat, Nat.testBit_zero]
  unfold bitS
  rw [h3]
  by_cases h : c.toNat % 2 = 1
  · rw [if_pos (by omega), decide_eq_true h]; rfl
  · rw [if_neg (by omega), decide_eq_false h]; simp
theorem byteAt_ba (l : List UInt8) (k : Nat) (h : k < l.length) : byteAt (ba l) k = (l[k].toNat : Int) := by
  unfold byteAt ba
  simp [h]

set_option maxHeartbeats 2000000 in
set_option maxRecDepth 10000 in
theorem qof_ro (l : List UInt8) (hs : l.length < 1000000) : RO G 73 [.string (ba l)] (fun _ => True) (u32V (crc l)) := by
  refine RO.enter Tryd.func73 rfl (by decide) rfl Tryd.ntmps73 rfl (fun A hu hA => ?_) (fun _ _ _ h => h)
  have hsz := ba_size l
  repeat (first | refine GO ?_ | refine NW fun _ => ?_)
  refine WC.loop (σ := Nat) (fun k => k ≤ l.length)
    (fun k => [(0, .val (.string (ba l))), (3, .val (.int .u32 ((crcF (BitVec.allOnes 32) (l.take k)).toNat : Int))), (4, .val (.int .i64 k))])
    (fun k => [A]) (fun k => l.length - k) 0 (Nat.zero_le _) ⟨rfl, rfl, rfl, trivial⟩ (Imp.refl _) ?_
  rintro k hk
  by_cases hlt : k < l.length
  rotate_left
  · have : l.take k = l := List.take_of_length_le (by omega)
    rw [this]
    have hn : (4294967295 : Int) - ((crcF (BitVec.allOnes 32) l).toNat : Int) = ((crc l).toNat : Int) := by
      unfold crc
      rw [BitVec.toNat_not]
      have := (crcF (BitVec.allOnes 32) l).isLt
      omega
    have hlt32 := (crcF (BitVec.allOnes 32) l).isLt
    generalize crcF (BitVec.allOnes 32) l = c at *
    repeat (first | refine GD ?_ | refine NW fun _ => ?_)
    rw [hn]
    exact ret1 rfl ⟨rfl, MM⟩
  have hsn : crcF (BitVec.allOnes 32) (l.take (k + 1)) = crcStep (crcF (BitVec.allOnes 32) (l.take k)) l[k] := by
    unfold crcF
    rw [List.take_succ_eq_append_getElem hlt, List.foldl_append]
    rfl
  have hby := byteAt_ba l k hlt
  generalize l[k] = x at *
  have hx8 : x.toNat < 256 := x.toNat_lt
  generalize crcF (BitVec.allOnes 32) (l.take k) = c at *
  have hby0 : 0 ≤ byteAt (ba l) k := by omega
  have hby1 : byteAt (ba l) k < 256 := by omega
  repeat (first | refine GD ?_ | refine NW fun _ => ?_)
  have hx := xor_u32 c (BitVec.ofNat 32 x.toNat)
  have hb : ((BitVec.ofNat 32 x.toNat).toNat : Int) = x.toNat := by rw [BitVec.toNat_ofNat]; omega
  rw [hb] at hx
  rw [hby, hx]
  refine WC.loop (σ := Nat) (fun j => j ≤ 8)
    (fun j => [(0, .val (.string (ba l))), (3, .val (.int .u32 ((bitN j (c ^^^ BitVec.ofNat 32 x.toNat)).toNat : Int))), (4, .val (.int .i64 k)), (5, .val (.int .i64 j))])
    (fun _ => [A]) (fun j => 8 - j) 0 (Nat.zero_le _) ⟨rfl, rfl, rfl, rfl, trivial⟩ (Imp.refl _) ?_
  rintro j hj
  by_cases hlt8 : j < 8
  rotate_left
  · have hj8 : j = 8 := by omega
    subst hj8
    rw [bit8]
    repeat (first | refine GD ?_ | refine NW fun _ => ?_)
    exact ⟨k + 1, by omega, by omega, ⟨rfl, by rw [hsn]; rfl, rfl, trivial⟩, Imp.refl _⟩
  have hbi := bitS_int (bitN j (c ^^^ BitVec.ofNat 32 x.toNat))
  have hbn : bitN (j + 1) (c ^^^ BitVec.ofNat 32 x.toNat) = bitS (bitN j (c ^^^ BitVec.ofNat 32 x.toNat)) := rfl
  rw [← hbn] at hbi
  have hlt32 := (bitN j (c ^^^ BitVec.ofNat 32 x.toNat)).isLt
  generalize bitN j (c ^^^ BitVec.ofNat 32 x.toNat) = d at *
  by_cases hodd : (d.toNat : Int) % 2 = 1
  · rw [if_pos hodd] at hbi
    repeat (first | refine GD ?_ | refine NW fun _ => ?_)
    exact ⟨j + 1, by omega, by omega, ⟨rfl, by rw [hbi]; rfl, rfl, rfl, trivial⟩, Imp.refl _⟩
  · rw [if_neg hodd] at hbi
    repeat (first | refine GD ?_ | refine NW fun _ => ?_)
    exact ⟨j + 1, by omega, by omega, ⟨rfl, by rw [hbi]; rfl, rfl, rfl, trivial⟩, Imp.refl _⟩
set_option maxHeartbeats 1000000 in
set_option maxRecDepth 10000 in
theorem qseal_ro (l : List UInt8) (hs : l.length < 100000) : RO G 55 [.string (ba l)] (fun _ => True) (.string (ba (l ++ tailM l))) := by
  refine RO.enter Tryd.func55 rfl (by decide) rfl Tryd.ntmps55 rfl (fun A hu hA => ?_) (fun _ _ _ h => h)
  have hsz := ba_size l
  repeat (first | refine GO ?_ | refine NW fun _ => ?_)
  refine WL.step rfl (OP.callRO rfl rfl (qof_ro l (by omega)) (fun _ _ => trivial) rfl rfl ?_)
  have hlt32 := (crc l).isLt
  unfold tailM
  generalize crc l = c at *
  unfold u32V
  have b0 : Value.int .u8 ((c.toNat : Int) % 256) = byteV (UInt8.ofNat (c.toNat % 256)) := by
    unfold byteV; congr 1; rw [UInt8.toNat_ofNat']; omega
  have b1 : Value.int .u8 ((c.toNat : Int) / 256 % 256) = byteV (UInt8.ofNat ((c >>> 8).toNat % 256)) := by
    unfold byteV; congr 1; rw [UInt8.toNat_ofNat', BitVec.toNat_ushiftRight, Nat.shiftRight_eq_div_pow]; omega
  have b2 : Value.int .u8 ((c.toNat : Int) / 65536 % 256) = byteV (UInt8.ofNat ((c >>> 16).toNat % 256)) := by
    unfold byteV; congr 1; rw [UInt8.toNat_ofNat', BitVec.toNat_ushiftRight, Nat.shiftRight_eq_div_pow]; omega
  have b3 : Value.int .u8 ((c.toNat : Int) / 16777216) = byteV (UInt8.ofNat ((c >>> 24).toNat % 256)) := by
    unfold byteV; congr 1; rw [UInt8.toNat_ofNat', BitVec.toNat_ushiftRight, Nat.shiftRight_eq_div_pow]; omega
  repeat (first | refine GD ?_ | refine NW fun _ => ?_)
  rw [b0, b1, b2, b3]
  refine WL.step rfl (OP.toStr (sv := ba (le4 c)) rfl rfl rfl rfl rfl rfl rfl rfl (by rw [strCells_ba]; exact Ent.own (T := 5) MM) rfl rfl ?_)
  have hs4 : (ba (le4 c)).size = 4 := rfl
  repeat (first | refine GD ?_ | refine NW fun _ => ?_)
  rw [ba_app]
  exact ret1 rfl ⟨rfl, MM⟩
set_option maxHeartbeats 1000000 in
set_option maxRecDepth 10000 in
theorem qsector_ro (l : List UInt8) (hs : l.length ≤ 60) : RO G 59 [.string (ba l)] (fun _ => True) (.tuple #[.string (ba (sectorM l)), .bool true]) := by
  refine RO.enter Tryd.func59 rfl (by decide) rfl Tryd.ntmps59 rfl (fun A hu hA => ?_) (fun _ _ _ h => h)
  have hsz := ba_size l
  repeat (first | refine GD ?_ | refine NW fun _ => ?_)
  refine WC.loop (σ := Nat) (fun k => l.length + k ≤ 60)
    (fun k => [(0, .val (.string (ba (l ++ List.replicate k 0))))])
    (fun _ => [A]) (fun k => 60 - k) 0 (by omega) ⟨by simp; rfl, trivial⟩ (Imp.refl _) ?_
  rintro k hk
  have hsz := ba_size (l ++ List.replicate k 0)
  rw [List.length_append, List.length_replicate] at hsz
  by_cases h60 : l.length + k < 60
  · have hz1 : (⟨#[0]⟩ : ByteArray).size = 1 := rfl
    repeat (first | refine GD ?_ | refine NW fun _ => ?_)
    refine ⟨k + 1, by omega, by omega, ⟨?_, trivial⟩, Imp.refl _⟩
    rw [List.replicate_succ', ← List.append_assoc, ← ba_app]
    rfl
  · have hp : l ++ List.replicate k 0 = padM l := by unfold padM; rw [show 60 - l.length = k by omega]
    rw [hp] at hsz ⊢
    have hpl := padM_len hs
    repeat (first | refine GD ?_ | refine NW fun _ => ?_)
    refine WL.step rfl (OP.callRO rfl rfl (qseal_ro (padM l) (by omega)) (fun _ _ => trivial) rfl rfl ?_)
    repeat (first | refine GD ?_ | refine NW fun _ => ?_)
    exact ret2 rfl rfl ⟨rfl, MM⟩
end Go.Proofs.YtkoakmaihcheaacDoor
