/-
  The law RecordTurned holds: whatever the input, the Go function returns true, and each argument reads as it did. Conditions: none beyond the statement's own.
-/
import Derived.Test.YtkoakmaihcheaacDoorZRT2
import Derived.Test.YtkoakmaihcheaacDoorZRT1
import Derived.Test.YtkoakmaihcheaacDoorRows
import Derived.Test.YtkoakmaihcheaacDoorTie
import Derived.Test.YtkoakmaihcheaacDoorCards
import Derived.ChangeSame
import Derived.ChangeVars
import Derived.JoinedOf
import Derived.RowKit
import Derived.RowKitTokens
import Derived.LaidLaws
import Derived.LaidHandle
import Derived.Stop.Joined
import Derived.SevenTiedAt
/- Contracts of functions of the given program, and plain laws on what they compute: parts of the proofs of laws. -/

namespace Go.Proofs.YtkoakmaihcheaacDoor
open Go Go.GL

theorem ba_app (l m : List UInt8) : ba l ++ ba m = ba (l ++ m) := by
  apply ByteArray.ext
  simp [ba]
theorem ba_appD (l : List UInt8) (s : ByteArray) : ba l ++ s = ba (l ++ s.data.toList) := by rw [← ba_app, ba_data]
/-- one bit of the check, bit by bit -/
def bitS (c : W32) : W32 := (c >>> 1) ^^^ (bif c.getLsbD 0 then 2197175160#32 else 0#32)
theorem bitS_xor (a b : W32) : bitS (a ^^^ b) = bitS a ^^^ bitS b := by
  unfold bitS
  rw [BitVec.ushiftRight_xor_distrib, BitVec.getLsbD_xor]
  generalize a >>> 1 = x
  generalize b >>> 1 = y
  cases a.getLsbD 0 <;> cases b.getLsbD 0
  · simp
  · simp only [Bool.false_bne, cond_true, cond_false, BitVec.xor_zero]; ac_rfl
  · simp only [Bool.bne_false, cond_true, cond_false, BitVec.xor_zero]; ac_rfl
  · show x ^^^ y ^^^ 0#32 = _
    rw [BitVec.xor_zero]
    show x ^^^ y = x ^^^ 2197175160#32 ^^^ (y ^^^ 2197175160#32)
    rw [show x ^^^ 2197175160#32 ^^^ (y ^^^ 2197175160#32) = x ^^^ y ^^^ (2197175160#32 ^^^ 2197175160#32) by ac_rfl, BitVec.xor_self, BitVec.xor_zero]
theorem bitS_even (c : W32) (h : c.getLsbD 0 = false) : bitS c = c >>> 1 := by unfold bitS; rw [h]; simp
def bits4 (c : W32) : W32 := bitS (bitS (bitS (bitS c)))
theorem bits4_xor (a b : W32) : bits4 (a ^^^ b) = bits4 a ^^^ bits4 b := by unfold bits4; simp only [bitS_xor]
theorem low_shr (c : W32) (n k : Nat) (h : c.getLsbD (n + k) = false) : (c >>> n).getLsbD k = false := by rw [BitVec.getLsbD_ushiftRight]; exact h
theorem bits4_hi (c : W32) (h : ∀ i, i < 4 → c.getLsbD i = false) : bits4 c = c >>> 4 := by
  unfold bits4
  rw [bitS_even c (h 0 (by decide)), bitS_even (c >>> 1) (low_shr c 1 0 (h 1 (by decide))), ← BitVec.shiftRight_add, bitS_even (c >>> (1 + 1)) (low_shr c 2 0 (h 2 (by decide))), ← BitVec.shiftRight_add,
    bitS_even (c >>> (1 + 1 + 1)) (low_shr c 3 0 (h 3 (by decide))), ← BitVec.shiftRight_add]
set_option maxRecDepth 10000 in
theorem bits4_low : ∀ k : Fin 16, bits4 (BitVec.ofNat 32 k.val) = tbl.getD k.val 0 := by decide
theorem low4 : ∀ i, i < 32 → (15#32 : W32).getLsbD i = decide (i < 4) := by decide
theorem half_bits (c : W32) : half c = bits4 c := by
  have e : c = (c &&& ~~~15#32) ^^^ (c &&& 15#32) := by
    apply BitVec.eq_of_getLsbD_eq
    intro i hi
    simp only [BitVec.getLsbD_xor, BitVec.getLsbD_and, BitVec.getLsbD_not, hi, low4 i hi]
    cases c.getLsbD i <;> cases decide (i < 4) <;> rfl
  have hlow : (c &&& 15#32).toNat < 16 := by rw [BitVec.toNat_and]; exact Nat.lt_of_le_of_lt Nat.and_le_right (by decide)
  have e1 : bits4 (c &&& 15#32) = tbl.getD (c &&& 15#32).toNat 0 := by
    have := bits4_low ⟨(c &&& 15#32).toNat, hlow⟩
    simp only [BitVec.ofNat_toNat, BitVec.setWidth_eq] at this
    exact this
  have e2 : bits4 (c &&& ~~~15#32) = c >>> 4 := by
    rw [bits4_hi]
    · apply BitVec.eq_of_getLsbD_eq
      intro i hi
      simp only [BitVec.getLsbD_ushiftRight, BitVec.getLsbD_and, BitVec.getLsbD_not]
      by_cases h : 4 + i < 32
      · rw [low4 (4 + i) h, decide_eq_false (show ¬ 4 + i < 4 by omega), decide_eq_true h]
        simp
      · rw [BitVec.getLsbD_of_ge _ _ (show 32 ≤ 4 + i by omega)]
        simp
    · intro i hi
      simp only [BitVec.getLsbD_and, BitVec.getLsbD_not, low4 i (by omega)]
      simp [hi]
  conv => rhs; rw [e, bits4_xor, e1, e2]
  rfl
/-- so many bits of the check -/
def bitN : Nat → W32 → W32
  | 0, c => c
  | n + 1, c => bitS (bitN n c)
theorem bit8 (c : W32) : bitN 8 c = half (half c) := by rw [half_bits, half_bits]; rfl
theorem bitS_int (c : W32) : ((bitS c).toNat : Int) = if (c.toNat : Int) % 2 = 1 then bitsV .xor .u32 ((c.toNat : Int) / 2) 2197175160 else (c.toNat : Int) / 2 := by
  have h1 : (c.toNat : Int) / (2 : Int) = ((c >>> 1).toNat : Int) := by rw [BitVec.toNat_ushiftRight, Nat.shiftRight_eq_div_pow]; omega
  have h2 := xor_u32 (c >>> 1) 2197175160#32
  rw [show (((2197175160#32 : W32).toNat : Nat) : Int) = 2197175160 from rfl] at h2
  rw [h1, h2]
  have h3 : c.getLsbD 0 = decide (c.toNat % 2 = 1) := by rw [← BitVec.testBit_toNat, Nat.testBit_zero]
  unfold bitS
  rw [h3]
  by_cases h : c.toNat % 2 = 1
  · rw [if_pos (by omega), decide_eq_true h]; rfl
  · rw [if_neg (by omega), decide_eq_false h]; simp
theorem byteAt_ba (l : List UInt8) (k : Nat) (h : k < l.length) : byteAt (ba l) k = (l[k].toNat : Int) := by
  unfold byteAt ba
  simp [h]

set_option maxHeartbeats 2000000 in
set_option maxRecDepth 10000 in
theorem qof_ro (l : List UInt8) (hs : l.length < 1000000) : RO G 73 [.string (ba l)] (fun _ => True) (u32V (crc l)) := by
  refine RO.enter Tryd.func73 rfl (by decide) rfl Tryd.ntmps73 rfl (fun A hu hA => ?_) (fun _ _ _ h => h)
  have hsz := ba_size l
  repeat (first | refine GO ?_ | refine NW fun _ => ?_)
  refine WC.loop (σ := Nat) (fun k => k ≤ l.length)
    (fun k => [(0, .val (.string (ba l))), (3, .val (.int .u32 ((crcF (BitVec.allOnes 32) (l.take k)).toNat : Int))), (4, .val (.int .i64 k))])
    (fun k => [A]) (fun k => l.length - k) 0 (Nat.zero_le _) ⟨rfl, rfl, rfl, trivial⟩ (Imp.refl _) ?_
  rintro k hk
  by_cases hlt : k < l.length
  rotate_left
  · have : l.take k = l := List.take_of_length_le (by omega)
    rw [this]
    have hn : (4294967295 : Int) - ((crcF (BitVec.allOnes 32) l).toNat : Int) = ((crc l).toNat : Int) := by
      unfold crc
      rw [BitVec.toNat_not]
      have := (crcF (BitVec.allOnes 32) l).isLt
      omega
    have hlt32 := (crcF (BitVec.allOnes 32) l).isLt
    generalize crcF (BitVec.allOnes 32) l = c at *
    repeat (first | refine GD ?_ | refine NW fun _ => ?_)
    rw [hn]
    exact ret1 rfl ⟨rfl, MM⟩
  have hsn : crcF (BitVec.allOnes 32) (l.take (k + 1)) = crcStep (crcF (BitVec.allOnes 32) (l.take k)) l[k] := by
    unfold crcF
    rw [List.take_succ_eq_append_getElem hlt, List.foldl_append]
    rfl
  have hby := byteAt_ba l k hlt
  generalize l[k] = x at *
  have hx8 : x.toNat < 256 := x.toNat_lt
  generalize crcF (BitVec.allOnes 32) (l.take k) = c at *
  have hby0 : 0 ≤ byteAt (ba l) k := by omega
  have hby1 : byteAt (ba l) k < 256 := by omega
  repeat (first | refine GD ?_ | refine NW fun _ => ?_)
  have hx := xor_u32 c (BitVec.ofNat 32 x.toNat)
  have hb : ((BitVec.ofNat 32 x.toNat).toNat : Int) = x.toNat := by rw [BitVec.toNat_ofNat]; omega
  rw [hb] at hx
  rw [hby, hx]
  refine WC.loop (σ := Nat) (fun j => j ≤ 8)
    (fun j => [(0, .val (.string (ba l))), (3, .val (.int .u32 ((bitN j (c ^^^ BitVec.ofNat 32 x.toNat)).toNat : Int))), (4, .val (.int .i64 k)), (5, .val (.int .i64 j))])
    (fun _ => [A]) (fun j => 8 - j) 0 (Nat.zero_le _) ⟨rfl, rfl, rfl, rfl, trivial⟩ (Imp.refl _) ?_
  rintro j hj
  by_cases hlt8 : j < 8
  rotate_left
  · have hj8 : j = 8 := by omega
    subst hj8
    rw [bit8]
    repeat (first | refine GD ?_ | refine NW fun _ => ?_)
    exact ⟨k + 1, by omega, by omega, ⟨rfl, by rw [hsn]; rfl, rfl, trivial⟩, Imp.refl _⟩
  have hbi := bitS_int (bitN j (c ^^^ BitVec.ofNat 32 x.toNat))
  have hbn : bitN (j + 1) (c ^^^ BitVec.ofNat 32 x.toNat) = bitS (bitN j (c ^^^ BitVec.ofNat 32 x.toNat)) := rfl
  rw [← hbn] at hbi
  have hlt32 := (bitN j (c ^^^ BitVec.ofNat 32 x.toNat)).isLt
  generalize bitN j (c ^^^ BitVec.ofNat 32 x.toNat) = d at *
  by_cases hodd : (d.toNat : Int) % 2 = 1
  · rw [if_pos hodd] at hbi
    repeat (first | refine GD ?_ | refine NW fun _ => ?_)
    exact ⟨j + 1, by omega, by omega, ⟨rfl, by rw [hbi]; rfl, rfl, rfl, trivial⟩, Imp.refl _⟩
  · rw [if_neg hodd] at hbi
    repeat (first | refine GD ?_ | refine NW fun _ => ?_)
    exact ⟨j + 1, by omega, by omega, ⟨rfl, by rw [hbi]; rfl, rfl, rfl, trivial⟩, Imp.refl _⟩
set_option maxHeartbeats 1000000 in
set_option maxRecDepth 10000 in
theorem qseal_ro (l : List UInt8) (hs : l.length < 100000) : RO G 55 [.string (ba l)] (fun _ => True) (.string (ba (l ++ tailM l))) := by
  refine RO.enter Tryd.func55 rfl (by decide) rfl Tryd.ntmps55 rfl (fun A hu hA => ?_) (fun _ _ _ h => h)
  have hsz := ba_size l
  repeat (first | refine GO ?_ | refine NW fun _ => ?_)
  refine WL.step rfl (OP.callRO rfl rfl (qof_ro l (by omega)) (fun _ _ => trivial) rfl rfl ?_)
  have hlt32 := (crc l).isLt
  unfold tailM
  generalize crc l = c at *
  unfold u32V
  have b0 : Value.int .u8 ((c.toNat : Int) % 256) = byteV (UInt8.ofNat (c.toNat % 256)) := by
    unfold byteV; congr 1; rw [UInt8.toNat_ofNat']; omega
  have b1 : Value.int .u8 ((c.toNat : Int) / 256 % 256) = byteV (UInt8.ofNat ((c >>> 8).toNat % 256)) := by
    unfold byteV; congr 1; rw [UInt8.toNat_ofNat', BitVec.toNat_ushiftRight, Nat.shiftRight_eq_div_pow]; omega
  have b2 : Value.int .u8 ((c.toNat : Int) / 65536 % 256) = byteV (UInt8.ofNat ((c >>> 16).toNat % 256)) := by
    unfold byteV; congr 1; rw [UInt8.toNat_ofNat', BitVec.toNat_ushiftRight, Nat.shiftRight_eq_div_pow]; omega
  have b3 : Value.int .u8 ((c.toNat : Int) / 16777216) = byteV (UInt8.ofNat ((c >>> 24).toNat % 256)) := by
    unfold byteV; congr 1; rw [UInt8.toNat_ofNat', BitVec.toNat_ushiftRight, Nat.shiftRight_eq_div_pow]; omega
  repeat (first | refine GD ?_ | refine NW fun _ => ?_)
  rw [b0, b1, b2, b3]
  refine WL.step rfl (OP.toStr (sv := ba (le4 c)) rfl rfl rfl rfl rfl rfl rfl rfl (by rw [strCells_ba]; exact Ent.own (T := 5) MM) rfl rfl ?_)
  have hs4 : (ba (le4 c)).size = 4 := rfl
  repeat (first | refine GD ?_ | refine NW fun _ => ?_)
  rw [ba_app]
  exact ret1 rfl ⟨rfl, MM⟩
set_option maxHeartbeats 1000000 in
set_option maxRecDepth 10000 in
theorem qsector_ro (l : List UInt8) (hs : l.length ≤ 60) : RO G 59 [.string (ba l)] (fun _ => True) (.tuple #[.string (ba (sectorM l)), .bool true]) := by
  refine RO.enter Tryd.func59 rfl (by decide) rfl Tryd.ntmps59 rfl (fun A hu hA => ?_) (fun _ _ _ h => h)
  have hsz := ba_size l
  repeat (first | refine GD ?_ | refine NW fun _ => ?_)
  refine WC.loop (σ := Nat) (fun k => l.length + k ≤ 60)
    (fun k => [(0, .val (.string (ba (l ++ List.replicate k 0))))])
    (fun _ => [A]) (fun k => 60 - k) 0 (by omega) ⟨by simp; rfl, trivial⟩ (Imp.refl _) ?_
  rintro k hk
  have hsz := ba_size (l ++ List.replicate k 0)
  rw [List.length_append, List.length_replicate] at hsz
  by_cases h60 : l.length + k < 60
  · have hz1 : (⟨#[0]⟩ : ByteArray).size = 1 := rfl
    repeat (first | refine GD ?_ | refine NW fun _ => ?_)
    refine ⟨k + 1, by omega, by omega, ⟨?_, trivial⟩, Imp.refl _⟩
    rw [List.replicate_succ', ← List.append_assoc, ← ba_app]
    rfl
  · have hp : l ++ List.replicate k 0 = padM l := by unfold padM; rw [show 60 - l.length = k by omega]
    rw [hp] at hsz ⊢
    have hpl := padM_len hs
    repeat (first | refine GD ?_ | refine NW fun _ => ?_)
    refine WL.step rfl (OP.callRO rfl rfl (qseal_ro (padM l) (by omega)) (fun _ _ => trivial) rfl rfl ?_)
    repeat (first | refine GD ?_ | refine NW fun _ => ?_)
    exact ret2 rfl rfl ⟨rfl, MM⟩
end Go.Proofs.YtkoakmaihcheaacDoor
/- Contracts of functions of the given program, and plain laws on what they compute: parts of the proofs of laws. -/

namespace Go.Proofs.YtkoakmaihcheaacDoor
open Go Go.GL

def bodyM (gen : Int) (r : Rec) : List UInt8 :=
  numB (clampN gen) ++ numB (clampN r.1) ++ numB (clampN r.2.1) ++ (if r.2.1 = 1 then numB (clampN r.2.2.1) ++ textB r.2.2.2.1 else numB (clampN r.2.2.2.2))
theorem numB_small {x : Int} (h : 0 ≤ x ∧ x < 128) : (numB (clampN x)).length = 1 := by
  rw [numB_lt (by unfold clampN widest; omega)]; rfl
theorem bodyM_len {gen : Int} {r : Rec} (h : RightR r) : (bodyM gen r).length ≤ 60 := by
  have h1 := numB_nine gen
  have h2 := numB_nine r.1
  have h3 := numB_nine r.2.2.2.2
  unfold bodyM
  rcases h.2 with ⟨hk, _⟩ | ⟨hk, hb, hs, _⟩
  · have h4 := numB_small (x := r.2.1) (by omega)
    rw [if_neg (by omega)]
    simp only [List.length_append]
    omega
  · have h4 := numB_small (x := r.2.1) (by omega)
    have h5 := numB_small (x := r.2.2.1) (by omega)
    have h6 := numB_lt (n := r.2.2.2.1.size) (by omega)
    have h7 : r.2.2.2.1.data.toList.length = r.2.2.2.1.size := Array.length_toList
    rw [if_pos hk]
    unfold textB
    rw [h6]
    simp only [List.length_append, List.length_singleton]
    omega
def recW : ByteArray := ⟨#[114, 101, 99, 111, 114, 100]⟩
def EncPost (gen : Int) (r : Rec) (v : Value) (E : List Assn) : Prop :=
  if RightR r ∧ (0 ≤ gen ∧ gen ≤ widest) then ∃ v1, v = .tuple #[v1, .nilIface] ∧ BytesNew (sectorM (bodyM gen r)) v1 E
  else ∃ e, v = .tuple #[.slice none 0 0, e] ∧ Fault recW r.1 1 e E
set_option maxHeartbeats 4000000 in
set_option maxRecDepth 10000 in
theorem encode_ok (gen : Int) (r : Rec) (hsz : r.2.2.2.1.size < 1000000) : RT G 11 [.int .i64 gen, .agg (encR r).toArray] (fun _ => True) (EncPost gen r) := by
  refine RT.enter Tryd.func11 rfl (by decide) rfl Tryd.ntmps11 rfl (fun A hu hA => ?_)
  have hright := right_ro r hsz
  have hbl := bodyM_len (gen := gen) (r := r)
  obtain ⟨seq, kind, block, data, num⟩ := r
  dsimp only at hsz ⊢
  rw [show encR (seq, kind, block, data, num) = [.int .i64 seq, .int .i64 kind, .int .i64 block, .string data, .int .i64 num] from rfl] at hright ⊢
  repeat (first | refine GO ?_ | refine NW fun _ => ?_)
  rename_i q
  refine WL.step rfl (OP.callRO rfl rfl hright (fun _ _ => trivial) rfl rfl ?_)
  by_cases hr : RightR (seq, kind, block, data, num)
  rotate_left
  · rw [decide_eq_false hr]
    repeat (first | refine GD ?_ | refine NW fun _ => ?_)
    refine WL.step rfl (OP.call (pre := []) (F := _) rfl rfl (wrap_ok _ _ _ (by decide)) (Imp.refl _) rfl rfl ?_)
    rintro v' E ⟨b', rfl, rfl⟩
    repeat (first | refine GD ?_ | refine NW fun _ => ?_)
    refine ret2 rfl rfl ⟨[_], ?_, II⟩
    unfold EncPost
    rw [if_neg (by intro h; first | exact hr h.1 | exact hg h.2)]
    exact ⟨_, rfl, _, rfl, rfl⟩
  rw [decide_eq_true hr]
  repeat (first | refine GD ?_ | refine NW fun _ => ?_)
  refine WL.guardT rfl rfl rfl rfl (OP.callRO rfl rfl (num_ro gen 0) (fun _ _ => trivial) rfl rfl ?_)
  by_cases hg : 0 ≤ gen ∧ gen ≤ widest
  rotate_left
  · rw [decide_eq_false hg]
    repeat (first | refine GD ?_ | refine NW fun _ => ?_)
    refine WL.step rfl (OP.call (pre := []) (F := _) rfl rfl (wrap_ok _ _ _ (by decide)) (Imp.refl _) rfl rfl ?_)
    rintro v' E ⟨b', rfl, rfl⟩
    repeat (first | refine GD ?_ | refine NW fun _ => ?_)
    refine ret2 rfl rfl ⟨[_], ?_, II⟩
    unfold EncPost
    rw [if_neg (by intro h; first | exact hr h.1 | exact hg h.2)]
    exact ⟨_, rfl, _, rfl, rfl⟩
  rw [decide_eq_true hg]
  have hbl := hbl hr
  have hg9 := numB_nine gen
  have hs9 := numB_nine seq
  have hk9 := numB_nine kind
  repeat (first | refine GD ?_ | refine NW fun _ => ?_)
  refine RD 8 9 (_) ?_
  refine WW 0 ?_
  refine WW 2 ?_; refine WW 3 ?_
  refine WW 5 ?_; refine WW 6 ?_
  refine WH.only 1 rfl rfl (by kernel_rfl) rfl (OP.call (pre := [ownS none 0 0 5 1 (([] : List UInt8).map byteV)]) rfl rfl (number_ok none 0 0 [] gen (by omega)) (Imp.nilS 5 1) rfl rfl (fun v M hM => ?_))
  obtain ⟨a1, cap1, rfl, rfl⟩ := hM
  refine ⟨fun _ => II, ?_⟩
  refine WH.only 4 rfl rfl (by kernel_rfl) rfl (OP.call (pre := [ownS a1 _ cap1 5 1 _]) rfl rfl (number_ok a1 _ cap1 _ seq (by omega)) PS rfl rfl (fun v M hM => ?_))
  obtain ⟨a2, cap2, rfl, rfl⟩ := hM
  refine ⟨fun _ => II, ?_⟩
  refine WH.only 7 rfl rfl (by kernel_rfl) rfl (OP.call (pre := [ownS a2 _ cap2 5 1 _]) rfl rfl (number_ok a2 _ cap2 _ kind (by omega)) PS rfl rfl (fun v M hM => ?_))
  obtain ⟨a3, cap3, rfl, rfl⟩ := hM
  refine ⟨fun _ => II, ?_⟩
  refine WW 8 ?_
  refine DN ?_
  by_cases h1 : kind = 1
  · have hb : (0 ≤ block ∧ block < 8) ∧ data.size ≤ 16 := by
      have h2 := hr.2
      dsimp only at h2
      rcases h2 with h2 | h2
      · omega
      · exact ⟨h2.2.1, h2.2.2.1⟩
    have hb1 := numB_small (x := block) (by omega)
    repeat (first | refine GD ?_ | refine NW fun _ => ?_)
    refine RD 7 8 ([blk q [.int .i64 seq, .int .i64 kind, .int .i64 block, .string data, .int .i64 num] 42]) ?_
    refine WW 0 ?_; refine WW 1 ?_; refine WW 2 ?_
    refine WW 4 ?_; refine WW 5 ?_
    refine WH.only 3 rfl rfl (by kernel_rfl) rfl (OP.call (pre := [ownS a3 _ cap3 5 1 _]) rfl rfl (number_ok a3 _ cap3 _ block (by omega)) PS rfl rfl (fun v M hM => ?_))
    obtain ⟨a4, cap4, rfl, rfl⟩ := hM
    refine ⟨fun _ => II, ?_⟩
    refine WH.only 6 rfl rfl (by kernel_rfl) rfl (OP.call (pre := [ownS a4 _ cap4 5 1 _]) rfl rfl (text_ok a4 _ cap4 _ data (by omega) (by omega)) PS rfl rfl (fun v M hM => ?_))
    obtain ⟨a5, cap5, rfl, rfl⟩ := hM
    refine ⟨fun _ => II, ?_⟩
    refine WW 7 ?_
    refine DN ?_
    have hbody : bodyM gen (seq, kind, block, data, num) = [] ++ numB (clampN gen) ++ numB (clampN seq) ++ numB (clampN kind) ++ numB (clampN block) ++ textB data := by
      unfold bodyM
      dsimp only
      rw [if_pos h1, List.nil_append, List.append_assoc (numB (clampN gen) ++ numB (clampN seq) ++ numB (clampN kind))]
    have hlen : (bodyM gen (seq, kind, block, data, num)).length = 0 + (numB (clampN gen)).length + (numB (clampN seq)).length + (numB (clampN kind)).length + (numB (clampN block)).length + (textB data).length := by
      rw [hbody]; simp only [List.length_append, List.length_nil]
    repeat (first | refine GD ?_ | refine NW fun _ => ?_)
    refine WL.step rfl (OP.callRT rfl rfl (sector_ok a5 _ cap5 (bodyM gen (seq, kind, block, data, num)) (by rw [hlen]) (by omega)) (Ent.own (T := 5) (by rw [hbody]; exact MM)) rfl rfl ?_)
    rintro v E ⟨v1, rfl, a6, cap6, rfl, rfl⟩
    repeat (first | refine GD ?_ | refine NW fun _ => ?_)
    refine ret2 rfl rfl ⟨[_], ?_, II⟩
    unfold EncPost
    rw [if_pos ⟨hr, hg⟩]
    exact ⟨_, rfl, a6, cap6, rfl, rfl⟩
  · repeat (first | refine GD ?_ | refine NW fun _ => ?_)
    refine WL.step rfl (OP.call (pre := [ownS a3 _ cap3 5 1 _]) rfl rfl (number_ok a3 _ cap3 _ num (by omega)) PS rfl rfl ?_)
    rintro _ _ ⟨a5, cap5, rfl, rfl⟩
    have hbody : bodyM gen (seq, kind, block, data, num) = [] ++ numB (clampN gen) ++ numB (clampN seq) ++ numB (clampN kind) ++ numB (clampN num) := by
      unfold bodyM
      dsimp only
      rw [if_neg h1, List.nil_append]
    have hlen : (bodyM gen (seq, kind, block, data, num)).length = 0 + (numB (clampN gen)).length + (numB (clampN seq)).length + (numB (clampN kind)).length + (numB (clampN num)).length := by
      rw [hbody]; simp only [List.length_append, List.length_nil]
    repeat (first | refine GD ?_ | refine NW fun _ => ?_)
    refine WL.step rfl (OP.callRT rfl rfl (sector_ok a5 _ cap5 (bodyM gen (seq, kind, block, data, num)) (by rw [hlen]) (by omega)) (Ent.own (T := 5) (by rw [hbody]; exact MM)) rfl rfl ?_)
    rintro v E ⟨v1, rfl, a6, cap6, rfl, rfl⟩
    repeat (first | refine GD ?_ | refine NW fun _ => ?_)
    refine ret2 rfl rfl ⟨[_], ?_, II⟩
    unfold EncPost
    rw [if_pos ⟨hr, hg⟩]
    exact ⟨_, rfl, a6, cap6, rfl, rfl⟩
end Go.Proofs.YtkoakmaihcheaacDoor
/- Contracts of functions of the given program, and plain laws on what they compute: parts of the proofs of laws. -/

namespace Go.Proofs.YtkoakmaihcheaacDoor
open Go Go.GL

theorem ofNat_toNat {n : Nat} (h : n < 256) : (UInt8.ofNat n).toNat = n := by rw [UInt8.toNat_ofNat']; omega
theorem numB_inj : ∀ (k n m : Nat) (a b : List UInt8), n ≤ k → numB n ++ a = numB m ++ b → n = m ∧ a = b := by
  intro k
  induction k with
  | zero =>
    intro n m a b hn h
    obtain rfl : n = 0 := by omega
    rw [numB_lt (by omega)] at h
    by_cases hm : m < 128
    · rw [numB_lt hm, List.singleton_append, List.singleton_append, List.cons.injEq] at h
      have := congrArg UInt8.toNat h.1
      rw [ofNat_toNat (by omega), ofNat_toNat (by omega)] at this
      exact ⟨this, h.2⟩
    · rw [numB_ge hm, List.singleton_append, List.cons_append, List.cons.injEq] at h
      have := congrArg UInt8.toNat h.1
      rw [ofNat_toNat (by omega), ofNat_toNat (by omega)] at this
      omega
  | succ k ih =>
    intro n m a b hn h
    by_cases hn' : n < 128
    · rw [numB_lt hn'] at h
      by_cases hm : m < 128
      · rw [numB_lt hm, List.singleton_append, List.singleton_append, List.cons.injEq] at h
        have := congrArg UInt8.toNat h.1
        rw [ofNat_toNat (by omega), ofNat_toNat (by omega)] at this
        exact ⟨this, h.2⟩
      · rw [numB_ge hm, List.singleton_append, List.cons_append, List.cons.injEq] at h
        have := congrArg UInt8.toNat h.1
        rw [ofNat_toNat (by omega), ofNat_toNat (by omega)] at this
        omega
    · rw [numB_ge hn'] at h
      by_cases hm : m < 128
      · rw [numB_lt hm, List.singleton_append, List.cons_append, List.cons.injEq] at h
        have := congrArg UInt8.toNat h.1
        rw [ofNat_toNat (by omega), ofNat_toNat (by omega)] at this
        omega
      · rw [numB_ge hm, List.cons_append, List.cons_append, List.cons.injEq] at h
        have h1 := congrArg UInt8.toNat h.1
        rw [ofNat_toNat (by omega), ofNat_toNat (by omega)] at h1
        have h2 := ih (n / 128) (m / 128) a b (by omega) h.2
        exact ⟨by omega, h2.2⟩
theorem clamp_inj {x y : Int} (hx : 0 ≤ x ∧ x ≤ widest) (hy : 0 ≤ y ∧ y ≤ widest) (h : clampN x = clampN y) : x = y := by unfold clampN at h; omega
theorem body_inj {g o : Int} {r s : Rec} {a b : List UInt8} (hr : RightR r) (hs : RightR s) (hg : 0 ≤ g ∧ g ≤ widest) (ho : 0 ≤ o ∧ o ≤ widest) (h : bodyM g r ++ a = bodyM o s ++ b) : g = o ∧ r = s := by
  obtain ⟨s1, k1, b1, d1, n1⟩ := r
  obtain ⟨s2, k2, b2, d2, n2⟩ := s
  obtain ⟨hs1, hc1⟩ := hr
  obtain ⟨hs2, hc2⟩ := hs
  have hw : (8 : Int) ≤ widest := by decide
  dsimp only at hs1 hs2 hc1 hc2
  unfold bodyM at h
  dsimp only at h
  simp only [List.append_assoc] at h
  obtain ⟨e1, h1⟩ := numB_inj _ _ _ _ _ (Nat.le_refl _) h
  obtain ⟨e2, h2⟩ := numB_inj _ _ _ _ _ (Nat.le_refl _) h1
  obtain ⟨e3, h3⟩ := numB_inj _ _ _ _ _ (Nat.le_refl _) h2
  clear h h1 h2
  have e1 := clamp_inj hg ho e1
  have e2 := clamp_inj (by omega) (by omega) e2
  have e3 := clamp_inj (by omega) (by omega) e3
  subst e1 e2 e3
  refine ⟨rfl, ?_⟩
  by_cases hk : k1 = 1
  · rw [if_pos hk, if_pos hk] at h3
    simp only [List.append_assoc] at h3
    obtain ⟨e4, h4⟩ := numB_inj _ _ _ _ _ (Nat.le_refl _) h3
    have e4 := clamp_inj (by omega) (by omega) e4
    unfold textB at h4
    simp only [List.append_assoc] at h4
    obtain ⟨e5, h5⟩ := numB_inj _ _ _ _ _ (Nat.le_refl _) h4
    have l1 : d1.data.toList.length = d1.size := Array.length_toList
    have l2 : d2.data.toList.length = d2.size := Array.length_toList
    have e6 := List.append_inj_left h5 (by rw [l1, l2, e5])
    have e7 : d1 = d2 := by rw [← ba_data d1, e6, ba_data]
    subst e4 e7
    have : n1 = n2 := by omega
    rw [this]
  · rw [if_neg hk, if_neg hk] at h3
    obtain ⟨e4, _⟩ := numB_inj _ _ _ _ _ (Nat.le_refl _) h3
    have hc1 := hc1.resolve_right (fun x => hk x.1)
    have hc2 := hc2.resolve_right (fun x => hk x.1)
    have e4 := clamp_inj (by omega) (by omega) e4
    rw [e4, hc1.2.2.2, hc2.2.2.2, hc1.2.2.1, hc2.2.2.1]
theorem sector_inj {g o : Int} {r s : Rec} (hr : RightR r) (hs : RightR s) (hg : 0 ≤ g ∧ g ≤ widest) (ho : 0 ≤ o ∧ o ≤ widest) (h : sectorM (bodyM g r) = sectorM (bodyM o s)) : g = o ∧ r = s := by
  unfold sectorM at h
  have h1 := List.append_inj_left h (by rw [padM_len (bodyM_len hr), padM_len (bodyM_len hs)])
  unfold padM at h1
  exact body_inj hr hs hg ho h1
def recFs : List Field := [⟨"Seq", 3, 0, false, "", "", 0⟩, ⟨"Kind", 3, 1, false, "", "", 8⟩, ⟨"Block", 3, 2, false, "", "", 16⟩, ⟨"Data", 9, 3, false, "", "", 24⟩, ⟨"Number", 3, 4, false, "", "", 40⟩]
theorem eq_rec (r s : Rec) : eqFs G.T (encR r) (encR s) recFs = some (decide (r = s)) := by
  obtain ⟨s1, k1, b1, d1, n1⟩ := r
  obtain ⟨s2, k2, b2, d2, n2⟩ := s
  have : eqFs G.T (encR (s1, k1, b1, d1, n1)) (encR (s2, k2, b2, d2, n2)) recFs = some (decide (s1 = s2) && (decide (k1 = k2) && (decide (b1 = b2) && (decide (d1 = d2) && (decide (n1 = n2) && true))))) := rfl
  rw [this]
  simp [Prod.mk.injEq, Bool.decide_and]
theorem ba_inj {a b : List UInt8} (h : ba a = ba b) : a = b := by
  unfold ba at h
  have := ByteArray.mk.inj h
  simpa using this
end Go.Proofs.YtkoakmaihcheaacDoor
/- Contracts of functions of the given program, and plain laws on what they compute: parts of the proofs of laws. -/

namespace Go.Proofs.YtkoakmaihcheaacDoor
open Go Go.GL

/-- what is left to read, and what was wrong -/
abbrev PR := List UInt8 × Int
def rdN : Nat → Nat → List UInt8 → Except Int (Nat × List UInt8)
  | _, _, [] => .error 2
  | i, n, c :: t =>
    if (i = 8 ∧ (128 ≤ c.toNat ∨ widest < ((n + c.toNat % 128 * 128 ^ i : Nat) : Int))) ∨ (0 < i ∧ c.toNat = 0) then .error 1
    else if c.toNat < 128 then .ok (n + c.toNat % 128 * 128 ^ i, t)
    else rdN (i + 1) (n + c.toNat % 128 * 128 ^ i) t
theorem rdN_cons (i n : Nat) (c : UInt8) (t : List UInt8) : rdN i n (c :: t) =
    if (i = 8 ∧ (128 ≤ c.toNat ∨ widest < ((n + c.toNat % 128 * 128 ^ i : Nat) : Int))) ∨ (0 < i ∧ c.toNat = 0) then .error 1
    else if c.toNat < 128 then .ok (n + c.toNat % 128 * 128 ^ i, t)
    else rdN (i + 1) (n + c.toNat % 128 * 128 ^ i) t := rfl
def numR (s : PR) : Int × PR :=
  if s.2 ≠ 0 then (0, s) else match rdN 0 0 s.1 with
    | .ok (n, t) => ((n : Int), (t, 0))
    | .error e => (0, ([], e))
def RdPost (r : Nat) (A : Assn) (x : Value) (s : PR) (v : Value) (M : List Assn) : Prop := v = x ∧ ∃ v', Bytes A s.1 v' ∧ M = [blk r [v', .int .i64 s.2] 107, A]
theorem bytes_nil (A : Assn) : Bytes A [] (.slice none 0 0) := ⟨none, 0, 0, rfl, rfl, Nat.le_refl _, fun _ _ => ⟨rfl, .inl ⟨rfl, rfl⟩⟩⟩
set_option maxRecDepth 10000 in
theorem err_ro (r : Nat) (v : Value) (e : Int) : RO G 29 [.pointer (some ⟨r, 0, none⟩)] (cellsAt r 0 [v, .int .i64 e]) (.int .i64 e) := by
  refine RO.enter Tryd.func29 rfl (by decide) rfl Tryd.ntmps29 rfl (fun A hu hA => ?_) (up_cellsAt _ _ _)
  repeat (first | refine GO ?_ | refine NW fun _ => ?_)
  refine WL.step rfl (OP.load1 (v := .int .i64 e) rfl rfl rfl rfl (Ent.mem (A := A) MM hu (fun h x => cellsAt_one (i := 1) (hA h x) rfl)) rfl rfl ?_)
  repeat (first | refine GO ?_ | refine NW fun _ => ?_)
  exact ret1 rfl ⟨rfl, MM⟩
set_option maxRecDepth 10000 in
theorem wrong5_ok (r : Nat) (A : Assn) (v : Value) (e code : Int) : Triple G 69 [.pointer (some ⟨r, 0, none⟩), .int .i64 code] [blk r [v, .int .i64 e] 107, A] (RdPost r A (.int .i64 0) ([], code)) := by
  refine Triple.enter Tryd.func69 rfl (by decide) rfl Tryd.ntmps69 rfl (fun F => ?_)
  repeat (first | refine GO ?_ | refine NW fun _ => ?_)
  exact ret1 rfl ⟨_, ⟨rfl, _, bytes_nil A, rfl⟩, Imp.refl _⟩
set_option maxRecDepth 10000 in
theorem andnot_small : ∀ z : Fin 256, bitsV .andNot .u8 (z.val : Int) 128 = ((z.val % 128 : Nat) : Int) := by decide
theorem andnot_byte (c : UInt8) : bitsV .andNot .u8 (c.toNat : Int) 128 = ((c.toNat % 128 : Nat) : Int) := andnot_small ⟨c.toNat, c.toNat_lt⟩
theorem pow128 (i : Nat) (h : i ≤ 8) : (128 : Nat) ^ i ≤ 128 ^ 8 := Nat.pow_le_pow_right (by decide) h
theorem shl_num (x i : Nat) (hx : x < 128) (hi : i ≤ 8) : shlV .i64 (x : Int) (7 * (i : Int)) = ((x * 128 ^ i : Nat) : Int) := by
  have hp := pow128 i hi
  have h1 : x * 128 ^ i ≤ 127 * 128 ^ 8 := Nat.mul_le_mul (by omega) hp
  have e : (2 : Int) ^ (min (7 * (i : Int)).toNat IntKind.i64.bits) = ((128 ^ i : Nat) : Int) := by
    have : min (7 * (i : Int)).toNat IntKind.i64.bits = 7 * i := by
      show min (7 * (i : Int)).toNat 64 = 7 * i
      omega
    rw [this, show (128 : Nat) ^ i = 2 ^ (7 * i) by rw [Nat.pow_mul], Int.natCast_pow]
    rfl
  unfold shlV
  rw [e, ← Int.natCast_mul]
  exact wrap_fit (k := .i64) (by unfold Fit; omega)
theorem or_num (n x i : Nat) (hn : n < 128 ^ i) (hx : x < 128) (hi : i ≤ 8) : bitsV .or .i64 (n : Int) ((x * 128 ^ i : Nat) : Int) = ((n + x * 128 ^ i : Nat) : Int) := by
  have hp := pow128 i hi
  have h1 : x * 128 ^ i ≤ 127 * 128 ^ 8 := Nat.mul_le_mul (by omega) hp
  have hor : n ||| x * 128 ^ i = n + x * 128 ^ i := by
    have e : (128 : Nat) ^ i = 2 ^ (7 * i) := by rw [Nat.pow_mul]
    rw [e] at hn ⊢
    have := Nat.shiftLeft_add_eq_or_of_lt hn x
    rw [Nat.shiftLeft_eq] at this
    rw [Nat.or_comm, ← this, Nat.add_comm]
  unfold bitsV
  show IntKind.i64.wrap (((BitVec.ofInt 64 (n : Int)) ||| (BitVec.ofInt 64 ((x * 128 ^ i : Nat) : Int))).toNat : Int) = _
  rw [BitVec.ofInt_natCast, BitVec.ofInt_natCast, BitVec.toNat_or, BitVec.toNat_ofNat, BitVec.toNat_ofNat, Nat.mod_eq_of_lt (by omega), Nat.mod_eq_of_lt (by omega), hor]
  exact wrap_fit (k := .i64) (by unfold Fit; omega)
end Go.Proofs.YtkoakmaihcheaacDoor
/- Contracts of functions of the given program, and plain laws on what they compute: parts of the proofs of laws. -/

namespace Go.Proofs.YtkoakmaihcheaacDoor
open Go Go.GL

def numF : Except Int (Nat × List UInt8) → Int × PR
  | .ok (n, t) => ((n : Int), (t, 0))
  | .error e => (0, ([], e))
theorem numR_zero (l : List UInt8) : numR (l, 0) = numF (rdN 0 0 l) := by
  unfold numR numF
  cases rdN 0 0 l <;> rfl
theorem numR_err {s : PR} (h : s.2 ≠ 0) : numR s = (0, s) := by unfold numR; rw [if_pos h]
set_option maxHeartbeats 4000000 in
set_option maxRecDepth 10000 in
theorem numR_ok (r : Nat) (v : Value) (s : PR) (A : Assn) (hu : Up A) (hv : Bytes A s.1 v) (hl : s.1.length < 1000000) :
    Triple G 49 [.pointer (some ⟨r, 0, none⟩)] [blk r [v, .int .i64 s.2] 107, A] (RdPost r A (.int .i64 (numR s).1) (numR s).2) := by
  refine Triple.enter Tryd.func49 rfl (by decide) rfl Tryd.ntmps49 rfl (fun F => ?_)
  obtain ⟨l, e⟩ := s
  dsimp only at hv hl ⊢
  repeat (first | refine GO ?_ | refine NW fun _ => ?_)
  refine WL.step rfl (OP.callRO rfl rfl (err_ro r v e) (Ent.whole (T := 107) MM) rfl rfl ?_)
  by_cases he : e = 0
  rotate_left
  · rw [numR_err he]
    repeat (first | refine GD ?_ | refine NW fun _ => ?_)
    exact ret1 rfl ⟨_, ⟨rfl, v, hv, rfl⟩, Imp.refl _⟩
  subst he
  rw [numR_zero]
  obtain ⟨a, n, c, rfl, hn, hc, hr⟩ := hv
  have hE : ∀ {L}, A ∈ L → Ent L (readS a n 1 (l.map byteV)) := fun m => Ent.mem m hu hr
  generalize hF : rdN 0 0 l = R
  repeat (first | refine GD ?_ | refine NW fun _ => ?_)
  refine WC.loop (σ := Nat × Nat) (fun s => s.1 ≤ 8 ∧ s.1 ≤ n ∧ s.2 < 128 ^ s.1 ∧ rdN s.1 s.2 (l.drop s.1) = R)
    (fun s => [(0, .val (.pointer (some ⟨r, 0, none⟩))), (3, .val (.int .i64 s.2)), (12, .val (.slice a n c)), (13, .val (.int .i64 n)), (14, .val (.int .i64 s.1))])
    (fun _ => [blk r [.slice a n c, .int .i64 0] 107, A, F]) (fun s => n - s.1) (0, 0) ⟨by simp, by simp, by simp, hF⟩ ⟨rfl, rfl, rfl, rfl, rfl, trivial⟩ II ?_
  rintro ⟨i, m⟩ ⟨hi8, hin, hm, hR⟩
  dsimp only at hi8 hin hm hR ⊢
  by_cases hlt : i < n
  rotate_left
  · rw [List.drop_eq_nil_of_le (by omega)] at hR
    subst hR
    repeat (first | refine GD ?_ | refine NW fun _ => ?_)
    refine WL.step rfl (OP.call (pre := [blk r [.slice a n c, .int .i64 0] 107, A]) rfl rfl (wrong5_ok r A _ 0 2) PS rfl rfl ?_)
    rintro _ _ ⟨rfl, v', hv', rfl⟩
    repeat (first | refine GD ?_ | refine NW fun _ => ?_)
    exact ret1 rfl ⟨_, ⟨rfl, v', hv', rfl⟩, Imp.refl _⟩
  have hl1 : i < l.length := by omega
  rw [List.drop_eq_getElem_cons hl1, rdN_cons] at hR
  repeat (first | refine GD ?_ | refine NW fun _ => ?_)
  refine WL.fact (Ent.some (hE MM) (by omega)) ?_
  rintro ⟨b, off, rfl⟩
  repeat (first | refine GD ?_ | refine NW fun _ => ?_)
  refine WL.step rfl (OP.load1 (v := byteV l[i]) rfl rfl rfl rfl (Ent.elem (i := i * 1) (hE MM) rfl (by simp [hl1])) rfl rfl ?_)
  generalize l[i] = x at *
  have hx8 : x.toNat < 256 := x.toNat_lt
  unfold byteV
  have hx128 : x.toNat % 128 < 128 := by omega
  have hbits : bitsV .or .i64 (m : Int) (shlV .i64 (IntKind.i64.wrap (bitsV .andNot .u8 (x.toNat : Int) 128)) (7 * (i : Int))) = ((m + x.toNat % 128 * 128 ^ i : Nat) : Int) := by
    rw [andnot_byte, wrap_fit (k := .i64) (show Fit .i64 _ by unfold Fit; omega), shl_num _ _ hx128 hi8, or_num _ _ _ hm hx128 hi8]
  have hm2 : m + x.toNat % 128 * 128 ^ i < 128 ^ (i + 1) := by
    have h1 : x.toNat % 128 * 128 ^ i ≤ 127 * 128 ^ i := Nat.mul_le_mul_right _ (by omega)
    rw [Nat.pow_succ]
    omega
  have hp8 := pow128 i hi8
  have h127 : x.toNat % 128 * 128 ^ i ≤ 127 * 128 ^ 8 := Nat.mul_le_mul (by omega) hp8
  generalize hmm : m + x.toNat % 128 * 128 ^ i = m2 at *
  by_cases h8 : i = 8
  · by_cases hc1 : 128 ≤ x.toNat
    · rw [if_pos (by omega)] at hR
      repeat (first | refine GD ?_ | refine NW fun _ => ?_)
      refine WL.step rfl (OP.call (pre := [blk r [.slice (some ⟨b, off, none⟩) n c, .int .i64 0] 107, A]) rfl rfl (wrong5_ok r A _ 0 1) PS rfl rfl ?_)
      rintro _ _ ⟨rfl, v', hv', rfl⟩
      repeat (first | refine GD ?_ | refine NW fun _ => ?_)
      subst hR
      exact ret1 rfl ⟨_, ⟨rfl, v', hv', rfl⟩, Imp.refl _⟩
    · by_cases hw : widest < (m2 : Int)
      · rw [if_pos (by omega)] at hR
        repeat (first | refine GD ?_ | refine NW fun _ => ?_)
        rw [hbits, decide_eq_true (show (1152921504606846975 : Int) < (m2 : Int) from hw)]
        repeat (first | refine GD ?_ | refine NW fun _ => ?_)
        refine WL.step rfl (OP.call (pre := [blk r [.slice (some ⟨b, off, none⟩) n c, .int .i64 0] 107, A]) rfl rfl (wrong5_ok r A _ 0 1) PS rfl rfl ?_)
        rintro _ _ ⟨rfl, v', hv', rfl⟩
        repeat (first | refine GD ?_ | refine NW fun _ => ?_)
        subst hR
        exact ret1 rfl ⟨_, ⟨rfl, v', hv', rfl⟩, Imp.refl _⟩
      · by_cases hz : x.toNat = 0
        · rw [if_pos (by omega)] at hR
          repeat (first | refine GD ?_ | refine NW fun _ => ?_)
          rw [hbits, decide_eq_false (show ¬ (1152921504606846975 : Int) < (m2 : Int) from hw)]
          repeat (first | refine GD ?_ | refine NW fun _ => ?_)
          refine WL.step rfl (OP.call (pre := [blk r [.slice (some ⟨b, off, none⟩) n c, .int .i64 0] 107, A]) rfl rfl (wrong5_ok r A _ 0 1) PS rfl rfl ?_)
          rintro _ _ ⟨rfl, v', hv', rfl⟩
          repeat (first | refine GD ?_ | refine NW fun _ => ?_)
          subst hR
          exact ret1 rfl ⟨_, ⟨rfl, v', hv', rfl⟩, Imp.refl _⟩
        · rw [if_neg (by omega), if_pos (by omega)] at hR
          have hlt8 : x.toNat < 128 := by omega
          repeat (first | refine GD ?_ | refine NW fun _ => ?_)
          rw [hbits, decide_eq_false (show ¬ (1152921504606846975 : Int) < (m2 : Int) from hw)]
          repeat (first | refine GD ?_ | refine NW fun _ => ?_)
          subst hR
          refine ret1 rfl ⟨_, ⟨rfl, _, ⟨_, _, _, rfl, ?_, ?_, ?_⟩, rfl⟩, Imp.refl _⟩
          · dsimp only [numF]; rw [List.length_drop]; omega
          · omega
          · intro h hh
            have := readS_cut (i := i + 1) (hr h hh) (by omega) hc
            rw [Nat.mul_one, ← List.map_drop] at this
            exact this
  · by_cases hi0 : 0 < i
    · by_cases hz : x.toNat = 0
      · rw [if_pos (by omega)] at hR
        repeat (first | refine GD ?_ | refine NW fun _ => ?_)
        refine WL.step rfl (OP.call (pre := [blk r [.slice (some ⟨b, off, none⟩) n c, .int .i64 0] 107, A]) rfl rfl (wrong5_ok r A _ 0 1) PS rfl rfl ?_)
        rintro _ _ ⟨rfl, v', hv', rfl⟩
        repeat (first | refine GD ?_ | refine NW fun _ => ?_)
        subst hR
        exact ret1 rfl ⟨_, ⟨rfl, v', hv', rfl⟩, Imp.refl _⟩
      · by_cases hc1 : x.toNat < 128
        · rw [if_neg (by omega), if_pos (by omega)] at hR
          repeat (first | refine GD ?_ | refine NW fun _ => ?_)
          rw [hbits]
          subst hR
          refine ret1 rfl ⟨_, ⟨rfl, _, ⟨_, _, _, rfl, ?_, ?_, ?_⟩, rfl⟩, Imp.refl _⟩
          · dsimp only [numF]; rw [List.length_drop]; omega
          · omega
          · intro h hh
            have := readS_cut (i := i + 1) (hr h hh) (by omega) hc
            rw [Nat.mul_one, ← List.map_drop] at this
            exact this
        · rw [if_neg (by omega), if_neg (by omega)] at hR
          repeat (first | refine GD ?_ | refine NW fun _ => ?_)
          rw [hbits]
          exact ⟨(i + 1, m2), ⟨by dsimp only; omega, by dsimp only; omega, hm2, hR⟩, by dsimp only; omega, ⟨rfl, rfl, rfl, rfl, rfl, trivial⟩, Imp.refl _⟩
    · by_cases hc1 : x.toNat < 128
      · rw [if_neg (by omega), if_pos (by omega)] at hR
        repeat (first | refine GD ?_ | refine NW fun _ => ?_)
        rw [hbits]
        subst hR
        refine ret1 rfl ⟨_, ⟨rfl, _, ⟨_, _, _, rfl, ?_, ?_, ?_⟩, rfl⟩, Imp.refl _⟩
        · dsimp only [numF]; rw [List.length_drop]; omega
        · omega
        · intro h hh
          have := readS_cut (i := i + 1) (hr h hh) (by omega) hc
          rw [Nat.mul_one, ← List.map_drop] at this
          exact this
      · rw [if_neg (by omega), if_neg (by omega)] at hR
        repeat (first | refine GD ?_ | refine NW fun _ => ?_)
        rw [hbits]
        exact ⟨(i + 1, m2), ⟨by dsimp only; omega, by dsimp only; omega, hm2, hR⟩, by dsimp only; omega, ⟨rfl, rfl, rfl, rfl, rfl, trivial⟩, Imp.refl _⟩
end Go.Proofs.YtkoakmaihcheaacDoor
/- Contracts of functions of the given program, and plain laws on what they compute: parts of the proofs of laws. -/
namespace Go.Proofs.YtkoakmaihcheaacDoor
open Go Go.GL

theorem rdN_rest : ∀ (l : List UInt8) (i n : Nat) (m : Nat) (t : List UInt8), rdN i n l = .ok (m, t) → t.length ≤ l.length ∧ (i ≤ 8 → n < 128 ^ i → (m : Int) < 128 ^ 9)
  | [], i, n, m, t, h => by cases h
  | c :: r, i, n, m, t, h => by
    have hc8 : c.toNat < 256 := c.toNat_lt
    have h1 : c.toNat % 128 * 128 ^ i ≤ 127 * 128 ^ i := Nat.mul_le_mul_right _ (by omega)
    rw [rdN_cons] at h
    split at h
    · cases h
    · rename_i hC
      split at h
      · cases h
        refine ⟨by simp, fun hi hn => ?_⟩
        have := pow128 i hi
        omega
      · have ih := rdN_rest r (i + 1) _ m t h
        refine ⟨by simp only [List.length_cons]; omega, fun hi hn => ih.2 (by omega) (by rw [Nat.pow_succ]; omega)⟩
theorem numR_bd (s : PR) : (numR s).2.1.length ≤ s.1.length ∧ 0 ≤ (numR s).1 ∧ (numR s).1 < 128 ^ 9 := by
  by_cases he : s.2 = 0
  · obtain ⟨l, e⟩ := s
    obtain rfl : e = 0 := he
    rw [numR_zero]
    cases h : rdN 0 0 l with
    | ok x => obtain ⟨m, t⟩ := x; have := rdN_rest l 0 0 m t h; exact ⟨this.1, by simp [numF], this.2 (by omega) (by simp)⟩
    | error e => simp [numF]
  · rw [numR_err he]; exact ⟨Nat.le_refl _, Int.le_refl _, (by decide : (0 : Int) < 128 ^ 9)⟩
theorem rdN_numB : ∀ (k n i acc : Nat) (rest : List UInt8), n ≤ k → i ≤ 8 → ((acc + n * 128 ^ i : Nat) : Int) ≤ widest → (0 < i → n ≠ 0) → rdN i acc (numB n ++ rest) = .ok (acc + n * 128 ^ i, rest) := by
  intro k
  induction k with
  | zero =>
    intro n i acc rest hk hi hw hz
    obtain rfl : n = 0 := by omega
    rw [numB_lt (by omega), List.singleton_append, rdN_cons, ofNat_toNat (by omega)]
    rw [if_neg (by omega), if_pos (by omega)]
  | succ k ih =>
    intro n i acc rest hk hi hw hz
    by_cases hn : n < 128
    · rw [numB_lt hn, List.singleton_append, rdN_cons, ofNat_toNat (by omega), Nat.mod_eq_of_lt hn]
      rw [if_neg (by omega), if_pos hn]
    · have hp : 0 < 128 ^ i := Nat.pow_pos (by omega)
      have hsplit : n * 128 ^ i = n % 128 * 128 ^ i + n / 128 * 128 ^ (i + 1) := by
        have h1 : n = n % 128 + n / 128 * 128 := by omega
        conv => lhs; rw [h1]
        rw [Nat.add_mul, Nat.pow_succ, Nat.mul_assoc (n / 128), Nat.mul_comm 128]
      have hi8 : i ≠ 8 := by
        intro e
        subst e
        have : 128 * 128 ^ 8 ≤ n * 128 ^ 8 := Nat.mul_le_mul_right _ (by omega)
        unfold widest at hw
        omega
      rw [numB_ge hn, List.cons_append, rdN_cons, ofNat_toNat (by omega), show (n % 128 + 128) % 128 = n % 128 by omega]
      rw [if_neg (by omega), if_neg (by omega), ih (n / 128) (i + 1) _ rest (by omega) (by omega) (by rw [hsplit] at hw; omega) (by omega), hsplit, Nat.add_assoc]
theorem numR_numB {x : Int} (hx : 0 ≤ x ∧ x ≤ widest) (rest : List UInt8) : numR (numB (clampN x) ++ rest, 0) = (x, (rest, 0)) := by
  have hc : (clampN x : Int) = x := by unfold clampN; omega
  rw [numR_zero, rdN_numB _ _ 0 0 rest (Nat.le_refl _) (by omega) (by rw [Nat.pow_zero, Nat.mul_one, Nat.zero_add, hc]; exact hx.2) (by omega)]
  simp only [numF, Nat.pow_zero, Nat.mul_one, Nat.zero_add, hc]
theorem rdN_wide : ∀ (l : List UInt8) (i n : Nat) {m : Nat} {t : List UInt8}, i ≤ 8 → n < 128 ^ i → rdN i n l = .ok (m, t) → (m : Int) ≤ widest
  | [], _, _, _, _, _, _, h => by cases h
  | c :: l, i, n, m, t, hi, hn, h => by
    rw [rdN_cons] at h
    split at h
    · cases h
    · rename_i hc
      have h127 : c.toNat % 128 * 128 ^ i ≤ 127 * 128 ^ i := Nat.mul_le_mul_right _ (by omega)
      have hlt : n + c.toNat % 128 * 128 ^ i < 128 ^ (i + 1) := by rw [Nat.pow_succ]; omega
      split at h
      · cases h
        by_cases h8 : i = 8
        · have : ¬ widest < ((n + c.toNat % 128 * 128 ^ i : Nat) : Int) := fun h => hc (.inl ⟨h8, .inr h⟩)
          omega
        · have : (128 : Nat) ^ (i + 1) ≤ 128 ^ 8 := Nat.pow_le_pow_right (by decide) (by omega)
          unfold widest
          omega
      · rename_i hc2
        have : ¬ i = 8 := fun h8 => hc (.inl ⟨h8, .inl (by omega)⟩)
        exact rdN_wide l (i + 1) _ (by omega) hlt h
theorem numR_wide (s : PR) : 0 ≤ (numR s).1 ∧ (numR s).1 ≤ widest := by
  refine ⟨(numR_bd s).2.1, ?_⟩
  by_cases he : s.2 = 0
  · obtain ⟨l, e⟩ := s
    obtain rfl : e = 0 := he
    rw [numR_zero]
    cases h : rdN 0 0 l with
    | ok x => obtain ⟨m, t⟩ := x; exact rdN_wide l 0 0 (by omega) (by simp) h
    | error e => simp [numF, widest]
  · rw [numR_err he]; simp [widest]
theorem rdN_inv : ∀ (l : List UInt8) (i n : Nat) {m : Nat} {t : List UInt8}, rdN i n l = .ok (m, t) → ∃ d, m = n + d * 128 ^ i ∧ l = numB d ++ t ∧ (0 < i → d ≠ 0)
  | [], _, _, _, _, h => by cases h
  | c :: l, i, n, m, t, h => by
    have hc8 : c.toNat < 256 := c.toNat_lt
    rw [rdN_cons] at h
    split at h
    · cases h
    · rename_i hc
      split at h
      · rename_i h128
        cases h
        refine ⟨c.toNat, by rw [Nat.mod_eq_of_lt h128], ?_, fun hi h0 => hc (.inr ⟨hi, h0⟩)⟩
        rw [numB_lt h128]
        simp
      · rename_i h128
        obtain ⟨d, e1, e2, e3⟩ := rdN_inv l (i + 1) _ h
        have hd := e3 (by omega)
        refine ⟨c.toNat % 128 + 128 * d, ?_, ?_, fun _ => by omega⟩
        · rw [e1, Nat.pow_succ, Nat.add_mul, Nat.add_assoc, Nat.mul_comm 128 d, Nat.mul_assoc, Nat.mul_comm 128 (128 ^ i)]
        · rw [numB_ge (by omega), e2]
          have h1 : (c.toNat % 128 + 128 * d) % 128 + 128 = c.toNat := by omega
          have h2 : (c.toNat % 128 + 128 * d) / 128 = d := by omega
          rw [h1, h2]
          simp
theorem rdN_err : ∀ (l : List UInt8) (i n : Nat) {e : Int}, rdN i n l = .error e → e ≠ 0
  | [], _, _, _, h => by cases h; decide
  | c :: l, i, n, e, h => by
    rw [rdN_cons] at h
    split at h
    · cases h; decide
    · split at h
      · cases h
      · exact rdN_err l _ _ h
/-- what was read without a fault stood there -/
theorem numR_inv {s : PR} (h : (numR s).2.2 = 0) : s.2 = 0 ∧ s.1 = numB (clampN (numR s).1) ++ (numR s).2.1 ∧ 0 ≤ (numR s).1 ∧ (numR s).1 ≤ widest := by
  obtain ⟨l, e⟩ := s
  by_cases he : e = 0
  · subst he
    rw [numR_zero] at h ⊢
    cases hr : rdN 0 0 l with
    | ok x =>
      obtain ⟨m, t⟩ := x
      obtain ⟨d, e1, e2, _⟩ := rdN_inv l 0 0 hr
      have hw := rdN_wide l 0 0 (by decide) (by decide) hr
      have hd : d = m := by simp at e1; omega
      subst hd
      refine ⟨rfl, ?_, by simp [numF], by simpa [numF] using hw⟩
      dsimp only [numF]
      rw [clamp_nat _ hw, e2]
    | error e =>
      rw [hr] at h
      exact absurd h (rdN_err l 0 0 hr)
  · rw [numR_err he] at h
    exact absurd h he
set_option maxRecDepth 10000 in
theorem read0_ok (a : Option Addr) (n c : Nat) : RT G 27 [.slice a n c] (fun _ => True) (fun x E => ∃ r, x = .pointer (some ⟨r, 0, none⟩) ∧ E = [blk r [.slice a n c, .int .i64 0] 107]) := by
  refine RT.enter Tryd.func27 rfl (by decide) rfl Tryd.ntmps27 rfl (fun A _ hA => ?_)
  repeat (first | refine GO ?_ | refine NW fun _ => ?_)
  exact ret1 rfl ⟨[_], ⟨_, rfl, rfl⟩, Imp.refl _⟩
end Go.Proofs.YtkoakmaihcheaacDoor
/- Contracts of functions of the given program, and plain laws on what they compute: parts of the proofs of laws. -/

namespace Go.Proofs.YtkoakmaihcheaacDoor
open Go Go.GL

def textR (most : Int) (s : PR) : ByteArray × PR :=
  if (numR s).2.2 ≠ 0 then (⟨#[]⟩, (numR s).2)
  else if most < (numR s).1 then (⟨#[]⟩, ([], 1))
  else if ((numR s).2.1.length : Int) < (numR s).1 then (⟨#[]⟩, ([], 2))
  else (ba ((numR s).2.1.take (numR s).1.toNat), ((numR s).2.1.drop (numR s).1.toNat, (numR s).2.2))
set_option maxHeartbeats 1000000 in
set_option maxRecDepth 10000 in
theorem textR_ok (r : Nat) (v : Value) (s : PR) (A : Assn) (hu : Up A) (hv : Bytes A s.1 v) (hl : s.1.length < 1000000) (most : Int) :
    Triple G 50 [.pointer (some ⟨r, 0, none⟩), .int .i64 most] [blk r [v, .int .i64 s.2] 107, A] (RdPost r A (.string (textR most s).1) (textR most s).2) := by
  refine Triple.enter Tryd.func50 rfl (by decide) rfl Tryd.ntmps50 rfl (fun F => ?_)
  repeat (first | refine GO ?_ | refine NW fun _ => ?_)
  refine WL.step rfl (OP.call (pre := [blk r [v, .int .i64 s.2] 107, A]) rfl rfl (numR_ok r v s A hu hv hl) PS rfl rfl ?_)
  rintro _ _ ⟨rfl, v', hv', rfl⟩
  have hbd := numR_bd s
  unfold textR
  generalize numR s = y at *
  obtain ⟨x, l, e⟩ := y
  dsimp only at hbd hv' ⊢
  repeat (first | refine GD ?_ | refine NW fun _ => ?_)
  refine WL.step rfl (OP.callRO rfl rfl (err_ro r v' e) (Ent.whole (T := 107) MM) rfl rfl ?_)
  by_cases he : e = 0
  rotate_left
  · rw [if_pos he]
    repeat (first | refine GD ?_ | refine NW fun _ => ?_)
    exact ret1 rfl ⟨_, ⟨rfl, v', hv', rfl⟩, Imp.refl _⟩
  subst he
  rw [if_neg (by simp)]
  by_cases h1 : most < x
  · rw [if_pos h1]
    repeat (first | refine GD ?_ | refine NW fun _ => ?_)
    refine WL.step rfl (OP.call (pre := [blk r [v', .int .i64 0] 107, A]) rfl rfl (wrong5_ok r A _ 0 1) PS rfl rfl ?_)
    rintro _ _ ⟨rfl, v2, hv2, rfl⟩
    repeat (first | refine GD ?_ | refine NW fun _ => ?_)
    exact ret1 rfl ⟨_, ⟨rfl, v2, hv2, rfl⟩, Imp.refl _⟩
  rw [if_neg h1]
  obtain ⟨a, n, c, rfl, hn, hc, hr⟩ := hv'
  by_cases h2 : (l.length : Int) < x
  · rw [if_pos h2]
    repeat (first | refine GD ?_ | refine NW fun _ => ?_)
    refine WL.step rfl (OP.call (pre := [blk r [.slice a n c, .int .i64 0] 107, A]) rfl rfl (wrong5_ok r A _ 0 2) PS rfl rfl ?_)
    rintro _ _ ⟨rfl, v2, hv2, rfl⟩
    repeat (first | refine GD ?_ | refine NW fun _ => ?_)
    exact ret1 rfl ⟨_, ⟨rfl, v2, hv2, rfl⟩, Imp.refl _⟩
  rw [if_neg h2]
  repeat (first | refine GD ?_ | refine NW fun _ => ?_)
  refine WL.step rfl (OP.toStr (sv := ba (l.take x.toNat)) rfl rfl rfl rfl rfl rfl rfl rfl (by rw [strCells_ba, List.map_take]; exact Ent.mem MM hu (fun h hh => by have := readS_take (m := x.toNat) (hr h hh) (by omega); rwa [Nat.mul_one] at this)) rfl rfl ?_)
  repeat (first | refine GD ?_ | refine NW fun _ => ?_)
  refine ret1 rfl ⟨_, ⟨rfl, _, ⟨_, _, _, rfl, ?_, ?_, ?_⟩, rfl⟩, Imp.refl _⟩
  · rw [List.length_drop]; omega
  · omega
  · intro h hh
    have := readS_cut (i := x.toNat) (hr h hh) (by omega) hc
    rw [Nat.mul_one, ← List.map_drop] at this
    exact this
theorem textR_len (most : Int) (s : PR) : (textR most s).2.1.length ≤ s.1.length := by
  have := numR_bd s
  unfold textR
  split
  · exact this.1
  · split
    · simp
    · split
      · simp
      · simp only [List.length_drop]; omega
def readM (s : PR) : (Int × Rec) × PR :=
  if (numR (numR (numR s).2).2).1 = 1 then
    (((numR s).1, ((numR (numR s).2).1, (numR (numR (numR s).2).2).1, (numR (numR (numR (numR s).2).2).2).1, (textR 16 (numR (numR (numR (numR s).2).2).2).2).1, 0)), (textR 16 (numR (numR (numR (numR s).2).2).2).2).2)
  else (((numR s).1, ((numR (numR s).2).1, (numR (numR (numR s).2).2).1, 0, ⟨#[]⟩, (numR (numR (numR (numR s).2).2).2).1)), (numR (numR (numR (numR s).2).2).2).2)
set_option maxHeartbeats 1000000 in
set_option maxRecDepth 10000 in
theorem read5_ok (r : Nat) (v : Value) (s : PR) (A : Assn) (hu : Up A) (hv : Bytes A s.1 v) (hl : s.1.length < 1000000) :
    Triple G 28 [.pointer (some ⟨r, 0, none⟩)] [blk r [v, .int .i64 s.2] 107, A] (RdPost r A (.tuple #[.int .i64 (readM s).1.1, .agg (encR (readM s).1.2).toArray]) (readM s).2) := by
  refine Triple.enter Tryd.func28 rfl (by decide) rfl Tryd.ntmps28 rfl (fun F => ?_)
  have b1 := numR_bd s
  have b2 := numR_bd (numR s).2
  have b3 := numR_bd (numR (numR s).2).2
  have b4 := numR_bd (numR (numR (numR s).2).2).2
  unfold readM
  repeat (first | refine GO ?_ | refine NW fun _ => ?_)
  refine WL.step rfl (OP.call (pre := [blk r [v, .int .i64 s.2] 107, A]) rfl rfl (numR_ok r v s A hu hv hl) PS rfl rfl ?_)
  rintro _ _ ⟨rfl, v1, hv1, rfl⟩
  repeat (first | refine GO ?_ | refine NW fun _ => ?_)
  refine WL.step rfl (OP.call (pre := [blk r [v1, .int .i64 _] 107, A]) rfl rfl (numR_ok r v1 (numR s).2 A hu hv1 (by omega)) PS rfl rfl ?_)
  rintro _ _ ⟨rfl, v2, hv2, rfl⟩
  repeat (first | refine GO ?_ | refine NW fun _ => ?_)
  refine WL.step rfl (OP.call (pre := [blk r [v2, .int .i64 _] 107, A]) rfl rfl (numR_ok r v2 (numR (numR s).2).2 A hu hv2 (by omega)) PS rfl rfl ?_)
  rintro _ _ ⟨rfl, v3, hv3, rfl⟩
  generalize numR s = y1 at *
  generalize numR y1.2 = y2 at *
  generalize numR y2.2 = y3 at *
  by_cases hk : y3.1 = 1
  · rw [if_pos hk]
    repeat (first | refine GD ?_ | refine NW fun _ => ?_)
    refine WL.step rfl (OP.call (pre := [blk r [v3, .int .i64 _] 107, A]) rfl rfl (numR_ok r v3 y3.2 A hu hv3 (by omega)) PS rfl rfl ?_)
    rintro _ _ ⟨rfl, v4, hv4, rfl⟩
    generalize numR y3.2 = y4 at *
    repeat (first | refine GD ?_ | refine NW fun _ => ?_)
    refine WL.step rfl (OP.call (pre := [blk r [v4, .int .i64 _] 107, A]) rfl rfl (textR_ok r v4 y4.2 A hu hv4 (by omega) 16) PS rfl rfl ?_)
    rintro _ _ ⟨rfl, v5, hv5, rfl⟩
    generalize textR 16 y4.2 = y5 at *
    repeat (first | refine GD ?_ | refine NW fun _ => ?_)
    refine RD 3 4 (_) ?_
    refine VV 0 ?_; refine VV 1 ?_; refine VV 2 ?_
    refine WH.only 3 rfl rfl (by kernel_rfl) rfl (OP.store rfl rfl rfl rfl rfl rfl rfl UP rfl ⟨(fun h => nomatch h), ?_⟩)
    refine DN ?_
    repeat (first | refine GD ?_ | refine NW fun _ => ?_)
    exact ret2c rfl rfl rfl rfl rfl (HasCut.ent (n := 5) HC).1 ⟨_, ⟨rfl, v5, hv5, rfl⟩, II⟩
  · rw [if_neg hk]
    repeat (first | refine GD ?_ | refine NW fun _ => ?_)
    refine WL.step rfl (OP.call (pre := [blk r [v3, .int .i64 _] 107, A]) rfl rfl (numR_ok r v3 y3.2 A hu hv3 (by omega)) PS rfl rfl ?_)
    rintro _ _ ⟨rfl, v4, hv4, rfl⟩
    generalize numR y3.2 = y4 at *
    repeat (first | refine GD ?_ | refine NW fun _ => ?_)
    refine RD 3 4 (_) ?_
    refine VV 0 ?_; refine VV 1 ?_; refine VV 2 ?_
    refine WH.only 3 rfl rfl (by kernel_rfl) rfl (OP.store rfl rfl rfl rfl rfl rfl rfl UP rfl ⟨(fun h => nomatch h), ?_⟩)
    refine DN ?_
    repeat (first | refine GD ?_ | refine NW fun _ => ?_)
    exact ret2c rfl rfl rfl rfl rfl (HasCut.ent (n := 5) HC).1 ⟨_, ⟨rfl, v4, hv4, rfl⟩, II⟩
end Go.Proofs.YtkoakmaihcheaacDoor
/- Contracts of functions of the given program, and plain laws on what they compute: parts of the proofs of laws. -/

namespace Go.Proofs.YtkoakmaihcheaacDoor
open Go Go.GL

set_option maxHeartbeats 1000000 in
set_option maxRecDepth 10000 in
theorem beq_ro (a1 a2 : Option Addr) (n1 c1 n2 c2 : Nat) (l1 l2 : List UInt8) : RO G 30 [.slice a1 n1 c1, .slice a2 n2 c2] (fun h => readS a1 n1 1 (l1.map byteV) h ∧ readS a2 n2 1 (l2.map byteV) h) (.bool (decide (l1 = l2))) := by
  refine RO.enter Tryd.func30 rfl (by decide) rfl Tryd.ntmps30 rfl (fun A hu hA => ?_) (up_and (up_readS _ _ _ _) (up_readS _ _ _ _))
  have hE1 : ∀ {L}, A ∈ L → Ent L (readS a1 n1 1 (l1.map byteV)) := fun m => Ent.mem m hu fun k x => (hA k x).1
  have hE2 : ∀ {L}, A ∈ L → Ent L (readS a2 n2 1 (l2.map byteV)) := fun m => Ent.mem m hu fun k x => (hA k x).2
  repeat (first | refine GO ?_ | refine NW fun _ => ?_)
  refine WL.step rfl (OP.toStr (sv := ba l1) rfl rfl rfl rfl rfl rfl rfl rfl (by rw [strCells_ba]; exact hE1 MM) rfl rfl ?_)
  repeat (first | refine GO ?_ | refine NW fun _ => ?_)
  refine WL.step rfl (OP.toStr (sv := ba l2) rfl rfl rfl rfl rfl rfl rfl rfl (by rw [strCells_ba]; exact hE2 MM) rfl rfl ?_)
  repeat (first | refine GO ?_ | refine NW fun _ => ?_)
  refine ret1 rfl ⟨?_, MM⟩
  congr 1
  by_cases h : l1 = l2
  · rw [decide_eq_true h, decide_eq_true (by rw [h])]
  · rw [decide_eq_false h, decide_eq_false (fun e => h (ba_inj e))]
set_option maxHeartbeats 1000000 in
set_option maxRecDepth 10000 in
theorem seq_ro (a1 a2 : Option Addr) (n1 c1 n2 c2 : Nat) (l1 l2 : List UInt8) (h1 : n1 = l1.length) (h2 : n2 = l2.length) (hs : n1 < 1000000) : RO G 46 [.slice a1 n1 c1, .slice a2 n2 c2] (fun h => readS a1 n1 1 (l1.map byteV) h ∧ readS a2 n2 1 (l2.map byteV) h) (.bool (decide (l1 = l2))) := by
  refine RO.enter Tryd.func46 rfl (by decide) rfl Tryd.ntmps46 rfl (fun A hu hA => ?_) (up_and (up_readS _ _ _ _) (up_readS _ _ _ _))
  have hE1 : ∀ {L}, A ∈ L → Ent L (readS a1 n1 1 (l1.map byteV)) := fun m => Ent.mem m hu fun k x => (hA k x).1
  have hE2 : ∀ {L}, A ∈ L → Ent L (readS a2 n2 1 (l2.map byteV)) := fun m => Ent.mem m hu fun k x => (hA k x).2
  by_cases hne : n1 = n2
  rotate_left
  · have : l1 ≠ l2 := fun e => hne (by rw [h1, h2, e])
    repeat (first | refine GD ?_ | refine NW fun _ => ?_)
    exact ret1 rfl ⟨by simp [this], MM⟩
  subst hne
  repeat (first | refine GD ?_ | refine NW fun _ => ?_)
  refine WC.loop (σ := Nat) (fun k => k ≤ n1 ∧ ∀ j, j < k → l1[j]? = l2[j]?)
    (fun k => [(0, .val (.slice a1 n1 c1)), (1, .val (.slice a2 n1 c2)), (12, .val (.int .i64 n1)), (13, .val (.int .i64 k))])
    (fun k => [A]) (fun k => n1 - k) 0 ⟨Nat.zero_le _, fun j hj => by omega⟩ ⟨rfl, rfl, rfl, rfl, trivial⟩ (Imp.refl _) ?_
  rintro k ⟨hk, hall⟩
  by_cases hlt : k < n1
  rotate_left
  · repeat (first | refine GD ?_ | refine NW fun _ => ?_)
    refine ret1 rfl ⟨?_, MM⟩
    have : l1 = l2 := List.ext_getElem? fun i => by
      by_cases hi : i < k
      · exact hall i hi
      · rw [List.getElem?_eq_none (by omega), List.getElem?_eq_none (by omega)]
    simp [this]
  have hl1 : k < l1.length := by omega
  have hl2 : k < l2.length := by omega
  repeat (first | refine GD ?_ | refine NW fun _ => ?_)
  refine WC.fact (Ent.some (hE1 MM) (by omega)) ?_
  rintro ⟨b, off, rfl⟩
  refine WC.fact (Ent.some (hE2 MM) (by omega)) ?_
  rintro ⟨b', off', rfl⟩
  refine RD 9 9 (_) ?_
  refine VV 0 ?_; refine VV 1 ?_; refine VV 2 ?_
  refine VQ 3 rfl (Quiet.load (v := byteV l1[k]) rfl rfl rfl (.inl ⟨rfl, Ent.elem (i := k * 1) (hE1 MM) rfl (by simp [hl1])⟩)) ?_
  refine VV 4 ?_; refine VV 5 ?_; refine VV 6 ?_
  refine VQ 7 rfl (Quiet.load (v := byteV l2[k]) rfl rfl rfl (.inl ⟨rfl, Ent.elem (i := k * 1) (hE2 MM) rfl (by simp [hl2])⟩)) ?_
  unfold byteV
  refine VV 8 ?_
  refine DN ?_
  by_cases he : l1[k] = l2[k]
  · have he2 : (l1[k].toNat : Int) = (l2[k].toNat : Int) := by rw [he]
    rw [decide_eq_true he2]
    repeat (first | refine GD ?_ | refine NW fun _ => ?_)
    exact ⟨k + 1, ⟨by omega, fun j hj => by
      by_cases e : j = k
      · subst e; rw [List.getElem?_eq_getElem hl1, List.getElem?_eq_getElem hl2, he]
      · exact hall j (by omega)⟩, by omega, ⟨rfl, rfl, rfl, rfl, trivial⟩, Imp.refl _⟩
  · have he2 : ¬ (l1[k].toNat : Int) = (l2[k].toNat : Int) := fun e => he (UInt8.toNat_inj.1 (by omega))
    rw [decide_eq_false he2]
    repeat (first | refine GD ?_ | refine NW fun _ => ?_)
    refine ret1 rfl ⟨?_, MM⟩
    have : l1 ≠ l2 := fun e => he (by subst e; rfl)
    simp [this]
set_option maxHeartbeats 1000000 in
set_option maxRecDepth 10000 in
theorem clone_ok (a : Addr) (n c : Nat) (l : List UInt8) (hn : n = l.length) (hs : n < 1000000) : RT G 48 [.slice (some a) n c] (readS (some a) n 1 (l.map byteV)) (BytesNew l) := by
  refine RT.enter Tryd.func48 rfl (by decide) rfl Tryd.ntmps48 rfl (fun A hu hA => ?_)
  have hE : ∀ {L}, A ∈ L → Ent L (readS (some a) n 1 (l.map byteV)) := fun m => Ent.mem m hu hA
  repeat (first | refine GO ?_ | refine NW fun _ => ?_)
  refine WL.step rfl (OP.lit0 (size := 1) rfl rfl rfl rfl rfl rfl (fun b => ?_))
  repeat (first | refine GO ?_ | refine NW fun _ => ?_)
  refine WL.step rfl (OP.append rfl rfl rfl rfl rfl rfl rfl rfl rfl P1 (hE MM) (allOne_bytes _) (by omega) (by omega) rfl rfl (fun a2' cap2 => ?_))
  rw [Nat.zero_add, List.nil_append]
  repeat (first | refine GO ?_ | refine NW fun _ => ?_)
  exact ret1 rfl ⟨[ownS a2' n cap2 5 1 (l.map byteV)], ⟨a2', cap2, by rw [hn], by rw [hn]⟩, II⟩
def OpenOk (l : List UInt8) : Prop := 4 ≤ l.length ∧ tailM (l.take (l.length - 4)) = l.drop (l.length - 4)
instance (l : List UInt8) : Decidable (OpenOk l) := by unfold OpenOk; infer_instance
def OpenPost (l : List UInt8) (v : Value) (E : List Assn) : Prop :=
  if OpenOk l then ∃ v1, v = .tuple #[v1, .bool true] ∧ BytesNew (l.take (l.length - 4)) v1 E else v = .tuple #[.slice none 0 0, .bool false] ∧ E = []
set_option maxHeartbeats 1000000 in
set_option maxRecDepth 10000 in
theorem open_ok (a : Option Addr) (n c : Nat) (l : List UInt8) (hn : n = l.length) (hc : n ≤ c) (hs : n < 1000000) : RT G 26 [.slice a n c] (readS a n 1 (l.map byteV)) (OpenPost l) := by
  refine RT.enter Tryd.func26 rfl (by decide) rfl Tryd.ntmps26 rfl (fun A hu hA => ?_)
  have hE : ∀ {L}, A ∈ L → Ent L (readS a n 1 (l.map byteV)) := fun m => Ent.mem m hu hA
  repeat (first | refine GO ?_ | refine NW fun _ => ?_)
  refine RD 13 13 ([A]) ?_
  by_cases h4 : n < 4
  · refine VV 0 ?_; refine VV 1 ?_
    rw [decide_eq_true (show (n : Int) - 4 < 0 by omega)]
    refine VV 2 ?_
    refine VF 3 ?_; refine VF 4 ?_; refine VF 5 ?_; refine VF 6 ?_; refine VF 7 ?_; refine VF 8 ?_; refine VF 9 ?_; refine VF 10 ?_; refine VF 11 ?_
    refine VQ 12 rfl (Quiet.pickT rfl rfl rfl) ?_
    refine DN ?_
    repeat (first | refine GD ?_ | refine NW fun _ => ?_)
    refine ret2 rfl rfl ⟨[], ?_, II⟩
    unfold OpenPost
    rw [if_neg (fun h => by have := h.1; omega)]
    exact ⟨rfl, rfl⟩
  refine VV 0 ?_; refine VV 1 ?_
  rw [decide_eq_false (show ¬ (n : Int) - 4 < 0 by omega)]
  refine VV 2 ?_; refine VV 3 ?_; refine VV 4 ?_; refine VV 5 ?_
  refine VV 7 ?_; refine VV 8 ?_; refine VV 9 ?_
  rw [show ((n : Int) - 4).toNat = n - 4 by omega]
  have hEt : ∀ {L}, A ∈ L → Ent L (readS a (n - 4) 1 ((l.take (n - 4)).map byteV)) := fun m => Ent.mem m hu fun h hh => by
    have := readS_take (m := n - 4) (hA h hh) (by omega)
    rw [Nat.mul_one, ← List.map_take] at this
    exact this
  have hEd : ∀ {L}, A ∈ L → Ent L (readS (cutA a c (n - 4) 1) (n - (n - 4)) 1 ((l.drop (n - 4)).map byteV)) := fun m => Ent.mem m hu fun h hh => by
    have := readS_cut (i := n - 4) (hA h hh) (by omega) hc
    rw [Nat.mul_one, ← List.map_drop] at this
    exact this
  refine WH.onlyG (q := true) 6 rfl rfl rfl rfl rfl rfl rfl (by kernel_rfl) rfl (.inl rfl) (fun _ => OP.callRT rfl rfl (tail_ok a (n - 4) c (l.take (n - 4)) (by rw [List.length_take]; omega) (by omega)) (hEt MM) rfl rfl (fun v E hE' => ?_)) (fun h => nomatch h)
  obtain ⟨a1, cap1, rfl, rfl⟩ := hE'
  refine ⟨fun _ => II, ?_⟩
  refine WH.onlyG (q := true) 10 rfl rfl rfl rfl rfl rfl rfl (by kernel_rfl) rfl (.inl rfl) (fun _ => OP.callRO rfl rfl (seq_ro a1 (cutA a c (n - 4) 1) _ cap1 (n - (n - 4)) (c - (n - 4)) (tailM (l.take (n - 4))) (l.drop (n - 4)) rfl (by rw [List.length_drop]; omega) (by rw [tailM_len]; decide)) (Ent.and (Ent.own (T := 5) MM) (hEd MM)) rfl rfl ⟨fun _ => II, ?_⟩) (fun h => nomatch h)
  by_cases heq : tailM (l.take (n - 4)) = l.drop (n - 4)
  · rw [decide_eq_true heq]
    refine VV 11 ?_; refine VV 12 ?_
    refine DN ?_
    refine WC.fact (Ent.some (hE MM) (by omega)) ?_
    rintro ⟨b, off, rfl⟩
    repeat (first | refine GD ?_ | refine NW fun _ => ?_)
    rw [show ((n : Int) - 4).toNat = n - 4 by omega]
    refine WL.step rfl (OP.callRT rfl rfl (clone_ok ⟨b, off, none⟩ (n - 4) c (l.take (n - 4)) (by rw [List.length_take]; omega) (by omega)) (hEt MM) rfl rfl ?_)
    rintro v E ⟨a2, cap2, rfl, rfl⟩
    repeat (first | refine GD ?_ | refine NW fun _ => ?_)
    refine ret2 rfl rfl ⟨[_], ?_, II⟩
    unfold OpenPost
    rw [if_pos ⟨by omega, by rw [← hn]; exact heq⟩, ← hn]
    exact ⟨_, rfl, a2, cap2, rfl, rfl⟩
  · rw [decide_eq_false heq]
    refine VV 11 ?_; refine VV 12 ?_
    refine DN ?_
    repeat (first | refine GD ?_ | refine NW fun _ => ?_)
    refine ret2 rfl rfl ⟨[], ?_, II⟩
    unfold OpenPost
    rw [if_neg (fun h => heq (by have := h.2; rwa [← hn] at this))]
    exact ⟨rfl, rfl⟩
end Go.Proofs.YtkoakmaihcheaacDoor
/- Contracts of functions of the given program, and plain laws on what they compute: parts of the proofs of laws. -/
namespace Go.Proofs.YtkoakmaihcheaacDoor
open Go Go.GL

/-- the check's polynomial, and one step on numbers of any length -/
def polyN : Nat := 2197175160
def stepN (n : Nat) : Nat := (n / 2) ^^^ (if n % 2 = 1 then polyN else 0)
def itN : Nat → Nat → Nat
  | 0, n => n
  | k + 1, n => stepN (itN k n)
theorem itN_add (a b n : Nat) : itN (a + b) n = itN a (itN b n) := by
  induction a with
  | zero => rw [Nat.zero_add]; rfl
  | succ a ih => rw [Nat.succ_add]; show stepN (itN (a + b) n) = stepN _; rw [ih]
theorem xor_half (a b : Nat) : (a ^^^ b) / 2 = (a / 2) ^^^ (b / 2) := Nat.xor_div_two
theorem xor_odd (a b : Nat) : (a ^^^ b) % 2 = (a % 2 + b % 2) % 2 := by
  have h := Nat.testBit_xor a b 0
  simp only [Nat.testBit_zero] at h
  have hc : (a ^^^ b) % 2 = 0 ∨ (a ^^^ b) % 2 = 1 := by omega
  have ha : a % 2 = 0 ∨ a % 2 = 1 := by omega
  have hb : b % 2 = 0 ∨ b % 2 = 1 := by omega
  rcases ha with ha | ha <;> rcases hb with hb | hb <;> rcases hc with hc | hc <;> simp [ha, hb, hc] at h ⊢
theorem stepN_xor (a b : Nat) : stepN (a ^^^ b) = stepN a ^^^ stepN b := by
  unfold stepN
  rw [xor_half, xor_odd]
  have ha : a % 2 = 0 ∨ a % 2 = 1 := by omega
  have hb : b % 2 = 0 ∨ b % 2 = 1 := by omega
  rcases ha with ha | ha <;> rcases hb with hb | hb <;> simp only [ha, hb]
  · simp
  · simp [Nat.xor_assoc]
  · simp [Nat.xor_assoc, Nat.xor_comm polyN]
  · have : (a / 2 ^^^ polyN) ^^^ (b / 2 ^^^ polyN) = (a / 2 ^^^ b / 2) ^^^ (polyN ^^^ polyN) := by
      rw [Nat.xor_assoc, Nat.xor_assoc, ← Nat.xor_assoc polyN, Nat.xor_comm polyN (b / 2), Nat.xor_assoc]
    simp only [if_true] 
    rw [this]
    simp
theorem itN_xor (k a b : Nat) : itN k (a ^^^ b) = itN k a ^^^ itN k b := by
  induction k with
  | zero => rfl
  | succ k ih => show stepN _ = stepN _ ^^^ stepN _; rw [ih, stepN_xor]
theorem itN_shift (k n : Nat) : itN k (n * 2 ^ k) = n := by
  induction k generalizing n with
  | zero => simp [itN]
  | succ k ih =>
    show stepN (itN k (n * 2 ^ (k + 1))) = n
    rw [Nat.pow_succ, Nat.mul_comm (2 ^ k) 2, ← Nat.mul_assoc, ih]
    unfold stepN
    rw [if_neg (by omega)]
    simp
theorem stepN_lt {n : Nat} (h : n < 2 ^ 32) : stepN n < 2 ^ 32 := by
  unfold stepN
  refine Nat.xor_lt_two_pow (by omega) ?_
  split <;> decide
theorem stepN_pos {n : Nat} (h : n < 2 ^ 32) (h0 : n ≠ 0) : stepN n ≠ 0 := by
  intro h1
  unfold stepN at h1
  have h2 : n / 2 = if n % 2 = 1 then polyN else 0 := by
    have := congrArg (· ^^^ (if n % 2 = 1 then polyN else 0)) h1
    simpa [Nat.xor_assoc] using this
  split at h2
  · unfold polyN at h2; omega
  · omega
theorem itN_pos {n : Nat} (k : Nat) (h : n < 2 ^ 32) (h0 : n ≠ 0) : itN k n ≠ 0 ∧ itN k n < 2 ^ 32 := by
  induction k with
  | zero => exact ⟨h0, h⟩
  | succ k ih => exact ⟨stepN_pos ih.2 ih.1, stepN_lt ih.2⟩
/-- bytes as one number, the first one lowest -/
def valN : List UInt8 → Nat
  | [] => 0
  | x :: r => x.toNat ^^^ (valN r * 256)
theorem bitS_nat (c : W32) : (bitS c).toNat = stepN c.toNat := by
  unfold bitS stepN
  have h0 : c.getLsbD 0 = decide (c.toNat % 2 = 1) := by
    rw [BitVec.getLsbD]
    rw [Nat.testBit_zero]
  rw [BitVec.toNat_xor, BitVec.toNat_ushiftRight, Nat.shiftRight_eq_div_pow, h0]
  by_cases h : c.toNat % 2 = 1
  · rw [decide_eq_true h, if_pos h]; rfl
  · rw [decide_eq_false h, if_neg h]; rfl
theorem bitN_nat (k : Nat) (c : W32) : (bitN k c).toNat = itN k c.toNat := by
  induction k with
  | zero => rfl
  | succ k ih => show (bitS (bitN k c)).toNat = stepN (itN k c.toNat); rw [bitS_nat, ih]
theorem crcStep_nat (c : W32) (x : UInt8) : (crcStep c x).toNat = itN 8 (c.toNat ^^^ x.toNat) := by
  have h : crcStep c x = bitN 8 (c ^^^ BitVec.ofNat 32 x.toNat) := by rw [bit8]; rfl
  rw [h, bitN_nat, BitVec.toNat_xor, BitVec.toNat_ofNat, Nat.mod_eq_of_lt (by have := x.toNat_lt; omega)]
theorem crcF_nat : ∀ (l : List UInt8) (c : W32), (crcF c l).toNat = itN (8 * l.length) (c.toNat ^^^ valN l)
  | [], c => by simp [crcF, valN, itN]
  | x :: r, c => by
    have e : crcF c (x :: r) = crcF (crcStep c x) r := rfl
    rw [e, crcF_nat r, crcStep_nat, List.length_cons, Nat.mul_add, Nat.mul_one, itN_add]
    congr 1
    show _ = itN 8 (c.toNat ^^^ (x.toNat ^^^ valN r * 256))
    rw [← Nat.xor_assoc, itN_xor 8 (c.toNat ^^^ x.toNat), show valN r * 256 = valN r * 2 ^ 8 from rfl, itN_shift]
theorem valN_app (a b : List UInt8) : valN (a ++ b) = valN a ^^^ (valN b * 2 ^ (8 * a.length)) := by
  induction a with
  | nil => simp [valN]
  | cons x r ih =>
    show x.toNat ^^^ (valN (r ++ b) * 256) = (x.toNat ^^^ valN r * 256) ^^^ _
    rw [ih, Nat.xor_assoc]
    congr 1
    rw [show (256 : Nat) = 2 ^ 8 from rfl, ← Nat.shiftLeft_eq, ← Nat.shiftLeft_eq, ← Nat.shiftLeft_eq, ← Nat.shiftLeft_eq, Nat.shiftLeft_xor_distrib, ← Nat.shiftLeft_add, List.length_cons, Nat.mul_add]
theorem valN_set : ∀ (l : List UInt8) (j : Nat) (y : UInt8) (h : j < l.length), valN (l.set j (l[j] ^^^ y)) = valN l ^^^ (y.toNat * 2 ^ (8 * j))
  | x :: r, 0, y, _ => by
    show (x ^^^ y).toNat ^^^ _ = (x.toNat ^^^ _) ^^^ _
    rw [UInt8.toNat_xor]
    simp only [Nat.mul_zero, Nat.pow_zero, Nat.mul_one]
    rw [Nat.xor_assoc, Nat.xor_comm y.toNat, ← Nat.xor_assoc]
  | x :: r, j + 1, y, h => by
    show x.toNat ^^^ (valN (r.set j (r[j]'(by simpa using h) ^^^ y)) * 256) = (x.toNat ^^^ valN r * 256) ^^^ _
    rw [valN_set r j y (by simpa using h), Nat.xor_assoc]
    congr 1
    rw [show (256 : Nat) = 2 ^ 8 from rfl, ← Nat.shiftLeft_eq, ← Nat.shiftLeft_eq, ← Nat.shiftLeft_eq, ← Nat.shiftLeft_eq, Nat.shiftLeft_xor_distrib, ← Nat.shiftLeft_add, Nat.mul_add]
theorem xor_add {x : Nat} (h : x < 256) (y : Nat) : x ^^^ (y * 256) = x + y * 256 := by
  apply Nat.eq_of_testBit_eq
  intro j
  have e : x + y * 256 = 2 ^ 8 * y + x := by omega
  have e2 : y * 256 = 2 ^ 8 * y := by omega
  rw [e, Nat.testBit_two_pow_mul_add _ (show x < 2 ^ 8 from h), Nat.testBit_xor, e2, Nat.testBit_two_pow_mul]
  by_cases hj : j < 8
  · simp [hj, show ¬ 8 ≤ j by omega]
  · have hx : x.testBit j = false := Nat.testBit_lt_two_pow (Nat.lt_of_lt_of_le (show x < 2 ^ 8 from h) (Nat.pow_le_pow_right (by decide) (by omega)))
    simp [hj, hx, show 8 ≤ j by omega]
theorem le4_val (c : W32) : valN (le4 c) = c.toNat := by
  have hc := c.isLt
  have e : ∀ k, (c >>> k).toNat = c.toNat / 2 ^ k := fun k => by rw [BitVec.toNat_ushiftRight, Nat.shiftRight_eq_div_pow]
  unfold le4
  simp only [valN, e]
  have h1 : ∀ n, (UInt8.ofNat (n % 256)).toNat = n % 256 := fun n => ofNat_toNat (by omega)
  rw [h1, h1, h1, h1]
  generalize c.toNat = n at *
  rw [Nat.zero_mul, Nat.xor_zero, xor_add (by omega), xor_add (by omega), xor_add (by omega)]
  omega
/-- the bits that were turned so far -/
def turned (turn k i : Nat) : Nat := (turn % 2 ^ i) * 2 ^ k
theorem turned_succ (turn k i : Nat) : turned turn k (i + 1) = if turn.testBit i = true then turned turn k i ^^^ 2 ^ (k + i) else turned turn k i := by
  unfold turned
  have hm : turn % 2 ^ (i + 1) = if turn.testBit i = true then (turn % 2 ^ i) ^^^ 2 ^ i else turn % 2 ^ i := by
    apply Nat.eq_of_testBit_eq
    intro j
    by_cases hb : turn.testBit i = true
    · rw [if_pos hb, Nat.testBit_xor, Nat.testBit_mod_two_pow, Nat.testBit_mod_two_pow, Nat.testBit_two_pow]
      by_cases hj : j = i
      · subst hj; simp [hb]
      · have : (j < i + 1) ↔ (j < i) := by omega
        have h2 : ¬ i = j := fun e => hj e.symm
        simp [this, h2]
    · rw [if_neg hb, Nat.testBit_mod_two_pow, Nat.testBit_mod_two_pow]
      by_cases hj : j = i
      · subst hj; simp [hb]
      · have : (j < i + 1) ↔ (j < i) := by omega
        simp [this]
  rw [hm]
  split
  · rw [← Nat.shiftLeft_eq, Nat.shiftLeft_xor_distrib, Nat.shiftLeft_eq, Nat.shiftLeft_eq, ← Nat.pow_add, Nat.add_comm i k]
  · rfl
/-- a bit is turned -/
theorem turn_bit {l : List UInt8} {q : Nat} (h : q / 8 < l.length) : valN (l.set (q / 8) (l[q / 8] ^^^ UInt8.ofNat (2 ^ (q % 8)))) = valN l ^^^ 2 ^ q := by
  rw [valN_set l (q / 8) _ h]
  have h1 : (2 : Nat) ^ (q % 8) < 256 := by
    have : (2 : Nat) ^ (q % 8) ≤ 2 ^ 7 := Nat.pow_le_pow_right (by decide) (by omega)
    omega
  rw [ofNat_toNat h1, ← Nat.pow_add]
  congr 2
  omega
def good : Nat := itN 32 (2 ^ 32 - 1)
theorem openOk_val {l : List UInt8} (h : OpenOk l) : (crcF (BitVec.allOnes 32) l).toNat = good := by
  obtain ⟨h4, h⟩ := h
  have e : l = l.take (l.length - 4) ++ l.drop (l.length - 4) := (List.take_append_drop _ _).symm
  rw [e, ← h]
  generalize l.take (l.length - 4) = d
  have e1 : crcF (BitVec.allOnes 32) (d ++ tailM d) = crcF (crcF (BitVec.allOnes 32) d) (tailM d) := by unfold crcF; rw [List.foldl_append]
  rw [e1, crcF_nat]
  unfold tailM
  rw [le4_val]
  unfold crc good
  have e2 : ∀ c : W32, c.toNat ^^^ (~~~ c).toNat = 2 ^ 32 - 1 := fun c => by
    rw [← BitVec.toNat_xor]
    have : c ^^^ ~~~ c = BitVec.allOnes 32 := by
      apply BitVec.eq_of_getLsbD_eq
      intro i hi
      rw [BitVec.getLsbD_xor, BitVec.getLsbD_not, BitVec.getLsbD_allOnes, decide_eq_true hi]
      cases c.getLsbD i <;> rfl
    rw [this]; rfl
  rw [e2]
  rfl
/-- a sector in which bits side by side are turned has another check -/
theorem turned_bad {l m : List UInt8} (hl : OpenOk l) (hm : OpenOk m) (hlen : m.length = l.length) {turn k : Nat} (ht : turn < 2 ^ 32) (ht0 : turn ≠ 0) (hk : k ≤ 8 * l.length) (hv : valN m = valN l ^^^ turn * 2 ^ k) : False := by
  have h1 := openOk_val hl
  have h2 := openOk_val hm
  rw [crcF_nat] at h1 h2
  rw [hlen, hv, ← Nat.xor_assoc, itN_xor, h1] at h2
  have h3 : itN (8 * l.length) (turn * 2 ^ k) = 0 := by
    have := congrArg (good ^^^ ·) h2
    simpa [← Nat.xor_assoc] using this
  rw [show 8 * l.length = (8 * l.length - k) + k by omega, itN_add, itN_shift] at h3
  exact (itN_pos _ ht ht0).1 h3
end Go.Proofs.YtkoakmaihcheaacDoor
/- Contracts of functions of the given program, and plain laws on what they compute: parts of the proofs of laws. -/

namespace Go.Proofs.YtkoakmaihcheaacDoor
open Go Go.GL

theorem textR_size (most : Int) (s : PR) (hm : 0 ≤ most) : ((textR most s).1.size : Int) ≤ most := by
  have := numR_bd s
  unfold textR
  split
  · exact hm
  · split
    · exact hm
    · split
      · exact hm
      · simp only [ba_size, List.length_take]; omega
theorem readM_size (s : PR) : (readM s).1.2.2.2.2.1.size ≤ 16 := by
  unfold readM
  split
  · have := textR_size 16 (numR (numR (numR (numR s).2).2).2).2 (by decide); dsimp only; omega
  · exact Nat.zero_le _
def decR (l : List UInt8) : Except Int (Int × Rec) :=
  if OpenOk l ∧ l.length = 64 then
    if (readM (l.take 60, 0)).2.2 = 0 ∧ (RightR (readM (l.take 60, 0)).1.2 ∧ (0 ≤ (readM (l.take 60, 0)).1.1 ∧ (readM (l.take 60, 0)).1.1 ≤ widest)) ∧ sectorM (bodyM (readM (l.take 60, 0)).1.1 (readM (l.take 60, 0)).1.2) = l then .ok (readM (l.take 60, 0)).1 else .error 1
  else .error 4
def rec0 : Rec := (0, 0, 0, ⟨#[]⟩, 0)
def DecPost (l : List UInt8) (v : Value) (E : List Assn) : Prop :=
  match decR l with
  | .ok (g, r) => v = .tuple #[.int .i64 g, .agg (encR r).toArray, .nilIface] ∧ E = []
  | .error c => ∃ e, v = .tuple #[.int .i64 0, .agg (encR rec0).toArray, e] ∧ Fault recW 0 c e E
set_option maxHeartbeats 4000000 in
set_option maxRecDepth 10000 in
theorem decode5_ok (a : Option Addr) (n c : Nat) (l : List UInt8) (hn : n = l.length) (hc : n ≤ c) (hs : n < 1000000) : RT G 12 [.slice a n c] (readS a n 1 (l.map byteV)) (DecPost l) := by
  refine RT.enter Tryd.func12 rfl (by decide) rfl Tryd.ntmps12 rfl (fun A hu hA => ?_)
  have hE : ∀ {L}, A ∈ L → Ent L (readS a n 1 (l.map byteV)) := fun m => Ent.mem m hu hA
  repeat (first | refine GD ?_ | refine NW fun _ => ?_)
  refine WL.step rfl (OP.callRT rfl rfl (open_ok a n c l hn hc hs) (hE MM) rfl rfl ?_)
  rintro v E hO
  unfold OpenPost at hO
  by_cases ho : OpenOk l
  rotate_left
  · rw [if_neg ho] at hO
    obtain ⟨rfl, rfl⟩ := hO
    have hdec : decR l = .error 4 := by unfold decR; rw [if_neg (fun h => ho h.1)]
    repeat (first | refine GD ?_ | refine NW fun _ => ?_)
    refine WL.step rfl (OP.call (pre := []) (F := _) rfl rfl (wrap_ok _ _ _ (by decide)) (Imp.refl _) rfl rfl ?_)
    rintro v' E ⟨b', rfl, rfl⟩
    repeat (first | refine GD ?_ | refine NW fun _ => ?_)
    refine ret3c rfl rfl rfl rfl rfl rfl (HasCut.ent (n := 5) HC).1 ⟨[_], ?_, II⟩
    unfold DecPost
    rw [hdec]
    exact ⟨_, rfl, _, rfl, rfl⟩
  rw [if_pos ho] at hO
  obtain ⟨v1, rfl, a2, cap2, rfl, rfl⟩ := hO
  by_cases h64 : n = 64
  rotate_left
  · have hdec : decR l = .error 4 := by unfold decR; rw [if_neg (fun h => h64 (by omega))]
    repeat (first | refine GD ?_ | refine NW fun _ => ?_)
    refine WL.step rfl (OP.call (pre := []) (F := _) rfl rfl (wrap_ok _ _ _ (by decide)) (Imp.refl _) rfl rfl ?_)
    rintro v' E ⟨b', rfl, rfl⟩
    repeat (first | refine GD ?_ | refine NW fun _ => ?_)
    refine ret3c rfl rfl rfl rfl rfl rfl (HasCut.ent (n := 5) HC).1 ⟨[_], ?_, II⟩
    unfold DecPost
    rw [hdec]
    exact ⟨_, rfl, _, rfl, rfl⟩
  have e60 : l.take (l.length - 4) = l.take 60 := by rw [← hn, h64]
  have hl60 : (l.take 60).length = 60 := by rw [List.length_take]; omega
  rw [e60, hl60]
  refine WL.fact (Ent.ownLe (a := a2) (n := 60) (cap := cap2) (T := 5) (size := 1) (cs := (l.take 60).map byteV) MM) (fun hc2 => ?_)
  have hby : Bytes (ownS a2 60 cap2 5 1 ((l.take 60).map byteV)) (l.take 60) (.slice a2 60 cap2) := ⟨a2, 60, cap2, rfl, hl60.symm, hc2, fun h x => read_of_own x⟩
  repeat (first | refine GD ?_ | refine NW fun _ => ?_)
  refine WL.step rfl (OP.callRT rfl rfl (read0_ok a2 60 cap2) (fun _ _ => trivial) rfl rfl ?_)
  rintro v E ⟨r, rfl, rfl⟩
  repeat (first | refine GD ?_ | refine NW fun _ => ?_)
  refine WL.step rfl (OP.call (pre := [blk r [.slice a2 60 cap2, .int .i64 0] 107, ownS a2 60 cap2 5 1 ((l.take 60).map byteV)]) rfl rfl (read5_ok r _ (l.take 60, 0) (ownS a2 60 cap2 5 1 ((l.take 60).map byteV)) (up_ownS _ _ _ _ _ _) hby (by dsimp only; omega)) PS rfl rfl ?_)
  rintro _ _ ⟨rfl, v2, hv2, rfl⟩
  have hsz := readM_size (l.take 60, 0)
  have hdR : decR l = if (readM (l.take 60, 0)).2.2 = 0 ∧ (RightR (readM (l.take 60, 0)).1.2 ∧ (0 ≤ (readM (l.take 60, 0)).1.1 ∧ (readM (l.take 60, 0)).1.1 ≤ widest)) ∧ sectorM (bodyM (readM (l.take 60, 0)).1.1 (readM (l.take 60, 0)).1.2) = l then .ok (readM (l.take 60, 0)).1 else .error 1 := by
    unfold decR; rw [if_pos ⟨ho, by omega⟩]
  generalize readM (l.take 60, 0) = y at *
  obtain ⟨⟨g, q⟩, ⟨l2, e2⟩⟩ := y
  dsimp only at hsz hdR hv2 ⊢
  repeat (first | refine GD ?_ | refine NW fun _ => ?_)
  refine WL.step rfl (OP.callRT rfl rfl (encode_ok g q (by omega)) (fun _ _ => trivial) rfl rfl ?_)
  rintro v E hEnc
  unfold EncPost at hEnc
  by_cases hr : RightR q ∧ (0 ≤ g ∧ g ≤ widest)
  rotate_left
  · rw [if_neg hr] at hEnc
    obtain ⟨e, rfl, b1, rfl, rfl⟩ := hEnc
    have hdec : decR l = .error 1 := by rw [hdR, if_neg (fun h => hr h.2.1)]
    repeat (first | refine GD ?_ | refine NW fun _ => ?_)
    refine WL.step rfl (OP.callRO rfl rfl (err_ro r v2 e2) (Ent.whole (T := 107) MM) rfl rfl ?_)
    by_cases he2 : e2 = 0
    · repeat (first | refine GD ?_ | refine NW fun _ => ?_)
      refine WL.step rfl (OP.call (pre := []) (F := _) rfl rfl (wrap_ok _ _ _ (by decide)) (Imp.refl _) rfl rfl ?_)
      rintro v' E ⟨b', rfl, rfl⟩
      repeat (first | refine GD ?_ | refine NW fun _ => ?_)
      refine ret3c rfl rfl rfl rfl rfl rfl (HasCut.ent (n := 5) HC).1 ⟨[_], ?_, II⟩
      unfold DecPost
      rw [hdec]
      exact ⟨_, rfl, _, rfl, rfl⟩
    · repeat (first | refine GD ?_ | refine NW fun _ => ?_)
      refine WL.step rfl (OP.call (pre := []) (F := _) rfl rfl (wrap_ok _ _ _ (by decide)) (Imp.refl _) rfl rfl ?_)
      rintro v' E ⟨b', rfl, rfl⟩
      repeat (first | refine GD ?_ | refine NW fun _ => ?_)
      refine ret3c rfl rfl rfl rfl rfl rfl (HasCut.ent (n := 5) HC).1 ⟨[_], ?_, II⟩
      unfold DecPost
      rw [hdec]
      exact ⟨_, rfl, _, rfl, rfl⟩
  rw [if_pos hr] at hEnc
  obtain ⟨v3, rfl, a3, cap3, rfl, rfl⟩ := hEnc
  repeat (first | refine GD ?_ | refine NW fun _ => ?_)
  refine WL.step rfl (OP.callRO rfl rfl (err_ro r v2 e2) (Ent.whole (T := 107) MM) rfl rfl ?_)
  by_cases he2 : e2 = 0
  rotate_left
  · have hdec : decR l = .error 1 := by rw [hdR, if_neg (fun h => he2 h.1)]
    repeat (first | refine GD ?_ | refine NW fun _ => ?_)
    refine WL.step rfl (OP.call (pre := []) (F := _) rfl rfl (wrap_ok _ _ _ (by decide)) (Imp.refl _) rfl rfl ?_)
    rintro v' E ⟨b', rfl, rfl⟩
    repeat (first | refine GD ?_ | refine NW fun _ => ?_)
    refine ret3c rfl rfl rfl rfl rfl rfl (HasCut.ent (n := 5) HC).1 ⟨[_], ?_, II⟩
    unfold DecPost
    rw [hdec]
    exact ⟨_, rfl, _, rfl, rfl⟩
  repeat (first | refine GD ?_ | refine NW fun _ => ?_)
  refine WL.guardT rfl rfl rfl rfl (OP.callRO rfl rfl (beq_ro a3 a _ cap3 n c (sectorM (bodyM g q)) l) (Ent.and (Ent.own (T := 5) MM) (hE MM)) rfl rfl ?_)
  by_cases heq : sectorM (bodyM g q) = l
  rotate_left
  · have hdec : decR l = .error 1 := by rw [hdR, if_neg (fun h => heq h.2.2)]
    rw [decide_eq_false heq]
    repeat (first | refine GD ?_ | refine NW fun _ => ?_)
    refine WL.step rfl (OP.call (pre := []) (F := _) rfl rfl (wrap_ok _ _ _ (by decide)) (Imp.refl _) rfl rfl ?_)
    rintro v' E ⟨b', rfl, rfl⟩
    repeat (first | refine GD ?_ | refine NW fun _ => ?_)
    refine ret3c rfl rfl rfl rfl rfl rfl (HasCut.ent (n := 5) HC).1 ⟨[_], ?_, II⟩
    unfold DecPost
    rw [hdec]
    exact ⟨_, rfl, _, rfl, rfl⟩
  have hdec : decR l = .ok (g, q) := by rw [hdR, if_pos ⟨he2, hr, heq⟩]
  rw [decide_eq_true heq]
  repeat (first | refine GD ?_ | refine NW fun _ => ?_)
  refine RD 3 5 (_) ?_
  refine VV 0 ?_; refine VV 1 ?_; refine VV 2 ?_
  refine WH.only 3 rfl rfl (by kernel_rfl) rfl (OP.store rfl rfl rfl rfl rfl rfl rfl UP rfl ⟨(fun h => nomatch h), ?_⟩)
  refine WW 4 ?_
  refine DN ?_
  repeat (first | refine GD ?_ | refine NW fun _ => ?_)
  refine ret3c rfl rfl rfl rfl rfl rfl (HasCut.ent (n := 5) HC).1 ⟨[], ?_, II⟩
  unfold DecPost
  rw [hdec]
  exact ⟨rfl, rfl⟩
end Go.Proofs.YtkoakmaihcheaacDoor
/- Contracts of functions of the given program, and plain laws on what they compute: parts of the proofs of laws. -/

namespace Go.Proofs.YtkoakmaihcheaacDoor
open Go Go.GL

theorem textR_textB {d : ByteArray} (hd : d.size ≤ 16) (rest : List UInt8) : textR 16 (textB d ++ rest, 0) = (d, (rest, 0)) := by
  have hw : (16 : Int) ≤ widest := by decide
  have hl : d.data.toList.length = d.size := Array.length_toList
  have hc := clamp_nat d.size (by omega)
  have h := numR_numB (x := (d.size : Int)) (by omega) (d.data.toList ++ rest)
  rw [hc] at h
  unfold textB textR
  rw [List.append_assoc, h]
  dsimp only
  rw [if_neg (by simp), if_neg (by omega), if_neg (by rw [List.length_append]; omega), Int.toNat_natCast, ← hl, List.take_left, List.drop_left, ba_data]
theorem readM_body {g : Int} {r : Rec} (hr : RightR r) (hg : 0 ≤ g ∧ g ≤ widest) (rest : List UInt8) : readM (bodyM g r ++ rest, 0) = ((g, r), (rest, 0)) := by
  obtain ⟨s1, k1, b1, d1, n1⟩ := r
  obtain ⟨hs1, hc1⟩ := hr
  have hw : (8 : Int) ≤ widest := by decide
  dsimp only at hs1 hc1
  unfold bodyM
  dsimp only
  simp only [List.append_assoc]
  unfold readM
  rw [numR_numB hg, numR_numB (by omega), numR_numB (by omega)]
  by_cases hk : k1 = 1
  · rw [if_pos hk, if_pos hk]
    have hc1 := hc1.resolve_left (fun x => by omega)
    simp only [List.append_assoc]
    rw [numR_numB (by omega), textR_textB hc1.2.2.1, hc1.2.2.2]
  · rw [if_neg hk, if_neg hk]
    have hc1 := hc1.resolve_right (fun x => hk x.1)
    rw [numR_numB (by omega), hc1.2.2.1, hc1.2.2.2]
theorem decR_enc {g : Int} {r : Rec} (hr : RightR r) (hg : 0 ≤ g ∧ g ≤ widest) : decR (sectorM (bodyM g r)) = .ok (g, r) := by
  have hp := padM_len (bodyM_len (gen := g) hr)
  have hl := sectorM_len (bodyM_len (gen := g) hr)
  have e1 : (sectorM (bodyM g r)).take 60 = padM (bodyM g r) := by unfold sectorM; rw [List.take_left' hp]
  have e2 : (sectorM (bodyM g r)).drop 60 = tailM (padM (bodyM g r)) := by unfold sectorM; rw [List.drop_left' hp]
  have ho : OpenOk (sectorM (bodyM g r)) := by
    unfold OpenOk
    rw [hl]
    exact ⟨by omega, by rw [e1, e2]⟩
  unfold decR
  rw [if_pos ⟨ho, hl⟩, e1]
  have := readM_body hr hg (List.replicate (60 - (bodyM g r).length) 0)
  unfold padM
  rw [this, if_pos ⟨rfl, ⟨hr, hg⟩, rfl⟩]
theorem decR_ok {l : List UInt8} {g : Int} {r : Rec} (h : decR l = .ok (g, r)) : RightR r ∧ (0 ≤ g ∧ g ≤ widest) ∧ sectorM (bodyM g r) = l ∧ r.2.2.2.1.size ≤ 16 := by
  have hsz := readM_size (l.take 60, 0)
  unfold decR at h
  split at h
  · split at h
    · rename_i hc
      simp only [Except.ok.injEq] at h
      rw [h] at hc hsz
      exact ⟨hc.2.1.1, hc.2.1.2, hc.2.2, hsz⟩
    · cases h
  · cases h
end Go.Proofs.YtkoakmaihcheaacDoor
/- Contracts of functions of the given program, and plain laws on what they compute: parts of the proofs of laws. -/

namespace Go.Proofs.YtkoakmaihcheaacDoor
open Go Go.GL

theorem body_awake : bodyM 2 (1, 2, 0, ⟨#[]⟩, 7) = [2, 1, 2, 7] := by
  unfold bodyM
  dsimp only
  rw [if_neg (by decide), show clampN 2 = 2 from rfl, show clampN 1 = 1 from rfl, show clampN 7 = 7 from rfl, numB_lt (by decide), numB_lt (by decide), numB_lt (by decide)]
  rfl
set_option maxHeartbeats 1000000 in
set_option maxRecDepth 10000 in
theorem rawake_ro : RO G 9 [] (fun _ => True) (.bool true) := by
  refine RO.enter Tryd.func9 rfl (by decide) rfl Tryd.ntmps9 rfl (fun A hu hA => ?_) (fun _ _ _ h => h)
  repeat (first | refine GO ?_ | refine NW fun _ => ?_)
  refine WL.step rfl (OP.callRT rfl rfl (encode_ok 2 (1, 2, 0, ⟨#[]⟩, 7) (by decide)) (fun _ _ => trivial) rfl rfl ?_)
  rintro v E hE
  unfold EncPost at hE
  rw [if_pos ⟨⟨by decide, .inl ⟨rfl, by decide, rfl, rfl⟩⟩, by decide⟩, body_awake] at hE
  obtain ⟨v1, rfl, a, cap, rfl, rfl⟩ := hE
  have hlen : (sectorM [2, 1, 2, 7]).length = 64 := sectorM_len (by decide)
  have g0 : ((sectorM [2, 1, 2, 7]).map byteV)[0]? = some (.int .u8 2) := rfl
  have g3 : ((sectorM [2, 1, 2, 7]).map byteV)[3]? = some (.int .u8 7) := rfl
  generalize sectorM [2, 1, 2, 7] = l at *
  rw [hlen]
  refine WL.fact (Ent.some (Ent.own (a := a) (n := 64) (cap := cap) (T := 5) (size := 1) (cs := l.map byteV) MM) (by decide)) ?_
  rintro ⟨b2, off2, rfl⟩
  repeat (first | refine GD ?_ | refine NW fun _ => ?_)
  refine WL.guardT rfl rfl rfl rfl (OP.load1 (v := .int .u8 2) rfl rfl rfl rfl (Ent.elem (i := 0) (Ent.own (T := 5) MM) rfl g0) rfl rfl ?_)
  repeat (first | refine GD ?_ | refine NW fun _ => ?_)
  refine WL.guardT rfl rfl rfl rfl (OP.load1 (v := .int .u8 7) rfl rfl rfl rfl (Ent.elem (i := 3) (Ent.own (T := 5) MM) rfl g3) rfl rfl ?_)
  repeat (first | refine GD ?_ | refine NW fun _ => ?_)
  exact ret1 rfl ⟨rfl, MM⟩
end Go.Proofs.YtkoakmaihcheaacDoor
/- Contracts of functions of the given program, and plain laws on what they compute: parts of the proofs of laws. -/

namespace Go.Proofs.YtkoakmaihcheaacDoor
open Go Go.GL

set_option maxRecDepth 10000 in
theorem few_ro (r : Rec) : RO G 10 [.agg (encR r).toArray] (fun _ => True) (.bool (decide ((r.2.2.2.1.size : Int) < 2000))) := by
  refine RO.enter Tryd.func10 rfl (by decide) rfl Tryd.ntmps10 rfl (fun A hu hA => ?_) (fun _ _ _ h => h)
  repeat (first | refine GO ?_ | refine NW fun _ => ?_)
  exact ret1 rfl ⟨rfl, MM⟩
end Go.Proofs.YtkoakmaihcheaacDoor
/- Contracts of functions of the given program, and plain laws on what they compute: parts of the proofs of laws. -/

namespace Go.Proofs.YtkoakmaihcheaacDoor
open Go Go.GL Go.Extern

/-- a type's handle -/
def hd (t : Nat) : Value := .pointer (some ⟨5, t, none⟩)
def rt (t : Nat) : Value := .iface 128 (.agg #[hd t])
def errT : Value := rt 48
theorem xValueOf : IsExt Tryd.prog 51 (fun args => ReflectliteValue.unpack (args.getD 0 (.tuple #[]))) := fun args w => run_callFunc_extern (e := (fun args => ReflectliteValue.unpack (args.getD 0 (.tuple #[])))) Tryd.func51 (by kernel_rfl) (by kernel_rfl) (by kernel_rfl) (by kernel_rfl) args w
theorem xType : IsExt Tryd.prog 52 (ReflectliteValue.methodAny (ReflectliteValue.valueError "reflectlite.Value.Type" 0) (fun t _ _ _ => ReflectliteType.toType t)) := fun args w => run_callFunc_extern (e := (ReflectliteValue.methodAny (ReflectliteValue.valueError "reflectlite.Value.Type" 0) (fun t _ _ _ => ReflectliteType.toType t))) Tryd.func52 (by kernel_rfl) (by kernel_rfl) (by kernel_rfl) (by kernel_rfl) args w
theorem xIsNil : IsExt Tryd.prog 53 (ReflectliteValue.method (ReflectliteValue.valueError "reflectlite.Value.IsNil" 0) ReflectliteValue.isNil) := fun args w => run_callFunc_extern (e := (ReflectliteValue.method (ReflectliteValue.valueError "reflectlite.Value.IsNil" 0) ReflectliteValue.isNil)) Tryd.func53 (by kernel_rfl) (by kernel_rfl) (by kernel_rfl) (by kernel_rfl) args w
theorem xKind : IsExt Tryd.prog 103 (ReflectliteType.abiMethod fun t => do pure (.int .u8 (← Rtype.kind t))) := fun args w => run_callFunc_extern (e := (ReflectliteType.abiMethod fun t => do pure (.int .u8 (← Rtype.kind t)))) Tryd.func103 (by kernel_rfl) (by kernel_rfl) (by kernel_rfl) (by kernel_rfl) args w
theorem xElem : IsExt Tryd.prog 118 (ReflectliteType.method ReflectliteType.elem) := fun args w => run_callFunc_extern (e := (ReflectliteType.method ReflectliteType.elem)) Tryd.func118 (by kernel_rfl) (by kernel_rfl) (by kernel_rfl) (by kernel_rfl) args w
theorem xImplements : IsExt Tryd.prog 119 (ReflectliteType.relation "Implements" ReflectliteType.implements_) := fun args w => run_callFunc_extern (e := (ReflectliteType.relation "Implements" ReflectliteType.implements_)) Tryd.func119 (by kernel_rfl) (by kernel_rfl) (by kernel_rfl) (by kernel_rfl) args w
theorem xTypeOf : IsExt Tryd.prog 70 ReflectliteType.typeOf := fun args w => run_callFunc_extern (e := ReflectliteType.typeOf) Tryd.func70 (by kernel_rfl) (by kernel_rfl) (by kernel_rfl) (by kernel_rfl) args w
theorem xAssignableTo : IsExt Tryd.prog 116 (ReflectliteType.relation "AssignableTo" ReflectliteType.assignableTo) := fun args w => run_callFunc_extern (e := (ReflectliteType.relation "AssignableTo" ReflectliteType.assignableTo)) Tryd.func116 (by kernel_rfl) (by kernel_rfl) (by kernel_rfl) (by kernel_rfl) args w
theorem xElemV : IsExt Tryd.prog 71 (ReflectliteValue.method (ReflectliteValue.valueError "reflectlite.Value.Elem" 0) ReflectliteValue.elem) := fun args w => run_callFunc_extern (e := (ReflectliteValue.method (ReflectliteValue.valueError "reflectlite.Value.Elem" 0) ReflectliteValue.elem)) Tryd.func71 (by kernel_rfl) (by kernel_rfl) (by kernel_rfl) (by kernel_rfl) args w
theorem xSet : IsExt Tryd.prog 72 ReflectliteValue.set := fun args w => run_callFunc_extern (e := ReflectliteValue.set) Tryd.func72 (by kernel_rfl) (by kernel_rfl) (by kernel_rfl) (by kernel_rfl) args w
theorem mKind (h : Value) (w : World) : (Go.method (Tryd.prog.types.size + Made.depth) 128 (.agg #[h]) "Kind").run Tryd.prog w = .ok (103, h) w := by kernel_rfl
theorem mElem (h : Value) (w : World) : (Go.method (Tryd.prog.types.size + Made.depth) 128 (.agg #[h]) "Elem").run Tryd.prog w = .ok (118, .agg #[h]) w := by kernel_rfl
theorem mImplements (h : Value) (w : World) : (Go.method (Tryd.prog.types.size + Made.depth) 128 (.agg #[h]) "Implements").run Tryd.prog w = .ok (119, .agg #[h]) w := by kernel_rfl
theorem mAssignableTo (h : Value) (w : World) : (Go.method (Tryd.prog.types.size + Made.depth) 128 (.agg #[h]) "AssignableTo").run Tryd.prog w = .ok (116, .agg #[h]) w := by kernel_rfl
theorem mUnwrap (v : Value) (w : World) : (Go.method (Tryd.prog.types.size + Made.depth) 89 v "Unwrap").run Tryd.prog w = .ok (110, v) w := by kernel_rfl
theorem valueOfNP (t : Addr) (w : World) : (ReflectliteValue.unpack (.iface 79 (.pointer (some t)))).run Tryd.prog w = .ok (.agg #[hd 79, .pointer (some ⟨w.heap.size, 0, none⟩), .int .u64 150]) (w.alloc (.cells #[.pointer (some t)] 79)) := by kernel_rfl
theorem typeNP (a : Addr) (w : World) : ((ReflectliteValue.methodAny (ReflectliteValue.valueError "reflectlite.Value.Type" 0) (fun t _ _ _ => ReflectliteType.toType t)) #[.agg #[hd 79, .pointer (some a), .int .u64 150]]).run Tryd.prog w = .ok (rt 79) w := by kernel_rfl
theorem partsNP (a : Addr) (w : World) : (ReflectliteValue.parts (.agg #[hd 79, .pointer (some a), .int .u64 150])).run Tryd.prog w = .ok (some (79, a, 150)) w := by kernel_rfl
theorem valueOfFF (t : Addr) (w : World) : (ReflectliteValue.unpack (.iface 121 (.pointer (some t)))).run Tryd.prog w = .ok (.agg #[hd 121, .pointer (some ⟨w.heap.size, 0, none⟩), .int .u64 150]) (w.alloc (.cells #[.pointer (some t)] 121)) := by kernel_rfl
theorem typeFF (a : Addr) (w : World) : ((ReflectliteValue.methodAny (ReflectliteValue.valueError "reflectlite.Value.Type" 0) (fun t _ _ _ => ReflectliteType.toType t)) #[.agg #[hd 121, .pointer (some a), .int .u64 150]]).run Tryd.prog w = .ok (rt 121) w := by kernel_rfl
theorem partsFF (a : Addr) (w : World) : (ReflectliteValue.parts (.agg #[hd 121, .pointer (some a), .int .u64 150])).run Tryd.prog w = .ok (some (121, a, 150)) w := by kernel_rfl
theorem rlm (z : Sem Value) (f : TypeId → Addr → Nat → Nat → Sem Value) (v : Value) : ReflectliteValue.method z f #[v] = (do match ← ReflectliteValue.parts v with | none => z | some (t, a, fl) => f t a fl (fl % 32)) := rfl
theorem isNilNP (a p : Addr) (W : World) (ha : W.cell? a = some (.pointer (some p))) : ((ReflectliteValue.method (ReflectliteValue.valueError "reflectlite.Value.IsNil" 0) ReflectliteValue.isNil) #[.agg #[hd 79, .pointer (some a), .int .u64 150]]).run Tryd.prog W = .ok (.bool false) W := by
  rw [rlm]
  simp only [Sem.run_bind, partsNP, Result.andThen]
  simp [ReflectliteValue.isNil, loadVar, isAgg, underlying, Tryd.underlying79, ha, Result.andThen]
theorem isNilFF (a p : Addr) (W : World) (ha : W.cell? a = some (.pointer (some p))) : ((ReflectliteValue.method (ReflectliteValue.valueError "reflectlite.Value.IsNil" 0) ReflectliteValue.isNil) #[.agg #[hd 121, .pointer (some a), .int .u64 150]]).run Tryd.prog W = .ok (.bool false) W := by
  rw [rlm]
  simp only [Sem.run_bind, partsFF, Result.andThen]
  simp [ReflectliteValue.isNil, loadVar, isAgg, underlying, Tryd.underlying121, ha, Result.andThen]
theorem kindNP (w : World) : ((ReflectliteType.abiMethod fun t => do pure (.int .u8 (← Rtype.kind t))) #[hd 79]).run Tryd.prog w = .ok (.int .u8 22) w := by kernel_rfl
theorem kindFF (w : World) : ((ReflectliteType.abiMethod fun t => do pure (.int .u8 (← Rtype.kind t))) #[hd 121]).run Tryd.prog w = .ok (.int .u8 22) w := by kernel_rfl
theorem kindN (w : World) : ((ReflectliteType.abiMethod fun t => do pure (.int .u8 (← Rtype.kind t))) #[hd 29]).run Tryd.prog w = .ok (.int .u8 2) w := by kernel_rfl
theorem kindF (w : World) : ((ReflectliteType.abiMethod fun t => do pure (.int .u8 (← Rtype.kind t))) #[hd 89]).run Tryd.prog w = .ok (.int .u8 22) w := by kernel_rfl
theorem elemNP (w : World) : ((ReflectliteType.method ReflectliteType.elem) #[.agg #[hd 79]]).run Tryd.prog w = .ok (rt 29) w := by kernel_rfl
theorem elemOfNP (w : World) : (Rtype.elem? 79).run Tryd.prog w = .ok (some 29) w := by kernel_rfl
theorem elemFF (w : World) : ((ReflectliteType.method ReflectliteType.elem) #[.agg #[hd 121]]).run Tryd.prog w = .ok (rt 89) w := by kernel_rfl
theorem elemOfFF (w : World) : (Rtype.elem? 121).run Tryd.prog w = .ok (some 89) w := by kernel_rfl
theorem implementsN (w : World) : ((ReflectliteType.relation "Implements" ReflectliteType.implements_) #[.agg #[hd 29], errT]).run Tryd.prog w = .ok (.bool true) w := by kernel_rfl
theorem typeOfN (v : Value) (w : World) : (ReflectliteType.typeOf #[.iface 29 v]).run Tryd.prog w = .ok (rt 29) w := by kernel_rfl
theorem mkN (p : Addr) (w : World) : (ReflectliteValue.mk 29 p ReflectliteValue.flagAddr).run Tryd.prog w = .ok (.agg #[hd 29, .pointer (some p), .int .u64 386]) w := by kernel_rfl
theorem partsAN (a : Addr) (w : World) : (ReflectliteValue.parts (.agg #[hd 29, .pointer (some a), .int .u64 386])).run Tryd.prog w = .ok (some (29, a, 386)) w := by kernel_rfl
theorem partsBN (a : Addr) (w : World) : (ReflectliteValue.parts (.agg #[hd 29, .pointer (some a), .int .u64 130])).run Tryd.prog w = .ok (some (29, a, 130)) w := by kernel_rfl
theorem directN (w : World) : (Rtype.directlyAssignable 29 29).run Tryd.prog w = .ok true w := by kernel_rfl
theorem implementsF (w : World) : ((ReflectliteType.relation "Implements" ReflectliteType.implements_) #[.agg #[hd 89], errT]).run Tryd.prog w = .ok (.bool true) w := by kernel_rfl
theorem typeOfF (v : Value) (w : World) : (ReflectliteType.typeOf #[.iface 89 v]).run Tryd.prog w = .ok (rt 89) w := by kernel_rfl
theorem mkF (p : Addr) (w : World) : (ReflectliteValue.mk 89 p ReflectliteValue.flagAddr).run Tryd.prog w = .ok (.agg #[hd 89, .pointer (some p), .int .u64 406]) w := by kernel_rfl
theorem partsAF (a : Addr) (w : World) : (ReflectliteValue.parts (.agg #[hd 89, .pointer (some a), .int .u64 406])).run Tryd.prog w = .ok (some (89, a, 406)) w := by kernel_rfl
theorem partsBF (a : Addr) (w : World) : (ReflectliteValue.parts (.agg #[hd 89, .pointer (some a), .int .u64 150])).run Tryd.prog w = .ok (some (89, a, 150)) w := by kernel_rfl
theorem directF (w : World) : (Rtype.directlyAssignable 89 89).run Tryd.prog w = .ok true w := by kernel_rfl
theorem assignFN (w : World) : ((ReflectliteType.relation "AssignableTo" ReflectliteType.assignableTo) #[.agg #[hd 89], rt 29]).run Tryd.prog w = .ok (.bool false) w := by kernel_rfl
theorem assignNN (w : World) : ((ReflectliteType.relation "AssignableTo" ReflectliteType.assignableTo) #[.agg #[hd 29], rt 29]).run Tryd.prog w = .ok (.bool true) w := by kernel_rfl
theorem assignFF (w : World) : ((ReflectliteType.relation "AssignableTo" ReflectliteType.assignableTo) #[.agg #[hd 89], rt 89]).run Tryd.prog w = .ok (.bool true) w := by kernel_rfl
theorem assignNF (w : World) : ((ReflectliteType.relation "AssignableTo" ReflectliteType.assignableTo) #[.agg #[hd 29], rt 89]).run Tryd.prog w = .ok (.bool false) w := by kernel_rfl
theorem valueOfF (e : Addr) (w : World) : (ReflectliteValue.unpack (.iface 89 (.pointer (some e)))).run Tryd.prog w = .ok (.agg #[hd 89, .pointer (some ⟨w.heap.size, 0, none⟩), .int .u64 150]) (w.alloc (.cells #[.pointer (some e)] 89)) := by kernel_rfl
theorem valueOfN (c : Int) (w : World) : (ReflectliteValue.unpack (.iface 29 (.int .i64 c))).run Tryd.prog w = .ok (.agg #[hd 29, .pointer (some ⟨w.heap.size, 0, none⟩), .int .u64 130]) (w.alloc (.cells #[.int .i64 c] 29)) := by kernel_rfl
theorem elemVNP (a p : Addr) (W : World) (ha : W.cell? a = some (.pointer (some p))) : ((ReflectliteValue.method (ReflectliteValue.valueError "reflectlite.Value.Elem" 0) ReflectliteValue.elem) #[.agg #[hd 79, .pointer (some a), .int .u64 150]]).run Tryd.prog W = .ok (.agg #[hd 29, .pointer (some p), .int .u64 386]) W := by
  rw [rlm]
  simp only [Sem.run_bind, partsNP, Result.andThen]
  simp [ReflectliteValue.elem, loadVar, isAgg, underlying, Tryd.underlying79, ha, Result.andThen, elemOfNP, mkN]
theorem elemVFF (a p : Addr) (W : World) (ha : W.cell? a = some (.pointer (some p))) : ((ReflectliteValue.method (ReflectliteValue.valueError "reflectlite.Value.Elem" 0) ReflectliteValue.elem) #[.agg #[hd 121, .pointer (some a), .int .u64 150]]).run Tryd.prog W = .ok (.agg #[hd 89, .pointer (some p), .int .u64 406]) W := by
  rw [rlm]
  simp only [Sem.run_bind, partsFF, Result.andThen]
  simp [ReflectliteValue.elem, loadVar, isAgg, underlying, Tryd.underlying121, ha, Result.andThen, elemOfFF, mkF]
theorem rls (v x : Value) : ReflectliteValue.set #[v, x] = (do
    let (some (dst, a, fl), some (src, b, _)) := (← ReflectliteValue.parts v, ← ReflectliteValue.parts x)
      | unsupported (.noEntry "extern/(internal/reflectlite.Value).Set.zeroValue")
    if fl / ReflectliteValue.flagAddr % 2 == 0 then unsupported (.noEntry "extern/(internal/reflectlite.Value).Set.unaddressable")
    let val ← loadVar src b
    if ← Rtype.directlyAssignable dst src then storeVar dst a val
    else if ← Rtype.implements dst src then
      if (← Rtype.kind src) == 20 then
        match val with
        | .nilIface => unsupported (.noEntry "extern/reflectlite: a nil value of one interface type handed on as a value of another")
        | _ => storeVar dst a val
      else storeVar dst a (.iface src val)
    else panicString ("reflectlite.Set: value of type " ++ (← Rtype.spelt src) ++ " is not assignable to type " ++ (← Rtype.spelt dst))
    pure (.tuple #[])) := rfl
theorem sizeN (w : World) : (sizeOf 29).run Tryd.prog w = .ok 1 w := by kernel_rfl
theorem setN (ta b : Addr) (c : Int) (old : Value) (W : World) (hb : W.cell? b = some (.int .i64 c)) (ht : W.cell? ta = some old) (hf : W.frozen? ta = false) :
    (ReflectliteValue.set #[.agg #[hd 29, .pointer (some ta), .int .u64 386], .agg #[hd 29, .pointer (some b), .int .u64 130]]).run Tryd.prog W = .ok (.tuple #[]) (W.setCell ta (.int .i64 c)) := by
  rw [rls]
  simp only [Sem.run_bind, partsAN, partsBN, Result.andThen]
  simp [ReflectliteValue.flagAddr, loadVar, isAgg, underlying, Tryd.underlying29, hb, Result.andThen, directN, storeVar, Value.cells, storeCells, Addr.add]
  rw [run_store Tryd.prog W ta _ _ (by rfl)]
  simp [ht, hf]
theorem sizeF (w : World) : (sizeOf 89).run Tryd.prog w = .ok 1 w := by kernel_rfl
theorem setF (ta b : Addr) (c : Option Addr) (old : Value) (W : World) (hb : W.cell? b = some (.pointer c)) (ht : W.cell? ta = some old) (hf : W.frozen? ta = false) :
    (ReflectliteValue.set #[.agg #[hd 89, .pointer (some ta), .int .u64 406], .agg #[hd 89, .pointer (some b), .int .u64 150]]).run Tryd.prog W = .ok (.tuple #[]) (W.setCell ta (.pointer c)) := by
  rw [rls]
  simp only [Sem.run_bind, partsAF, partsBF, Result.andThen]
  simp [ReflectliteValue.flagAddr, loadVar, isAgg, underlying, Tryd.underlying89, hb, Result.andThen, directF, storeVar, Value.cells, storeCells, Addr.add]
  rw [run_store Tryd.prog W ta _ _ (by rfl)]
  simp [ht, hf]
theorem assertFIA (v : Value) (w : World) : (Instr.typeAssert (.iface 89 v) 48 133 true).run Tryd.prog w = .ok (.tuple #[.nilIface, .bool false]) w := run_typeAssert_lacksB Tryd.underlying133 (by kernel_rfl) (by kernel_rfl) v 48 w
theorem assertFIU (v : Value) (w : World) : (Instr.typeAssert (.iface 89 v) 48 136 true).run Tryd.prog w = .ok (.tuple #[.iface 89 v, .bool true]) w := run_typeAssert_hasB Tryd.underlying136 (by kernel_rfl) v 48 w
theorem assertNIA (v : Value) (w : World) : (Instr.typeAssert (.iface 29 v) 48 133 true).run Tryd.prog w = .ok (.tuple #[.nilIface, .bool false]) w := run_typeAssert_lacksB Tryd.underlying133 (by kernel_rfl) (by kernel_rfl) v 48 w
theorem assertNIU (v : Value) (w : World) : (Instr.typeAssert (.iface 29 v) 48 136 true).run Tryd.prog w = .ok (.tuple #[.nilIface, .bool false]) w := run_typeAssert_lacksB Tryd.underlying136 (by kernel_rfl) (by kernel_rfl) v 48 w
theorem assertNIL (v : Value) (w : World) : (Instr.typeAssert (.iface 29 v) 48 138 true).run Tryd.prog w = .ok (.tuple #[.nilIface, .bool false]) w := run_typeAssert_lacksB Tryd.underlying138 (by kernel_rfl) (by kernel_rfl) v 48 w
end Go.Proofs.YtkoakmaihcheaacDoor
/- Contracts of functions of the given program, and plain laws on what they compute: parts of the proofs of laws. -/

namespace Go.Proofs.YtkoakmaihcheaacDoor
open Go Go.GL Go.Extern

/-- the cells of a fault -/
def faultCells (op : ByteArray) (at_ c : Int) : List Value := [.string op, .int .i64 at_, .iface 29 (.int .i64 c)]
/-- the type of errors lies where errors.As looks for it -/
def ErrT : Assn := cellAt 0 0 errT
theorem up_ErrT : Up ErrT := up_cellAt _ _ _
theorem cell_of_blk0 {L : List Assn} {w : World} {b : Nat} {c : List Value} {T : TypeId} {v : Value} (s : Sat L w) (m : blk b c T ∈ L) (h : c[0]? = some v) : w.cell? ⟨b, 0, none⟩ = some v :=
  cell_of_cellAt ((Ent.blk m h) _ s)
theorem cell_of_cells0 {L : List Assn} {w : World} {b off i : Nat} {l : List Value} {v : Value} (s : Sat L w) (m : Ent L (cellsAt b off l)) (h : l[i]? = some v) : w.cell? ⟨b, off + i, none⟩ = some v :=
  cell_of_cellAt (cellsAt_one (m _ s) h)
set_option maxRecDepth 10000 in
theorem as_nil (v : Value) : RO G 31 [.nilIface, v] (fun _ => True) (.bool false) := by
  refine RO.enter Tryd.func31 rfl (by decide) rfl Tryd.ntmps31 rfl (fun A _ hA => ?_) (fun _ _ _ h => h)
  repeat (first | refine GO ?_ | refine NW fun _ => ?_)
  exact ret1 rfl ⟨rfl, MM⟩
set_option maxRecDepth 10000 in
theorem unwrap_ro (b : Nat) (op : ByteArray) (at_ c : Int) : RO G 110 [.pointer (some ⟨b, 0, none⟩)] (cellsAt b 0 (faultCells op at_ c)) (.iface 29 (.int .i64 c)) := by
  refine RO.enter Tryd.func110 rfl (by decide) rfl Tryd.ntmps110 rfl (fun A hu hA => ?_) (up_cellsAt _ _ _)
  repeat (first | refine GO ?_ | refine NW fun _ => ?_)
  refine WL.step rfl (OP.load1 (v := .iface 29 (.int .i64 c)) rfl rfl rfl rfl (Ent.mem (A := A) MM hu (fun h x => cellsAt_one (i := 2) (hA h x) rfl)) rfl rfl ?_)
  repeat (first | refine GO ?_ | refine NW fun _ => ?_)
  exact ret1 rfl ⟨rfl, MM⟩
set_option maxHeartbeats 4000000 in
set_option maxRecDepth 10000 in
theorem asF_hit (b p q : Nat) (old : Value) :
    Triple G 54 [.iface 89 (.pointer (some ⟨b, 0, none⟩)), .iface 121 (.pointer (some ⟨p, 0, none⟩)), .agg #[hd 121, .pointer (some ⟨q, 0, none⟩), .int .u64 150], rt 89] [blk p [old] 89, blk q [.pointer (some ⟨p, 0, none⟩)] 121] (fun v M => v = .bool true ∧ M = [blk p [.pointer (some ⟨b, 0, none⟩)] 89]) := by
  refine Triple.enter Tryd.func54 rfl (by decide) rfl Tryd.ntmps54 rfl (fun X => ?_)
  repeat (first | refine GO ?_ | refine NW fun _ => ?_)
  rename_i bx
  refine WC.loop (σ := Unit) (fun _ => True) (fun _ => [(0, .val (.iface 89 (.pointer (some ⟨b, 0, none⟩)))), (1, .val (.iface 121 (.pointer (some ⟨p, 0, none⟩)))), (3, .val (rt 89)), (6, .val (.pointer (some ⟨bx, 0, none⟩))), (8, .val (.bool false))])
    (fun _ => [blk bx [hd 121, .pointer (some ⟨q, 0, none⟩), .int .u64 150] 111, blk p [old] 89, blk q [.pointer (some ⟨p, 0, none⟩)] 121, X]) (fun _ => 0) () trivial ⟨rfl, rfl, rfl, rfl, rfl, trivial⟩ II ?_
  rintro _ _
  repeat (first | refine GD ?_ | refine NW fun _ => ?_)
  refine WL.step rfl (OP.extP (.call xTypeOf rfl rfl) (fun w _ => typeOfF _ w) rfl rfl ?_)
  repeat (first | refine GD ?_ | refine NW fun _ => ?_)
  refine WL.step rfl (OP.extP (.inv xAssignableTo rfl rfl rfl (fun w => mAssignableTo _ w)) (fun w _ => assignFF w) rfl rfl ?_)
  repeat (first | refine GD ?_ | refine NW fun _ => ?_)
  refine WL.step rfl (OP.extP (.call xElemV rfl rfl) (fun w s => elemVFF _ ⟨p, 0, none⟩ w (cell_of_blk0 (b := q) s MM rfl)) rfl rfl ?_)
  repeat (first | refine GD ?_ | refine NW fun _ => ?_)
  refine WL.step rfl (OP.extNew (mk := (fun n => .agg #[hd 89, .pointer (some ⟨n, 0, none⟩), .int .u64 150])) (.call xValueOf rfl rfl) (fun w _ => valueOfF _ w) rfl rfl (fun q2 => ?_))
  repeat (first | refine GD ?_ | refine NW fun _ => ?_)
  refine WL.step rfl (OP.extSet (.call xSet rfl rfl) (fun w s => setF ⟨p, 0, none⟩ ⟨q2, 0, none⟩ (some ⟨b, 0, none⟩) old w (cell_of_blk0 (b := q2) s MM rfl) (cell_of_blk0 (b := p) s MM rfl) (Sat.notFrozen (b := p) (c := [old]) (T := 89) s MM (Nat.zero_lt_succ _))) (by repeat (first | exact Upd.here _ _ _ _ _ | apply Upd.there)) rfl rfl ?_)
  repeat (first | refine GD ?_ | refine NW fun _ => ?_)
  exact ret1 rfl ⟨_, ⟨rfl, rfl⟩, II⟩
set_option maxHeartbeats 4000000 in
set_option maxRecDepth 10000 in
theorem asF_miss (p q : Nat) (c : Int) :
    Triple G 54 [.iface 29 (.int .i64 c), .iface 121 (.pointer (some ⟨p, 0, none⟩)), .agg #[hd 121, .pointer (some ⟨q, 0, none⟩), .int .u64 150], rt 89] [] (fun v M => v = .bool false ∧ M = []) := by
  refine Triple.enter Tryd.func54 rfl (by decide) rfl Tryd.ntmps54 rfl (fun X => ?_)
  repeat (first | refine GO ?_ | refine NW fun _ => ?_)
  rename_i bx
  refine WC.loop (σ := Unit) (fun _ => True) (fun _ => [(0, .val (.iface 29 (.int .i64 c))), (1, .val (.iface 121 (.pointer (some ⟨p, 0, none⟩)))), (3, .val (rt 89)), (6, .val (.pointer (some ⟨bx, 0, none⟩))), (8, .val (.bool false))])
    (fun _ => [X]) (fun _ => 0) () trivial ⟨rfl, rfl, rfl, rfl, rfl, trivial⟩ II ?_
  rintro _ _
  repeat (first | refine GD ?_ | refine NW fun _ => ?_)
  refine WL.step rfl (OP.extP (.call xTypeOf rfl rfl) (fun w _ => typeOfN _ w) rfl rfl ?_)
  repeat (first | refine GD ?_ | refine NW fun _ => ?_)
  refine WL.step rfl (OP.extP (.inv xAssignableTo rfl rfl rfl (fun w => mAssignableTo _ w)) (fun w _ => assignNF w) rfl rfl ?_)
  repeat (first | refine GD ?_ | refine NW fun _ => ?_)
  refine WL.step rfl (OP.assert rfl rfl (fun w => assertNIA _ w) rfl rfl ?_)
  repeat (first | refine GD ?_ | refine NW fun _ => ?_)
  refine WL.step rfl (OP.assert rfl rfl (fun w => assertNIU _ w) rfl rfl ?_)
  repeat (first | refine GD ?_ | refine NW fun _ => ?_)
  refine WL.step rfl (OP.assert rfl rfl (fun w => assertNIL _ w) rfl rfl ?_)
  repeat (first | refine GD ?_ | refine NW fun _ => ?_)
  exact ret1 rfl ⟨_, ⟨rfl, rfl⟩, II⟩
set_option maxHeartbeats 4000000 in
set_option maxRecDepth 10000 in
theorem asN_fault (b p q : Nat) (op : ByteArray) (at_ c : Int) (old : Value) (A : Assn) (hu : Up A) (hA : ∀ h, A h → cellsAt b 0 (faultCells op at_ c) h) :
    Triple G 54 [.iface 89 (.pointer (some ⟨b, 0, none⟩)), .iface 79 (.pointer (some ⟨p, 0, none⟩)), .agg #[hd 79, .pointer (some ⟨q, 0, none⟩), .int .u64 150], rt 29] [blk p [old] 29, blk q [.pointer (some ⟨p, 0, none⟩)] 79, A] (fun v M => v = .bool true ∧ M = [blk p [.int .i64 c] 29, A]) := by
  refine Triple.enter Tryd.func54 rfl (by decide) rfl Tryd.ntmps54 rfl (fun X => ?_)
  repeat (first | refine GO ?_ | refine NW fun _ => ?_)
  rename_i bx
  refine WC.loop (σ := Bool) (fun _ => True) (fun s => match s with | true => [(0, .val (.iface 89 (.pointer (some ⟨b, 0, none⟩)))), (1, .val (.iface 79 (.pointer (some ⟨p, 0, none⟩)))), (3, .val (rt 29)), (6, .val (.pointer (some ⟨bx, 0, none⟩))), (8, .val (.bool false))] | false => [(0, .val (.iface 29 (.int .i64 c))), (1, .val (.iface 79 (.pointer (some ⟨p, 0, none⟩)))), (3, .val (rt 29)), (6, .val (.pointer (some ⟨bx, 0, none⟩))), (8, .val (.bool false))])
    (fun _ => [blk bx [hd 79, .pointer (some ⟨q, 0, none⟩), .int .u64 150] 111, blk p [old] 29, blk q [.pointer (some ⟨p, 0, none⟩)] 79, A, X]) (fun s => match s with | true => 1 | false => 0) true trivial ⟨rfl, rfl, rfl, rfl, rfl, trivial⟩ II ?_
  rintro s _
  cases s
  · repeat (first | refine GD ?_ | refine NW fun _ => ?_)
    refine WL.step rfl (OP.extP (.call xTypeOf rfl rfl) (fun w _ => typeOfN _ w) rfl rfl ?_)
    repeat (first | refine GD ?_ | refine NW fun _ => ?_)
    refine WL.step rfl (OP.extP (.inv xAssignableTo rfl rfl rfl (fun w => mAssignableTo _ w)) (fun w _ => assignNN w) rfl rfl ?_)
    repeat (first | refine GD ?_ | refine NW fun _ => ?_)
    refine WL.step rfl (OP.extP (.call xElemV rfl rfl) (fun w s => elemVNP _ ⟨p, 0, none⟩ w (cell_of_blk0 (b := q) s MM rfl)) rfl rfl ?_)
    repeat (first | refine GD ?_ | refine NW fun _ => ?_)
    refine WL.step rfl (OP.extNew (mk := (fun n => .agg #[hd 29, .pointer (some ⟨n, 0, none⟩), .int .u64 130])) (.call xValueOf rfl rfl) (fun w _ => valueOfN _ w) rfl rfl (fun q2 => ?_))
    repeat (first | refine GD ?_ | refine NW fun _ => ?_)
    refine WL.step rfl (OP.extSet (.call xSet rfl rfl) (fun w s => setN ⟨p, 0, none⟩ ⟨q2, 0, none⟩ c old w (cell_of_blk0 (b := q2) s MM rfl) (cell_of_blk0 (b := p) s MM rfl) (Sat.notFrozen (b := p) (c := [old]) (T := 29) s MM (Nat.zero_lt_succ _))) (by repeat (first | exact Upd.here _ _ _ _ _ | apply Upd.there)) rfl rfl ?_)
    repeat (first | refine GD ?_ | refine NW fun _ => ?_)
    exact ret1 rfl ⟨_, ⟨rfl, rfl⟩, II⟩
  · repeat (first | refine GD ?_ | refine NW fun _ => ?_)
    refine WL.step rfl (OP.extP (.call xTypeOf rfl rfl) (fun w _ => typeOfF _ w) rfl rfl ?_)
    repeat (first | refine GD ?_ | refine NW fun _ => ?_)
    refine WL.step rfl (OP.extP (.inv xAssignableTo rfl rfl rfl (fun w => mAssignableTo _ w)) (fun w _ => assignFN w) rfl rfl ?_)
    repeat (first | refine GD ?_ | refine NW fun _ => ?_)
    refine WL.step rfl (OP.assert rfl rfl (fun w => assertFIA _ w) rfl rfl ?_)
    repeat (first | refine GD ?_ | refine NW fun _ => ?_)
    refine WL.step rfl (OP.assert rfl rfl (fun w => assertFIU _ w) rfl rfl ?_)
    repeat (first | refine GD ?_ | refine NW fun _ => ?_)
    refine WL.step rfl (OP.invRO rfl rfl (fun w => mUnwrap _ w) (unwrap_ro b op at_ c) (Ent.mem (A := A) MM hu hA) rfl rfl ?_)
    repeat (first | refine GD ?_ | refine NW fun _ => ?_)
    exact ⟨false, trivial, by decide, ⟨rfl, rfl, rfl, rfl, rfl, trivial⟩, II⟩
set_option maxHeartbeats 4000000 in
set_option maxRecDepth 10000 in
theorem as_faults (b p : Nat) (old : Value) (A : Assn) (hu : Up A) (hA : ∀ h, A h → ErrT h) :
    Triple G 31 [.iface 89 (.pointer (some ⟨b, 0, none⟩)), .iface 121 (.pointer (some ⟨p, 0, none⟩))] ([blk p [old] 89, A]) (fun v M => v = .bool true ∧ M = [blk p [.pointer (some ⟨b, 0, none⟩)] 89, A]) := by
  refine Triple.enter Tryd.func31 rfl (by decide) rfl Tryd.ntmps31 rfl (fun F => ?_)
  repeat (first | refine GO ?_ | refine NW fun _ => ?_)
  refine WL.step rfl (OP.extNew (mk := fun n => .agg #[hd 121, .pointer (some ⟨n, 0, none⟩), .int .u64 150]) (.call xValueOf rfl rfl) (fun w _ => valueOfFF _ w) rfl rfl (fun q => ?_))
  repeat (first | refine GO ?_ | refine NW fun _ => ?_)
  refine WL.step rfl (OP.extP (.call xType rfl rfl) (fun w _ => typeFF _ w) rfl rfl ?_)
  repeat (first | refine GO ?_ | refine NW fun _ => ?_)
  refine WL.step rfl (OP.extP (.inv xKind rfl rfl rfl (fun w => mKind _ w)) (fun w _ => kindFF w) rfl rfl ?_)
  repeat (first | refine GO ?_ | refine NW fun _ => ?_)
  refine WL.guardT rfl rfl rfl rfl (OP.extP (.call xIsNil rfl rfl) (fun w s => isNilFF _ ⟨p, 0, none⟩ w (cell_of_blk0 (b := q) s MM rfl)) rfl rfl ?_)
  repeat (first | refine GO ?_ | refine NW fun _ => ?_)
  refine WL.step rfl (OP.extP (.inv xElem rfl rfl rfl (fun w => mElem _ w)) (fun w _ => elemFF w) rfl rfl ?_)
  repeat (first | refine GO ?_ | refine NW fun _ => ?_)
  refine WL.step rfl (OP.extP (.inv xKind rfl rfl rfl (fun w => mKind _ w)) (fun w _ => kindF w) rfl rfl ?_)
  repeat (first | refine GO ?_ | refine NW fun _ => ?_)
  refine WL.guardT rfl rfl rfl rfl (OP.load1 (v := errT) rfl rfl rfl rfl (Ent.mem (A := A) MM hu hA) rfl rfl ?_)
  repeat (first | refine GO ?_ | refine NW fun _ => ?_)
  refine WL.guardT rfl rfl rfl rfl (OP.extP (.inv xImplements rfl rfl rfl (fun w => mImplements _ w)) (fun w _ => implementsF w) rfl rfl ?_)
  repeat (first | refine GO ?_ | refine NW fun _ => ?_)
  refine WL.step rfl (OP.call (pre := [blk p [old] 89, blk q [.pointer (some ⟨p, 0, none⟩)] 121]) rfl rfl (asF_hit b p q old) PS rfl rfl ?_)
  rintro _ _ ⟨rfl, rfl⟩
  repeat (first | refine GO ?_ | refine NW fun _ => ?_)
  exact ret1 rfl ⟨_, ⟨rfl, rfl⟩, II⟩
set_option maxHeartbeats 4000000 in
set_option maxRecDepth 10000 in
theorem as_faultsN (p : Nat) (c : Int) (old : Value) (A : Assn) (hu : Up A) (hA : ∀ h, A h → ErrT h) :
    Triple G 31 [.iface 29 (.int .i64 c), .iface 121 (.pointer (some ⟨p, 0, none⟩))] ([blk p [old] 89, A]) (fun v M => v = .bool false ∧ M = [blk p [old] 89, A]) := by
  refine Triple.enter Tryd.func31 rfl (by decide) rfl Tryd.ntmps31 rfl (fun F => ?_)
  repeat (first | refine GO ?_ | refine NW fun _ => ?_)
  refine WL.step rfl (OP.extNew (mk := fun n => .agg #[hd 121, .pointer (some ⟨n, 0, none⟩), .int .u64 150]) (.call xValueOf rfl rfl) (fun w _ => valueOfFF _ w) rfl rfl (fun q => ?_))
  repeat (first | refine GO ?_ | refine NW fun _ => ?_)
  refine WL.step rfl (OP.extP (.call xType rfl rfl) (fun w _ => typeFF _ w) rfl rfl ?_)
  repeat (first | refine GO ?_ | refine NW fun _ => ?_)
  refine WL.step rfl (OP.extP (.inv xKind rfl rfl rfl (fun w => mKind _ w)) (fun w _ => kindFF w) rfl rfl ?_)
  repeat (first | refine GO ?_ | refine NW fun _ => ?_)
  refine WL.guardT rfl rfl rfl rfl (OP.extP (.call xIsNil rfl rfl) (fun w s => isNilFF _ ⟨p, 0, none⟩ w (cell_of_blk0 (b := q) s MM rfl)) rfl rfl ?_)
  repeat (first | refine GO ?_ | refine NW fun _ => ?_)
  refine WL.step rfl (OP.extP (.inv xElem rfl rfl rfl (fun w => mElem _ w)) (fun w _ => elemFF w) rfl rfl ?_)
  repeat (first | refine GO ?_ | refine NW fun _ => ?_)
  refine WL.step rfl (OP.extP (.inv xKind rfl rfl rfl (fun w => mKind _ w)) (fun w _ => kindF w) rfl rfl ?_)
  repeat (first | refine GO ?_ | refine NW fun _ => ?_)
  refine WL.guardT rfl rfl rfl rfl (OP.load1 (v := errT) rfl rfl rfl rfl (Ent.mem (A := A) MM hu hA) rfl rfl ?_)
  repeat (first | refine GO ?_ | refine NW fun _ => ?_)
  refine WL.guardT rfl rfl rfl rfl (OP.extP (.inv xImplements rfl rfl rfl (fun w => mImplements _ w)) (fun w _ => implementsF w) rfl rfl ?_)
  repeat (first | refine GO ?_ | refine NW fun _ => ?_)
  refine WL.step rfl (OP.call (pre := []) (F := _) rfl rfl (asF_miss p q c) (Imp.refl _) rfl rfl ?_)
  rintro _ _ ⟨rfl, rfl⟩
  repeat (first | refine GO ?_ | refine NW fun _ => ?_)
  exact ret1 rfl ⟨_, ⟨rfl, rfl⟩, II⟩
set_option maxHeartbeats 4000000 in
set_option maxRecDepth 10000 in
theorem as_code (b p : Nat) (op : ByteArray) (at_ c : Int) (old : Value) (A : Assn) (hu : Up A) (hA : ∀ h, A h → ErrT h) (hA2 : ∀ h, A h → cellsAt b 0 (faultCells op at_ c) h) :
    Triple G 31 [.iface 89 (.pointer (some ⟨b, 0, none⟩)), .iface 79 (.pointer (some ⟨p, 0, none⟩))] ([blk p [old] 29, A]) (fun v M => v = .bool true ∧ M = [blk p [.int .i64 c] 29, A]) := by
  refine Triple.enter Tryd.func31 rfl (by decide) rfl Tryd.ntmps31 rfl (fun F => ?_)
  repeat (first | refine GO ?_ | refine NW fun _ => ?_)
  refine WL.step rfl (OP.extNew (mk := fun n => .agg #[hd 79, .pointer (some ⟨n, 0, none⟩), .int .u64 150]) (.call xValueOf rfl rfl) (fun w _ => valueOfNP _ w) rfl rfl (fun q => ?_))
  repeat (first | refine GO ?_ | refine NW fun _ => ?_)
  refine WL.step rfl (OP.extP (.call xType rfl rfl) (fun w _ => typeNP _ w) rfl rfl ?_)
  repeat (first | refine GO ?_ | refine NW fun _ => ?_)
  refine WL.step rfl (OP.extP (.inv xKind rfl rfl rfl (fun w => mKind _ w)) (fun w _ => kindNP w) rfl rfl ?_)
  repeat (first | refine GO ?_ | refine NW fun _ => ?_)
  refine WL.guardT rfl rfl rfl rfl (OP.extP (.call xIsNil rfl rfl) (fun w s => isNilNP _ ⟨p, 0, none⟩ w (cell_of_blk0 (b := q) s MM rfl)) rfl rfl ?_)
  repeat (first | refine GO ?_ | refine NW fun _ => ?_)
  refine WL.step rfl (OP.extP (.inv xElem rfl rfl rfl (fun w => mElem _ w)) (fun w _ => elemNP w) rfl rfl ?_)
  repeat (first | refine GO ?_ | refine NW fun _ => ?_)
  refine WL.step rfl (OP.extP (.inv xKind rfl rfl rfl (fun w => mKind _ w)) (fun w _ => kindN w) rfl rfl ?_)
  repeat (first | refine GO ?_ | refine NW fun _ => ?_)
  refine WL.guardT rfl rfl rfl rfl (OP.load1 (v := errT) rfl rfl rfl rfl (Ent.mem (A := A) MM hu hA) rfl rfl ?_)
  repeat (first | refine GO ?_ | refine NW fun _ => ?_)
  refine WL.guardT rfl rfl rfl rfl (OP.extP (.inv xImplements rfl rfl rfl (fun w => mImplements _ w)) (fun w _ => implementsN w) rfl rfl ?_)
  repeat (first | refine GO ?_ | refine NW fun _ => ?_)
  refine WL.step rfl (OP.call (pre := [blk p [old] 29, blk q [.pointer (some ⟨p, 0, none⟩)] 79, A]) rfl rfl (asN_fault b p q op at_ c old A hu hA2) PS rfl rfl ?_)
  rintro _ _ ⟨rfl, rfl⟩
  repeat (first | refine GO ?_ | refine NW fun _ => ?_)
  exact ret1 rfl ⟨_, ⟨rfl, rfl⟩, II⟩
end Go.Proofs.YtkoakmaihcheaacDoor
/- Contracts of functions of the given program, and plain laws on what they compute: parts of the proofs of laws. -/

namespace Go.Proofs.YtkoakmaihcheaacDoor
open Go Go.GL

def FaultR (b : Nat) (op : ByteArray) (at_ c : Int) : Assn := fun h => ErrT h ∧ cellsAt b 0 (faultCells op at_ c) h
theorem up_FaultR (b : Nat) (op : ByteArray) (at_ c : Int) : Up (FaultR b op at_ c) := up_and up_ErrT (up_cellsAt _ _ _)
set_option maxRecDepth 10000 in
theorem code_nil : RO G 13 [.nilIface] (fun _ => True) (.int .i64 0) := by
  refine RO.enter Tryd.func13 rfl (by decide) rfl Tryd.ntmps13 rfl (fun A hu hA => ?_) (fun _ _ _ h => h)
  repeat (first | refine GO ?_ | refine NW fun _ => ?_)
  refine WL.step rfl (OP.callRO rfl rfl (as_nil _) (fun _ _ => trivial) rfl rfl ?_)
  repeat (first | refine GO ?_ | refine NW fun _ => ?_)
  exact ret1 rfl ⟨rfl, MM⟩
set_option maxRecDepth 10000 in
theorem code_fault (b : Nat) (op : ByteArray) (at_ c : Int) : RO G 13 [.iface 89 (.pointer (some ⟨b, 0, none⟩))] (FaultR b op at_ c) (.int .i64 c) := by
  refine RO.enter Tryd.func13 rfl (by decide) rfl Tryd.ntmps13 rfl (fun A hu hA => ?_) (up_FaultR _ _ _ _)
  repeat (first | refine GO ?_ | refine NW fun _ => ?_)
  rename_i p
  refine WL.step rfl (OP.call (pre := [blk p [.int .i64 0] 29, A]) rfl rfl (as_code b p op at_ c (.int .i64 0) A hu (fun h x => (hA h x).1) (fun h x => (hA h x).2)) PS rfl rfl ?_)
  rintro _ _ ⟨rfl, rfl⟩
  repeat (first | refine GO ?_ | refine NW fun _ => ?_)
  exact ret1 rfl ⟨rfl, MM⟩
def Ptrs (l : List Value) (v : Value) (E : List Assn) : Prop := ∃ a cap, v = .slice a l.length cap ∧ E = [ownS a l.length cap 89 1 l]
set_option maxRecDepth 10000 in
theorem faults_nil : RT G 37 [.nilIface] (fun _ => True) (fun v E => v = .slice none 0 0 ∧ E = []) := by
  refine RT.enter Tryd.func37 rfl (by decide) rfl Tryd.ntmps37 rfl (fun A hu hA => ?_)
  repeat (first | refine GO ?_ | refine NW fun _ => ?_)
  rename_i p
  refine WC.loop (σ := Unit) (fun _ => True) (fun _ => [(0, .val .nilIface), (3, .val (.slice none 0 0)), (4, .val (.pointer (some ⟨p, 0, none⟩)))]) (fun _ => [A]) (fun _ => 0) () trivial ⟨rfl, rfl, rfl, trivial⟩ II ?_
  rintro _ _
  repeat (first | refine GO ?_ | refine NW fun _ => ?_)
  refine WL.step rfl (OP.callRO rfl rfl (as_nil _) (fun _ _ => trivial) rfl rfl ?_)
  repeat (first | refine GO ?_ | refine NW fun _ => ?_)
  exact ret1 rfl ⟨[], ⟨rfl, rfl⟩, II⟩
set_option maxHeartbeats 1000000 in
set_option maxRecDepth 10000 in
theorem faults_one (b : Nat) (op : ByteArray) (at_ c : Int) : RT G 37 [.iface 89 (.pointer (some ⟨b, 0, none⟩))] (FaultR b op at_ c) (Ptrs [.pointer (some ⟨b, 0, none⟩)]) := by
  refine RT.enter Tryd.func37 rfl (by decide) rfl Tryd.ntmps37 rfl (fun A hu hA => ?_)
  repeat (first | refine GO ?_ | refine NW fun _ => ?_)
  rename_i p
  refine WC.imp (Imp.nilS 89 1) ?_
  refine WC.loop (σ := Bool × Option Addr × Nat) (fun s => s.1 = true → s.2.1 = none ∧ s.2.2 = 0) (fun s => match s.1 with
      | true => [(0, .val (.iface 89 (.pointer (some ⟨b, 0, none⟩)))), (3, .val (.slice none 0 0)), (4, .val (.pointer (some ⟨p, 0, none⟩)))]
      | false => [(0, .val (.iface 29 (.int .i64 c))), (3, .val (.slice s.2.1 1 s.2.2)), (4, .val (.pointer (some ⟨p, 0, none⟩)))])
    (fun s => match s.1 with
      | true => [blk p [.pointer none] 89, ownS none 0 0 89 1 [], A]
      | false => [blk p [.pointer (some ⟨b, 0, none⟩)] 89, ownS s.2.1 1 s.2.2 89 1 [.pointer (some ⟨b, 0, none⟩)], A])
    (fun s => match s.1 with | true => 1 | false => 0) (true, none, 0) (fun _ => ⟨rfl, rfl⟩) ⟨rfl, rfl, rfl, trivial⟩ II ?_
  rintro ⟨s, a, cap⟩ hs
  cases s
  · dsimp only at hs ⊢
    repeat (first | refine GO ?_ | refine NW fun _ => ?_)
    refine WL.step rfl (OP.call (pre := [blk p [.pointer (some ⟨b, 0, none⟩)] 89, A]) rfl rfl (as_faultsN p c _ A hu (fun h x => (hA h x).1)) PS rfl rfl ?_)
    rintro _ _ ⟨rfl, rfl⟩
    repeat (first | refine GO ?_ | refine NW fun _ => ?_)
    exact ret1 rfl ⟨[_], ⟨a, cap, rfl, rfl⟩, II⟩
  · dsimp only at hs ⊢
    repeat (first | refine GO ?_ | refine NW fun _ => ?_)
    refine WL.step rfl (OP.call (pre := [blk p [.pointer none] 89, A]) rfl rfl (as_faults b p _ A hu (fun h x => (hA h x).1)) PS rfl rfl ?_)
    rintro _ _ ⟨rfl, rfl⟩
    repeat (first | refine GO ?_ | refine NW fun _ => ?_)
    refine WL.step rfl (OP.append rfl rfl rfl rfl rfl rfl rfl rfl rfl P1 (Ent.own MM) rfl (by decide) (by decide) rfl rfl (fun a2 cap2 => ?_))
    repeat (first | refine GO ?_ | refine NW fun _ => ?_)
    refine WL.step rfl (OP.load1 (v := .iface 29 (.int .i64 c)) rfl rfl rfl rfl (Ent.mem (A := A) MM hu (fun h x => cellsAt_one (i := 2) (hA h x).2 rfl)) rfl rfl ?_)
    repeat (first | refine GO ?_ | refine NW fun _ => ?_)
    exact ⟨(false, a2, cap2), (fun h => nomatch h), Nat.zero_lt_one, ⟨rfl, rfl, rfl, trivial⟩, II⟩
set_option maxHeartbeats 1000000 in
set_option maxRecDepth 10000 in
theorem first_nil (op : ByteArray) : RO G 15 [.nilIface, .string op] (fun _ => True) (.tuple #[.int .i64 0, .bool false]) := by
  refine RO.enter Tryd.func15 rfl (by decide) rfl Tryd.ntmps15 rfl (fun A hu hA => ?_) (fun _ _ _ h => h)
  repeat (first | refine GO ?_ | refine NW fun _ => ?_)
  refine WL.step rfl (OP.callRT rfl rfl faults_nil (fun _ _ => trivial) rfl rfl ?_)
  rintro v E ⟨rfl, rfl⟩
  repeat (first | refine GO ?_ | refine NW fun _ => ?_)
  refine WC.loop (σ := Unit) (fun _ => True) (fun _ => [(10, .val (.int .i64 0)), (11, .val (.int .i64 0))]) (fun _ => [A]) (fun _ => 0) () trivial ⟨rfl, rfl, trivial⟩ II ?_
  rintro _ _
  repeat (first | refine GD ?_ | refine NW fun _ => ?_)
  exact ret2 rfl rfl ⟨rfl, MM⟩
set_option maxHeartbeats 1000000 in
set_option maxRecDepth 10000 in
theorem first_fault (b : Nat) (op op' : ByteArray) (at_ c : Int) : RO G 15 [.iface 89 (.pointer (some ⟨b, 0, none⟩)), .string op'] (FaultR b op at_ c) (if op = op' then .tuple #[.int .i64 at_, .bool true] else .tuple #[.int .i64 0, .bool false]) := by
  refine RO.enter Tryd.func15 rfl (by decide) rfl Tryd.ntmps15 rfl (fun A hu hA => ?_) (up_FaultR _ _ _ _)
  repeat (first | refine GO ?_ | refine NW fun _ => ?_)
  refine WL.step rfl (OP.callRT rfl rfl (faults_one b op at_ c) (Ent.mem MM hu hA) rfl rfl ?_)
  rintro v E ⟨a, cap, rfl, rfl⟩
  refine WL.fact (Ent.some (Ent.own (a := a) (n := 1) (cap := cap) (T := 89) (size := 1) (cs := [.pointer (some ⟨b, 0, none⟩)]) MM) (by decide)) ?_
  rintro ⟨b2, off2, rfl⟩
  repeat (first | refine GO ?_ | refine NW fun _ => ?_)
  refine WC.loop (σ := Nat) (fun k => k ≤ 1 ∧ (k = 1 → op ≠ op')) (fun k => [(1, .val (.string op')), (9, .val (.slice (some ⟨b2, off2, none⟩) 1 cap)), (10, .val (.int .i64 1)), (11, .val (.int .i64 k))]) (fun _ => [ownS (some ⟨b2, off2, none⟩) 1 cap 89 1 [.pointer (some ⟨b, 0, none⟩)], A]) (fun k => 1 - k) 0 ⟨by decide, (fun h => absurd h (by decide))⟩ ⟨rfl, rfl, rfl, rfl, trivial⟩ II ?_
  rintro k ⟨hk, hne⟩
  obtain rfl | rfl : k = 0 ∨ k = 1 := by omega
  · repeat (first | refine GD ?_ | refine NW fun _ => ?_)
    refine WL.step rfl (OP.load1 (v := .pointer (some ⟨b, 0, none⟩)) rfl rfl rfl rfl (Ent.elem (i := 0) (Ent.own (T := 89) MM) rfl rfl) rfl rfl ?_)
    repeat (first | refine GD ?_ | refine NW fun _ => ?_)
    refine WL.step rfl (OP.load1 (v := .string op) rfl rfl rfl rfl (Ent.mem (A := A) MM hu (fun h x => cellsAt_one (i := 0) (hA h x).2 rfl)) rfl rfl ?_)
    by_cases ho : op = op'
    · rw [if_pos ho]
      repeat (first | refine GD ?_ | refine NW fun _ => ?_)
      refine WL.step rfl (OP.load1 (v := .int .i64 at_) rfl rfl rfl rfl (Ent.mem (A := A) MM hu (fun h x => cellsAt_one (i := 1) (hA h x).2 rfl)) rfl rfl ?_)
      repeat (first | refine GD ?_ | refine NW fun _ => ?_)
      exact ret2 rfl rfl ⟨rfl, MM⟩
    · rw [if_neg ho]
      repeat (first | refine GD ?_ | refine NW fun _ => ?_)
      exact ⟨1, ⟨by decide, fun _ => ho⟩, by decide, ⟨rfl, rfl, rfl, rfl, trivial⟩, Imp.refl _⟩
  · rw [if_neg (hne rfl)]
    repeat (first | refine GD ?_ | refine NW fun _ => ?_)
    exact ret2 rfl rfl ⟨rfl, MM⟩
end Go.Proofs.YtkoakmaihcheaacDoor
/- Memory under a name: predicates that hide their addresses; reading out of memory that is lent. -/
namespace Go.GL
open Go
/-- There is an x for which these hold of separate parts. -/
def exA {ι : Type} (Ls : ι → List Assn) : Assn := fun h => ∃ x, stars (Ls x) h
theorem up_exA {ι : Type} (Ls : ι → List Assn) : Up (exA Ls) := fun _ _ l ⟨x, s⟩ => ⟨x, stars_mono l s⟩
theorem stars_open {ι : Type} {Ls : ι → List Assn} {L : List Assn} {h : Hp} (s : stars (exA Ls :: L) h) : ∃ x, stars (Ls x ++ L) h := by
  obtain ⟨x, s⟩ := stars_ex (A := fun x => stars (Ls x)) s
  exact ⟨x, stars_append.2 s⟩
theorem Imp.fold {ι : Type} {Ls : ι → List Assn} (x : ι) {M : List Assn} : Imp (Ls x ++ M) (exA Ls :: M) := fun _ s => stars_head_mono (fun _ hk => ⟨x, hk⟩) (stars_append.1 s)
/-- fold, the parts wherever they are -/
theorem Imp.foldP {ι : Type} {Ls : ι → List Assn} (x : ι) {L N M : List Assn} (p : Picks L (Ls x) N) (i : Imp (exA Ls :: N) M) : Imp L M := (p.imp.trans (Imp.fold x)).trans i
theorem Imp.appL {L M : List Assn} (i : Imp L M) : ∀ (E : List Assn), Imp (E ++ L) (E ++ M)
  | [] => i
  | _ :: E => (Imp.appL i E).cons
theorem Ent.of {A : Assn} {Ls L : List Assn} {R : Assn} (hu : Up A) (hA : ∀ k, A k → stars Ls k) (m : A ∈ L) (e : Ent Ls R) : Ent L R := Ent.mem m hu fun k a => e k (hA k a)
theorem Ent.at {A : Assn} {L : List Assn} (hu : Up A) (m : A ∈ L) : Ent L A := Ent.mem m hu fun _ a => a
theorem Ent.ofImp {L M : List Assn} (i : Imp L M) : Ent L (stars M) := fun h s => i h s
theorem Ent.ex {ι : Type} {Ls : ι → List Assn} {L : List Assn} (m : exA Ls ∈ L) : Ent L (exA Ls) := Ent.mem m (up_exA _) fun _ a => a
theorem Ent.exI {ι : Type} {Ls : ι → List Assn} {L : List Assn} (x : ι) (i : Imp L (Ls x)) : Ent L (exA Ls) := fun h s => ⟨x, i h s⟩
section
variable {G : Ctx} {N : Nat} {env : Env} {L M S : List Assn} {k : Kont} {ops : Array Oper} {rest : List Oper} {o : Oper} {c : Code} {ι : Type} {Ls : ι → List Assn}
theorem WC.open (i : Imp L (exA Ls :: M)) (h : ∀ x, WC G N c env (Ls x ++ M) k) : WC G N c env L k := .mk fun a w ha hs => by
  obtain ⟨x, s⟩ := stars_open (i.sat hs)
  exact (h x) a w ha s
theorem WL.open (i : Imp L (exA Ls :: M)) (h : ∀ x, WL G N ops rest env (Ls x ++ M) k) : WL G N ops rest env L k := .mk fun a w ha hs => by
  obtain ⟨x, s⟩ := stars_open (i.sat hs)
  exact (h x) a w ha s
theorem OP.open {post : Env → List Assn → Prop} (i : Imp L (exA Ls :: M)) (h : ∀ x, OP G N o env (Ls x ++ M) post) : OP G N o env L post := .mk fun a w ha hs => by
  obtain ⟨x, s⟩ := stars_open (i.sat hs)
  exact (h x) a w ha s
theorem RO.enterEx {f : FuncId} {fn : Func} {c : Code} {vs : List Value} {rs : List ResultVar} {v : Value} (hf : G.P.funcs[f]? = some fn) (hb : fn.body = some c) (hname : (fn.name == "runtime.NumGoroutine") = false) (hr : fn.results = rs.toArray) (hn : fn.ntmps = N)
    (hv : Nat.ble vs.length N = true) (h : ∀ x A, Up A → (∀ k, A k → stars (Ls x) k) → WC G N c (args0 0 vs) [A] (retK G rs (fun v' M => v' = v ∧ A ∈ M))) : RO G f vs (exA Ls) v :=
  ⟨⟨fn, c, hf, hname, hb⟩, fun w ⟨x, hw⟩ => (body_calls hf hb hr hn hv (h x (old w) (up_old w) (fun _ l => stars_mono l hw)) w (Sat.old w)).mono fun _ _ ⟨_, _, e, ⟨e1, e2⟩, s⟩ => ⟨by rw [e, e1], ext_of_old e2 s⟩⟩
theorem RT.enterEx {f : FuncId} {fn : Func} {c : Code} {vs : List Value} {rs : List ResultVar} {p : Value → List Assn → Prop} (hf : G.P.funcs[f]? = some fn) (hb : fn.body = some c) (hname : (fn.name == "runtime.NumGoroutine") = false) (hr : fn.results = rs.toArray) (hn : fn.ntmps = N)
    (hv : Nat.ble vs.length N = true) (h : ∀ x A, Up A → (∀ k, A k → stars (Ls x) k) → WC G N c (args0 0 vs) [A] (retK G rs (fun v M => ∃ E, p v E ∧ Imp M (E ++ [A])))) : RT G f vs (exA Ls) p := by
  refine ⟨⟨fn, c, hf, hname, hb⟩, fun M w he hs => ?_⟩
  obtain ⟨x, hx⟩ := he _ hs
  refine (body_calls hf hb hr hn hv (h x (fun k => stars M k ∧ stars (Ls x) k) (up_and (up_stars _) (up_stars _)) (fun _ a => a.2)) w (stars_one.1 hs |> fun _ => ?_)).mono ?_
  · exact ⟨hpOf w, Hp.empty, fun _ => .inr rfl, by funext b; simp [Hp.join, Hp.empty], ⟨hs, hx⟩, trivial⟩
  · rintro _ w' ⟨v, L, e, ⟨E, h1, h2⟩, s⟩
    exact ⟨v, E, e, h1, stars_app_one.2 (Imp.appL (fun _ s => stars_head_mono (fun _ a => a.1) s) E _ (h2 _ s))⟩
/-- a test parts the ways -/
theorem WC.split {c : Operand} {x y : Code} {p : Prop} [Decidable p] (hc : rd none env c = some (none, .bool (decide p))) (ht : p → WC G N x env L k) (hf : ¬ p → WC G N y env L k) : WC G N (.cond c x y) env L k :=
  .cond hc (fun h => ht (of_decide_eq_true h)) (fun h => hf (of_decide_eq_false h))
theorem WC.splitN {c : Operand} {x y : Code} {p : Prop} [Decidable p] (hc : rd none env c = some (none, .bool (!decide p))) (ht : ¬ p → WC G N x env L k) (hf : p → WC G N y env L k) : WC G N (.cond c x y) env L k :=
  .cond hc (fun h => ht (by simpa using h)) (fun h => hf (by simpa using h))
end
/-! ### elements of several cells -/
theorem flat_len {α : Type} {f : α → List Value} {z : Nat} (hz : ∀ x, (f x).length = z) : ∀ (l : List α), (l.flatMap f).length = l.length * z
  | [] => by simp
  | x :: l => by rw [List.flatMap_cons, List.length_append, hz, flat_len hz l, List.length_cons, Nat.succ_mul, Nat.add_comm]
theorem flat_drop {α : Type} {f : α → List Value} {z : Nat} (hz : ∀ x, (f x).length = z) : ∀ (l : List α) (k : Nat), (l.flatMap f).drop (k * z) = (l.drop k).flatMap f
  | [], k => by simp
  | x :: l, 0 => by simp
  | x :: l, k + 1 => by
    rw [List.flatMap_cons, List.drop_succ_cons, ← flat_drop hz l k, Nat.succ_mul, Nat.add_comm, ← List.drop_drop]
    congr 1
    rw [List.drop_append_of_le_length (by rw [hz]; exact Nat.le_refl _), List.drop_eq_nil_of_le (by rw [hz]; exact Nat.le_refl _), List.nil_append]
theorem flat_take {α : Type} {f : α → List Value} {z : Nat} (hz : ∀ x, (f x).length = z) : ∀ (l : List α) (k : Nat), (l.flatMap f).take (k * z) = (l.take k).flatMap f
  | [], k => by simp
  | x :: l, 0 => by simp
  | x :: l, k + 1 => by
    rw [List.flatMap_cons, List.take_succ_cons, List.flatMap_cons, ← flat_take hz l k, Nat.succ_mul, Nat.add_comm, List.take_append, List.take_of_length_le (by rw [hz]; omega), hz]
    congr 2
    omega
theorem flat_cut {α : Type} {f : α → List Value} {z : Nat} (hz : ∀ x, (f x).length = z) (l : List α) (k : Nat) (h : k < l.length) : f l[k] = ((l.flatMap f).drop (k * z)).take z := by
  rw [flat_drop hz, List.drop_eq_getElem_cons h, List.flatMap_cons, List.take_append_of_le_length (by rw [hz]; exact Nat.le_refl _), List.take_of_length_le (by rw [hz]; exact Nat.le_refl _)]
theorem flat_get {α : Type} {f : α → List Value} {z : Nat} (hz : ∀ x, (f x).length = z) (l : List α) (k j : Nat) (h : k < l.length) (hj : j < z) : (l.flatMap f)[k * z + j]? = (f l[k])[j]? := by
  rw [flat_cut hz l k h, List.getElem?_take, if_pos hj, List.getElem?_drop]
theorem flat_set {α : Type} {f : α → List Value} {z : Nat} (hz : ∀ x, (f x).length = z) : ∀ (l : List α) (k : Nat) (x : α), k < l.length → setMany (l.flatMap f) (k * z) (f x) = some ((l.set k x).flatMap f) := by
  intro l k x h
  have h1 : l.flatMap f = (l.take k).flatMap f ++ f l[k] ++ (l.drop (k + 1)).flatMap f := by
    conv => lhs; rw [← List.take_append_drop k l, List.drop_eq_getElem_cons h]
    rw [List.flatMap_append, List.flatMap_cons, List.append_assoc]
  have h2 : (l.set k x).flatMap f = (l.take k).flatMap f ++ f x ++ (l.drop (k + 1)).flatMap f := by
    rw [List.set_eq_take_append_cons_drop, if_pos h, List.flatMap_append, List.flatMap_cons, List.append_assoc]
  rw [h2, h1]
  have h3 := setMany_mid (f x) ((l.take k).flatMap f) (f l[k]) ((l.drop (k + 1)).flatMap f) (by rw [hz, hz])
  rw [flat_len hz, List.length_take, Nat.min_eq_left (by omega)] at h3
  exact h3
/-- a field of an element of a slice that is read -/
theorem Ent.elF {L : List Assn} {α : Type} {f : α → List Value} {z : Nat} (hz : ∀ x, (f x).length = z) {l : List α} {n k j b off : Nat} {v : Value} (hr : Ent L (readS (Option.some ⟨b, off, Option.none⟩) n z (l.flatMap f))) (h : k < l.length) (hj : Nat.blt j z = true) (hv : (f l[k])[j]? = Option.some v) :
    Ent L (cellAt b (off + k * z + j) v) := by
  rw [Nat.add_assoc]
  exact Ent.elem hr rfl ((flat_get hz l k j h (by simpa [Nat.blt_eq] using hj)).trans hv)
/-- an element as a whole -/
theorem Ent.elA {L : List Assn} {α : Type} {f : α → List Value} {z : Nat} (hz : ∀ x, (f x).length = z) {l : List α} {n k b off : Nat} (hr : Ent L (readS (Option.some ⟨b, off, Option.none⟩) n z (l.flatMap f))) (h : k < l.length) :
    Ent L (cellsAt b (off + k * z) (f l[k])) := Ent.elems hr rfl (by rw [hz]; exact flat_cut hz l k h)
theorem Ent.ofOwn {L : List Assn} {a : Option Addr} {n cap : Nat} {T : TypeId} {size : Nat} {cs : List Value} (m : ownS a n cap T size cs ∈ L) : Ent L (readS a n size cs) := Ent.own m
end Go.GL
/- Stores into what a slice owns. -/
namespace Go.GL
open Go
theorem setMany_app : ∀ (vs pre cs post : List Value) (i : Nat) {cs' : List Value}, setMany cs i vs = some cs' → setMany (pre ++ cs ++ post) (pre.length + i) vs = some (pre ++ cs' ++ post) ∧ cs'.length = cs.length
  | [], pre, cs, post, i, cs', h => by cases h; exact ⟨rfl, rfl⟩
  | v :: vs, pre, cs, post, i, cs', h => by
    simp only [setMany] at h
    split at h
    · rename_i c2 hc2
      obtain ⟨e, hlt⟩ := setOne_eq hc2
      obtain ⟨h1, h2⟩ := setMany_app vs pre c2 post (i + 1) h
      have h3 : setOne (pre ++ cs ++ post) (pre.length + i) v = some (pre ++ c2 ++ post) := by
        rw [setOne_lt _ (by simp; omega), e]
        congr 1
        rw [List.append_assoc, List.set_append_right _ _ (by omega), Nat.add_sub_cancel_left, List.set_append_left _ _ hlt, List.append_assoc]
      simp only [setMany, h3]
      exact ⟨h1, h2.trans (by rw [e, List.length_set])⟩
    · cases h
section
variable {G : Ctx} {N : Nat} {env : Env} {L : List Assn} {o : Oper} {post : Env → List Assn → Prop}
/-- a store into an element -/
theorem OP.storeO {t : TypeId} {x y : Operand} {b off i n cap size : Nat} {T : TypeId} {ti : TI} {v : Value} {vs cs cs' : List Value} {F : List Assn} (ho : o.op = .store t x y) (hx : rd none env x = some (none, .pointer (some ⟨b, off + i, none⟩)))
    (hy : rd none env y = some (none, v)) (ht : G.T.find t = some ti) (hv : cellsOf v = some vs) (h1 : allOne vs = true) (hl : vs.length = ti.size) (hL : Imp L (ownS (some ⟨b, off, none⟩) n cap T size cs :: F)) (hs : setMany cs i vs = some cs') (hd : o.dst = none)
    (h : post env (ownS (some ⟨b, off, none⟩) n cap T size cs' :: F)) : OP G N o env L post := .mk fun a w ha hsat => by
  obtain ⟨h1', h2, d, e', ⟨hcl, hle, hown⟩, rest⟩ := hL.sat hsat
  rcases hown with ⟨e, _⟩ | ⟨b', pre, post', e, hcap, hblk⟩
  · cases e
  · obtain ⟨hb, hoff⟩ : b = b' ∧ off = pre.length := by
      simp only [Option.some.injEq, Addr.mk.injEq] at e; exact ⟨e.1, e.2.1⟩
    subst hb hoff
    obtain ⟨s1, s2⟩ := setMany_app vs pre cs post' i hs
    have hsat' : Sat (blk b (pre ++ cs ++ post') T :: F) w := ⟨h1', h2, d, e', hblk, rest⟩
    refine wp_oper_mono ?_ (fun _ _ _ h => h) ((OP.store (G := G) (N := N) (L := blk b (pre ++ cs ++ post') T :: F) (post := fun e M => e = env ∧ M = blk b (pre ++ cs' ++ post') T :: F) ho hx hy ht hv h1 hl (UpdM.here s1) hd ⟨rfl, rfl⟩).go a w ha hsat')
    rintro a' w' ⟨e1, M, x, y, rfl, rfl⟩
    exact ⟨e1, _, x, stars_head_mono (fun k hk => ⟨s2.trans hcl, hle, .inr ⟨b, pre, post', rfl, by rw [s2]; exact hcap, hk⟩⟩) y, h⟩
end
end Go.GL
/- Contracts of functions of the given program, and plain laws on what they compute: parts of the proofs of laws. -/

namespace Go.Proofs.YtkoakmaihcheaacDoor
open Go Go.GL

theorem decR_open {l : List UInt8} {x : Int × Rec} (h : decR l = .ok x) : OpenOk l := by
  unfold decR at h
  split at h
  · rename_i ho; exact ho.1
  · cases h
theorem decR_bad {l : List UInt8} (h : ¬ OpenOk l) : decR l = .error 4 := by
  unfold decR; rw [if_neg (fun x => h x.1)]
theorem bit_u32 {t : Int} (h : 0 ≤ t ∧ t ≤ 4294967295) {i : Nat} (hi : i < 32) : (bitsV .and .u32 (shrV .u32 t (i : Int)) 1 = 1) ↔ t.toNat.testBit i = true := by
  obtain ⟨n, rfl⟩ : ∃ n : Nat, t = n := ⟨t.toNat, by omega⟩
  have e : shrV .u32 (n : Int) (i : Int) = ((n / 2 ^ i : Nat) : Int) := by
    unfold shrV
    rw [Int.toNat_natCast, Nat.min_eq_left (by show i ≤ 32; omega), Int.fdiv_eq_ediv_of_nonneg _ (by exact Int.pow_nonneg (by decide)), Int.natCast_ediv, Int.natCast_pow]; rfl
  have hlt : n / 2 ^ i < 2 ^ 32 := Nat.lt_of_le_of_lt (Nat.div_le_self _ _) (by omega)
  rw [e, Int.toNat_natCast, Nat.testBit_eq_decide_div_mod_eq, decide_eq_true_eq]
  generalize n / 2 ^ i = m at *
  have h1 : (BitVec.ofInt 32 (m : Int)).toNat = m := by rw [BitVec.toNat_ofInt]; omega
  have h2 : (BitVec.ofInt 32 (m : Int) &&& BitVec.ofInt 32 1).toNat = m % 2 := by
    rw [BitVec.toNat_and, h1]; exact Nat.and_one_is_mod _
  show IntKind.u32.wrap ((BitVec.ofInt 32 (m : Int) &&& BitVec.ofInt 32 1).toNat : Int) = 1 ↔ _
  rw [h2, wrap_fit (k := .u32) (by unfold Fit; omega)]
  omega
theorem xor_u8 (x : UInt8) {r : Nat} (hr : r < 8) : bitsV .xor .u8 (x.toNat : Int) (shlV .u8 1 (r : Int)) = ((x ^^^ UInt8.ofNat (2 ^ r)).toNat : Int) := by
  have hx := x.toNat_lt
  have h1 : (2 : Nat) ^ r < 256 := by
    have : (2 : Nat) ^ r ≤ 2 ^ 7 := Nat.pow_le_pow_right (by decide) (by omega)
    omega
  have e : shlV .u8 1 (r : Int) = ((2 ^ r : Nat) : Int) := by
    unfold shlV
    rw [Int.toNat_natCast, Nat.min_eq_left (by show r ≤ 8; omega), Int.one_mul, show (2 : Int) ^ r = ((2 ^ r : Nat) : Int) by rw [Int.natCast_pow]; rfl]
    generalize 2 ^ r = m at *
    exact wrap_fit (k := .u8) (by unfold Fit; omega)
  rw [e, UInt8.toNat_xor, ofNat_toNat h1]
  generalize 2 ^ r = m at *
  have h2 : (BitVec.ofInt 8 (x.toNat : Int)).toNat = x.toNat := by rw [BitVec.toNat_ofInt]; omega
  have h3 : (BitVec.ofInt 8 (m : Int)).toNat = m := by rw [BitVec.toNat_ofInt]; omega
  show IntKind.u8.wrap ((BitVec.ofInt 8 (x.toNat : Int) ^^^ BitVec.ofInt 8 (m : Int)).toNat : Int) = _
  rw [BitVec.toNat_xor, h2, h3]
  have h4 : x.toNat ^^^ m < 2 ^ 8 := Nat.xor_lt_two_pow hx h1
  exact wrap_fit (k := .u8) (by unfold Fit; omega)
set_option maxHeartbeats 8000000 in
set_option maxRecDepth 10000 in
theorem turnedR_ro (gen : Int) (r : Rec) (at_ turn : Int) (hz1 : r.2.2.2.1.size ≤ maxLen) (hat : 0 ≤ at_ ∧ at_ ≤ 18446744073709551615) (htn : 0 ≤ turn ∧ turn ≤ 4294967295) :
    RO G 4 [.int .i64 gen, .agg (encR r).toArray, .int .u64 at_, .int .u32 turn] ErrT (.bool true) := by
  refine RO.enter Tryd.func4 rfl (by decide) rfl Tryd.ntmps4 rfl (fun A hu hA => ?_) up_ErrT
  have hER : ∀ {L}, A ∈ L → Ent L ErrT := fun m => Ent.mem m hu hA
  have hf1 := few_ro r
  have he1 := fun h => encode_ok gen r h
  unfold maxLen at hz1
  repeat (first | refine GO ?_ | refine NW fun _ => ?_)
  refine WL.step rfl (OP.callRO rfl rfl rawake_ro (fun _ _ => trivial) rfl rfl ?_)
  repeat (first | refine GD ?_ | refine NW fun _ => ?_)
  refine WL.guardT rfl rfl rfl rfl (OP.callRO rfl rfl hf1 (fun _ _ => trivial) rfl rfl ?_)
  by_cases h1 : (r.2.2.2.1.size : Int) < 2000
  rotate_left
  · rw [decide_eq_false h1]
    repeat (first | refine GD ?_ | refine NW fun _ => ?_)
    refine WL.step rfl (OP.callRO rfl rfl rawake_ro (fun _ _ => trivial) rfl rfl ?_)
    repeat (first | refine GD ?_ | refine NW fun _ => ?_)
    exact ret1 rfl ⟨rfl, MM⟩
  rw [decide_eq_true h1]
  by_cases h0 : turn = 0
  · repeat (first | refine GD ?_ | refine NW fun _ => ?_)
    refine WL.step rfl (OP.callRO rfl rfl rawake_ro (fun _ _ => trivial) rfl rfl ?_)
    repeat (first | refine GD ?_ | refine NW fun _ => ?_)
    exact ret1 rfl ⟨rfl, MM⟩
  repeat (first | refine GD ?_ | refine NW fun _ => ?_)
  refine WL.step rfl (OP.callRT rfl rfl (he1 (by omega)) (fun _ _ => trivial) rfl rfl ?_)
  rintro v E hE
  unfold EncPost at hE
  by_cases hr : RightR r ∧ (0 ≤ gen ∧ gen ≤ widest)
  rotate_left
  · rw [if_neg hr] at hE
    obtain ⟨e, rfl, b1, rfl, rfl⟩ := hE
    have h00 : (0 : Int) = 0 := rfl
    repeat (first | refine GD ?_ | refine NW fun _ => ?_)
    exact ret1 rfl ⟨rfl, MM⟩
  rw [if_pos hr] at hE
  obtain ⟨v1, rfl, a, cap, rfl, rfl⟩ := hE
  have hl := sectorM_len (bodyM_len (gen := gen) hr.1)
  have ho := decR_open (decR_enc hr.1 hr.2)
  generalize sectorM (bodyM gen r) = l1 at *
  rw [hl]
  refine WL.fact (Ent.ownLe (a := a) (n := 64) (cap := cap) (T := 5) (size := 1) (cs := l1.map byteV) MM) (fun hc => ?_)
  refine WL.fact (Ent.some (Ent.own (a := a) (n := 64) (cap := cap) (T := 5) (size := 1) (cs := l1.map byteV) MM) (by decide)) ?_
  rintro ⟨b, off, rfl⟩
  obtain ⟨k, hk⟩ : ∃ k : Nat, at_ % 481 = k := ⟨(at_ % 481).toNat, by omega⟩
  have hk480 : k ≤ 480 := by omega
  obtain ⟨tn, htn'⟩ : ∃ n : Nat, turn = n := ⟨turn.toNat, by omega⟩
  repeat (first | refine GD ?_ | refine NW fun _ => ?_)
  rw [hk]
  repeat (first | refine GD ?_ | refine NW fun _ => ?_)
  refine WC.loop (σ := Nat × List UInt8) (fun s => s.1 ≤ 32 ∧ s.2.length = 64 ∧ valN s.2 = valN l1 ^^^ turned tn k s.1)
    (fun s => [(3, .val (.int .u32 turn)), (9, .val (.slice (some ⟨b, off, none⟩) 64 cap)), (11, .val (.int .i64 k)), (12, .val (.int .i64 s.1))])
    (fun s => [ownS (some ⟨b, off, none⟩) 64 cap 5 1 (s.2.map byteV), A]) (fun s => 32 - s.1) (0, l1) ⟨Nat.zero_le _, hl, by simp [turned, Nat.mod_one]⟩ ⟨rfl, rfl, rfl, rfl, trivial⟩ II ?_
  rintro ⟨i, l⟩ ⟨hi, hll, hval⟩
  dsimp only at hi hll hval ⊢
  by_cases hi32 : i < 32
  rotate_left
  · obtain rfl : i = 32 := by omega
    have hbad : decR l = .error 4 := by
      refine decR_bad (fun hm => ?_)
      refine turned_bad ho hm (hll.trans hl.symm) (turn := tn) (k := k) (by omega) (by omega) (by omega) ?_
      rw [hval]
      unfold turned
      rw [Nat.mod_eq_of_lt (by omega)]
    repeat (first | refine GD ?_ | refine NW fun _ => ?_)
    refine WL.step rfl (OP.callRT rfl rfl (decode5_ok (some ⟨b, off, none⟩) 64 cap l hll.symm hc (by decide)) (Ent.own (T := 5) MM) rfl rfl ?_)
    rintro v E hD
    unfold DecPost at hD
    rw [hbad] at hD
    obtain ⟨e3, rfl, b3, rfl, rfl⟩ := hD
    have h44 : (4 : Int) = 4 := rfl
    repeat (first | refine GD ?_ | refine NW fun _ => ?_)
    refine WL.step rfl (OP.callRO rfl rfl (code_fault b3 recW 0 4) (Ent.and (hER MM) (Ent.whole (c := faultCells recW 0 4) (T := 91) MM)) rfl rfl ?_)
    repeat (first | refine GD ?_ | refine NW fun _ => ?_)
    exact ret1 rfl ⟨rfl, MM⟩
  have hsucc := turned_succ tn k i
  have hbit := bit_u32 htn hi32
  rw [htn', Int.toNat_natCast, ← htn'] at hbit
  by_cases hb : tn.testBit i = true
  rotate_left
  · rw [if_neg hb] at hsucc
    have hb' : ¬ bitsV .and .u32 (shrV .u32 turn (i : Int)) 1 = 1 := fun h => hb (hbit.1 h)
    repeat (first | refine GD ?_ | refine NW fun _ => ?_)
    exact ⟨(i + 1, l), ⟨by dsimp only; omega, hll, by dsimp only; rw [hsucc]; exact hval⟩, by dsimp only; omega, ⟨rfl, rfl, rfl, rfl, trivial⟩, II⟩
  rw [if_pos hb] at hsucc
  have hb' : bitsV .and .u32 (shrV .u32 turn (i : Int)) 1 = 1 := hbit.2 hb
  have hq : (k + i) / 8 < l.length := by omega
  have hq8 : (k + i) / 8 * 1 = (k + i) / 8 := Nat.mul_one _
  have hr8 : ((k : Int) + (i : Int)) % 8 = (((k + i) % 8 : Nat) : Int) := by omega
  have hxor := xor_u8 (l[(k + i) / 8]) (show (k + i) % 8 < 8 by omega)
  have hset : setMany (l.map byteV) ((k + i) / 8 * 1) [.int .u8 (bitsV .xor .u8 (l[(k + i) / 8].toNat : Int) (shlV .u8 1 (((k : Int) + (i : Int)) % 8)))] = some ((l.set ((k + i) / 8) (l[(k + i) / 8] ^^^ UInt8.ofNat (2 ^ ((k + i) % 8)))).map byteV) := by
    rw [hq8, setMany_one _ (by rw [List.length_map]; exact hq), hr8, hxor, List.map_set]
    rfl
  repeat (first | refine GD ?_ | refine NW fun _ => ?_)
  refine RD 14 15 ([ownS (some ⟨b, off, none⟩) 64 cap 5 1 (l.map byteV), A]) ?_
  refine VV 0 ?_
  refine VV 1 ?_
  refine VV 2 ?_
  refine VV 3 ?_
  refine VV 4 ?_
  refine VV 5 ?_
  refine VQ 6 rfl (Quiet.load (v := byteV l[(k + i) / 8]) rfl rfl rfl (.inl ⟨rfl, Ent.elem (i := (k + i) / 8 * 1) (Ent.own (T := 5) MM) rfl (by rw [hq8]; simp [hq])⟩)) ?_
  unfold byteV
  refine VV 7 ?_
  refine VV 8 ?_
  refine VV 9 ?_
  refine VV 10 ?_
  refine VV 11 ?_
  refine VV 12 ?_
  refine VV 13 ?_
  refine WH.only 14 rfl rfl (by kernel_rfl) rfl (OP.storeO (vs := [_]) rfl rfl rfl rfl rfl rfl rfl (Imp.refl _) hset rfl ⟨(fun h => nomatch h), ?_⟩)
  refine DN ?_
  repeat (first | refine GD ?_ | refine NW fun _ => ?_)
  exact ⟨(i + 1, l.set ((k + i) / 8) (l[(k + i) / 8] ^^^ UInt8.ofNat (2 ^ ((k + i) % 8)))), ⟨by dsimp only; omega, by dsimp only; rw [List.length_set]; exact hll, by dsimp only; rw [turn_bit hq, hval, hsucc, Nat.xor_assoc]⟩, by dsimp only; omega, ⟨rfl, rfl, rfl, rfl, trivial⟩, II⟩
end Go.Proofs.YtkoakmaihcheaacDoor
/- Contracts of functions of the given program, and plain laws on what they compute: parts of the proofs of laws. -/
namespace Go.Proofs.YtkoakmaihcheaacDoor
open Go Go.GL
theorem rec_of {x : List Value} (h : LfsOk [.int .i64, .int .i64, .int .i64, .str, .int .i64] x) : ∃ r : Rec, x = encR r ∧ (r.2.2.2.1.size ≤ maxLen ∧ (Lit.int .i64 r.1).wf = true ∧ (Lit.int .i64 r.2.1).wf = true ∧ (Lit.int .i64 r.2.2.1).wf = true ∧ (Lit.int .i64 r.2.2.2.2).wf = true) := by
  obtain ⟨n0, s, rfl, w0, h⟩ := h.int
  obtain ⟨n1, s, rfl, w1, h⟩ := h.int
  obtain ⟨n2, s, rfl, w2, h⟩ := h.int
  obtain ⟨n3, s, rfl, w3, h⟩ := h.str
  obtain ⟨n4, s, rfl, w4, h⟩ := h.int
  rw [h.nil]
  exact ⟨(n0, n1, n2, n3, n4), rfl, w3, w0, w1, w2, w4⟩
end Go.Proofs.YtkoakmaihcheaacDoor
/- Contracts of functions of the given program, and plain laws on what they compute: parts of the proofs of laws. -/
namespace Go.Proofs.YtkoakmaihcheaacDoor
open Go Go.GL Go.ChangeShapes Go.WideShapes Go.ChangeAt Go.RowKit
open Go.ChangeMaps (open_string shut_string)
set_option linter.unusedVariables false

theorem ownRecordTurned : ownKnob Tryd.prog.godebug = none := by kernel_rfl
theorem laidOutRecordTurned : laidOutB Tryd.prog = true := by kernel_rfl
theorem etRecordTurned : Tryd.prog.globalNamed "errors.errorType" = some 0 := by kernel_rfl
theorem rtRecordTurned : (Tryd.prog.cutTypes.find? (·.1 == "internal/reflectlite.rtype")).map (·.2) = some 128 := by kernel_rfl
theorem oneRowRecordTurned : ((List.range 187).filter fun t => Tryd.prog.rowNamed t [101, 114, 114, 111, 114]) = [48] := by kernel_rfl
theorem sizeRecordTurned : Tryd.prog.types.size = 187 := by kernel_rfl
theorem handleRecordTurned {W : World} (h : laidMetH Tryd.prog [("errors.errorType", Rows.laid_errors_errorType)] W) : W.cell? ⟨0, 0, none⟩ = some errT := by
  have h' : laidMet Tryd.prog [] W ∧ handlesMet Tryd.prog [("errors.errorType", Rows.laid_errors_errorType)] W := h
  obtain ⟨name, u, ty, e1, e2, e3, e4, e5⟩ := h'.2 _ (List.mem_singleton.2 rfl)
  have en : name = [101, 114, 114, 111, 114] := (Option.some.inj e1).symm
  subst en
  obtain rfl := Option.some.inj (rtRecordTurned.symm.trans e2)
  have hm : ty ∈ (List.range 187).filter fun t => Tryd.prog.rowNamed t [101, 114, 114, 111, 114] := List.mem_filter.2 ⟨List.mem_range.2 (by rw [← sizeRecordTurned]; exact e3), e4⟩
  rw [oneRowRecordTurned] at hm
  obtain rfl := List.mem_singleton.1 hm
  have hh : typeHandle Tryd.prog 48 = .pointer (some ⟨5, 48, none⟩) := by kernel_rfl
  rw [hh] at e5
  have := World.var?_cell etRecordTurned e5 0
  simpa [errT, rt, hd] using this
theorem cellAt_of {w : World} {b off : Nat} {v : Value} (h : w.cell? ⟨b, off, none⟩ = some v) : cellAt b off v (hpOf w) := by
  unfold World.cell? at h
  split at h
  · rename_i c T fr hb
    exact ⟨c, T, fr, hpOf_obj.2 hb, by simpa using h⟩
  · cases h
noncomputable def laidWorld (os : Os) : World :=
  let w0 := World.holding Tryd.prog os ⟨#[], #[], []⟩
  { w0 with heap := w0.heap.modify 0 fun
      | .cells _ t frozen => .cells #[.iface 128 (.agg #[.pointer (some ⟨5, 48, none⟩)])] t frozen
      | o => o }
theorem laidWorld_met (os : Os) (args : Array Value) : laidMetH Tryd.prog [("errors.errorType", Rows.laid_errors_errorType)] ((laidWorld os).forCall (fun _ _ => 0) ⟨#[], args, []⟩).memory :=
  laidMetH_of_parts (laidMet_nil _ _) (by kernel_rfl)
set_option maxRecDepth 100000 in
theorem liftedRecordTurned (os : Os) (started : os.Started) (H : Type) (enc : TypeId × Value → H) :
    ReturnsInHanded {} Tryd.checked os 4 .any (fun w args => (Rows.recordTurnedSpec.pre enc Tryd.prog Tryd.f4 [] false w args ∧ laidMetH Tryd.prog [("errors.errorType", Rows.laid_errors_errorType)] w) ∧ sizedMet enc Tryd.prog Tryd.f4 (OpenSpec.ofChange Rows.recordTurnedSpec) false w args)
      (Rows.recordTurnedSpec.post enc Tryd.prog Tryd.f4 false true false false) := by
  refine returnsInHanded_of_change_and (C := Tryd.checked) (X := fun w _ => laidMetH Tryd.prog [("errors.errorType", Rows.laid_errors_errorType)] w) (fun _ _ _ hh h => h.of_heap hh) ownRecordTurned started (by kernel_rfl) Tryd.func4
    (ChangeSpec.witness_at (enc := enc) (C := Tryd.checked) (os := os) (X := fun w _ => laidMetH Tryd.prog [("errors.errorType", Rows.laid_errors_errorType)] w) false (laidWorld os) #[.int .i64 0, .agg #[.int .i64 0, .int .i64 0, .int .i64 0, .string ByteArray.empty, .int .i64 0], .int .u64 0, .int .u32 0] 8 rfl (by kernel_rfl) (by kernel_rfl) (by kernel_rfl) (by kernel_rfl) (by kernel_rfl) (laidWorld_met os _)) ?_
  intro W base args ds gs before hval0 hW _ _ hL _
  have hval : ∀ (j : Nat) t v, Tryd.f4.params[j]? = some t → args[j]? = some v → Value.okWide Tryd.prog W .any base t v := hval0
  have hW' := hW
  obtain ⟨p, q, hA0, hV0, rfl, hfz, hnd⟩ := hW
  have hV : DataW.TrodVars enc Tryd.prog W (fun _ => true) [] gs q := hV0
  have hE := cellAt_of (handleRecordTurned hL)
  have hA : DataW.TrodAll enc Tryd.prog W 0 (fun _ => true) true Tryd.f4.params.toList args.toList ds p := hA0
  rw [Tryd.params4] at hA hval
  obtain ⟨v0, vs0, d0, ds0, p0, q0, hargs, rfl, rfl, h0, r0⟩ := trodAll_cons hA
  obtain ⟨v1, vs1, d1, ds1, p1, q1, rfl, rfl, rfl, h1, r1⟩ := trodAll_cons r0
  obtain ⟨v2, vs2, d2, ds2, p2, q2, rfl, rfl, rfl, h2, r2⟩ := trodAll_cons r1
  obtain ⟨v3, vs3, d3, ds3, p3, q3, rfl, rfl, rfl, h3, r3⟩ := trodAll_cons r2
  obtain ⟨rfl, rfl, rfl⟩ := trodAll_nil r3
  obtain rfl : args = #[v0, v1, v2, v3] := by cases args; simp_all
  obtain ⟨rfl, rfl⟩ : gs = [] ∧ q = [] := by
    cases gs with
    | nil => exact ⟨rfl, hV⟩
    | cons g r => exact absurd hV (by intro h; cases h)
  have k0 := h0
  obtain ⟨a0, rfl, _, _, w0⟩ := open_int Tryd.underlying3 (hval 0 3 v0 rfl rfl) h0
  have k1 := h1
  obtain ⟨c1, rfl, lo1⟩ := open_val (n := 8) (l := [.int .i64, .int .i64, .int .i64, .str, .int .i64]) Tryd.underlying42 (by kernel_rfl) (hval 1 42 v1 rfl rfl) h1
  obtain ⟨o1, rfl, w1⟩ := rec_of lo1
  have k2 := h2
  obtain ⟨a2, rfl, _, _, w2⟩ := open_int Tryd.underlying43 (hval 2 43 v2 rfl rfl) h2
  have k3 := h3
  obtain ⟨a3, rfl, _, _, w3⟩ := open_int Tryd.underlying44 (hval 3 44 v3 rfl rfl) h3
  clear hA0 hval0
  refine ((turnedR_ro a0 o1 a2 a3 w1.1 (wf_u64 w2) (wf_u32 w3)).calls W hE).mono fun e W' ⟨he, ext⟩ => ?_
  subst he
  exact ⟨_, rfl, _, _, _, [], _, [], hW', trodAll_mk1 (shut_bool Tryd.underlying4 _), (trodAll_cons_mk (GL.Ext.trod laidOutRecordTurned (by kernel_rfl) (of_decide_eq_true (by kernel_rfl)) k0 ext) (trodAll_cons_mk (GL.Ext.trod laidOutRecordTurned (by kernel_rfl) (of_decide_eq_true (by kernel_rfl)) k1 ext) (trodAll_cons_mk (GL.Ext.trod laidOutRecordTurned (by kernel_rfl) (of_decide_eq_true (by kernel_rfl)) k2 ext) (trodAll_cons_mk (GL.Ext.trod laidOutRecordTurned (by kernel_rfl) (of_decide_eq_true (by kernel_rfl)) k3 ext) trodAll_mk0)))), rfl, ext.keptBut _, fun h => by cases h⟩
theorem overRecordTurned : Rows.recordTurnedRow.holds Tryd.pinned (OpenSpec.ofChange Rows.recordTurnedSpec) :=
  OpenClaim.holds_of_wide 4 Tryd.f4 rfl rfl rfl rfl rfl rfl rfl ⟨rfl, rfl, rfl, rfl, rfl⟩ rfl rfl rfl rfl rfl (by kernel_rfl) Tryd.func4 (by kernel_rfl)
    (of_decide_eq_true (by kernel_rfl)) (by unfold Func.isWrapper; first | (rw [if_pos (by decide +kernel)]; kernel_rfl) | (rw [if_neg (by decide +kernel)]; exact ⟨rfl, rfl⟩))
    (fun os started H enc _ => liftedRecordTurned os started H enc)
theorem recordTurned_holds : Rows.RecordTurnedCardSaid :=
  Claim7.holds_tied_plain_at .later [] [.handle] true (true, "0485ea14fdd9d7b3687f571401449f26f4231a18c0263b0c55c2ca5d704892f5") true
    overRecordTurned (fun _ h => by cases h) (by kernel_rfl) (fun _ h => by cases h) recordTurned_row_tie rfl ⟨rfl, rfl⟩ (by kernel_rfl) rfl
    (fun f fn hf hfn => by
      obtain rfl : f = 4 := Option.some.inj ((show Tryd.prog.funcNamed Rows.recordTurnedRow.func = some 4 by kernel_rfl).symm.trans hf) |>.symm
      obtain rfl : fn = Tryd.f4 := (Option.some.inj (Tryd.func4.symm.trans hfn)).symm
      exact ⟨by kernel_rfl, fun j t ht => by
        rw [Tryd.params4] at ht
        match j, ht with
        | 0, ht => obtain rfl : 3 = t := by simpa using ht
                   exact (show Tryd.prog.wantsStandIn 3 = false by kernel_rfl)
        | 1, ht => obtain rfl : 42 = t := by simpa using ht
                   exact (show Tryd.prog.wantsStandIn 42 = false by kernel_rfl)
        | 2, ht => obtain rfl : 43 = t := by simpa using ht
                   exact (show Tryd.prog.wantsStandIn 43 = false by kernel_rfl)
        | 3, ht => obtain rfl : 44 = t := by simpa using ht
                   exact (show Tryd.prog.wantsStandIn 44 = false by kernel_rfl)
        | (k + 4), ht => simp at ht⟩)
    (by kernel_rfl)
end Go.Proofs.YtkoakmaihcheaacDoor
