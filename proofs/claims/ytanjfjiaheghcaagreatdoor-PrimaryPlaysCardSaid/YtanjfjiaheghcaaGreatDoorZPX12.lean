/- Contracts of functions of the given program, and plain laws: parts of the proofs of laws. -/
import Derived.Test.YtanjfjiaheghcaaGreatDoorZPX3
import Derived.Test.YtanjfjiaheghcaaGreatDoorZPX11
import Derived.Test.YtanjfjiaheghcaaGreatDoorZPX5
import Derived.Test.YtanjfjiaheghcaaGreatDoorZPX6
import Derived.Test.YtanjfjiaheghcaaGreatDoorZPX7
/- Contracts of functions of the given program, and plain laws on what they compute: parts of the proofs of laws. -/

namespace Go.Proofs.YtanjfjiaheghcaaGreatDoor
open Go Go.GL

set_option maxHeartbeats 1000000 in
set_option maxRecDepth 10000 in
theorem qnumber_ro (x : Int) : RO G 106 [.int .i64 x] (fun _ => True) (.string (ba (numB (clampN x)))) := by
  refine RO.enter Tryz.func106 rfl (by decide) rfl Tryz.ntmps106 rfl (fun A hu hA => ?_) (fun _ _ _ h => h)
  repeat (first | refine GO ?_ | refine NW fun _ => ?_)
  have hcl : (if (0 : Int) < (if (1152921504606846975 : Int) < x then (1152921504606846975 : Int) else x) then (if (1152921504606846975 : Int) < x then (1152921504606846975 : Int) else x) else 0) = (clampN x : Int) := by
    unfold clampN widest
    split <;> split <;> omega
  rw [hcl]
  have hc1 := clamp_le x
  unfold widest at hc1
  have h9 := numB_nine x
  generalize clampN x = y0 at *
  refine WC.loop (σ := List UInt8 × Nat) (fun s => s.1 ++ numB s.2 = numB y0 ∧ s.2 ≤ y0)
    (fun s => [(0, .val (.int .i64 s.2)), (3, .val (.string (ba s.1)))])
    (fun _ => [A]) (fun s => s.2) ([], y0) ⟨rfl, Nat.le_refl _⟩ ⟨rfl, rfl, trivial⟩ II ?_
  rintro ⟨l1, y⟩ ⟨hl1, hy⟩
  dsimp only at hl1 hy ⊢
  have hlen1 : l1.length + (numB y).length = (numB y0).length := by rw [← hl1, List.length_append]
  have hsz := ba_size l1
  by_cases hge : 128 ≤ y
  · rw [numB_ge (by omega)] at hl1
    have hb : Value.int .u8 ((y : Int) % 128 + 128) = byteV (UInt8.ofNat (y % 128 + 128)) := by
      unfold byteV; congr 1; rw [UInt8.toNat_ofNat']; omega
    have hd : (y : Int) / 128 = ((y / 128 : Nat) : Int) := by omega
    repeat (first | refine GD ?_ | refine NW fun _ => ?_)
    rw [hb]
    refine WL.step rfl (OP.toStr (sv := ba [UInt8.ofNat (y % 128 + 128)]) rfl rfl rfl rfl rfl rfl rfl rfl (by rw [strCells_ba]; exact Ent.own (T := 5) MM) rfl rfl ?_)
    have hs1 : (ba [UInt8.ofNat (y % 128 + 128)]).size = 1 := rfl
    repeat (first | refine GD ?_ | refine NW fun _ => ?_)
    rw [ba_app, hd]
    exact ⟨(l1 ++ [UInt8.ofNat (y % 128 + 128)], y / 128), ⟨by simp only []; rw [List.append_assoc]; exact hl1, by dsimp only; omega⟩, by dsimp only; omega, ⟨rfl, rfl, trivial⟩, II⟩
  · rw [numB_lt (by omega)] at hl1
    have hb : Value.int .u8 (y : Int) = byteV (UInt8.ofNat y) := by
      unfold byteV; congr 1; rw [UInt8.toNat_ofNat']; omega
    repeat (first | refine GD ?_ | refine NW fun _ => ?_)
    rw [hb]
    refine WL.step rfl (OP.toStr (sv := ba [UInt8.ofNat y]) rfl rfl rfl rfl rfl rfl rfl rfl (by rw [strCells_ba]; exact Ent.own (T := 5) MM) rfl rfl ?_)
    have hs1 : (ba [UInt8.ofNat y]).size = 1 := rfl
    repeat (first | refine GD ?_ | refine NW fun _ => ?_)
    rw [ba_app, hl1]
    exact ret1 rfl ⟨rfl, MM⟩
set_option maxRecDepth 10000 in
theorem qtext_ro (s : ByteArray) (hs : s.size < 1000000) : RO G 146 [.string s] (fun _ => True) (.string (ba (textB s))) := by
  refine RO.enter Tryz.func146 rfl (by decide) rfl Tryz.ntmps146 rfl (fun A hu hA => ?_) (fun _ _ _ h => h)
  repeat (first | refine GO ?_ | refine NW fun _ => ?_)
  refine WL.step rfl (OP.callRO rfl rfl (qnumber_ro s.size) (fun _ _ => trivial) rfl rfl ?_)
  have h9 := numB_nine s.size
  rw [clamp_nat s.size (by unfold widest; omega)] at h9 ⊢
  have hsz := ba_size (numB s.size)
  repeat (first | refine GD ?_ | refine NW fun _ => ?_)
  rw [ba_appD]
  exact ret1 rfl ⟨rfl, MM⟩
set_option maxHeartbeats 4000000 in
set_option maxRecDepth 10000 in
theorem qright_ro (r : Rec) (hsz : r.2.2.2.1.size < 1000000) : RO G 166 [.agg (encR r).toArray] (fun _ => True) (.bool (decide (RightR r))) := by
  refine RO.enter Tryz.func166 rfl (by decide) rfl Tryz.ntmps166 rfl (fun A hu hA => ?_) (fun _ _ _ h => h)
  obtain ⟨seq, kind, block, data, num⟩ := r
  unfold RightR widest
  dsimp only at hsz ⊢
  rw [show encR (seq, kind, block, data, num) = [.int .i64 seq, .int .i64 kind, .int .i64 block, .string data, .int .i64 num] from rfl]
  by_cases hs1 : seq < 1
  · repeat (first | refine GD ?_ | refine NW fun _ => ?_)
    exact ret1 rfl ⟨congrArg Value.bool (decide_eq_false (fun h => by have := h.1; omega)).symm, MM⟩
  by_cases hs2 : 1152921504606846975 < seq
  · repeat (first | refine GD ?_ | refine NW fun _ => ?_)
    exact ret1 rfl ⟨congrArg Value.bool (decide_eq_false (fun h => by have := h.1; omega)).symm, MM⟩
  have hs3 : (1 ≤ seq ∧ seq ≤ 1152921504606846975) := by omega
  by_cases h1 : kind = 1
  · by_cases hb0 : 0 ≤ block
    rotate_left
    · repeat (first | refine GD ?_ | refine NW fun _ => ?_)
      exact ret1 rfl ⟨by first | (simp; omega) | (simp [*]; omega) | simp [*], MM⟩
    by_cases hb8 : block ≤ 7
    rotate_left
    · repeat (first | refine GD ?_ | refine NW fun _ => ?_)
      exact ret1 rfl ⟨by first | (simp; omega) | (simp [*]; omega) | simp [*], MM⟩
    have hb8' : block < 8 := by omega
    by_cases hs16 : data.size ≤ 16
    rotate_left
    · repeat (first | refine GD ?_ | refine NW fun _ => ?_)
      exact ret1 rfl ⟨by first | (simp; omega) | (simp [*]; omega) | simp [*], MM⟩
    by_cases hn0 : num = 0
    · repeat (first | refine GD ?_ | refine NW fun _ => ?_)
      exact ret1 rfl ⟨by first | (simp; omega) | (simp [*]; omega) | simp [*], MM⟩
    · repeat (first | refine GD ?_ | refine NW fun _ => ?_)
      exact ret1 rfl ⟨by first | (simp; omega) | (simp [*]; omega) | simp [*], MM⟩
  · by_cases h2 : kind = 2
    rotate_left
    · repeat (first | refine GD ?_ | refine NW fun _ => ?_)
      exact ret1 rfl ⟨by first | (simp; omega) | (simp [*]; omega) | simp [*], MM⟩
    by_cases hb : block = 0
    rotate_left
    · repeat (first | refine GD ?_ | refine NW fun _ => ?_)
      exact ret1 rfl ⟨by first | (simp; omega) | (simp [*]; omega) | simp [*], MM⟩
    by_cases hd : data = ⟨#[]⟩
    rotate_left
    · repeat (first | refine GD ?_ | refine NW fun _ => ?_)
      exact ret1 rfl ⟨by first | (simp; omega) | (simp [*]; omega) | simp [*], MM⟩
    by_cases hn1 : 1 ≤ num
    rotate_left
    · repeat (first | refine GD ?_ | refine NW fun _ => ?_)
      exact ret1 rfl ⟨by first | (simp; omega) | (simp [*]; omega) | simp [*], MM⟩
    by_cases hn2 : num ≤ 1152921504606846975
    · repeat (first | refine GD ?_ | refine NW fun _ => ?_)
      exact ret1 rfl ⟨by first | (simp; omega) | (simp [*]; omega) | simp [*], MM⟩
    · repeat (first | refine GD ?_ | refine NW fun _ => ?_)
      exact ret1 rfl ⟨by first | (simp; omega) | (simp [*]; omega) | simp [*], MM⟩
theorem encR_eq (seq kind block num : Int) (data : ByteArray) : encR (seq, kind, block, data, num) = [.int .i64 seq, .int .i64 kind, .int .i64 block, .string data, .int .i64 num] := rfl
set_option maxHeartbeats 4000000 in
set_option maxRecDepth 10000 in
theorem qbytes_ro (gen : Int) (r : Rec) (hr : RightR r) : RO G 167 [.int .i64 gen, .agg (encR r).toArray] (fun _ => True) (.string (ba (sectorM (bodyM gen r)))) := by
  refine RO.enter Tryz.func167 rfl (by decide) rfl Tryz.ntmps167 rfl (fun A hu hA => ?_) (fun _ _ _ h => h)
  have hbl := bodyM_len (gen := gen) hr
  obtain ⟨seq, kind, block, data, num⟩ := r
  rw [encR_eq]
  have hg9 := numB_nine gen
  have hs9 := numB_nine seq
  have hk9 := numB_nine kind
  have hgz := ba_size (numB (clampN gen))
  have hsz := ba_size (numB (clampN seq))
  have hkz := ba_size (numB (clampN kind))
  repeat (first | refine GO ?_ | refine NW fun _ => ?_)
  rename_i q
  refine RD 10 11 (_) ?_
  refine WW 0 ?_
  refine WW 2 ?_; refine WW 3 ?_
  refine WW 6 ?_; refine WW 7 ?_
  refine WH.only 1 rfl rfl (by kernel_rfl) rfl (OP.callRO rfl rfl (qnumber_ro gen) (fun _ _ => trivial) rfl rfl ⟨fun _ => II, ?_⟩)
  refine WH.only 4 rfl rfl (by kernel_rfl) rfl (OP.callRO rfl rfl (qnumber_ro seq) (fun _ _ => trivial) rfl rfl ⟨fun _ => II, ?_⟩)
  refine WW 5 ?_
  rw [ba_app]
  generalize hp1 : numB (clampN gen) ++ numB (clampN seq) = p1
  have hp1l : p1.length ≤ 18 := by rw [← hp1, List.length_append]; omega
  have hp1z := ba_size p1
  refine WH.only 8 rfl rfl (by kernel_rfl) rfl (OP.callRO rfl rfl (qnumber_ro kind) (fun _ _ => trivial) rfl rfl ⟨fun _ => II, ?_⟩)
  refine WW 9 ?_
  rw [ba_app]
  refine WW 10 ?_
  refine DN ?_
  generalize hp2 : p1 ++ numB (clampN kind) = p2
  have hp2l : p2.length ≤ 27 := by rw [← hp2, List.length_append]; omega
  have hp2z := ba_size p2
  by_cases h1 : kind = 1
  · have hb : data.size ≤ 16 := by
      have h2 := hr.2
      dsimp only at h2
      rcases h2 with h2 | h2
      · omega
      · exact h2.2.2.1
    have hb9 := numB_nine block
    have hbz := ba_size (numB (clampN block))
    have htz := ba_size (textB data)
    have htl : (textB data).length ≤ 26 := by
      have := numB_nine data.size
      rw [clamp_nat data.size (by unfold widest; omega)] at this
      have h7 : data.data.toList.length = data.size := Array.length_toList
      unfold textB
      rw [List.length_append]
      omega
    repeat (first | refine GD ?_ | refine NW fun _ => ?_)
    refine RD 9 10 (_) ?_
    refine WW 0 ?_; refine WW 1 ?_; refine WW 2 ?_
    refine WW 5 ?_; refine WW 6 ?_
    refine WH.only 3 rfl rfl (by kernel_rfl) rfl (OP.callRO rfl rfl (qnumber_ro block) (fun _ _ => trivial) rfl rfl ⟨fun _ => II, ?_⟩)
    refine WW 4 ?_
    rw [ba_app]
    generalize hp3 : p2 ++ numB (clampN block) = p3
    have hp3l : p3.length ≤ 36 := by rw [← hp3, List.length_append]; omega
    have hp3z := ba_size p3
    refine WH.only 7 rfl rfl (by kernel_rfl) rfl (OP.callRO rfl rfl (qtext_ro data (by omega)) (fun _ _ => trivial) rfl rfl ⟨fun _ => II, ?_⟩)
    refine WW 8 ?_
    rw [ba_app]
    refine WW 9 ?_
    refine DN ?_
    have hbody : p3 ++ textB data = bodyM gen (seq, kind, block, data, num) := by
      unfold bodyM
      dsimp only
      rw [if_pos h1, ← hp3, ← hp2, ← hp1]
      simp only [List.append_assoc]
    rw [hbody]
    repeat (first | refine GD ?_ | refine NW fun _ => ?_)
    refine WL.step rfl (OP.callRO rfl rfl (qsector_ro _ hbl) (fun _ _ => trivial) rfl rfl ?_)
    repeat (first | refine GD ?_ | refine NW fun _ => ?_)
    exact ret1 rfl ⟨rfl, MM⟩
  · have hn9 := numB_nine num
    have hnz := ba_size (numB (clampN num))
    repeat (first | refine GD ?_ | refine NW fun _ => ?_)
    refine WL.step rfl (OP.callRO rfl rfl (qnumber_ro num) (fun _ _ => trivial) rfl rfl ?_)
    repeat (first | refine GD ?_ | refine NW fun _ => ?_)
    rw [ba_app]
    have hbody : p2 ++ numB (clampN num) = bodyM gen (seq, kind, block, data, num) := by
      unfold bodyM
      dsimp only
      rw [if_neg h1, ← hp2, ← hp1]
    rw [hbody]
    refine WL.step rfl (OP.callRO rfl rfl (qsector_ro _ hbl) (fun _ _ => trivial) rfl rfl ?_)
    repeat (first | refine GD ?_ | refine NW fun _ => ?_)
    exact ret1 rfl ⟨rfl, MM⟩
end Go.Proofs.YtanjfjiaheghcaaGreatDoor
/- Contracts of functions of the given program, and plain laws on what they compute: parts of the proofs of laws. -/

namespace Go.Proofs.YtanjfjiaheghcaaGreatDoor
open Go Go.GL

/-- the reference's reader, as it stands: what is left, what was wrong -/
def qrd (r : Nat) (s : PR) : Assn := blk r [.string (ba s.1), .int .i64 s.2] 166
theorem extractB (b : ByteArray) (i n : Nat) : b.extract i (i + n) = ba ((b.data.toList.drop i).take n) := by
  cases b with | mk d =>
  have : (ByteArray.mk d).extract i (i + n) = ⟨d.extract i (i + n)⟩ := by
    apply ByteArray.ext
    simp
  rw [this]
  unfold ba
  congr 1
  apply Array.toList_inj.1
  simp

theorem ba_take (l : List UInt8) (n : Nat) : (ba l).extract 0 n = ba (l.take n) := by
  have := extractB (ba l) 0 n
  simpa [ba] using this
theorem ba_drop (l : List UInt8) (i : Nat) : (ba l).extract i (ba l).size = ba (l.drop i) := by
  by_cases h : i ≤ l.length
  · have := extractB (ba l) i (l.length - i)
    rw [show i + (l.length - i) = (ba l).size by rw [ba_size]; omega] at this
    rw [this]
    have h2 : (ba l).data.toList = l := by simp [ba]
    rw [h2, List.take_of_length_le (by rw [List.length_drop]; exact Nat.le_refl _)]
  · have h1 : l.drop i = [] := List.drop_eq_nil_of_le (by omega)
    rw [h1]
    have : (ba l).size ≤ i := by rw [ba_size]; omega
    apply ByteArray.ext
    apply Array.ext'
    have h3 : ((ba l).extract i (ba l).size).size = 0 := by rw [ByteArray.size_extract]; omega
    have h4 : ((ba l).extract i (ba l).size).data.toList.length = 0 := by simpa using h3
    rw [List.length_eq_zero_iff.1 h4]
    rfl
set_option maxRecDepth 10000 in
theorem qwrong_ok (r : Nat) (x : Value) (e c : Int) : Triple G 134 [.pointer (some ⟨r, 0, none⟩), .int .i64 c] [blk r [x, .int .i64 e] 166] (fun v M => v = .tuple #[] ∧ M = [qrd r ([], c)]) := by
  refine Triple.enter Tryz.func134 rfl (by decide) rfl Tryz.ntmps134 rfl (fun F => ?_)
  repeat (first | refine GO ?_ | refine NW fun _ => ?_)
  exact ret0n ⟨_, ⟨rfl, rfl⟩, Imp.refl _⟩
set_option maxHeartbeats 4000000 in
set_option maxRecDepth 10000 in
theorem qnum_ok (r : Nat) (s : PR) (hl : s.1.length < 1000000) :
    Triple G 92 [.pointer (some ⟨r, 0, none⟩)] [qrd r s] (fun v M => v = .int .i64 (numR s).1 ∧ M = [qrd r (numR s).2]) := by
  refine Triple.enter Tryz.func92 rfl (by decide) rfl Tryz.ntmps92 rfl (fun F => ?_)
  obtain ⟨l, e⟩ := s
  dsimp only at hl ⊢
  unfold qrd
  by_cases he : e = 0
  rotate_left
  · rw [numR_err he]
    repeat (first | refine GD ?_ | refine NW fun _ => ?_)
    exact ret1 rfl ⟨_, ⟨rfl, rfl⟩, Imp.refl _⟩
  subst he
  have hsz := ba_size l
  rw [numR_zero]
  generalize hF : rdN 0 0 l = R
  repeat (first | refine GD ?_ | refine NW fun _ => ?_)
  refine WC.loop (σ := Nat × Nat) (fun s => s.1 ≤ 8 ∧ s.1 ≤ l.length ∧ s.2 < 128 ^ s.1 ∧ rdN s.1 s.2 (l.drop s.1) = R)
    (fun s => [(0, .val (.pointer (some ⟨r, 0, none⟩))), (3, .val (.int .i64 s.2)), (4, .val (.int .i64 ((128 ^ s.1 : Nat) : Int))), (5, .val (.int .i64 s.1))])
    (fun _ => [blk r [.string (ba l), .int .i64 0] 166, F]) (fun s => l.length - s.1) (0, 0) ⟨by simp, by simp, by simp, hF⟩ ⟨rfl, rfl, rfl, rfl, trivial⟩ II ?_
  rintro ⟨i, m⟩ ⟨hi8, hin, hm, hR⟩
  dsimp only at hi8 hin hm hR ⊢
  by_cases hlt : i < l.length
  rotate_left
  · rw [List.drop_eq_nil_of_le (by omega)] at hR
    repeat (first | refine GD ?_ | refine NW fun _ => ?_)
    refine WL.step rfl (OP.call (pre := [blk r [.string (ba l), .int .i64 0] 166]) rfl rfl (qwrong_ok r _ 0 2) PS rfl rfl ?_)
    rintro _ _ ⟨rfl, rfl⟩
    repeat (first | refine GD ?_ | refine NW fun _ => ?_)
    subst hR
    exact ret1 rfl ⟨_, ⟨rfl, rfl⟩, Imp.refl _⟩
  rw [List.drop_eq_getElem_cons hlt, rdN_cons] at hR
  have hby := byteAt_ba l i hlt
  generalize l[i] = x at *
  have hx8 : x.toNat < 256 := x.toNat_lt
  have hx128 : x.toNat % 128 < 128 := by omega
  have hm2 : m + x.toNat % 128 * 128 ^ i < 128 ^ (i + 1) := by
    have h1 : x.toNat % 128 * 128 ^ i ≤ 127 * 128 ^ i := Nat.mul_le_mul_right _ (by omega)
    rw [Nat.pow_succ]
    omega
  have hp8 := pow128 i hi8
  have h127 : x.toNat % 128 * 128 ^ i ≤ 127 * 128 ^ 8 := Nat.mul_le_mul (by omega) hp8
  have hval : (m : Int) + byteAt (ba l) i % 128 * ((128 ^ i : Nat) : Int) = ((m + x.toNat % 128 * 128 ^ i : Nat) : Int) := by
    rw [hby, Int.natCast_add, Int.natCast_mul]; rfl
  have hmul : byteAt (ba l) i % 128 * ((128 ^ i : Nat) : Int) = ((x.toNat % 128 * 128 ^ i : Nat) : Int) := by
    rw [hby, Int.natCast_mul]; rfl
  have hp1 : ((128 ^ i : Nat) : Int) * 128 = ((128 ^ (i + 1) : Nat) : Int) := by rw [Nat.pow_succ, Int.natCast_mul]; rfl
  have h16 : i = 8 → (15 < x.toNat ↔ 128 ≤ x.toNat ∨ widest < ((m + x.toNat % 128 * 128 ^ i : Nat) : Int)) := by
    intro h; subst h
    unfold widest
    constructor
    · intro h
      by_cases h2 : 128 ≤ x.toNat
      · exact .inl h2
      · right
        have : x.toNat % 128 = x.toNat := by omega
        rw [this]
        omega
    · rintro (h | h)
      · omega
      · omega
  have hu : ((128 ^ i : Nat) : Int) ≤ 72057594037927936 := by omega
  have hu0 : 0 ≤ ((128 ^ i : Nat) : Int) := by omega
  have hp7 : i ≠ 8 → 128 ^ i ≤ 128 ^ 7 := fun h => Nat.pow_le_pow_right (by decide) (by omega)
  generalize hpw : 128 ^ i = u at *
  have hxu : x.toNat % 128 * u ≤ 127 * 128 ^ 8 := h127
  by_cases h8 : i = 8 ∧ 15 < x.toNat
  · rw [if_pos (.inl ⟨h8.1, (h16 h8.1).1 h8.2⟩)] at hR
    obtain ⟨h81, h82⟩ := h8
    have hb15 : 15 < byteAt (ba l) i := by omega
    repeat (first | refine GD ?_ | refine NW fun _ => ?_)
    refine WL.step rfl (OP.call (pre := [blk r [.string (ba l), .int .i64 0] 166]) rfl rfl (qwrong_ok r _ 0 1) PS rfl rfl ?_)
    rintro _ _ ⟨rfl, rfl⟩
    repeat (first | refine GD ?_ | refine NW fun _ => ?_)
    subst hR
    exact ret1 rfl ⟨_, ⟨rfl, rfl⟩, Imp.refl _⟩
  have h8' : ¬ (i = 8 ∧ (128 ≤ x.toNat ∨ widest < ((m + x.toNat % 128 * u : Nat) : Int))) := fun h => h8 ⟨h.1, (h16 h.1).2 h.2⟩
  have hle15 : i = 8 → byteAt (ba l) i ≤ 15 := by intro h; omega
  by_cases hi : i = 8
  · have hb15 : ¬ 15 < byteAt (ba l) i := by omega
    have hc1 : x.toNat < 128 := by omega
    have hc128 : byteAt (ba l) i < 128 := by omega
    have hi0 : 0 < i := by omega
    by_cases hz : x.toNat = 0
    · rw [if_pos (.inr ⟨hi0, hz⟩)] at hR
      have hz0 : byteAt (ba l) i = 0 := by omega
      repeat (first | refine GD ?_ | refine NW fun _ => ?_)
      refine WL.step rfl (OP.call (pre := [blk r [.string (ba l), .int .i64 0] 166]) rfl rfl (qwrong_ok r _ 0 1) PS rfl rfl ?_)
      rintro _ _ ⟨rfl, rfl⟩
      repeat (first | refine GD ?_ | refine NW fun _ => ?_)
      subst hR
      exact ret1 rfl ⟨_, ⟨rfl, rfl⟩, Imp.refl _⟩
    · rw [if_neg (fun h => h.elim h8' (fun h => hz h.2)), if_pos hc1] at hR
      have hz0 : ¬ byteAt (ba l) i = 0 := by omega
      repeat (first | refine GD ?_ | refine NW fun _ => ?_)
      subst hR
      rw [hval]
      refine ret1 rfl ⟨[blk r [.string ((ba l).extract (i + 1) (ba l).size), .int .i64 0] 166], ⟨rfl, ?_⟩, Imp.refl _⟩
      rw [ba_drop]
      rfl
  · by_cases hc1 : x.toNat < 128
    · have hc128 : byteAt (ba l) i < 128 := by omega
      by_cases hi0 : 0 < i
      · by_cases hz : x.toNat = 0
        · rw [if_pos (.inr ⟨hi0, hz⟩)] at hR
          have hz0 : byteAt (ba l) i = 0 := by omega
          repeat (first | refine GD ?_ | refine NW fun _ => ?_)
          refine WL.step rfl (OP.call (pre := [blk r [.string (ba l), .int .i64 0] 166]) rfl rfl (qwrong_ok r _ 0 1) PS rfl rfl ?_)
          rintro _ _ ⟨rfl, rfl⟩
          repeat (first | refine GD ?_ | refine NW fun _ => ?_)
          subst hR
          exact ret1 rfl ⟨_, ⟨rfl, rfl⟩, Imp.refl _⟩
        · rw [if_neg (fun h => h.elim h8' (fun h => hz h.2)), if_pos hc1] at hR
          have hz0 : ¬ byteAt (ba l) i = 0 := by omega
          repeat (first | refine GD ?_ | refine NW fun _ => ?_)
          subst hR
          rw [hval]
          refine ret1 rfl ⟨[blk r [.string ((ba l).extract (i + 1) (ba l).size), .int .i64 0] 166], ⟨rfl, ?_⟩, Imp.refl _⟩
          rw [ba_drop]
          rfl
      · rw [if_neg (fun h => h.elim h8' (fun h => hi0 h.1)), if_pos hc1] at hR
        repeat (first | refine GD ?_ | refine NW fun _ => ?_)
        subst hR
        rw [hval]
        refine ret1 rfl ⟨[blk r [.string ((ba l).extract (i + 1) (ba l).size), .int .i64 0] 166], ⟨rfl, ?_⟩, Imp.refl _⟩
        rw [ba_drop]
        rfl
    · have hc128 : ¬ byteAt (ba l) i < 128 := by omega
      have hp7 := hp7 hi
      rw [if_neg (fun h => h.elim h8' (fun h => by omega)), if_neg hc1] at hR
      repeat (first | refine GD ?_ | refine NW fun _ => ?_)
      exact ⟨(i + 1, m + x.toNat % 128 * u), ⟨by dsimp only; omega, by dsimp only; omega, hm2, hR⟩, by dsimp only; omega, ⟨rfl, by rw [hval]; rfl, by rw [hp1]; rfl, rfl, trivial⟩, Imp.refl _⟩
end Go.Proofs.YtanjfjiaheghcaaGreatDoor
/- Contracts of functions of the given program, and plain laws on what they compute: parts of the proofs of laws. -/

namespace Go.Proofs.YtanjfjiaheghcaaGreatDoor
open Go Go.GL

set_option maxHeartbeats 1000000 in
set_option maxRecDepth 10000 in
theorem qtextR_ok (r : Nat) (s : PR) (hl : s.1.length < 1000000) (most : Int) :
    Triple G 157 [.pointer (some ⟨r, 0, none⟩), .int .i64 most] [qrd r s] (fun v M => v = .string (textR most s).1 ∧ M = [qrd r (textR most s).2]) := by
  refine Triple.enter Tryz.func157 rfl (by decide) rfl Tryz.ntmps157 rfl (fun F => ?_)
  repeat (first | refine GO ?_ | refine NW fun _ => ?_)
  refine WL.step rfl (OP.call (pre := [qrd r s]) rfl rfl (qnum_ok r s hl) PS rfl rfl ?_)
  rintro _ _ ⟨rfl, rfl⟩
  have hbd := numR_bd s
  unfold textR
  generalize numR s = y at *
  obtain ⟨x, l, e⟩ := y
  dsimp only at hbd ⊢
  have hsz := ba_size l
  unfold qrd
  by_cases he : e = 0
  rotate_left
  · rw [if_pos he]
    repeat (first | refine GD ?_ | refine NW fun _ => ?_)
    exact ret1 rfl ⟨_, ⟨rfl, rfl⟩, Imp.refl _⟩
  subst he
  rw [if_neg (by simp)]
  by_cases h1 : most < x
  · rw [if_pos h1]
    repeat (first | refine GD ?_ | refine NW fun _ => ?_)
    refine WL.step rfl (OP.call (pre := [blk r [.string (ba l), .int .i64 0] 166]) rfl rfl (qwrong_ok r _ 0 1) PS rfl rfl ?_)
    rintro _ _ ⟨rfl, rfl⟩
    repeat (first | refine GD ?_ | refine NW fun _ => ?_)
    exact ret1 rfl ⟨_, ⟨rfl, rfl⟩, Imp.refl _⟩
  rw [if_neg h1]
  by_cases h2 : (l.length : Int) < x
  · rw [if_pos h2]
    repeat (first | refine GD ?_ | refine NW fun _ => ?_)
    refine WL.step rfl (OP.call (pre := [blk r [.string (ba l), .int .i64 0] 166]) rfl rfl (qwrong_ok r _ 0 2) PS rfl rfl ?_)
    rintro _ _ ⟨rfl, rfl⟩
    repeat (first | refine GD ?_ | refine NW fun _ => ?_)
    exact ret1 rfl ⟨_, ⟨rfl, rfl⟩, Imp.refl _⟩
  rw [if_neg h2]
  repeat (first | refine GD ?_ | refine NW fun _ => ?_)
  rw [ba_take, ba_drop]
  exact ret1 rfl ⟨_, ⟨rfl, rfl⟩, Imp.refl _⟩
def OpenQ (l : List UInt8) : Value := if OpenOk l then .tuple #[.string (ba (l.take (l.length - 4))), .bool true] else .tuple #[.string ⟨#[]⟩, .bool false]
set_option maxHeartbeats 1000000 in
set_option maxRecDepth 10000 in
theorem qopen_ro (l : List UInt8) (hs : l.length < 100000) : RO G 91 [.string (ba l)] (fun _ => True) (OpenQ l) := by
  refine RO.enter Tryz.func91 rfl (by decide) rfl Tryz.ntmps91 rfl (fun A hu hA => ?_) (fun _ _ _ h => h)
  have hsz := ba_size l
  unfold OpenQ
  by_cases h4 : l.length < 4
  · rw [if_neg (fun h => by have := h.1; omega)]
    repeat (first | refine GD ?_ | refine NW fun _ => ?_)
    exact ret2 rfl rfl ⟨rfl, MM⟩
  have hcut : (ba l).extract 0 ((ba l).size - 4 : Int).toNat = ba (l.take (l.length - 4)) := by
    rw [ba_take, hsz]; congr 2; omega
  repeat (first | refine GD ?_ | refine NW fun _ => ?_)
  refine WL.guardT rfl rfl rfl rfl (OP.pure (nw := false) rfl (by first | exact trivial | (simp only [Holds]; omega) | (simp [Holds]; done) | (simp [Holds]; omega)) rfl rfl ?_)
  repeat (first | refine GD ?_ | refine NW fun _ => ?_)
  rw [hcut]
  refine WL.guardT rfl rfl rfl rfl (OP.callRO rfl rfl (qseal_ro (l.take (l.length - 4)) (by rw [List.length_take]; omega)) (fun _ _ => trivial) rfl rfl ?_)
  have hiff : ba (l.take (l.length - 4) ++ tailM (l.take (l.length - 4))) = ba l ↔ OpenOk l := by
    constructor
    · intro h
      have h1 := ba_inj h
      refine ⟨by omega, ?_⟩
      have h2 : l.take (l.length - 4) ++ tailM (l.take (l.length - 4)) = l.take (l.length - 4) ++ l.drop (l.length - 4) := by rw [h1, List.take_append_drop]
      exact List.append_cancel_left h2
    · intro h
      rw [h.2, List.take_append_drop]
  by_cases ho : OpenOk l
  · rw [if_pos ho]
    have he := hiff.2 ho
    repeat (first | refine GD ?_ | refine NW fun _ => ?_)
    rw [hcut]
    exact ret2 rfl rfl ⟨rfl, MM⟩
  · rw [if_neg ho]
    have he : ¬ ba (l.take (l.length - 4) ++ tailM (l.take (l.length - 4))) = ba l := fun h => ho (hiff.1 h)
    repeat (first | refine GD ?_ | refine NW fun _ => ?_)
    exact ret2 rfl rfl ⟨rfl, MM⟩
def DecQ (l : List UInt8) : Value := match decR l with
  | .ok (g, r) => .tuple #[.int .i64 g, .agg (encR r).toArray, .int .i64 0]
  | .error c => .tuple #[.int .i64 0, .agg (encR rec0).toArray, .int .i64 c]
set_option maxHeartbeats 4000000 in
set_option maxRecDepth 10000 in
theorem qdecode_ro (l : List UInt8) (hs : l.length < 100000) : RO G 156 [.string (ba l)] (fun _ => True) (DecQ l) := by
  refine RO.enter Tryz.func156 rfl (by decide) rfl Tryz.ntmps156 rfl (fun A hu hA => ?_) (fun _ _ _ h => h)
  have hsz := ba_size l
  repeat (first | refine GO ?_ | refine NW fun _ => ?_)
  refine WL.step rfl (OP.callRO rfl rfl (qopen_ro l hs) (fun _ _ => trivial) rfl rfl ?_)
  unfold OpenQ
  by_cases ho : OpenOk l
  rotate_left
  · rw [if_neg ho]
    have hdec : decR l = .error 4 := by unfold decR; rw [if_neg (fun h => ho h.1)]
    repeat (first | refine GD ?_ | refine NW fun _ => ?_)
    refine RD 2 4 (_) ?_
    refine VV 0 ?_
    refine WP 1 ?_
    refine WH.only 2 rfl rfl (by kernel_rfl) rfl (OP.store rfl rfl rfl rfl rfl rfl rfl UP rfl ⟨(fun h => nomatch h), ?_⟩)
    refine WP 3 ?_
    refine DN ?_
    repeat (first | refine GD ?_ | refine NW fun _ => ?_)
    refine ret3c rfl rfl rfl rfl rfl rfl (HasCut.ent (n := 5) HC).1 ⟨?_, MM⟩
    unfold DecQ
    rw [hdec]
    rfl
  rw [if_pos ho]
  by_cases h64 : l.length = 64
  rotate_left
  · have hdec : decR l = .error 4 := by unfold decR; rw [if_neg (fun h => h64 h.2)]
    repeat (first | refine GD ?_ | refine NW fun _ => ?_)
    refine RD 2 4 (_) ?_
    refine VV 0 ?_
    refine WP 1 ?_
    refine WH.only 2 rfl rfl (by kernel_rfl) rfl (OP.store rfl rfl rfl rfl rfl rfl rfl UP rfl ⟨(fun h => nomatch h), ?_⟩)
    refine WP 3 ?_
    refine DN ?_
    repeat (first | refine GD ?_ | refine NW fun _ => ?_)
    refine ret3c rfl rfl rfl rfl rfl rfl (HasCut.ent (n := 5) HC).1 ⟨?_, MM⟩
    unfold DecQ
    rw [hdec]
    rfl
  have e60 : l.take (l.length - 4) = l.take 60 := by rw [h64]
  rw [e60]
  have hl60 : (l.take 60).length = 60 := by rw [List.length_take]; omega
  have hdR : decR l = if (readM (l.take 60, 0)).2.2 = 0 ∧ (RightR (readM (l.take 60, 0)).1.2 ∧ (0 ≤ (readM (l.take 60, 0)).1.1 ∧ (readM (l.take 60, 0)).1.1 ≤ widest)) ∧ sectorM (bodyM (readM (l.take 60, 0)).1.1 (readM (l.take 60, 0)).1.2) = l then .ok (readM (l.take 60, 0)).1 else .error 1 := by
    unfold decR; rw [if_pos ⟨ho, by omega⟩]
  have hsz2 := readM_size (l.take 60, 0)
  unfold readM at hdR hsz2
  obtain ⟨s, hs0⟩ : ∃ s : PR, s = (l.take 60, 0) := ⟨_, rfl⟩
  have hsl : s.1.length = 60 := by rw [hs0]; exact hl60
  have hq : ∀ r, blk r [.string (ba (l.take 60)), .int .i64 0] 166 = qrd r s := fun r => by rw [hs0]; rfl
  rw [← hs0] at hdR hsz2
  have b1 := numR_bd s
  have w1 := numR_wide s
  have b2 := numR_bd (numR s).2
  have b3 := numR_bd (numR (numR s).2).2
  have b4 := numR_bd (numR (numR (numR s).2).2).2
  repeat (first | refine GD ?_ | refine NW fun _ => ?_)
  rename_i p3 p5 pr
  rw [hq pr]
  refine WL.step rfl (OP.call (pre := [qrd pr s]) rfl rfl (qnum_ok pr s (by omega)) PS rfl rfl ?_)
  rintro _ _ ⟨rfl, rfl⟩
  repeat (first | refine GO ?_ | refine NW fun _ => ?_)
  refine WL.step rfl (OP.call (pre := [qrd pr (numR s).2]) rfl rfl (qnum_ok pr (numR s).2 (by omega)) PS rfl rfl ?_)
  rintro _ _ ⟨rfl, rfl⟩
  repeat (first | refine GO ?_ | refine NW fun _ => ?_)
  refine WL.step rfl (OP.call (pre := [qrd pr (numR (numR s).2).2]) rfl rfl (qnum_ok pr (numR (numR s).2).2 (by omega)) PS rfl rfl ?_)
  rintro _ _ ⟨rfl, rfl⟩
  generalize numR s = y1 at *
  generalize numR y1.2 = y2 at *
  generalize numR y2.2 = y3 at *
  by_cases hk : y3.1 = 1
  · rw [if_pos hk] at hdR hsz2
    repeat (first | refine GD ?_ | refine NW fun _ => ?_)
    refine WL.step rfl (OP.call (pre := [qrd pr y3.2]) rfl rfl (qnum_ok pr y3.2 (by omega)) PS rfl rfl ?_)
    rintro _ _ ⟨rfl, rfl⟩
    generalize numR y3.2 = y4 at *
    repeat (first | refine GD ?_ | refine NW fun _ => ?_)
    refine WL.step rfl (OP.call (pre := [qrd pr y4.2]) rfl rfl (qtextR_ok pr y4.2 (by omega) 16) PS rfl rfl ?_)
    rintro _ _ ⟨rfl, rfl⟩
    generalize textR 16 y4.2 = y5 at *
    unfold qrd
    dsimp only at hdR hsz2
    by_cases he : y5.2.2 = 0
    rotate_left
    · have hdec : decR l = .error 1 := by rw [hdR, if_neg (fun h => he h.1)]
      repeat (first | refine GD ?_ | refine NW fun _ => ?_)
      refine RD 2 4 (_) ?_
      refine VV 0 ?_
      refine WP 1 ?_
      refine WH.only 2 rfl rfl (by kernel_rfl) rfl (OP.store rfl rfl rfl rfl rfl rfl rfl UP rfl ⟨(fun h => nomatch h), ?_⟩)
      refine WP 3 ?_
      refine DN ?_
      repeat (first | refine GD ?_ | refine NW fun _ => ?_)
      refine ret3c rfl rfl rfl rfl rfl rfl (HasCut.ent (n := 5) HC).1 ⟨?_, MM⟩
      unfold DecQ
      rw [hdec]
      rfl
    have hr1 := qright_ro (y2.1, y3.1, y4.1, y5.1, 0) (by dsimp only; omega)
    repeat (first | refine GD ?_ | refine NW fun _ => ?_)
    refine WL.guardT rfl rfl rfl rfl (OP.callRO rfl rfl hr1 (fun _ _ => trivial) rfl rfl ?_)
    by_cases hr : RightR (y2.1, y3.1, y4.1, y5.1, 0)
    rotate_left
    · have hdec : decR l = .error 1 := by rw [hdR, if_neg (fun h => hr h.2.1.1)]
      rw [decide_eq_false hr]
      repeat (first | refine GD ?_ | refine NW fun _ => ?_)
      refine RD 2 4 (_) ?_
      refine VV 0 ?_
      refine WP 1 ?_
      refine WH.only 2 rfl rfl (by kernel_rfl) rfl (OP.store rfl rfl rfl rfl rfl rfl rfl UP rfl ⟨(fun h => nomatch h), ?_⟩)
      refine WP 3 ?_
      refine DN ?_
      repeat (first | refine GD ?_ | refine NW fun _ => ?_)
      refine ret3c rfl rfl rfl rfl rfl rfl (HasCut.ent (n := 5) HC).1 ⟨?_, MM⟩
      unfold DecQ
      rw [hdec]
      rfl
    rw [decide_eq_true hr]
    repeat (first | refine GD ?_ | refine NW fun _ => ?_)
    refine WL.guardT rfl rfl rfl rfl (OP.callRO rfl rfl (qbytes_ro y1.1 (y2.1, y3.1, y4.1, y5.1, 0) hr) (fun _ _ => trivial) rfl rfl ?_)
    by_cases hb : sectorM (bodyM y1.1 (y2.1, y3.1, y4.1, y5.1, 0)) = l
    rotate_left
    · have hdec : decR l = .error 1 := by rw [hdR, if_neg (fun h => hb h.2.2)]
      have hbb : ¬ ba (sectorM (bodyM y1.1 (y2.1, y3.1, y4.1, y5.1, 0))) = ba l := fun h => hb (ba_inj h)
      repeat (first | refine GD ?_ | refine NW fun _ => ?_)
      refine RD 2 4 (_) ?_
      refine VV 0 ?_
      refine WP 1 ?_
      refine WH.only 2 rfl rfl (by kernel_rfl) rfl (OP.store rfl rfl rfl rfl rfl rfl rfl UP rfl ⟨(fun h => nomatch h), ?_⟩)
      refine WP 3 ?_
      refine DN ?_
      repeat (first | refine GD ?_ | refine NW fun _ => ?_)
      refine ret3c rfl rfl rfl rfl rfl rfl (HasCut.ent (n := 5) HC).1 ⟨?_, MM⟩
      unfold DecQ
      rw [hdec]
      rfl
    have hbb : ba (sectorM (bodyM y1.1 (y2.1, y3.1, y4.1, y5.1, 0))) = ba l := congrArg ba hb
    have hdec : decR l = .ok (y1.1, (y2.1, y3.1, y4.1, y5.1, 0)) := by rw [hdR, if_pos ⟨he, ⟨hr, w1⟩, hb⟩]
    repeat (first | refine GD ?_ | refine NW fun _ => ?_)
    refine RD 3 5 (_) ?_
    refine WP 0 ?_
    refine VV 1 ?_
    refine WP 2 ?_
    refine WH.only 3 rfl rfl (by kernel_rfl) rfl (OP.store rfl rfl rfl rfl rfl rfl rfl UP rfl ⟨(fun h => nomatch h), ?_⟩)
    refine WP 4 ?_
    refine DN ?_
    repeat (first | refine GD ?_ | refine NW fun _ => ?_)
    refine ret3c rfl rfl rfl rfl rfl rfl (HasCut.ent (n := 5) HC).1 ⟨?_, MM⟩
    unfold DecQ
    rw [hdec]
    rfl
  · rw [if_neg hk] at hdR hsz2
    repeat (first | refine GD ?_ | refine NW fun _ => ?_)
    refine WL.step rfl (OP.call (pre := [qrd pr y3.2]) rfl rfl (qnum_ok pr y3.2 (by omega)) PS rfl rfl ?_)
    rintro _ _ ⟨rfl, rfl⟩
    generalize numR y3.2 = y4 at *
    unfold qrd
    dsimp only at hdR hsz2
    by_cases he : y4.2.2 = 0
    rotate_left
    · have hdec : decR l = .error 1 := by rw [hdR, if_neg (fun h => he h.1)]
      repeat (first | refine GD ?_ | refine NW fun _ => ?_)
      refine RD 2 4 (_) ?_
      refine VV 0 ?_
      refine WP 1 ?_
      refine WH.only 2 rfl rfl (by kernel_rfl) rfl (OP.store rfl rfl rfl rfl rfl rfl rfl UP rfl ⟨(fun h => nomatch h), ?_⟩)
      refine WP 3 ?_
      refine DN ?_
      repeat (first | refine GD ?_ | refine NW fun _ => ?_)
      refine ret3c rfl rfl rfl rfl rfl rfl (HasCut.ent (n := 5) HC).1 ⟨?_, MM⟩
      unfold DecQ
      rw [hdec]
      rfl
    have hr1 := qright_ro (y2.1, y3.1, 0, ⟨#[]⟩, y4.1) (by dsimp only; omega)
    repeat (first | refine GD ?_ | refine NW fun _ => ?_)
    refine WL.guardT rfl rfl rfl rfl (OP.callRO rfl rfl hr1 (fun _ _ => trivial) rfl rfl ?_)
    by_cases hr : RightR (y2.1, y3.1, 0, ⟨#[]⟩, y4.1)
    rotate_left
    · have hdec : decR l = .error 1 := by rw [hdR, if_neg (fun h => hr h.2.1.1)]
      rw [decide_eq_false hr]
      repeat (first | refine GD ?_ | refine NW fun _ => ?_)
      refine RD 2 4 (_) ?_
      refine VV 0 ?_
      refine WP 1 ?_
      refine WH.only 2 rfl rfl (by kernel_rfl) rfl (OP.store rfl rfl rfl rfl rfl rfl rfl UP rfl ⟨(fun h => nomatch h), ?_⟩)
      refine WP 3 ?_
      refine DN ?_
      repeat (first | refine GD ?_ | refine NW fun _ => ?_)
      refine ret3c rfl rfl rfl rfl rfl rfl (HasCut.ent (n := 5) HC).1 ⟨?_, MM⟩
      unfold DecQ
      rw [hdec]
      rfl
    rw [decide_eq_true hr]
    repeat (first | refine GD ?_ | refine NW fun _ => ?_)
    refine WL.guardT rfl rfl rfl rfl (OP.callRO rfl rfl (qbytes_ro y1.1 (y2.1, y3.1, 0, ⟨#[]⟩, y4.1) hr) (fun _ _ => trivial) rfl rfl ?_)
    by_cases hb : sectorM (bodyM y1.1 (y2.1, y3.1, 0, ⟨#[]⟩, y4.1)) = l
    rotate_left
    · have hdec : decR l = .error 1 := by rw [hdR, if_neg (fun h => hb h.2.2)]
      have hbb : ¬ ba (sectorM (bodyM y1.1 (y2.1, y3.1, 0, ⟨#[]⟩, y4.1))) = ba l := fun h => hb (ba_inj h)
      repeat (first | refine GD ?_ | refine NW fun _ => ?_)
      refine RD 2 4 (_) ?_
      refine VV 0 ?_
      refine WP 1 ?_
      refine WH.only 2 rfl rfl (by kernel_rfl) rfl (OP.store rfl rfl rfl rfl rfl rfl rfl UP rfl ⟨(fun h => nomatch h), ?_⟩)
      refine WP 3 ?_
      refine DN ?_
      repeat (first | refine GD ?_ | refine NW fun _ => ?_)
      refine ret3c rfl rfl rfl rfl rfl rfl (HasCut.ent (n := 5) HC).1 ⟨?_, MM⟩
      unfold DecQ
      rw [hdec]
      rfl
    have hbb : ba (sectorM (bodyM y1.1 (y2.1, y3.1, 0, ⟨#[]⟩, y4.1))) = ba l := congrArg ba hb
    have hdec : decR l = .ok (y1.1, (y2.1, y3.1, 0, ⟨#[]⟩, y4.1)) := by rw [hdR, if_pos ⟨he, ⟨hr, w1⟩, hb⟩]
    repeat (first | refine GD ?_ | refine NW fun _ => ?_)
    refine RD 3 5 (_) ?_
    refine WP 0 ?_
    refine VV 1 ?_
    refine WP 2 ?_
    refine WH.only 3 rfl rfl (by kernel_rfl) rfl (OP.store rfl rfl rfl rfl rfl rfl rfl UP rfl ⟨(fun h => nomatch h), ?_⟩)
    refine WP 4 ?_
    refine DN ?_
    repeat (first | refine GD ?_ | refine NW fun _ => ?_)
    refine ret3c rfl rfl rfl rfl rfl rfl (HasCut.ent (n := 5) HC).1 ⟨?_, MM⟩
    unfold DecQ
    rw [hdec]
    rfl
end Go.Proofs.YtanjfjiaheghcaaGreatDoor
/- Contracts of functions of the given program, and plain laws on what they compute: parts of the proofs of laws. -/

namespace Go.Proofs.YtanjfjiaheghcaaGreatDoor
open Go Go.GL

def EncQ (gen : Int) (r : Rec) : Value := if RightR r ∧ (0 ≤ gen ∧ gen ≤ widest) then .tuple #[.string (ba (sectorM (bodyM gen r))), .int .i64 0] else .tuple #[.string ⟨#[]⟩, .int .i64 1]
set_option maxHeartbeats 1000000 in
set_option maxRecDepth 10000 in
theorem qencode_ro (gen : Int) (r : Rec) (hsz : r.2.2.2.1.size < 1000000) : RO G 142 [.int .i64 gen, .agg (encR r).toArray] (fun _ => True) (EncQ gen r) := by
  refine RO.enter Tryz.func142 rfl (by decide) rfl Tryz.ntmps142 rfl (fun A hu hA => ?_) (fun _ _ _ h => h)
  have hl : (encR r).length = 5 := rfl
  have hr0 := qright_ro r hsz
  unfold EncQ widest
  repeat (first | refine GO ?_ | refine NW fun _ => ?_)
  refine WL.step rfl (OP.callRO rfl rfl hr0 (fun _ _ => trivial) rfl rfl ?_)
  by_cases hr : RightR r
  rotate_left
  · rw [decide_eq_false hr, if_neg (fun h => hr h.1)]
    repeat (first | refine GD ?_ | refine NW fun _ => ?_)
    exact ret2 rfl rfl ⟨rfl, MM⟩
  rw [decide_eq_true hr]
  by_cases hg0 : gen < 0
  · rw [if_neg (by omega)]
    repeat (first | refine GD ?_ | refine NW fun _ => ?_)
    exact ret2 rfl rfl ⟨rfl, MM⟩
  by_cases hg1 : 1152921504606846975 < gen
  · rw [if_neg (by omega)]
    repeat (first | refine GD ?_ | refine NW fun _ => ?_)
    exact ret2 rfl rfl ⟨rfl, MM⟩
  rw [if_pos ⟨hr, by omega, by omega⟩]
  repeat (first | refine GD ?_ | refine NW fun _ => ?_)
  refine WL.step rfl (OP.callRO rfl rfl (qbytes_ro gen r hr) (fun _ _ => trivial) rfl rfl ?_)
  repeat (first | refine GD ?_ | refine NW fun _ => ?_)
  exact ret2 rfl rfl ⟨rfl, MM⟩
end Go.Proofs.YtanjfjiaheghcaaGreatDoor
/- Contracts of functions of the given program, and plain laws on what they compute: parts of the proofs of laws. -/

namespace Go.Proofs.YtanjfjiaheghcaaGreatDoor
open Go Go.GL

/-! the document's journal -/
theorem ret4 {G : Ctx} {env : Env} {L : List Assn} {p : Value → List Assn → Prop} {t u s r : Nat} {v x y z : Value} (h1 : Env.get env t = some (.val v)) (h2 : Env.get env u = some (.val x)) (h3 : Env.get env s = some (.val y)) (h4 : Env.get env r = some (.val z)) (h : p (.tuple #[v, x, y, z]) L) : retK G [.tmp t, .tmp u, .tmp s, .tmp r] p .ret env L :=
  ⟨[v, x, y, z], ⟨v, [x, y, z], rfl, h1, x, [y, z], rfl, h2, y, [z], rfl, h3, z, [], rfl, h4, rfl⟩, h⟩
theorem qheadBytes_ro (h : Hd) : RO G 169 [.int .i64 h.turn, .int .i64 h.first, .int .i64 h.gen, .int .i64 h.low] (fun _ => True) (.string (ba (headS h))) := by
  refine RO.enter Tryz.func169 rfl (by decide) rfl Tryz.ntmps169 rfl (fun A hu hA => ?_) (fun _ _ _ h => h)
  have hb := headB_len h
  have h1 := numB_nine h.turn
  have h2 := numB_nine h.first
  have h3 := numB_nine h.gen
  have h4 := numB_nine h.low
  have z1 := ba_size (numB (clampN h.turn))
  have z2 := ba_size (numB (clampN h.first))
  have z3 := ba_size (numB (clampN h.gen))
  have z4 := ba_size (numB (clampN h.low))
  repeat (first | refine GO ?_ | refine NW fun _ => ?_)
  refine WL.step rfl (OP.callRO rfl rfl (qnumber_ro h.turn) (fun _ _ => trivial) rfl rfl ?_)
  repeat (first | refine GO ?_ | refine NW fun _ => ?_)
  refine WL.step rfl (OP.callRO rfl rfl (qnumber_ro h.first) (fun _ _ => trivial) rfl rfl ?_)
  repeat (first | refine GO ?_ | refine NW fun _ => ?_)
  refine WL.step rfl (OP.callRO rfl rfl (qnumber_ro h.gen) (fun _ _ => trivial) rfl rfl ?_)
  repeat (first | refine GO ?_ | refine NW fun _ => ?_)
  refine WL.step rfl (OP.callRO rfl rfl (qnumber_ro h.low) (fun _ _ => trivial) rfl rfl ?_)
  repeat (first | refine GO ?_ | refine NW fun _ => ?_)
  rw [ba_app, ba_app, ba_app]
  have hsec := qsector_ro (headB h) hb
  rw [show headB h = numB (clampN h.turn) ++ numB (clampN h.first) ++ numB (clampN h.gen) ++ numB (clampN h.low) from rfl] at hsec
  refine WL.step rfl (OP.callRO rfl rfl hsec (fun _ _ => trivial) rfl rfl ?_)
  repeat (first | refine GO ?_ | refine NW fun _ => ?_)
  exact ret1 rfl ⟨rfl, MM⟩
def QHeadV (l : List UInt8) (slot : Int) : Value := match headOf l slot with
  | some h => .tuple #[.int .i64 h.turn, .int .i64 h.first, .int .i64 h.gen, .int .i64 h.low]
  | none => .tuple #[.int .i64 (-1), .int .i64 0, .int .i64 0, .int .i64 0]
set_option maxHeartbeats 4000000 in
set_option maxRecDepth 10000 in
theorem qhead_ro (l : List UInt8) (slot : Int) (hs : l.length < 100000) : RO G 155 [.string (ba l), .int .i64 slot] (fun _ => True) (QHeadV l slot) := by
  refine RO.enter Tryz.func155 rfl (by decide) rfl Tryz.ntmps155 rfl (fun A hu hA => ?_) (fun _ _ _ h => h)
  unfold QHeadV
  repeat (first | refine GD ?_ | refine NW fun _ => ?_)
  refine WL.step rfl (OP.callRO rfl rfl (qopen_ro l hs) (fun _ _ => trivial) rfl rfl ?_)
  unfold OpenQ
  by_cases ho : OpenOk l
  rotate_left
  · rw [if_neg ho]
    have hdec : headOf l slot = none := by unfold headOf; rw [if_neg (fun h => ho h.1)]
    rw [hdec]
    repeat (first | refine GD ?_ | refine NW fun _ => ?_)
    exact ret4 rfl rfl rfl rfl ⟨rfl, MM⟩
  rw [if_pos ho]
  have hdR : headOf l slot = if HdOk l slot (hd4 (l.take (l.length - 4), 0)).1 (hd4 (l.take (l.length - 4), 0)).2.2 then some (hd4 (l.take (l.length - 4), 0)).1 else none := by
    unfold headOf
    by_cases hk : HdOk l slot (hd4 (l.take (l.length - 4), 0)).1 (hd4 (l.take (l.length - 4), 0)).2.2
    · rw [if_pos ⟨ho, hk⟩, if_pos hk]
    · rw [if_neg (fun h => hk h.2), if_neg hk]
  have hl4 : (l.take (l.length - 4)).length < 1000000 := by rw [List.length_take]; omega
  generalize l.take (l.length - 4) = l4 at *
  repeat (first | refine GD ?_ | refine NW fun _ => ?_)
  rename_i r
  refine WL.imp (M := [qrd r (l4, 0), A]) (Imp.refl _) ?_
  unfold hd4 at hdR
  repeat (first | refine GD ?_ | refine NW fun _ => ?_)
  refine WL.step rfl (OP.call (pre := [qrd r (l4, 0)]) rfl rfl (qnum_ok r (l4, 0) (by first | exact hl4 | assumption)) PS rfl rfl ?_)
  rintro _ _ ⟨rfl, rfl⟩
  have by1 := numR_bd (l4, 0)
  have hly1 : (numR (l4, 0)).2.1.length < 1000000 := by
    refine Nat.lt_of_le_of_lt by1.1 ?_
    first | exact hl4 | assumption
  generalize numR (l4, 0) = y1 at *
  obtain ⟨xy1, sy1⟩ := y1
  dsimp only at by1 hly1 hdR ⊢
  repeat (first | refine GD ?_ | refine NW fun _ => ?_)
  refine WL.step rfl (OP.call (pre := [qrd r sy1]) rfl rfl (qnum_ok r sy1 (by first | exact hl4 | assumption)) PS rfl rfl ?_)
  rintro _ _ ⟨rfl, rfl⟩
  have by2 := numR_bd sy1
  have hly2 : (numR sy1).2.1.length < 1000000 := by
    refine Nat.lt_of_le_of_lt by2.1 ?_
    first | exact hl4 | assumption
  generalize numR sy1 = y2 at *
  obtain ⟨xy2, sy2⟩ := y2
  dsimp only at by2 hly2 hdR ⊢
  repeat (first | refine GD ?_ | refine NW fun _ => ?_)
  refine WL.step rfl (OP.call (pre := [qrd r sy2]) rfl rfl (qnum_ok r sy2 (by first | exact hl4 | assumption)) PS rfl rfl ?_)
  rintro _ _ ⟨rfl, rfl⟩
  have by3 := numR_bd sy2
  have hly3 : (numR sy2).2.1.length < 1000000 := by
    refine Nat.lt_of_le_of_lt by3.1 ?_
    first | exact hl4 | assumption
  generalize numR sy2 = y3 at *
  obtain ⟨xy3, sy3⟩ := y3
  dsimp only at by3 hly3 hdR ⊢
  repeat (first | refine GD ?_ | refine NW fun _ => ?_)
  refine WL.step rfl (OP.call (pre := [qrd r sy3]) rfl rfl (qnum_ok r sy3 (by first | exact hl4 | assumption)) PS rfl rfl ?_)
  rintro _ _ ⟨rfl, rfl⟩
  have by4 := numR_bd sy3
  have hly4 : (numR sy3).2.1.length < 1000000 := by
    refine Nat.lt_of_le_of_lt by4.1 ?_
    first | exact hl4 | assumption
  generalize numR sy3 = y4 at *
  obtain ⟨xy4, sy4⟩ := y4
  dsimp only at by4 hly4 hdR ⊢
  obtain ⟨ly4, ey4⟩ := sy4
  have hq4 : qrd r (ly4, ey4) = blk r [.string (ba ly4), .int .i64 ey4] 166 := rfl
  rw [hq4]
  dsimp only at hdR
  by_cases he : ey4 = 0
  rotate_left
  · have hdec : headOf l slot = none := by rw [hdR, if_neg (fun h => he h.1)]
    rw [hdec]
    repeat (first | refine GD ?_ | refine NW fun _ => ?_)
    exact ret4 rfl rfl rfl rfl ⟨rfl, MM⟩
  by_cases h1 : xy4 ≤ xy3
  rotate_left
  · have hdec : headOf l slot = none := by rw [hdR, if_neg (fun h => h1 h.2.1)]
    rw [hdec]
    repeat (first | refine GD ?_ | refine NW fun _ => ?_)
    exact ret4 rfl rfl rfl rfl ⟨rfl, MM⟩
  by_cases h2 : 0 < xy2
  rotate_left
  · have hdec : headOf l slot = none := by rw [hdR, if_neg (fun h => h2 h.2.2.1)]
    rw [hdec]
    repeat (first | refine GD ?_ | refine NW fun _ => ?_)
    exact ret4 rfl rfl rfl rfl ⟨rfl, MM⟩
  by_cases h3 : xy1 % 2 = slot
  rotate_left
  · have hdec : headOf l slot = none := by rw [hdR, if_neg (fun h => h3 h.2.2.2.1)]
    rw [hdec]
    repeat (first | refine GD ?_ | refine NW fun _ => ?_)
    exact ret4 rfl rfl rfl rfl ⟨rfl, MM⟩
  repeat (first | refine GD ?_ | refine NW fun _ => ?_)
  refine WL.guardT rfl rfl rfl rfl (OP.callRO rfl rfl (qheadBytes_ro ⟨xy1, xy2, xy3, xy4⟩) (fun _ _ => trivial) rfl rfl ?_)
  by_cases h4 : headS ⟨xy1, xy2, xy3, xy4⟩ = l
  · have hdec : headOf l slot = some ⟨xy1, xy2, xy3, xy4⟩ := by rw [hdR, if_pos ⟨he, h1, h2, h3, h4⟩]
    rw [hdec, h4]
    repeat (first | refine GD ?_ | refine NW fun _ => ?_)
    rw [decide_eq_true (rfl : ba l = ba l)]
    repeat (first | refine GD ?_ | refine NW fun _ => ?_)
    exact ret4 rfl rfl rfl rfl ⟨rfl, MM⟩
  · have hdec : headOf l slot = none := by rw [hdR, if_neg (fun h => h4 h.2.2.2.2)]
    have h4' : ¬ ba (headS ⟨xy1, xy2, xy3, xy4⟩) = ba l := fun h => h4 (ba_inj h)
    rw [hdec]
    generalize ba (headS ⟨xy1, xy2, xy3, xy4⟩) = hB at *
    repeat (first | refine GD ?_ | refine NW fun _ => ?_)
    exact ret4 rfl rfl rfl rfl ⟨rfl, MM⟩
end Go.Proofs.YtanjfjiaheghcaaGreatDoor
/- Contracts of functions of the given program, and plain laws on what they compute: parts of the proofs of laws. -/

namespace Go.Proofs.YtanjfjiaheghcaaGreatDoor
open Go Go.GL

/-! the document's volume: its places -/
theorem rplace_ro (x : Plc) (block : Int) (hx : x.2.size ≤ 16) : RO G 120 [.int .i64 x.1, .int .i64 block, .string x.2] (fun _ => True) (.string (ba (plcS x block))) := by
  refine RO.enter Tryz.func120 rfl (by decide) rfl Tryz.ntmps120 rfl (fun A hu hA => ?_) (fun _ _ _ h => h)
  have hb := plcB_len (block := block) hx
  have h1 := numB_nine x.1
  have h2 := numB_nine block
  have z1 := ba_size (numB (clampN x.1))
  have z2 := ba_size (numB (clampN block))
  have z3 := ba_size (textB x.2)
  have h3 : (textB x.2).length < 100 := by
    have : (plcB x block).length = (numB (clampN x.1)).length + (numB (clampN block)).length + (textB x.2).length := by unfold plcB; simp only [List.length_append]
    omega
  repeat (first | refine GO ?_ | refine NW fun _ => ?_)
  refine WL.step rfl (OP.callRO rfl rfl (qnumber_ro x.1) (fun _ _ => trivial) rfl rfl ?_)
  repeat (first | refine GO ?_ | refine NW fun _ => ?_)
  refine WL.step rfl (OP.callRO rfl rfl (qnumber_ro block) (fun _ _ => trivial) rfl rfl ?_)
  repeat (first | refine GO ?_ | refine NW fun _ => ?_)
  refine WL.step rfl (OP.callRO rfl rfl (qtext_ro x.2 (by omega)) (fun _ _ => trivial) rfl rfl ?_)
  repeat (first | refine GO ?_ | refine NW fun _ => ?_)
  rw [ba_app, ba_app]
  have hsec := qsector_ro (plcB x block) hb
  rw [show plcB x block = numB (clampN x.1) ++ numB (clampN block) ++ textB x.2 from rfl] at hsec
  refine WL.step rfl (OP.callRO rfl rfl hsec (fun _ _ => trivial) rfl rfl ?_)
  repeat (first | refine GO ?_ | refine NW fun _ => ?_)
  exact ret1 rfl ⟨rfl, MM⟩
def QToldV (l : List UInt8) (block : Int) : Value := match plcOf l block with
  | some x => .tuple #[.int .i64 x.1, .string x.2, .bool true]
  | none => .tuple #[.int .i64 0, .string ⟨#[]⟩, .bool false]
set_option maxHeartbeats 4000000 in
set_option maxRecDepth 10000 in
theorem rtold_ro (l : List UInt8) (block : Int) (hs : l.length < 100000) : RO G 132 [.string (ba l), .int .i64 block] (fun _ => True) (QToldV l block) := by
  refine RO.enter Tryz.func132 rfl (by decide) rfl Tryz.ntmps132 rfl (fun A hu hA => ?_) (fun _ _ _ h => h)
  unfold QToldV
  repeat (first | refine GD ?_ | refine NW fun _ => ?_)
  refine WL.step rfl (OP.makeS (z := [.int .u8 0]) rfl rfl rfl rfl rfl rfl rfl rfl (by decide) (by decide) (by decide) rfl rfl (fun bz => ?_))
  refine WL.step rfl (OP.toStr (sv := ba zero64) rfl rfl rfl rfl rfl rfl rfl rfl (by rw [ba_zero]; exact Ent.own (T := 5) MM) rfl rfl ?_)
  by_cases h0 : l = zero64
  · have hdec : plcOf l block = some plc0 := by unfold plcOf; rw [if_pos h0]
    rw [hdec, h0]
    repeat (first | refine GD ?_ | refine NW fun _ => ?_)
    rw [decide_eq_true (rfl : ba zero64 = ba zero64)]
    repeat (first | refine GD ?_ | refine NW fun _ => ?_)
    exact ret3 rfl rfl rfl ⟨rfl, MM⟩
  have h0' : ¬ ba l = ba zero64 := fun h => h0 (ba_inj h)
  have hdef : plcOf l block = if OpenOk l ∧ PlcOk l block (pl3 (l.take (l.length - 4), 0)).1 (pl3 (l.take (l.length - 4), 0)).2.2 then some (pl3 (l.take (l.length - 4), 0)).1 else none := by unfold plcOf; rw [if_neg h0]
  generalize ba zero64 = z64 at *
  repeat (first | refine GD ?_ | refine NW fun _ => ?_)
  refine WL.step rfl (OP.callRO rfl rfl (qopen_ro l hs) (fun _ _ => trivial) rfl rfl ?_)
  unfold OpenQ
  by_cases ho : OpenOk l
  rotate_left
  · rw [if_neg ho]
    have hdec : plcOf l block = none := by rw [hdef, if_neg (fun h => ho h.1)]
    rw [hdec]
    repeat (first | refine GD ?_ | refine NW fun _ => ?_)
    exact ret3 rfl rfl rfl ⟨rfl, MM⟩
  rw [if_pos ho]
  have hdR : plcOf l block = if PlcOk l block (pl3 (l.take (l.length - 4), 0)).1 (pl3 (l.take (l.length - 4), 0)).2.2 then some (pl3 (l.take (l.length - 4), 0)).1 else none := by
    rw [hdef]
    by_cases hk : PlcOk l block (pl3 (l.take (l.length - 4), 0)).1 (pl3 (l.take (l.length - 4), 0)).2.2
    · rw [if_pos ⟨ho, hk⟩, if_pos hk]
    · rw [if_neg (fun h => hk h.2), if_neg hk]
  clear hdef
  have hl4 : (l.take (l.length - 4)).length < 1000000 := by rw [List.length_take]; omega
  generalize l.take (l.length - 4) = l4 at *
  repeat (first | refine GD ?_ | refine NW fun _ => ?_)
  rename_i r
  refine WL.imp (M := [qrd r (l4, 0), A]) II ?_
  unfold pl3 at hdR
  repeat (first | refine GD ?_ | refine NW fun _ => ?_)
  refine WL.step rfl (OP.call (pre := [qrd r (l4, 0)]) rfl rfl (qnum_ok r (l4, 0) (by first | exact hl4 | assumption)) PS rfl rfl ?_)
  rintro _ _ ⟨rfl, rfl⟩
  have by1 := numR_bd (l4, 0)
  have hly1 : (numR (l4, 0)).2.1.length < 1000000 := by
    refine Nat.lt_of_le_of_lt by1.1 ?_
    first | exact hl4 | assumption
  generalize numR (l4, 0) = y1 at *
  obtain ⟨xy1, sy1⟩ := y1
  dsimp only at by1 hly1 hdR ⊢
  repeat (first | refine GD ?_ | refine NW fun _ => ?_)
  refine WL.step rfl (OP.call (pre := [qrd r sy1]) rfl rfl (qnum_ok r sy1 (by first | exact hl4 | assumption)) PS rfl rfl ?_)
  rintro _ _ ⟨rfl, rfl⟩
  have by2 := numR_bd sy1
  have hly2 : (numR sy1).2.1.length < 1000000 := by
    refine Nat.lt_of_le_of_lt by2.1 ?_
    first | exact hl4 | assumption
  generalize numR sy1 = y2 at *
  obtain ⟨xy2, sy2⟩ := y2
  dsimp only at by2 hly2 hdR ⊢
  repeat (first | refine GD ?_ | refine NW fun _ => ?_)
  refine WL.step rfl (OP.call (pre := [qrd r sy2]) rfl rfl (qtextR_ok r sy2 hly2 16) PS rfl rfl ?_)
  rintro _ _ ⟨rfl, rfl⟩
  have hts := textR_size 16 sy2 (by decide)
  generalize textR 16 sy2 = y3 at *
  obtain ⟨d3, l3, e3⟩ := y3
  dsimp only at hts hdR ⊢
  have hq4 : qrd r (l3, e3) = blk r [.string (ba l3), .int .i64 e3] 166 := rfl
  rw [hq4]
  by_cases he : e3 = 0
  rotate_left
  · have hdec : plcOf l block = none := by rw [hdR, if_neg (fun h => he h.1)]
    rw [hdec]
    repeat (first | refine GD ?_ | refine NW fun _ => ?_)
    exact ret3 rfl rfl rfl ⟨rfl, MM⟩
  by_cases h1 : xy1 < 1
  · have hdec : plcOf l block = none := by rw [hdR, if_neg (fun h => by have := h.2.1; dsimp only at this; omega)]
    rw [hdec]
    repeat (first | refine GD ?_ | refine NW fun _ => ?_)
    exact ret3 rfl rfl rfl ⟨rfl, MM⟩
  repeat (first | refine GD ?_ | refine NW fun _ => ?_)
  refine WL.guardT rfl rfl rfl rfl (OP.callRO rfl rfl (rplace_ro (xy1, d3) block (by dsimp only; omega)) (fun _ _ => trivial) rfl rfl ?_)
  by_cases h4 : plcS (xy1, d3) block = l
  · have hdec : plcOf l block = some (xy1, d3) := by rw [hdR, if_pos ⟨he, by dsimp only; omega, h4⟩]
    rw [hdec, h4]
    repeat (first | refine GD ?_ | refine NW fun _ => ?_)
    rw [decide_eq_true (rfl : ba l = ba l)]
    repeat (first | refine GD ?_ | refine NW fun _ => ?_)
    exact ret3 rfl rfl rfl ⟨rfl, MM⟩
  · have hdec : plcOf l block = none := by rw [hdR, if_neg (fun h => h4 h.2.2)]
    have h4' : ¬ ba (plcS (xy1, d3) block) = ba l := fun h => h4 (ba_inj h)
    rw [hdec]
    generalize ba (plcS (xy1, d3) block) = hB at *
    repeat (first | refine GD ?_ | refine NW fun _ => ?_)
    exact ret3 rfl rfl rfl ⟨rfl, MM⟩
end Go.Proofs.YtanjfjiaheghcaaGreatDoor
/- Contracts of functions of the given program, and plain laws on what they compute: parts of the proofs of laws. -/

namespace Go.Proofs.YtanjfjiaheghcaaGreatDoor
open Go Go.GL

/-! the document's journal: its parts -/
def genC (x : Held) : Value := .int .i64 x.1
def rjrnL (j p : Nat) (J : Jrn) (x : Option Addr × Nat × Option Addr × Nat) : List Assn :=
  [blk j [.pointer (some ⟨p, 0, none⟩), .int .i64 J.ring, .int .i64 J.hd.turn, .int .i64 J.hd.first, .int .i64 J.hd.gen, .int .i64 J.hd.low, .slice x.1 J.held.length x.2.1, .slice x.2.2.1 J.held.length x.2.2.2] 143,
   ownS x.1 J.held.length x.2.1 140 5 (J.held.flatMap (fun x => encR x.2)), ownS x.2.2.1 J.held.length x.2.2.2 3 1 (J.held.map genC)]
def rjrn (j p : Nat) (J : Jrn) : Assn := exA (rjrnL j p J)
theorem up_rjrn (j p : Nat) (J : Jrn) : Up (rjrn j p J) := up_exA _
theorem rjrnFold (j p : Nat) (J : Jrn) (x : Option Addr × Nat × Option Addr × Nat) {N : List Assn} : Imp
    (blk j [.pointer (some ⟨p, 0, none⟩), .int .i64 J.ring, .int .i64 J.hd.turn, .int .i64 J.hd.first, .int .i64 J.hd.gen, .int .i64 J.hd.low, .slice x.1 J.held.length x.2.1, .slice x.2.2.1 J.held.length x.2.2.2] 143 ::
      ownS x.1 J.held.length x.2.1 140 5 (J.held.flatMap (fun x => encR x.2)) :: ownS x.2.2.1 J.held.length x.2.2.2 3 1 (J.held.map genC) :: N) (rjrn j p J :: N) := Imp.fold (Ls := rjrnL j p J) x
set_option maxRecDepth 10000 in
theorem rnext_ro (j p : Nat) (J : Jrn) (hJ : J.rng) : RO G 37 [.pointer (some ⟨j, 0, none⟩)] (rjrn j p J) (.int .i64 J.next) := by
  refine RO.enterEx Tryz.func37 rfl (by decide) rfl Tryz.ntmps37 rfl (fun x A hu hA => ?_)
  have hB : ∀ {L}, A ∈ L → Ent L (cellsAt j 0 [.pointer (some ⟨p, 0, none⟩), .int .i64 J.ring, .int .i64 J.hd.turn, .int .i64 J.hd.first, .int .i64 J.hd.gen, .int .i64 J.hd.low, .slice x.1 J.held.length x.2.1, .slice x.2.2.1 J.held.length x.2.2.2]) := fun m => Ent.of hu hA m (Ent.whole (List.Mem.head _))
  obtain ⟨⟨r1, r2⟩, hlen, ⟨t1, t2⟩, ⟨f1, f2⟩, ⟨g1, g2⟩⟩ := hJ
  repeat (first | refine GD ?_ | refine NW fun _ => ?_)
  refine RD 11 11 (_) ?_
  refine WP 0 ?_
  refine WP 1 ?_
  refine WP 2 ?_
  refine VL 3 (.int .i64 J.hd.first) rfl rfl rfl rfl (.inl ⟨rfl, Ent.one (i := 3) (hB MM) rfl⟩) ?_
  refine WP 4 ?_
  refine WP 5 ?_
  refine WP 6 ?_
  refine VL 7 (.slice x.1 J.held.length x.2.1) rfl rfl rfl rfl (.inl ⟨rfl, Ent.one (i := 6) (hB MM) rfl⟩) ?_
  refine WP 8 ?_
  refine WP 9 ?_
  refine WP 10 ?_
  refine DN ?_
  repeat (first | refine GD ?_ | refine NW fun _ => ?_)
  exact ret1 rfl ⟨rfl, MM⟩
set_option maxHeartbeats 1000000 in
set_option maxRecDepth 10000 in
theorem rsave_ok (j p : Nat) (J : Jrn) (D : Dsk) (hJ : 0 ≤ J.hd.turn ∧ J.hd.turn ≤ 4611686018427387904) (hD : D.ok) (hl : 2 ≤ D.S.length) (hw : D.W.length < 10000) :
    Triple G 147 [.pointer (some ⟨j, 0, none⟩)] [rjrn j p J, rdsk p D] (fun v M => v = .tuple #[] ∧ M = [rjrn j p { J with hd := J.hd.up }, rdsk p (saveM D J.hd.up)]) := by
  refine Triple.enter Tryz.func147 rfl (by decide) rfl Tryz.ntmps147 rfl (fun F => ?_)
  refine WC.open P1 (fun x => ?_)
  unfold rjrnL
  dsimp only [List.cons_append, List.nil_append]
  have hu : J.hd.up = ⟨J.hd.turn + 1, J.hd.first, J.hd.gen, J.hd.low⟩ := rfl
  have hb := headS_len J.hd.up
  have hi : (0 ≤ (J.hd.turn + 1) % 2 ∧ (J.hd.turn + 1) % 2 < D.S.length) ∧ (headS J.hd.up).length = 64 := ⟨by omega, hb⟩
  have hws := rdwrite_ok p D ((J.hd.turn + 1) % 2) (headS J.hd.up) (by omega)
  repeat (first | refine GO ?_ | refine NW fun _ => ?_)
  refine RD 26 27 (_) ?_
  refine WP 0 ?_
  refine WP 1 ?_
  refine WP 2 ?_
  refine VV 3 ?_
  refine WP 4 ?_
  refine WP 5 ?_
  refine WP 6 ?_
  refine VV 7 ?_
  refine WP 8 ?_
  refine WP 9 ?_
  refine WP 10 ?_
  refine WP 11 ?_
  refine VV 12 ?_
  refine WP 13 ?_
  refine WP 14 ?_
  refine WP 15 ?_
  refine VV 16 ?_
  refine WP 17 ?_
  refine WP 18 ?_
  refine WP 19 ?_
  refine VV 20 ?_
  refine WP 21 ?_
  refine WP 22 ?_
  refine WP 23 ?_
  refine VV 24 ?_
  refine WH.only 25 rfl rfl (by kernel_rfl) rfl (OP.callRO rfl rfl (qheadBytes_ro J.hd.up) (fun _ _ => trivial) rfl rfl ⟨fun _ => II, ?_⟩)
  refine WH.only 26 rfl rfl (by kernel_rfl) rfl (OP.call (pre := [rdsk p D]) rfl rfl hws PS rfl rfl (fun v M hM => ?_))
  unfold RWrPost at hM
  rw [if_pos hi] at hM
  obtain ⟨rfl, rfl⟩ := hM
  refine ⟨(fun h => nomatch h), ?_⟩
  refine DN ?_
  repeat (first | refine GO ?_ | refine NW fun _ => ?_)
  refine WL.step rfl (OP.call (pre := [rdsk p (D.put ((J.hd.turn + 1) % 2).toNat (headS J.hd.up))]) rfl rfl (rdflush_ok p _ (Dsk.put_ok hD (by omega) hb) (by simp [Dsk.put]; omega)) PS rfl rfl ?_)
  rintro _ _ ⟨rfl, rfl⟩
  repeat (first | refine GO ?_ | refine NW fun _ => ?_)
  exact ret0n ⟨_, ⟨rfl, rfl⟩, Imp.trans II (rjrnFold j p { J with hd := J.hd.up } x)⟩
end Go.Proofs.YtanjfjiaheghcaaGreatDoor
/- Contracts of functions of the given program, and plain laws on what they compute: parts of the proofs of laws. -/

namespace Go.Proofs.YtanjfjiaheghcaaGreatDoor
open Go Go.GL

def RAppJ (j p : Nat) (J : Jrn) (D : Dsk) (r : Rec) (v : Value) (M : List Assn) : Prop := match appendM J D r with
  | .ok (J', D') => v = .tuple #[.int .i64 J.next, .int .i64 0] ∧ M = [rjrn j p J', rdsk p D']
  | .error c => v = .tuple #[.int .i64 0, .int .i64 c] ∧ M = [rjrn j p J, rdsk p D]
set_option maxHeartbeats 8000000 in
set_option maxRecDepth 10000 in
theorem rappend_ok (j p : Nat) (J : Jrn) (D : Dsk) (r : Rec) (hJ : J.rng) (hl : 2 + J.ring ≤ D.S.length) (hw : D.W.length < 10000) (hsz : r.2.2.2.1.size < 1000000) :
    Triple G 110 [.pointer (some ⟨j, 0, none⟩), .agg (encR r).toArray] [rjrn j p J, rdsk p D] (RAppJ j p J D r) := by
  refine Triple.enter Tryz.func110 rfl (by decide) rfl Tryz.ntmps110 rfl (fun F => ?_)
  have hnext := rnext_ro j p J hJ
  have hdef : appendM J D r = if J.held.length = J.ring then .error 6
    else if RightR (setSeq r J.next) ∧ (0 ≤ J.hd.gen ∧ J.hd.gen ≤ widest) then
    .ok ({ J with held := J.held ++ [(J.hd.gen, setSeq r J.next)] }, D.put (posM J.ring J.next) (sectorM (bodyM J.hd.gen (setSeq r J.next))))
    else .error 1 := rfl
  have hnx : J.next = J.hd.first + J.held.length := rfl
  obtain ⟨⟨r1, r2⟩, hlen, ⟨t1, t2⟩, ⟨f1, f2⟩, ⟨g1, g2⟩⟩ := hJ
  have hn0 : 0 ≤ J.next ∧ J.next ≤ 9000000000000000000 := by omega
  have hpb := pos_bd r1 J.next
  have hm := Int.emod_nonneg J.next (b := (J.ring : Int)) (by omega)
  have hm2 := Int.emod_lt_of_pos J.next (b := (J.ring : Int)) (by omega)
  have hpe : 2 + J.next % J.ring = ((posM J.ring J.next : Nat) : Int) := by unfold posM; omega
  obtain ⟨seq, kind, block, data, num⟩ := r
  have hss : setSeq (seq, kind, block, data, num) J.next = (J.next, kind, block, data, num) := rfl
  rw [hss] at hdef
  dsimp only at hsz
  have henc := qencode_ro J.hd.gen (J.next, kind, block, data, num) hsz
  unfold EncQ at henc
  rw [show encR (seq, kind, block, data, num) = [.int .i64 seq, .int .i64 kind, .int .i64 block, .string data, .int .i64 num] from rfl]
  rw [show encR (J.next, kind, block, data, num) = [.int .i64 J.next, .int .i64 kind, .int .i64 block, .string data, .int .i64 num] from rfl] at henc
  have hwr := rdwrite_ok p D (posM J.ring J.next) (sectorM (bodyM J.hd.gen (J.next, kind, block, data, num))) (by omega)
  have hEJ : ∀ {L : List Assn} {x}, Imp L (rjrnL j p J x) → Ent L (rjrn j p J) := fun i => Ent.exI _ i
  refine WC.open P1 (fun x => ?_)
  unfold rjrnL
  dsimp only [List.cons_append, List.nil_append]
  repeat (first | refine GD ?_ | refine NW fun _ => ?_)
  by_cases hfull : J.held.length = J.ring
  · rw [if_pos hfull] at hdef
    refine RD 10 10 (_) ?_
    refine WP 0 ?_
    refine WP 1 ?_
    refine WP 2 ?_
    refine VV 3 ?_
    refine WP 4 ?_
    refine WP 5 ?_
    refine WP 6 ?_
    refine WP 7 ?_
    refine VV 8 ?_
    refine WP 9 ?_
    rw [decide_eq_true (show (J.held.length : Int) = J.ring by omega)]
    refine DN ?_
    repeat (first | refine GD ?_ | refine NW fun _ => ?_)
    refine ret2 rfl rfl ⟨[rjrn j p J, rdsk p D], ?_, Imp.trans II (rjrnFold j p J x)⟩
    unfold RAppJ
    rw [hdef]
    exact ⟨rfl, rfl⟩
  rw [if_neg hfull] at hdef
  refine RD 10 10 (_) ?_
  refine WP 0 ?_
  refine WP 1 ?_
  refine WP 2 ?_
  refine VV 3 ?_
  refine WP 4 ?_
  refine WP 5 ?_
  refine WP 6 ?_
  refine WP 7 ?_
  refine VV 8 ?_
  refine WP 9 ?_
  rw [decide_eq_false (show ¬ (J.held.length : Int) = J.ring by omega)]
  refine DN ?_
  repeat (first | refine GD ?_ | refine NW fun _ => ?_)
  refine WL.step rfl (OP.callRO rfl rfl hnext (hEJ (x := x) (by unfold rjrnL; exact II)) rfl rfl ?_)
  repeat (first | refine GD ?_ | refine NW fun _ => ?_)
  by_cases hR : RightR (J.next, kind, block, data, num) ∧ (0 ≤ J.hd.gen ∧ J.hd.gen ≤ widest)
  rotate_left
  · rw [if_neg hR] at hdef henc
    refine RD 11 11 (_) ?_
    refine WP 0 ?_
    refine WP 1 ?_
    refine WP 2 ?_
    refine VV 3 ?_
    refine VV 4 ?_
    refine WH.only 5 rfl rfl (by kernel_rfl) rfl (OP.callRO rfl rfl (henc) (fun _ _ => trivial) rfl rfl ⟨fun _ => II, ?_⟩)
    refine WP 6 ?_
    refine WP 7 ?_
    refine WP 8 ?_
    refine WP 9 ?_
    refine WP 10 ?_
    refine DN ?_
    repeat (first | refine GD ?_ | refine NW fun _ => ?_)
    refine ret2 rfl rfl ⟨[rjrn j p J, rdsk p D], ?_, Imp.trans II (rjrnFold j p J x)⟩
    unfold RAppJ
    rw [hdef]
    exact ⟨rfl, rfl⟩
  rw [if_pos hR] at hdef henc
  have hsl := sectorM_len (bodyM_len (gen := J.hd.gen) hR.1)
  generalize hS : sectorM (bodyM J.hd.gen (J.next, kind, block, data, num)) = S at *
  refine RD 11 11 (_) ?_
  refine WP 0 ?_
  refine WP 1 ?_
  refine WP 2 ?_
  refine VV 3 ?_
  refine VV 4 ?_
  refine WH.only 5 rfl rfl (by kernel_rfl) rfl (OP.callRO rfl rfl (henc) (fun _ _ => trivial) rfl rfl ⟨fun _ => II, ?_⟩)
  refine WP 6 ?_
  refine WP 7 ?_
  refine WP 8 ?_
  refine WP 9 ?_
  refine WP 10 ?_
  refine DN ?_
  repeat (first | refine GD ?_ | refine NW fun _ => ?_)
  refine RD 13 14 (_) ?_
  refine WP 0 ?_
  refine WP 1 ?_
  refine WP 2 ?_
  refine VV 3 ?_
  refine WP 4 ?_
  refine VV 5 ?_
  refine WP 6 ?_
  refine WP 7 ?_
  refine WP 8 ?_
  refine VV 9 ?_
  refine WP 10 ?_
  refine WP 11 ?_
  rw [hpe]
  refine WP 12 ?_
  refine WH.only 13 rfl rfl (by kernel_rfl) rfl (OP.call (pre := [rdsk p D]) rfl rfl hwr PS rfl rfl (fun v M hM => ?_))
  unfold RWrPost at hM
  rw [if_pos ⟨by omega, hsl⟩, Int.toNat_natCast] at hM
  obtain ⟨rfl, rfl⟩ := hM
  refine ⟨(fun h => nomatch h), ?_⟩
  refine DN ?_
  repeat (first | refine GD ?_ | refine NW fun _ => ?_)
  refine RD 7 11 (_) ?_
  refine WP 0 ?_
  refine WP 1 ?_
  refine WP 2 ?_
  refine WP 3 ?_
  refine VV 4 ?_
  refine VV 5 ?_
  refine WH.only 6 rfl rfl (by kernel_rfl) rfl (OP.sliceLit (c := encR (J.next, kind, block, data, num)) rfl rfl rfl rfl rfl rfl rfl rfl (fun b2 => ⟨fun _ => II, ?_⟩))
  refine WH.only 7 rfl rfl (by kernel_rfl) rfl (OP.append rfl rfl rfl rfl rfl rfl rfl rfl rfl P1 (Ent.own MM) rfl (by omega) (by omega) rfl rfl (fun a' cap' => ⟨(fun h => nomatch h), ?_⟩))
  refine WP 8 ?_
  refine WP 9 ?_
  refine WH.only 10 rfl rfl (by kernel_rfl) rfl (OP.store rfl rfl rfl rfl rfl rfl rfl UP rfl ⟨(fun h => nomatch h), ?_⟩)
  refine DN ?_
  repeat (first | refine GD ?_ | refine NW fun _ => ?_)
  refine RD 10 14 (_) ?_
  refine WP 0 ?_
  refine WP 1 ?_
  refine WP 2 ?_
  refine WP 3 ?_
  refine VV 4 ?_
  refine WP 5 ?_
  refine WP 6 ?_
  refine WP 7 ?_
  refine VV 8 ?_
  refine WH.only 9 rfl rfl (by kernel_rfl) rfl (OP.sliceLit (c := [.int .i64 J.hd.gen]) rfl rfl rfl rfl rfl rfl rfl rfl (fun b3 => ⟨fun _ => II, ?_⟩))
  refine WH.only 10 rfl rfl (by kernel_rfl) rfl (OP.append rfl rfl rfl rfl rfl rfl rfl rfl rfl P1 (Ent.own MM) rfl (by omega) (by omega) rfl rfl (fun a3 cap3 => ⟨(fun h => nomatch h), ?_⟩))
  refine WP 11 ?_
  refine WP 12 ?_
  refine WH.only 13 rfl rfl (by kernel_rfl) rfl (OP.store rfl rfl rfl rfl rfl rfl rfl UP rfl ⟨(fun h => nomatch h), ?_⟩)
  refine DN ?_
  repeat (first | refine GD ?_ | refine NW fun _ => ?_)
  refine ret2 rfl rfl ⟨[rjrn j p { J with held := J.held ++ [(J.hd.gen, J.next, kind, block, data, num)] }, rdsk p (D.put (posM J.ring J.next) S)], ?_, ?_⟩
  · unfold RAppJ
    rw [hdef]
    exact ⟨rfl, rfl⟩
  · refine Imp.trans ?_ (rjrnFold j p { J with held := J.held ++ [(J.hd.gen, J.next, kind, block, data, num)] } (a', cap', a3, cap3))
    dsimp only
    rw [List.length_append, List.flatMap_append, List.flatMap_cons, List.flatMap_nil, List.append_nil, List.map_append]
    exact II
end Go.Proofs.YtanjfjiaheghcaaGreatDoor
